/- PART 4 of the texts of a claim, joined by a program: what each part shows stands at its head. -/
import Derived.Test.YtnalglhidkknbaaGreatPartc7f40d660b

namespace Go.Av
open Go.Proofs
namespace J
def ZfX:Nat->List Int->List Int
 | 0,a=>a
 | n+1,a=>if a.getD n default=0 then ZfX n (a.take n) else a
def Zbw (a:List Int):List Int:=ZfX a.length a
end J
theorem ZgT:∀ (n:Nat) (fa:Bool) (a:List Int),a.length=n->n<=1000000->ZdW fa a (Zag (usA false (J.ZfX n a)))
 | 0,fa,a,hl,hk=>rTrimA _ _ _ ⟨by omega,fun h=>by omega,fun h=>by omega,fun h=>by omega,fun _=>Zbv _ _ _⟩
 | n+1,fa,a,hl,hk=>by
  have e1:((a.length:Int)-1).toNat=n:=by omega
  refine rTrimA _ _ _ ⟨by omega,fun _=>by omega,fun _=>by omega,fun h => ?_,fun h => ?_⟩
  ·rw [e1] at h ⊢
   refine ⟨by omega,by omega,by omega,?_⟩
   rw [List.drop_zero]
   have:=ZgT n (fa&&false) (a.take n) (by simp;omega) (by omega)
   rw [J.ZfX,if_pos h.2];exact this
  ·rw [e1] at h
   rw [J.ZfX,if_neg (fun x=>h ⟨by omega,x⟩)]
   exact Zbv _ _ _
theorem Zfs:∀ (k v:Nat),J.fits k v->J.ZfX k (J.Zay k v)=J.lim v
 | 0,v,hf=>by
  have h0:=Zbl.1 hf
  subst h0
  rw [ZbR];rfl
 | k+1,v,hf=>by
  rw [J.ZfX]
  by_cases h:J.fits k v
  ·rw [if_pos ((Zgd hf).2 h),limN_take]
   exact Zfs k v h
  ·rw [if_neg (fun x=>h ((Zgd hf).1 x)),lim_of hf (.inr (by simpa using h))]
theorem rtrimN (fa:Bool) (k v:Nat) (h:J.ZaB k/\J.fits k v):Ev M1 (.pure 115 [usA fa (J.Zay k v)]) (usA false (J.lim v)) []:=by
 have:=ZgT k fa (J.Zay k v) (Zan k v) h.1
 rw [Zfs k v h.2] at this
 exact call115 (rTrim _ _ _ this)
theorem ev115 (fa:Bool) (k v:Nat) (h:J.ZaB k/\J.fits k v):Ev M1 (.pure 115 [usA fa (J.Zay k v)]) (usA false (J.lim v)) []:=rtrimN fa k v h
theorem Zd7 (fa:Bool) (a:List Int) (h:J.ZaB a.length):Ev M1 (.pure 115 [usA fa a]) (usA false (J.Zbw a)) []:=
 call115 (rTrim _ _ _ (ZgT a.length fa a rfl h))
theorem tdivB (x:Nat):(x:Int).tdiv 1000000000=((x / 1000000000:Nat):Int):=by
 rw [Int.tdiv_eq_ediv_of_nonneg (by omega)];omega
theorem tmodB (x:Nat):(x:Int).tmod 1000000000=((x % 1000000000:Nat):Int):=by
 rw [Int.tmod_eq_emod_of_nonneg (by omega)];omega
theorem le4 {x:Nat} (h:x<1000000000):0<=(x:Int)/\(x:Int)<=4294967295:=by omega
theorem le8 {x:Nat} (h:x<=18446744073709551615):0<=(x:Int)/\(x:Int)<=18446744073709551615:=by omega
theorem limN_step (n u:Nat):J.Zay n u++[((u / 1000000000 ^ n % 1000000000:Nat):Int)]=J.Zay (n+1) u:=(Zd5 n u).symm
theorem loopLimbs {u0:Nat}:∀ (m n v:Nat),m+n=100->u0 / 1000000000 ^ n<1000000000 ^ m->n<=100->(u0 / 1000000000 ^ n ≠ 0\/n=J.cnt u0)->u0<=18446744073709551615 ->
  Zdl (u0 / 1000000000 ^ n:Nat) (J.Zay n u0) v (Zag (usA false (J.lim u0)))
 | 0,n,v,hmn,hlt,hn,hne,hu=>by
  have h0:u0 / 1000000000 ^ n=0:=by simpa using hlt
  rcases hne with h | h
  ·exact absurd h0 h
  ·subst h
   exact rLimbsA _ _ _ _ ⟨fun h=>by omega,fun _ => .refl _⟩
 | m+1,n,v,hmn,hlt,hn,hne,hu=>by
  by_cases h0:u0 / 1000000000 ^ n=0
  ·rcases hne with h | h
   ·exact absurd h0 h
   ·subst h
    exact rLimbsA _ _ _ _ ⟨fun h=>by omega,fun _ => .refl _⟩
  ·have hb:u0 / 1000000000 ^ n<=18446744073709551615:=Nat.le_trans (Nat.div_le_self _ _) hu
   have c3:((u0 / 1000000000 ^ n:Nat):Int).tdiv 1000000000=((u0 / 1000000000 ^ (n+1):Nat):Int):=by
    rw [tdivB,Za9]
   have c4:((u0 / 1000000000 ^ n:Nat):Int).tmod 1000000000=((u0 / 1000000000 ^ n % 1000000000:Nat):Int):=tmodB _
   have hpos:((u0 / 1000000000 ^ n:Nat):Int)>0:=by exact_mod_cast Nat.pos_of_ne_zero h0
   have hb2:u0 / 1000000000 ^ (n+1)<=18446744073709551615:=Nat.le_trans (Nat.div_le_self _ _) hu
   have hm:u0 / 1000000000 ^ n % 1000000000<1000000000:=Nat.mod_lt _ (by omega)
   refine rLimbsA _ _ _ _ ⟨fun _ => ?_,fun h=>absurd hpos h⟩
   have hl:=Zan n u0
   rw [c3,c4,limN_step]
   have hd:=Za9 u0 n
   refine ⟨le4 hm,by omega,le8 hb2,loopLimbs m (n+1) (v+1) (by omega) ?_ (by omega) ?_ hu⟩
   ·rw [<- hd]
    rw [Nat.pow_succ] at hlt
    exact Nat.div_lt_of_lt_mul (by rwa [Nat.mul_comm])
   ·by_cases hz:u0 / 1000000000 ^ (n+1)=0
    ·right
     have f1:J.fits (n+1) u0:=Zcr.2 hz
     have f2:¬J.fits n u0:=fun f=>h0 (Zcr.1 f)
     have:=Zaz.1 f1
     have:¬J.cnt u0<=n:=fun x=>f2 (Zaz.2 x)
     omega
    ·exact .inl hz
theorem ev120 (u:Int) (h:0<=u/\u<=18446744073709551615):Ev M1 (.pure 120 [.int .u64 u]) (usA false (J.lim u.toNat)) []:=by
 obtain ⟨n,rfl⟩:=Int.eq_ofNat_of_zero_le h.1
 rw [Int.toNat_natCast]
 refine call120 (rLimbs _ _ (rLimbs0 _ _ ⟨fun h0 => ?_,fun h0 => ?_⟩))
 ·have hlt:n / 1000000000<1000000000 ^ 99:=by omega
  have hr:=loopLimbs (u0:=n) 99 1 0 (by omega) (by simpa using hlt) (by omega) (by
   by_cases hz:n / 1000000000=0
   ·right
    have f1:J.fits 1 n:=by unfold J.fits;omega
    have:=Zaz.1 f1
    have:J.cnt n ≠ 0:=fun e=>by have:=ZaE.1 e;omega
    omega
   ·left;simpa using hz) (by omega)
  have c3:(n:Int).tdiv 1000000000=((n / 1000000000:Nat):Int):=by
   rw [Int.tdiv_eq_ediv_of_nonneg (by omega)];omega
  have c4:(n:Int).tmod 1000000000=((n % 1000000000:Nat):Int):=by
   rw [Int.tmod_eq_emod_of_nonneg (by omega)];omega
  have e:J.Zay 1 n=[((n % 1000000000:Nat):Int)]:=rfl
  rw [e,Nat.pow_one] at hr
  rw [c3,c4]
  exact ⟨by omega,by omega,hr⟩
 ·have:n=0:=by omega
  subst this
  rw [ZbR];exact .vnil 1
theorem ev119 (fa:Bool) (v:Nat) (h:J.cnt v<=2):Ev M1 (.pure 119 [usA fa (J.lim v)]) (.int .u64 (v:Nat)) []:=by
 have f:=ZaP (Zai v) h
 have hv:v<1000000000000000000:=by unfold J.fits at f;simpa using f
 have loop:∀ k,k<=J.cnt v->Zdi fa (J.lim v) ((v / 1000000000 ^ k:Nat):Int) ((k:Int)-1) (Zag (.int .u64 (v:Nat))):=by
  intro k
  induction k with
  | zero=>intro _;exact rShortA _ _ _ _ _ ⟨fun h=>by omega,fun _=>by simp⟩
  | succ k ih =>
   intro hk
   have e1:(((k+1:Nat):Int)-1)=(k:Nat):=by omega
   have g:(J.lim v).getD k default=((v / 1000000000 ^ k % 1000000000:Nat):Int):=ZaA v (show k<J.cnt v by omega)
   have hs:=Za4 v k
   have hb:v / 1000000000 ^ k<=v:=Nat.div_le_self _ _
   refine rShortA _ _ _ _ _ ⟨fun _ => ?_,fun h=>by omega⟩
   rw [e1,Int.toNat_natCast,g,ZaN]
   have e2:((v / 1000000000 ^ (k+1):Nat):Int)*1000000000+((v / 1000000000 ^ k % 1000000000:Nat):Int)=((v / 1000000000 ^ k:Nat):Int):=by omega
   rw [e2]
   exact ⟨by omega,by omega,by omega,by omega,by omega,by omega,ih (by omega)⟩
 refine call119 (rShort _ _ _ ?_)
 rw [ZaN]
 have:=loop (J.cnt v) (Nat.le_refl _)
 rw [ZaL (Zai v) (Nat.le_refl _)] at this
 exact ⟨by omega,this⟩
theorem ZfM {fa fb:Bool} {n v w:Nat} {dq:AV} (hn:n<=1000000) (hq:AV.int .i64 (J.sgnI ((v:Int)-w))=dq):∀ (k:Nat),k<=n->v / 1000000000 ^ k=w / 1000000000 ^ k->Zcm fa fb (J.Zay n v) (J.Zay n w) ((k:Int)-1) (Zag dq)
 | 0,hk,he=>by
  have e:v=w:=by simpa using he
  refine rCompareA _ _ _ _ _ _ ⟨fun h=>by omega,fun _ => ?_⟩
  rw [<- hq,e]
  congr 1
  unfold J.sgnI
  rw [if_neg (by omega),if_neg (by omega)]
 | k+1,hk,he=>by
  have e1:(((k+1:Nat):Int)-1)=(k:Nat):=by omega
  rw [e1]
  refine rCompareA _ _ _ _ _ _ ⟨fun _ => ?_,fun h=>by omega⟩
  rw [Int.toNat_natCast,ZaA v (show k<n by omega),ZaA w (show k<n by omega),Zan,Zan]
  have s1:=Za4 v k
  have s2:=Za4 w k
  rw [<- he] at s2
  refine ⟨by omega,by omega,by omega,fun h => ?_,fun h=>⟨fun h2 => ?_,fun h2=>⟨by omega,?_⟩⟩⟩
  ·have:=Zgg (v:=v) (w:=w) (i:=k) (by omega)
   rw [<- hq];congr 1
   unfold J.sgnI
   rw [if_pos (by omega)]
  ·have:=Zgg (v:=w) (w:=v) (i:=k) (by omega)
   rw [<- hq];congr 1
   unfold J.sgnI
   rw [if_neg (by omega),if_pos (by omega)]
  ·exact ZfM hn hq k (by omega) (by omega)
theorem rcompareN (fa fb:Bool) (v w:Nat) (h:J.ZaB (J.cnt v)/\J.ZaB (J.cnt w)):Ev M1 (.pure 116 [usA fa (J.lim v),usA fb (J.lim w)]) (.int .i64 (J.sgnI ((v:Int)-w))) []:=by
 obtain ⟨h1,h2⟩:=h
 have h1':J.cnt v<=1000000:=h1
 have h2':J.cnt w<=1000000:=h2
 refine call116 (rCompare _ _ _ _ _ ?_)
 rw [ZaN,ZaN]
 refine ⟨fun h=>⟨fun k => ?_,fun k => ?_⟩,fun h=>⟨by omega,?_⟩⟩
 ·have:=cmp_len (v:=v) (w:=w) (by omega)
  congr 1
  unfold J.sgnI
  rw [if_pos (by omega)]
 ·have:=cmp_len (v:=w) (w:=v) (by omega)
  congr 1
  unfold J.sgnI
  rw [if_neg (by omega),if_pos (by omega)]
 ·have e:J.cnt w=J.cnt v:=by omega
  have hw:J.lim w=J.Zay (J.cnt v) w:=by unfold J.lim;rw [e]
  rw [hw]
  refine ZfM (by omega) rfl (J.cnt v) (Nat.le_refl _) ?_
  rw [ZaL (Zai v) (Nat.le_refl _),ZaL (Zai w) (by omega)]
theorem ev116 (fa fb:Bool) (v w:Int) (h:J.ok v/\J.ok w):Ev M1 (.pure 116 [usA fa (J.Zab v),usA fb (J.Zab w)]) (.int .i64 (J.sgnI ((v.natAbs:Int)-w.natAbs))) []:=rcompareN fa fb _ _ h
theorem ev116_a (fa fb:Bool) (v w:Nat) (h:J.ZaB (J.cnt v)/\J.ZaB (J.cnt w)):Ev M1 (.pure 116 [usA fa (J.lim v),usA fb (J.lim w)]) (.int .i64 (J.sgnI ((v:Int)-w))) []:=rcompareN fa fb _ _ h
theorem ev71 (fa:Bool) (v:Int):Ev M1 (.pure 71 [bigA fa v]) (.int .i64 (J.sgnI v)) []:=by
 have hl:=ZaX v
 have hc:=ZaE (v:=v.natAbs)
 refine call71 (rSign fa v _ ⟨fun h => ?_,fun h=>⟨fun k => ?_,fun k => ?_⟩⟩)
 ·rw [J.sgnI,if_neg (by omega),if_neg (by omega)]
 ·rw [Zak] at k
  rw [J.sgnI,if_pos k]
 ·rw [Zak] at k
  rw [J.sgnI,if_neg k,if_pos (by omega)]
end Go.Av

namespace Go.Av
open Go.Proofs
set_option maxRecDepth 100000
def fi78:Fi:=⟨36,[.tmp 2]⟩
def kp78:List (Nat × List Nat):=[(0,[1]),(1,[1,3]),(2,[1,3,8]),(3,[1,3]),(4,[1,3,16]),(5,[2]),(6,[2])]
def fi118:Fi:=⟨15,[.cell 4 24]⟩
def kp118:List (Nat × List Nat):=[(0,[0,1,4]),(1,[0,1,4]),(2,[4])]
def fi121:Fi:=⟨14,[.cell 2 24]⟩
def kp121:List (Nat × List Nat):=[(0,[0,2]),(1,[0,2,4]),(2,[2]),(3,[2])]
def fi127:Fi:=⟨68,[.tmp 4]⟩
def kp127:List (Nat × List Nat):=[(0,[0,1]),(1,[0,1,5]),(2,[0,1,5,6]),(3,[0,1,5,6,18]),(4,[0,1,5,6]),(5,[0,1,5,6,7]),(6,[0,1,5,6,7,8]),(7,[0,1,5,6,7,8,24]),(8,[0,1,5,6,7,8]),(9,[0,1,5,6,7,8]),(10,[0,1,5,6,7,8]),(11,[0,1,5,6,7,8]),(12,[0,1,5,6]),(13,[4])]
def fi129:Fi:=⟨55,[.tmp 4]⟩
def kp129:List (Nat × List Nat):=[(0,[0,1]),(1,[0,1,12]),(2,[0,1]),(3,[0,1,5]),(4,[0,1,5,6]),(5,[0,1,5,6,7]),(6,[0,1,5,6,7,22]),(7,[0,1,5,6,7]),(8,[0,1,5,6,7]),(9,[0,1,5,6,7,34]),(10,[0,1,5,6,7]),(11,[0,1,5,6,7]),(12,[0,1,5,6,7]),(13,[5]),(14,[4])]
def fi130:Fi:=⟨45,[.tmp 4]⟩
def kp130:List (Nat × List Nat):=[(0,[0,1]),(1,[0,1,5]),(2,[0,1,5,6]),(3,[0,1,5,6,7]),(4,[0,1,5,6,7,15]),(5,[0,1,5,6,7]),(6,[0,1,5,7,8]),(7,[0,1,5,7,8,28]),(8,[0,1,5,7,8]),(9,[0,1,5,6,7,8]),(10,[0,1,5,6,7,8,36]),(11,[0,1,5,6,7,8]),(12,[0,1,5,6,7]),(13,[4])]
def ZhZ (s fa:Bool) (k v:Nat) (Q:AV->Heap->Prop):Prop:=Wp M1 (.run fi118 (atC (cd Tryz.f118) []) [(0,.bool s),(1,.vec fa 1 ((J.Zay k v).map (.int .u32)))] []) Q
def Ze1 (n:Int) (Q:AV->Heap->Prop):Prop:=Wp M1 (.run fi121 (atC (cd Tryz.f121) []) [(0,.int .i64 n)] []) Q
def rPlus_at (fa fb:Bool) (a b:List Int) (Q:AV->Heap->Prop):Prop:=Wp M1 (.run fi129 (atC (cd Tryz.f129) []) [(0,.vec fa 1 (a.map (.int .u32))),(1,.vec fb 1 (b.map (.int .u32)))] []) Q
def Zcl (fa fb:Bool) (a b:List Int) (o:List Int) (c i:Int) (Q:AV->Heap->Prop):Prop:=Wp M1 (.run fi129 (atC (cd Tryz.f129) [1,1,1,1,0,1,0,0]) [(0,.vec fa 1 (a.map (.int .u32))),(1,.vec fb 1 (b.map (.int .u32))),(5,.row 0 0),(6,.int .u32 c),(7,.int .i64 i)] [⟨o.map (.int .u32),1,0,false,true⟩]) Q
def rMinus_at (fa fb:Bool) (a b:List Int) (Q:AV->Heap->Prop):Prop:=Wp M1 (.run fi130 (atC (cd Tryz.f130) []) [(0,.vec fa 1 (a.map (.int .u32))),(1,.vec fb 1 (b.map (.int .u32)))] []) Q
def ZbF (fa fb:Bool) (a b:List Int) (o:List Int) (c i:Int) (Q:AV->Heap->Prop):Prop:=Wp M1 (.run fi130 (atC (cd Tryz.f130) [1,1,1,0,1,0,0]) [(0,.vec fa 1 (a.map (.int .u32))),(1,.vec fb 1 (b.map (.int .u32))),(5,.row 0 0),(6,.int .u32 c),(7,.int .i64 i)] [⟨o.map (.int .u32),1,0,false,true⟩]) Q
def rTimes_at (fa fb:Bool) (a b:List Int) (Q:AV->Heap->Prop):Prop:=Wp M1 (.run fi127 (atC (cd Tryz.f127) []) [(0,.vec fa 1 (a.map (.int .u32))),(1,.vec fb 1 (b.map (.int .u32)))] []) Q
def ZcM (fa fb:Bool) (a b:List Int) (o:List Int) (i:Int) (Q:AV->Heap->Prop):Prop:=Wp M1 (.run fi127 (atC (cd Tryz.f127) [1,1,0,1,0,0]) [(0,.vec fa 1 (a.map (.int .u32))),(1,.vec fb 1 (b.map (.int .u32))),(5,.row 0 0),(6,.int .i64 i)] [⟨o.map (.int .u32),1,0,false,true⟩]) Q
def ZcL (fa fb:Bool) (a b:List Int) (o:List Int) (i c k:Int) (Q:AV->Heap->Prop):Prop:=Wp M1 (.run fi127 (atC (cd Tryz.f127) [1,1,0,1,0,0,1,0,0,1,0,1,0,0]) [(0,.vec fa 1 (a.map (.int .u32))),(1,.vec fb 1 (b.map (.int .u32))),(5,.row 0 0),(6,.int .i64 i),(7,.int .u64 c),(8,.int .i64 k)] [⟨o.map (.int .u32),1,0,false,true⟩]) Q
def rValid_at (s fa:Bool) (a:List Int) (Q:AV->Heap->Prop):Prop:=Wp M1 (.run fi78 (atC (cd Tryz.f78) []) [(0,.agg [.bool s,.vec fa 1 (a.map (.int .u32))])] []) Q
def Zdh (s fa:Bool) (a:List Int) (i:Int) (Q:AV->Heap->Prop):Prop:=Wp M1 (.run fi78 (atC (cd Tryz.f78) [1,0,1,0,0]) [(1,.ptr 0 0 0 0),(3,.int .i64 i)] [⟨[.agg [.bool s,.vec fa 1 (a.map (.int .u32))]],2,0,false,false⟩]) Q
theorem call78 {args:List AV} {d:AV} (h:wc M1 fi78 Tryz.f78 args d):Ev M1 (.pure 78 args) d []:=pcl _ _ (by kernel_rfl) h
theorem call118 {args:List AV} {d:AV} (h:wc M1 fi118 Tryz.f118 args d):Ev M1 (.pure 118 args) d []:=pcl _ _ (by kernel_rfl) h
theorem call121 {args:List AV} {d:AV} (h:wc M1 fi121 Tryz.f121 args d):Ev M1 (.pure 121 args) d []:=pcl _ _ (by kernel_rfl) h
theorem call127 {args:List AV} {d:AV} (h:wc M1 fi127 Tryz.f127 args d):Ev M1 (.pure 127 args) d []:=pcl _ _ (by kernel_rfl) h
theorem call129 {args:List AV} {d:AV} (h:wc M1 fi129 Tryz.f129 args d):Ev M1 (.pure 129 args) d []:=pcl _ _ (by kernel_rfl) h
theorem call130 {args:List AV} {d:AV} (h:wc M1 fi130 Tryz.f130 args d):Ev M1 (.pure 130 args) d []:=pcl _ _ (by kernel_rfl) h
theorem rSigned (s fa:Bool) (k v:Nat)  (dq:AV) (H :
  (J.ZaB k/\J.fits k v) /\
  Weak (ag [vb (bif s then decide ((↑(J.lim v).length:Int)>0) else false),vf (us (J.lim v))]) dq) :
 ZhZ s fa k v (Zag dq):=by
 unfold ZhZ
 obtain ⟨k1,H⟩:=H
 have w2:(us (J.lim v)).length=(J.lim v).length:=List.length_map ..
 exact Zah (G:=Zad kp118 [(1,1,.call (vf (us (J.lim v))) none)] []) 1000 [] (ag [vb (bif s then decide ((↑(us (J.lim v)).length:Int)>0) else false),vf (us (J.lim v))]) (by kernel_rfl) (bc rfl b0) q0 (ce (@ev115 fa k v k1) c0) (by (try rw [w2]);all_goals exact H)
theorem rFromInt64 (n:Int)  (dq:AV) (H :
  ((n<0)->(0<=IntKind.u64.wrap (0-IntKind.u64.wrap n)/\IntKind.u64.wrap (0-IntKind.u64.wrap n)<=18446744073709551615) /\
   ∃ (b1:Bool) (l1:List Int),
   (Ev M1 (Conf.pure 118 [vb true,vf (us (J.lim (IntKind.u64.wrap (0-IntKind.u64.wrap n)).toNat))]) (ag [vb b1,vf (us l1)]) []) /\
   Weak (ag [vb b1,vf (us l1)]) dq) /\
  (¬(n<0)->(0<=IntKind.u64.wrap n/\IntKind.u64.wrap n<=18446744073709551615) /\
   ∃ (b2:Bool) (l2:List Int),
   (Ev M1 (Conf.pure 118 [vb false,vf (us (J.lim (IntKind.u64.wrap n).toNat))]) (ag [vb b2,vf (us l2)]) []) /\
   Weak (ag [vb b2,vf (us l2)]) dq)) :
 Ze1 n (Zag dq):=by
 unfold Ze1
 rcases xq H with ⟨d2,H⟩|⟨d2,H⟩
 ·obtain ⟨k3,b1,l1,k4,H⟩:=H
  exact Zah (G:=Zad kp121 [(2,3,.call (vf (us (J.lim (wu (0-wu n)).toNat))) none),(2,4,.call (ag [vb b1,vf (us l1)]) none)] []) 1000 [true] (ag [vb b1,vf (us l1)]) (by kernel_rfl) (bc (Zaq (Zac.2 d2)) (bc rfl b0)) q0 (ce (@ev120 (wu (0-wu n)) k3) (ce k4 c0)) H
 ·obtain ⟨k5,b2,l2,k6,H⟩:=H
  exact Zah (G:=Zad kp121 [(3,2,.call (vf (us (J.lim (wu n).toNat))) none),(3,3,.call (ag [vb b2,vf (us l2)]) none)] []) 1000 [false] (ag [vb b2,vf (us l2)]) (by kernel_rfl) (bc (Zam (fun h=>d2 (Zac.1 h))) (bc rfl b0)) q0 (ce (@ev120 (wu n) k5) (ce k6 c0)) H
theorem rPlus (fa fb:Bool) (a b:List Int)  (dq:AV) (H :
  (((↑a.length:Int)<(↑b.length:Int))->(-9223372036854775808<=(↑b.length:Int)+1/\(↑b.length:Int)+1<=9223372036854775807) /\
   (0<=(↑b.length:Int)+1) /\
   (((↑b.length:Int)+1)*4<=1099511627776) /\
   ((↑b.length:Int)+1<=1099511627776) /\
   Zcl fb fa b a (List.replicate ((↑b.length:Int)+1).toNat (0:Int)) 0 0 (Zag dq)) /\
  (¬((↑a.length:Int)<(↑b.length:Int))->(-9223372036854775808<=(↑a.length:Int)+1/\(↑a.length:Int)+1<=9223372036854775807) /\
   (0<=(↑a.length:Int)+1) /\
   (((↑a.length:Int)+1)*4<=1099511627776) /\
   ((↑a.length:Int)+1<=1099511627776) /\
   Zcl fa fb a b (List.replicate ((↑a.length:Int)+1).toNat (0:Int)) 0 0 (Zag dq))) :
 rPlus_at fa fb a b (Zag dq):=by
 unfold rPlus_at
 have w1:(us a).length=a.length:=List.length_map ..
 have w2:(us b).length=b.length:=List.length_map ..
 have i3:(decide ((↑(us a).length:Int)<(↑(us b).length:Int)))=true ↔ ((↑a.length:Int)<(↑b.length:Int)):=(by (try rw [w1]);(try rw [w2]);all_goals exact Zac)
 rcases xq H with ⟨d4,H⟩|⟨d4,H⟩
 ·obtain ⟨k5,H⟩:=H
  have w6:wi ((↑b.length:Int)+1)=(↑b.length:Int)+1:=wI64 k5
  have i7:(decide (0<=wi ((↑(us b).length:Int)+1)))=true ↔ (0<=(↑b.length:Int)+1):=(by (try rw [w2]);(try rw [w6]);all_goals exact Zac)
  obtain ⟨k8,H⟩:=H
  have i9:(decide (wi ((↑(us b).length:Int)+1)<=wi ((↑(us b).length:Int)+1)))=true ↔ ((↑b.length:Int)+1<=(↑b.length:Int)+1):=(by (try rw [w2]);(try rw [w6]);all_goals exact Zac)
  have i10:(decide (wi ((↑(us b).length:Int)+1)*4<=1099511627776))=true ↔ (((↑b.length:Int)+1)*4<=1099511627776):=(by (try rw [w2]);(try rw [w6]);all_goals exact Zac)
  obtain ⟨k11,H⟩:=H
  have i12:(decide (wi ((↑(us b).length:Int)+1)<=1099511627776))=true ↔ ((↑b.length:Int)+1<=1099511627776):=(by (try rw [w2]);(try rw [w6]);all_goals exact Zac)
  obtain ⟨k13,H⟩:=H
  have w14:List.replicate ((↑b.length:Int)+1).toNat (vu 0)=us (List.replicate ((↑b.length:Int)+1).toNat (0:Int)):=(Zdn rfl)
  exact Zae (G:=Zad kp129 [] []) 1000 [true] ⟨(atC (cd Tryz.f129) [1,1,1,1,0,1,0,0]),[(0,AV.vec fb 1 (us b)),(1,AV.vec fa 1 (us a)),(5,AV.row 0 0),(6,vu 0),(7,vi 0)],[⟨List.replicate (wi ((↑(us b).length:Int)+1)).toNat (vu 0),1,0,false,true⟩],[(decide ((↑(us a).length:Int)<(↑(us b).length:Int)))==true,decide (0<=wi ((↑(us b).length:Int)+1)),decide (wi ((↑(us b).length:Int)+1)<=wi ((↑(us b).length:Int)+1)),decide (wi ((↑(us b).length:Int)+1)*4<=1099511627776),decide (wi ((↑(us b).length:Int)+1)<=1099511627776)],[],_⟩ (by kernel_rfl) (bc (Zaq (i3.2 d4)) (bc (i7.2 k8) (bc (i9.2 (by omega)) (bc (i10.2 k11) (bc (i12.2 k13) b0))))) q0 c0 (by (try rw [w2]);(try rw [w6]);(try rw [w14]);all_goals exact H)
 ·obtain ⟨k15,H⟩:=H
  have w16:wi ((↑a.length:Int)+1)=(↑a.length:Int)+1:=wI64 k15
  have i17:(decide (0<=wi ((↑(us a).length:Int)+1)))=true ↔ (0<=(↑a.length:Int)+1):=(by (try rw [w1]);(try rw [w16]);all_goals exact Zac)
  obtain ⟨k18,H⟩:=H
  have i19:(decide (wi ((↑(us a).length:Int)+1)<=wi ((↑(us a).length:Int)+1)))=true ↔ ((↑a.length:Int)+1<=(↑a.length:Int)+1):=(by (try rw [w1]);(try rw [w16]);all_goals exact Zac)
  have i20:(decide (wi ((↑(us a).length:Int)+1)*4<=1099511627776))=true ↔ (((↑a.length:Int)+1)*4<=1099511627776):=(by (try rw [w1]);(try rw [w16]);all_goals exact Zac)
  obtain ⟨k21,H⟩:=H
  have i22:(decide (wi ((↑(us a).length:Int)+1)<=1099511627776))=true ↔ ((↑a.length:Int)+1<=1099511627776):=(by (try rw [w1]);(try rw [w16]);all_goals exact Zac)
  obtain ⟨k23,H⟩:=H
  have w24:List.replicate ((↑a.length:Int)+1).toNat (vu 0)=us (List.replicate ((↑a.length:Int)+1).toNat (0:Int)):=(Zdn rfl)
  exact Zae (G:=Zad kp129 [] []) 1000 [false] ⟨(atC (cd Tryz.f129) [1,1,1,1,0,1,0,0]),[(0,AV.vec fa 1 (us a)),(1,AV.vec fb 1 (us b)),(5,AV.row 0 0),(6,vu 0),(7,vi 0)],[⟨List.replicate (wi ((↑(us a).length:Int)+1)).toNat (vu 0),1,0,false,true⟩],[(decide ((↑(us a).length:Int)<(↑(us b).length:Int)))==false,decide (0<=wi ((↑(us a).length:Int)+1)),decide (wi ((↑(us a).length:Int)+1)<=wi ((↑(us a).length:Int)+1)),decide (wi ((↑(us a).length:Int)+1)*4<=1099511627776),decide (wi ((↑(us a).length:Int)+1)<=1099511627776)],[],_⟩ (by kernel_rfl) (bc (Zam (fun h=>d4 (i3.1 h))) (bc (i17.2 k18) (bc (i19.2 (by omega)) (bc (i20.2 k21) (bc (i22.2 k23) b0))))) q0 c0 (by (try rw [w1]);(try rw [w16]);(try rw [w24]);all_goals exact H)
noncomputable abbrev zNwB1 (o:List Int) (a:List Int) (c:Int):=vf (us (J.Zbw (o.set (↑a.length:Int).toNat c)))
theorem rPlusA (fa fb:Bool) (a b:List Int) (o:List Int) (c i:Int)  (dq:AV) (H :
  ((i<(↑a.length:Int))->(0<=i) /\
   (i.toNat<a.length) /\
   (0<=c+a.getD i.toNat default/\c+a.getD i.toNat default<=4294967295) /\
   ((i<(↑b.length:Int))->(i.toNat<b.length) /\
    (0<=c+a.getD i.toNat default+b.getD i.toNat default/\c+a.getD i.toNat default+b.getD i.toNat default<=4294967295) /\
    (i.toNat<o.length) /\
    (0<=(c+a.getD i.toNat default+b.getD i.toNat default).tdiv 1000000000/\(c+a.getD i.toNat default+b.getD i.toNat default).tdiv 1000000000<=4294967295) /\
    (-9223372036854775808<=i+1/\i+1<=9223372036854775807) /\
    Zcl fa fb a b (o.set i.toNat ((c+a.getD i.toNat default+b.getD i.toNat default).tmod 1000000000)) ((c+a.getD i.toNat default+b.getD i.toNat default).tdiv 1000000000) (i+1) (Zag dq)) /\
   (¬(i<(↑b.length:Int))->(i.toNat<o.length) /\
    (0<=(c+a.getD i.toNat default).tdiv 1000000000/\(c+a.getD i.toNat default).tdiv 1000000000<=4294967295) /\
    (-9223372036854775808<=i+1/\i+1<=9223372036854775807) /\
    Zcl fa fb a b (o.set i.toNat ((c+a.getD i.toNat default).tmod 1000000000)) ((c+a.getD i.toNat default).tdiv 1000000000) (i+1) (Zag dq))) /\
  (¬(i<(↑a.length:Int))->(0<=(↑a.length:Int)) /\
   ((↑a.length:Int).toNat<o.length) /\
   (J.ZaB (o.set (↑a.length:Int).toNat c).length) /\
   Weak (vf (us (J.Zbw (o.set (↑a.length:Int).toNat c)))) dq)) :
 Zcl fa fb a b o c i (Zag dq):=by
 unfold Zcl
 have w1:(us a).length=a.length:=List.length_map ..
 have i2:(decide (i<(↑(us a).length:Int)))=true ↔ (i<(↑a.length:Int)):=(by (try rw [w1]);all_goals exact Zac)
 rcases xq H with ⟨d3,H⟩|⟨d3,H⟩
 ·obtain ⟨k5,H⟩:=H
  have i6:(decide (i.toNat<(us a).length))=true ↔ (i.toNat<a.length):=(by (try rw [w1]);all_goals exact Zac)
  obtain ⟨k7,k8,H⟩:=H
  have w9:wv (c+a.getD i.toNat default)=c+a.getD i.toNat default:=wU32 k8
  have w10:(us b).length=b.length:=List.length_map ..
  have i11:(decide (i<(↑(us b).length:Int)))=true ↔ (i<(↑b.length:Int)):=(by (try rw [w10]);all_goals exact Zac)
  refine Zae (G:=Zad kp129 [(8,4,.elem (vu (a.getD i.toNat default)))] []) 12 [true] ⟨(atC (cd Tryz.f129) [1,1,1,1,0,1,0,0,1,0,0,1,0,1]),[(0,AV.vec fa 1 (us a)),(1,AV.vec fb 1 (us b)),(5,AV.row 0 0),(6,vu (wv (c+a.getD i.toNat default))),(7,vi i),(34,vb (decide (i<(↑(us b).length:Int))))],[⟨us o,1,0,false,true⟩],_,[((us a).get?Internal i.toNat=some (vu (a.getD i.toNat default)))],_⟩ (by kernel_rfl) (bc (Zaq (i2.2 d3)) (bc (Zac.2 k5) (bc (i6.2 k7) b0))) (qc (Zat k7) q0) c0 ?_
  rcases xq H with ⟨d12,H⟩|⟨d12,H⟩
  ·have i14:(decide (i.toNat<(us b).length))=true ↔ (i.toNat<b.length):=(by (try rw [w10]);all_goals exact Zac)
   obtain ⟨k15,k16,H⟩:=H
   have w17:wv (c+a.getD i.toNat default+b.getD i.toNat default)=c+a.getD i.toNat default+b.getD i.toNat default:=wU32 k16
   have w19:(us o).length=o.length:=List.length_map ..
   have i20:(decide (i.toNat<(us o).length))=true ↔ (i.toNat<o.length):=(by (try rw [w19]);all_goals exact Zac)
   obtain ⟨k21,H⟩:=H
   have w22:(us o).set i.toNat (vu ((c+a.getD i.toNat default+b.getD i.toNat default).tmod 1000000000))=us (o.set i.toNat ((c+a.getD i.toNat default+b.getD i.toNat default).tmod 1000000000)):=(Zbh rfl rfl)
   obtain ⟨k23,H⟩:=H
   have w24:wv ((c+a.getD i.toNat default+b.getD i.toNat default).tdiv 1000000000)=(c+a.getD i.toNat default+b.getD i.toNat default).tdiv 1000000000:=wU32 k23
   obtain ⟨k25,H⟩:=H
   have w26:wi (i+1)=i+1:=wI64 k25
   exact Zae (G:=Zad kp129 [(10,4,.elem (vu (b.getD i.toNat default))),(11,5,.elem (vu (o.getD i.toNat default)))] []) 1000 [true] ⟨(atC (cd Tryz.f129) [1,1,1,1,0,1,0,0]),[(0,AV.vec fa 1 (us a)),(1,AV.vec fb 1 (us b)),(5,AV.row 0 0),(6,vu (wv ((wv (wv (c+a.getD i.toNat default)+b.getD i.toNat default)).tdiv 1000000000))),(7,vi (wi (i+1)))],[⟨(us o).set i.toNat (vu ((wv (wv (c+a.getD i.toNat default)+b.getD i.toNat default)).tmod 1000000000)),1,0,false,true⟩],_,[((us b).get?Internal i.toNat=some (vu (b.getD i.toNat default))),((us o).get?Internal i.toNat=some (vu (o.getD i.toNat default)))],_⟩ (by kernel_rfl) (bc (Zaq (i11.2 d12)) (bc (Zac.2 k5) (bc (i14.2 k15) (bc rfl (bc rfl (bc (Zac.2 k5) (bc (i20.2 k21) (bc rfl (bc rfl b0))))))))) (qc (Zat k15) (qc (Zat k21) q0)) c0 (by (try rw [w9]);(try rw [w17]);(try rw [w22]);(try rw [w24]);(try rw [w26]);all_goals exact H)
  ·have w28:(us o).length=o.length:=List.length_map ..
   have i29:(decide (i.toNat<(us o).length))=true ↔ (i.toNat<o.length):=(by (try rw [w28]);all_goals exact Zac)
   obtain ⟨k30,H⟩:=H
   have w31:(us o).set i.toNat (vu ((c+a.getD i.toNat default).tmod 1000000000))=us (o.set i.toNat ((c+a.getD i.toNat default).tmod 1000000000)):=(Zbh rfl rfl)
   obtain ⟨k32,H⟩:=H
   have w33:wv ((c+a.getD i.toNat default).tdiv 1000000000)=(c+a.getD i.toNat default).tdiv 1000000000:=wU32 k32
   obtain ⟨k34,H⟩:=H
   have w35:wi (i+1)=i+1:=wI64 k34
   exact Zae (G:=Zad kp129 [(11,5,.elem (vu (o.getD i.toNat default)))] []) 1000 [false] ⟨(atC (cd Tryz.f129) [1,1,1,1,0,1,0,0]),[(0,AV.vec fa 1 (us a)),(1,AV.vec fb 1 (us b)),(5,AV.row 0 0),(6,vu (wv ((wv (c+a.getD i.toNat default)).tdiv 1000000000))),(7,vi (wi (i+1)))],[⟨(us o).set i.toNat (vu ((wv (c+a.getD i.toNat default)).tmod 1000000000)),1,0,false,true⟩],_,[((us o).get?Internal i.toNat=some (vu (o.getD i.toNat default)))],_⟩ (by kernel_rfl) (bc (Zam (fun h=>d12 (i11.1 h))) (bc rfl (bc rfl (bc (Zac.2 k5) (bc (i29.2 k30) (bc rfl (bc rfl b0))))))) (qc (Zat k30) q0) c0 (by (try rw [w9]);(try rw [w31]);(try rw [w33]);(try rw [w35]);all_goals exact H)
 ·have i36:(decide (0<=(↑(us a).length:Int)))=true ↔ (0<=(↑a.length:Int)):=(by (try rw [w1]);all_goals exact Zac)
  obtain ⟨k37,H⟩:=H
  have w38:(us o).length=o.length:=List.length_map ..
  have i39:(decide ((↑(us a).length:Int).toNat<(us o).length))=true ↔ ((↑a.length:Int).toNat<o.length):=(by (try rw [w1]);(try rw [w38]);all_goals exact Zac)
  obtain ⟨k40,H⟩:=H
  have w41:(us o).set (↑a.length:Int).toNat (vu c)=us (o.set (↑a.length:Int).toNat c):=(Zbh rfl rfl)
  obtain ⟨k42,H⟩:=H
  exact Zah (G:=Zad kp129 [(13,5,.elem (vu (o.getD (↑a.length:Int).toNat default))),(14,1,.call (zNwB1 o a c) none)] []) 1000 [false] (eqs:=[((us o).get?Internal (↑(us a).length:Int).toNat=some (vu (o.getD (↑a.length:Int).toNat default)))]) (calls:=[pc 115 [vf ((us o).set (↑(us a).length:Int).toNat (vu c))] (zNwB1 o a c)]) (zNwB1 o a c) (by kernel_rfl) (bc (Zam (fun h=>d3 (i2.1 h))) (bc rfl (bc (i36.2 k37) (bc (i39.2 k40) (bc rfl (bc rfl b0)))))) (qc (by (try rw [w1]);all_goals exact (Zat k40)) q0) (ce (by (try rw [w1]);(try rw [w41]);all_goals exact (@Zd7 false (o.set (↑a.length:Int).toNat c) k42)) c0) H
theorem rMinus (fa fb:Bool) (a b:List Int)  (dq:AV) (H :
  (0<=(↑a.length:Int)) /\
  ((↑a.length:Int)*4<=1099511627776) /\
  ((↑a.length:Int)<=1099511627776) /\
  ZbF fa fb a b (List.replicate (↑a.length:Int).toNat (0:Int)) 0 0 (Zag dq)) :
 rMinus_at fa fb a b (Zag dq):=by
 unfold rMinus_at
 have w1:(us a).length=a.length:=List.length_map ..
 have i2:(decide (0<=(↑(us a).length:Int)))=true ↔ (0<=(↑a.length:Int)):=(by (try rw [w1]);all_goals exact Zac)
 obtain ⟨k3,H⟩:=H
 have i4:(decide ((↑(us a).length:Int)<=(↑(us a).length:Int)))=true ↔ ((↑a.length:Int)<=(↑a.length:Int)):=(by (try rw [w1]);all_goals exact Zac)
 have i5:(decide ((↑(us a).length:Int)*4<=1099511627776))=true ↔ ((↑a.length:Int)*4<=1099511627776):=(by (try rw [w1]);all_goals exact Zac)
 obtain ⟨k6,H⟩:=H
 have i7:(decide ((↑(us a).length:Int)<=1099511627776))=true ↔ ((↑a.length:Int)<=1099511627776):=(by (try rw [w1]);all_goals exact Zac)
 obtain ⟨k8,H⟩:=H
 have w9:List.replicate (↑a.length:Int).toNat (vu 0)=us (List.replicate (↑a.length:Int).toNat (0:Int)):=(Zdn rfl)
 exact Zae (G:=Zad kp130 [] []) 1000 [] ⟨(atC (cd Tryz.f130) [1,1,1,0,1,0,0]),[(0,AV.vec fa 1 (us a)),(1,AV.vec fb 1 (us b)),(5,AV.row 0 0),(6,vu 0),(7,vi 0)],[⟨List.replicate (↑(us a).length:Int).toNat (vu 0),1,0,false,true⟩],[decide (0<=(↑(us a).length:Int)),decide ((↑(us a).length:Int)<=(↑(us a).length:Int)),decide ((↑(us a).length:Int)*4<=1099511627776),decide ((↑(us a).length:Int)<=1099511627776)],[],_⟩ (by kernel_rfl) (bc (i2.2 k3) (bc (i4.2 (by omega)) (bc (i5.2 k6) (bc (i7.2 k8) b0)))) q0 c0 (by (try rw [w1]);(try rw [w9]);all_goals exact H)
theorem rMinusA (fa fb:Bool) (a b:List Int) (o:List Int) (c i:Int)  (dq:AV) (H :
  ((i<(↑a.length:Int))->(0<=i) /\
   (i.toNat<a.length) /\
   (0<=a.getD i.toNat default+1000000000/\a.getD i.toNat default+1000000000<=4294967295) /\
   (0<=a.getD i.toNat default+1000000000-c/\a.getD i.toNat default+1000000000-c<=4294967295) /\
   ((i<(↑b.length:Int))->(i.toNat<b.length) /\
    (0<=a.getD i.toNat default+1000000000-c-b.getD i.toNat default/\a.getD i.toNat default+1000000000-c-b.getD i.toNat default<=4294967295) /\
    ((a.getD i.toNat default+1000000000-c-b.getD i.toNat default>=1000000000)->(0<=a.getD i.toNat default+1000000000-c-b.getD i.toNat default-1000000000/\a.getD i.toNat default+1000000000-c-b.getD i.toNat default-1000000000<=4294967295) /\
     (i.toNat<o.length) /\
     (-9223372036854775808<=i+1/\i+1<=9223372036854775807) /\
     ZbF fa fb a b (o.set i.toNat (a.getD i.toNat default+1000000000-c-b.getD i.toNat default-1000000000)) 0 (i+1) (Zag dq)) /\
    (¬(a.getD i.toNat default+1000000000-c-b.getD i.toNat default>=1000000000)->(i.toNat<o.length) /\
     (-9223372036854775808<=i+1/\i+1<=9223372036854775807) /\
     ZbF fa fb a b (o.set i.toNat (a.getD i.toNat default+1000000000-c-b.getD i.toNat default)) 1 (i+1) (Zag dq))) /\
   (¬(i<(↑b.length:Int))->((a.getD i.toNat default+1000000000-c>=1000000000)->(0<=a.getD i.toNat default+1000000000-c-1000000000/\a.getD i.toNat default+1000000000-c-1000000000<=4294967295) /\
     (i.toNat<o.length) /\
     (-9223372036854775808<=i+1/\i+1<=9223372036854775807) /\
     ZbF fa fb a b (o.set i.toNat (a.getD i.toNat default+1000000000-c-1000000000)) 0 (i+1) (Zag dq)) /\
    (¬(a.getD i.toNat default+1000000000-c>=1000000000)->(i.toNat<o.length) /\
     (-9223372036854775808<=i+1/\i+1<=9223372036854775807) /\
     ZbF fa fb a b (o.set i.toNat (a.getD i.toNat default+1000000000-c)) 1 (i+1) (Zag dq)))) /\
  (¬(i<(↑a.length:Int))->(J.ZaB o.length) /\
   Weak (vf (us (J.Zbw o))) dq)) :
 ZbF fa fb a b o c i (Zag dq):=by
 unfold ZbF
 have w1:(us a).length=a.length:=List.length_map ..
 have i2:(decide (i<(↑(us a).length:Int)))=true ↔ (i<(↑a.length:Int)):=(by (try rw [w1]);all_goals exact Zac)
 rcases xq H with ⟨d3,H⟩|⟨d3,H⟩
 ·obtain ⟨k5,H⟩:=H
  have i6:(decide (i.toNat<(us a).length))=true ↔ (i.toNat<a.length):=(by (try rw [w1]);all_goals exact Zac)
  obtain ⟨k7,k8,H⟩:=H
  have w9:wv (a.getD i.toNat default+1000000000)=a.getD i.toNat default+1000000000:=wU32 k8
  obtain ⟨k10,H⟩:=H
  have w11:wv (a.getD i.toNat default+1000000000-c)=a.getD i.toNat default+1000000000-c:=wU32 k10
  have w12:(us b).length=b.length:=List.length_map ..
  have i13:(decide (i<(↑(us b).length:Int)))=true ↔ (i<(↑b.length:Int)):=(by (try rw [w12]);all_goals exact Zac)
  refine Zae (G:=Zad kp130 [(6,3,.elem (vu (a.getD i.toNat default)))] []) 12 [true] ⟨(atC (cd Tryz.f130) [1,1,1,0,1,0,0,1,0,0,1,0,1]),[(0,AV.vec fa 1 (us a)),(1,AV.vec fb 1 (us b)),(5,AV.row 0 0),(7,vi i),(8,vu (wv (wv (a.getD i.toNat default+1000000000)-c))),(28,vb (decide (i<(↑(us b).length:Int))))],[⟨us o,1,0,false,true⟩],_,[((us a).get?Internal i.toNat=some (vu (a.getD i.toNat default)))],_⟩ (by kernel_rfl) (bc (Zaq (i2.2 d3)) (bc (Zac.2 k5) (bc (i6.2 k7) b0))) (qc (Zat k7) q0) c0 ?_
  rcases xq H with ⟨d14,H⟩|⟨d14,H⟩
  ·have i16:(decide (i.toNat<(us b).length))=true ↔ (i.toNat<b.length):=(by (try rw [w12]);all_goals exact Zac)
   obtain ⟨k17,k18,H⟩:=H
   have w19:wv (a.getD i.toNat default+1000000000-c-b.getD i.toNat default)=a.getD i.toNat default+1000000000-c-b.getD i.toNat default:=wU32 k18
   have i20:(decide (wv (wv (wv (a.getD i.toNat default+1000000000)-c)-b.getD i.toNat default)>=1000000000))=true ↔ (a.getD i.toNat default+1000000000-c-b.getD i.toNat default>=1000000000):=(by (try rw [w9]);(try rw [w11]);(try rw [w19]);all_goals exact Zac)
   refine Zae (G:=Zad kp130 [(8,4,.elem (vu (b.getD i.toNat default)))] []) 7 [true] ⟨(atC (cd Tryz.f130) [1,1,1,0,1,0,0,1,0,0,1,1,1,0,1]),[(0,AV.vec fa 1 (us a)),(1,AV.vec fb 1 (us b)),(5,AV.row 0 0),(6,vu 1),(7,vi i),(8,vu (wv (wv (wv (a.getD i.toNat default+1000000000)-c)-b.getD i.toNat default))),(36,vb (decide (wv (wv (wv (a.getD i.toNat default+1000000000)-c)-b.getD i.toNat default)>=1000000000)))],[⟨us o,1,0,false,true⟩],_,[((us b).get?Internal i.toNat=some (vu (b.getD i.toNat default)))],_⟩ (by kernel_rfl) (bc (Zaq (i13.2 d14)) (bc (Zac.2 k5) (bc (i16.2 k17) b0))) (qc (Zat k17) q0) c0 ?_
   rcases xq H with ⟨d21,H⟩|⟨d21,H⟩
   ·obtain ⟨k22,H⟩:=H
    have w23:wv (a.getD i.toNat default+1000000000-c-b.getD i.toNat default-1000000000)=a.getD i.toNat default+1000000000-c-b.getD i.toNat default-1000000000:=wU32 k22
    have w25:(us o).length=o.length:=List.length_map ..
    have i26:(decide (i.toNat<(us o).length))=true ↔ (i.toNat<o.length):=(by (try rw [w25]);all_goals exact Zac)
    obtain ⟨k27,H⟩:=H
    have w28:(us o).set i.toNat (vu (a.getD i.toNat default+1000000000-c-b.getD i.toNat default-1000000000))=us (o.set i.toNat (a.getD i.toNat default+1000000000-c-b.getD i.toNat default-1000000000)):=(Zbh rfl rfl)
    obtain ⟨k29,H⟩:=H
    have w30:wi (i+1)=i+1:=wI64 k29
    exact Zae (G:=Zad kp130 [(12,4,.elem (vu (o.getD i.toNat default)))] []) 1000 [true] ⟨(atC (cd Tryz.f130) [1,1,1,0,1,0,0]),[(0,AV.vec fa 1 (us a)),(1,AV.vec fb 1 (us b)),(5,AV.row 0 0),(6,vu 0),(7,vi (wi (i+1)))],[⟨(us o).set i.toNat (vu (wv (wv (wv (wv (a.getD i.toNat default+1000000000)-c)-b.getD i.toNat default)-1000000000))),1,0,false,true⟩],_,[((us o).get?Internal i.toNat=some (vu (o.getD i.toNat default)))],_⟩ (by kernel_rfl) (bc (Zaq (i20.2 d21)) (bc rfl (bc (Zac.2 k5) (bc (i26.2 k27) (bc rfl b0))))) (qc (Zat k27) q0) c0 (by (try rw [w9]);(try rw [w11]);(try rw [w19]);(try rw [w23]);(try rw [w28]);(try rw [w30]);all_goals exact H)
   ·have w32:(us o).length=o.length:=List.length_map ..
    have i33:(decide (i.toNat<(us o).length))=true ↔ (i.toNat<o.length):=(by (try rw [w32]);all_goals exact Zac)
    obtain ⟨k34,H⟩:=H
    have w35:(us o).set i.toNat (vu (a.getD i.toNat default+1000000000-c-b.getD i.toNat default))=us (o.set i.toNat (a.getD i.toNat default+1000000000-c-b.getD i.toNat default)):=(Zbh rfl rfl)
    obtain ⟨k36,H⟩:=H
    have w37:wi (i+1)=i+1:=wI64 k36
    exact Zae (G:=Zad kp130 [(12,4,.elem (vu (o.getD i.toNat default)))] []) 1000 [false] ⟨(atC (cd Tryz.f130) [1,1,1,0,1,0,0]),[(0,AV.vec fa 1 (us a)),(1,AV.vec fb 1 (us b)),(5,AV.row 0 0),(6,vu 1),(7,vi (wi (i+1)))],[⟨(us o).set i.toNat (vu (wv (wv (wv (a.getD i.toNat default+1000000000)-c)-b.getD i.toNat default))),1,0,false,true⟩],_,[((us o).get?Internal i.toNat=some (vu (o.getD i.toNat default)))],_⟩ (by kernel_rfl) (bc (Zam (fun h=>d21 (i20.1 h))) (bc rfl (bc (Zac.2 k5) (bc (i33.2 k34) (bc rfl b0))))) (qc (Zat k34) q0) c0 (by (try rw [w9]);(try rw [w11]);(try rw [w19]);(try rw [w35]);(try rw [w37]);all_goals exact H)
  ·have i38:(decide (wv (wv (a.getD i.toNat default+1000000000)-c)>=1000000000))=true ↔ (a.getD i.toNat default+1000000000-c>=1000000000):=(by (try rw [w9]);(try rw [w11]);all_goals exact Zac)
   rcases xq H with ⟨d39,H⟩|⟨d39,H⟩
   ·obtain ⟨k40,H⟩:=H
    have w41:wv (a.getD i.toNat default+1000000000-c-1000000000)=a.getD i.toNat default+1000000000-c-1000000000:=wU32 k40
    have w43:(us o).length=o.length:=List.length_map ..
    have i44:(decide (i.toNat<(us o).length))=true ↔ (i.toNat<o.length):=(by (try rw [w43]);all_goals exact Zac)
    obtain ⟨k45,H⟩:=H
    have w46:(us o).set i.toNat (vu (a.getD i.toNat default+1000000000-c-1000000000))=us (o.set i.toNat (a.getD i.toNat default+1000000000-c-1000000000)):=(Zbh rfl rfl)
    obtain ⟨k47,H⟩:=H
    have w48:wi (i+1)=i+1:=wI64 k47
    exact Zae (G:=Zad kp130 [(12,4,.elem (vu (o.getD i.toNat default)))] []) 1000 [false,true] ⟨(atC (cd Tryz.f130) [1,1,1,0,1,0,0]),[(0,AV.vec fa 1 (us a)),(1,AV.vec fb 1 (us b)),(5,AV.row 0 0),(6,vu 0),(7,vi (wi (i+1)))],[⟨(us o).set i.toNat (vu (wv (wv (wv (a.getD i.toNat default+1000000000)-c)-1000000000))),1,0,false,true⟩],_,[((us o).get?Internal i.toNat=some (vu (o.getD i.toNat default)))],_⟩ (by kernel_rfl) (bc (Zam (fun h=>d14 (i13.1 h))) (bc (Zaq (i38.2 d39)) (bc rfl (bc (Zac.2 k5) (bc (i44.2 k45) (bc rfl b0)))))) (qc (Zat k45) q0) c0 (by (try rw [w9]);(try rw [w11]);(try rw [w41]);(try rw [w46]);(try rw [w48]);all_goals exact H)
   ·have w50:(us o).length=o.length:=List.length_map ..
    have i51:(decide (i.toNat<(us o).length))=true ↔ (i.toNat<o.length):=(by (try rw [w50]);all_goals exact Zac)
    obtain ⟨k52,H⟩:=H
    have w53:(us o).set i.toNat (vu (a.getD i.toNat default+1000000000-c))=us (o.set i.toNat (a.getD i.toNat default+1000000000-c)):=(Zbh rfl rfl)
    obtain ⟨k54,H⟩:=H
    have w55:wi (i+1)=i+1:=wI64 k54
    exact Zae (G:=Zad kp130 [(12,4,.elem (vu (o.getD i.toNat default)))] []) 1000 [false,false] ⟨(atC (cd Tryz.f130) [1,1,1,0,1,0,0]),[(0,AV.vec fa 1 (us a)),(1,AV.vec fb 1 (us b)),(5,AV.row 0 0),(6,vu 1),(7,vi (wi (i+1)))],[⟨(us o).set i.toNat (vu (wv (wv (a.getD i.toNat default+1000000000)-c))),1,0,false,true⟩],_,[((us o).get?Internal i.toNat=some (vu (o.getD i.toNat default)))],_⟩ (by kernel_rfl) (bc (Zam (fun h=>d14 (i13.1 h))) (bc (Zam (fun h=>d39 (i38.1 h))) (bc rfl (bc (Zac.2 k5) (bc (i51.2 k52) (bc rfl b0)))))) (qc (Zat k52) q0) c0 (by (try rw [w9]);(try rw [w11]);(try rw [w53]);(try rw [w55]);all_goals exact H)
 ·obtain ⟨k56,H⟩:=H
  exact Zah (G:=Zad kp130 [(13,1,.call (vf (us (J.Zbw o))) none)] []) 1000 [false] (vf (us (J.Zbw o))) (by kernel_rfl) (bc (Zam (fun h=>d3 (i2.1 h))) (bc rfl b0)) q0 (ce (@Zd7 false o k56) c0) H
theorem rTimes (fa fb:Bool) (a b:List Int)  (dq:AV) (H :
  (-9223372036854775808<=(↑a.length:Int)+(↑b.length:Int)/\(↑a.length:Int)+(↑b.length:Int)<=9223372036854775807) /\
  (0<=(↑a.length:Int)+(↑b.length:Int)) /\
  (((↑a.length:Int)+(↑b.length:Int))*4<=1099511627776) /\
  ((↑a.length:Int)+(↑b.length:Int)<=1099511627776) /\
  ZcM fa fb a b (List.replicate ((↑a.length:Int)+(↑b.length:Int)).toNat (0:Int)) 0 (Zag dq)) :
 rTimes_at fa fb a b (Zag dq):=by
 unfold rTimes_at
 have w1:(us a).length=a.length:=List.length_map ..
 have w2:(us b).length=b.length:=List.length_map ..
 obtain ⟨k3,H⟩:=H
 have w4:wi ((↑a.length:Int)+(↑b.length:Int))=(↑a.length:Int)+(↑b.length:Int):=wI64 k3
 have i5:(decide (0<=wi ((↑(us a).length:Int)+(↑(us b).length:Int))))=true ↔ (0<=(↑a.length:Int)+(↑b.length:Int)):=(by (try rw [w1]);(try rw [w2]);(try rw [w4]);all_goals exact Zac)
 obtain ⟨k6,H⟩:=H
 have i7:(decide (wi ((↑(us a).length:Int)+(↑(us b).length:Int))<=wi ((↑(us a).length:Int)+(↑(us b).length:Int))))=true ↔ ((↑a.length:Int)+(↑b.length:Int)<=(↑a.length:Int)+(↑b.length:Int)):=(by (try rw [w1]);(try rw [w2]);(try rw [w4]);all_goals exact Zac)
 have i8:(decide (wi ((↑(us a).length:Int)+(↑(us b).length:Int))*4<=1099511627776))=true ↔ (((↑a.length:Int)+(↑b.length:Int))*4<=1099511627776):=(by (try rw [w1]);(try rw [w2]);(try rw [w4]);all_goals exact Zac)
 obtain ⟨k9,H⟩:=H
 have i10:(decide (wi ((↑(us a).length:Int)+(↑(us b).length:Int))<=1099511627776))=true ↔ ((↑a.length:Int)+(↑b.length:Int)<=1099511627776):=(by (try rw [w1]);(try rw [w2]);(try rw [w4]);all_goals exact Zac)
 obtain ⟨k11,H⟩:=H
 have w12:List.replicate ((↑a.length:Int)+(↑b.length:Int)).toNat (vu 0)=us (List.replicate ((↑a.length:Int)+(↑b.length:Int)).toNat (0:Int)):=(Zdn rfl)
 exact Zae (G:=Zad kp127 [] []) 1000 [] ⟨(atC (cd Tryz.f127) [1,1,0,1,0,0]),[(0,AV.vec fa 1 (us a)),(1,AV.vec fb 1 (us b)),(5,AV.row 0 0),(6,vi 0)],[⟨List.replicate (wi ((↑(us a).length:Int)+(↑(us b).length:Int))).toNat (vu 0),1,0,false,true⟩],[decide (0<=wi ((↑(us a).length:Int)+(↑(us b).length:Int))),decide (wi ((↑(us a).length:Int)+(↑(us b).length:Int))<=wi ((↑(us a).length:Int)+(↑(us b).length:Int))),decide (wi ((↑(us a).length:Int)+(↑(us b).length:Int))*4<=1099511627776),decide (wi ((↑(us a).length:Int)+(↑(us b).length:Int))<=1099511627776)],[],_⟩ (by kernel_rfl) (bc (i5.2 k6) (bc (i7.2 (by omega)) (bc (i8.2 k9) (bc (i10.2 k11) b0)))) q0 c0 (by (try rw [w1]);(try rw [w2]);(try rw [w4]);(try rw [w12]);all_goals exact H)
theorem rTimesA (fa fb:Bool) (a b:List Int) (o:List Int) (i:Int)  (dq:AV) (H :
  ((i<(↑a.length:Int))->ZcL fa fb a b o i 0 0 (Zag dq)) /\
  (¬(i<(↑a.length:Int))->(J.ZaB o.length) /\
   Weak (vf (us (J.Zbw o))) dq)) :
 ZcM fa fb a b o i (Zag dq):=by
 unfold ZcM
 have w1:(us a).length=a.length:=List.length_map ..
 have i2:(decide (i<(↑(us a).length:Int)))=true ↔ (i<(↑a.length:Int)):=(by (try rw [w1]);all_goals exact Zac)
 rcases xq H with ⟨d3,H⟩|⟨d3,H⟩
 ·exact Zae (G:=Zad kp127 [] []) 1000 [true] ⟨(atC (cd Tryz.f127) [1,1,0,1,0,0,1,0,0,1,0,1,0,0]),[(0,AV.vec fa 1 (us a)),(1,AV.vec fb 1 (us b)),(5,AV.row 0 0),(6,vi i),(7,vw 0),(8,vi 0)],[⟨us o,1,0,false,true⟩],_,[],_⟩ (by kernel_rfl) (bc (Zaq (i2.2 d3)) b0) q0 c0 H
 ·obtain ⟨k4,H⟩:=H
  exact Zah (G:=Zad kp127 [(13,1,.call (vf (us (J.Zbw o))) none)] []) 1000 [false] (vf (us (J.Zbw o))) (by kernel_rfl) (bc (Zam (fun h=>d3 (i2.1 h))) (bc rfl b0)) q0 (ce (@Zd7 false o k4) c0) H
theorem rTimesB (fa fb:Bool) (a b:List Int) (o:List Int) (i c k:Int)  (dq:AV) (H :
  ((k<(↑b.length:Int))->(-9223372036854775808<=i+k/\i+k<=9223372036854775807) /\
   (0<=i+k) /\
   ((i+k).toNat<o.length) /\
   (0<=i) /\
   (i.toNat<a.length) /\
   (0<=k) /\
   (k.toNat<b.length) /\
   (0<=o.getD (i+k).toNat default/\o.getD (i+k).toNat default<=18446744073709551615) /\
   (0<=c+o.getD (i+k).toNat default/\c+o.getD (i+k).toNat default<=18446744073709551615) /\
   (0<=a.getD i.toNat default/\a.getD i.toNat default<=18446744073709551615) /\
   (0<=b.getD k.toNat default/\b.getD k.toNat default<=18446744073709551615) /\
   (0<=a.getD i.toNat default*b.getD k.toNat default/\a.getD i.toNat default*b.getD k.toNat default<=18446744073709551615) /\
   (0<=c+o.getD (i+k).toNat default+a.getD i.toNat default*b.getD k.toNat default/\c+o.getD (i+k).toNat default+a.getD i.toNat default*b.getD k.toNat default<=18446744073709551615) /\
   (0<=(c+o.getD (i+k).toNat default+a.getD i.toNat default*b.getD k.toNat default).tmod 1000000000/\(c+o.getD (i+k).toNat default+a.getD i.toNat default*b.getD k.toNat default).tmod 1000000000<=4294967295) /\
   (0<=(c+o.getD (i+k).toNat default+a.getD i.toNat default*b.getD k.toNat default).tdiv 1000000000/\(c+o.getD (i+k).toNat default+a.getD i.toNat default*b.getD k.toNat default).tdiv 1000000000<=18446744073709551615) /\
   (-9223372036854775808<=k+1/\k+1<=9223372036854775807) /\
   ZcL fa fb a b (o.set (i+k).toNat ((c+o.getD (i+k).toNat default+a.getD i.toNat default*b.getD k.toNat default).tmod 1000000000)) i ((c+o.getD (i+k).toNat default+a.getD i.toNat default*b.getD k.toNat default).tdiv 1000000000) (k+1) (Zag dq)) /\
  (¬(k<(↑b.length:Int))->(-9223372036854775808<=i+(↑b.length:Int)/\i+(↑b.length:Int)<=9223372036854775807) /\
   (0<=i+(↑b.length:Int)) /\
   ((i+(↑b.length:Int)).toNat<o.length) /\
   (0<=c/\c<=4294967295) /\
   (-9223372036854775808<=i+1/\i+1<=9223372036854775807) /\
   ZcM fa fb a b (o.set (i+(↑b.length:Int)).toNat c) (i+1) (Zag dq))) :
 ZcL fa fb a b o i c k (Zag dq):=by
 unfold ZcL
 have w1:(us b).length=b.length:=List.length_map ..
 have i2:(decide (k<(↑(us b).length:Int)))=true ↔ (k<(↑b.length:Int)):=(by (try rw [w1]);all_goals exact Zac)
 rcases xq H with ⟨d3,H⟩|⟨d3,H⟩
 ·obtain ⟨k4,H⟩:=H
  have w5:wi (i+k)=i+k:=wI64 k4
  have i6:(decide (0<=wi (i+k)))=true ↔ (0<=i+k):=(by (try rw [w5]);all_goals exact Zac)
  obtain ⟨k7,H⟩:=H
  have w8:(us o).length=o.length:=List.length_map ..
  have i9:(decide ((wi (i+k)).toNat<(us o).length))=true ↔ ((i+k).toNat<o.length):=(by (try rw [w5]);(try rw [w8]);all_goals exact Zac)
  obtain ⟨k10,k12,H⟩:=H
  have w13:(us a).length=a.length:=List.length_map ..
  have i14:(decide (i.toNat<(us a).length))=true ↔ (i.toNat<a.length):=(by (try rw [w13]);all_goals exact Zac)
  obtain ⟨k15,k17,H⟩:=H
  have i18:(decide (k.toNat<(us b).length))=true ↔ (k.toNat<b.length):=(by (try rw [w1]);all_goals exact Zac)
  obtain ⟨k19,k20,H⟩:=H
  have w21:wu (o.getD (i+k).toNat default)=o.getD (i+k).toNat default:=wU64 k20
  obtain ⟨k22,H⟩:=H
  have w23:wu (c+o.getD (i+k).toNat default)=c+o.getD (i+k).toNat default:=wU64 k22
  obtain ⟨k24,H⟩:=H
  have w25:wu (a.getD i.toNat default)=a.getD i.toNat default:=wU64 k24
  obtain ⟨k26,H⟩:=H
  have w27:wu (b.getD k.toNat default)=b.getD k.toNat default:=wU64 k26
  obtain ⟨k28,H⟩:=H
  have w29:wu (a.getD i.toNat default*b.getD k.toNat default)=a.getD i.toNat default*b.getD k.toNat default:=wU64 k28
  obtain ⟨k30,H⟩:=H
  have w31:wu (c+o.getD (i+k).toNat default+a.getD i.toNat default*b.getD k.toNat default)=c+o.getD (i+k).toNat default+a.getD i.toNat default*b.getD k.toNat default:=wU64 k30
  have i32:(decide (0<=wi (i+k)))=true ↔ (0<=i+k):=(by (try rw [w5]);all_goals exact Zac)
  have i33:(decide ((wi (i+k)).toNat<(us o).length))=true ↔ ((i+k).toNat<o.length):=(by (try rw [w5]);(try rw [w8]);all_goals exact Zac)
  obtain ⟨k34,H⟩:=H
  have w35:wv ((c+o.getD (i+k).toNat default+a.getD i.toNat default*b.getD k.toNat default).tmod 1000000000)=(c+o.getD (i+k).toNat default+a.getD i.toNat default*b.getD k.toNat default).tmod 1000000000:=wU32 k34
  have w36:(us o).set (i+k).toNat (vu ((c+o.getD (i+k).toNat default+a.getD i.toNat default*b.getD k.toNat default).tmod 1000000000))=us (o.set (i+k).toNat ((c+o.getD (i+k).toNat default+a.getD i.toNat default*b.getD k.toNat default).tmod 1000000000)):=(Zbh rfl rfl)
  obtain ⟨k37,H⟩:=H
  have w38:wu ((c+o.getD (i+k).toNat default+a.getD i.toNat default*b.getD k.toNat default).tdiv 1000000000)=(c+o.getD (i+k).toNat default+a.getD i.toNat default*b.getD k.toNat default).tdiv 1000000000:=wU64 k37
  obtain ⟨k39,H⟩:=H
  have w40:wi (k+1)=k+1:=wI64 k39
  exact Zae (G:=Zad kp127 [(9,6,.elem (vu (o.getD (i+k).toNat default))),(9,12,.elem (vu (a.getD i.toNat default))),(9,17,.elem (vu (b.getD k.toNat default))),(10,8,.elem (vu (o.getD (i+k).toNat default)))] []) 1000 [true] ⟨(atC (cd Tryz.f127) [1,1,0,1,0,0,1,0,0,1,0,1,0,0]),[(0,AV.vec fa 1 (us a)),(1,AV.vec fb 1 (us b)),(5,AV.row 0 0),(6,vi i),(7,vw (wu ((wu (wu (c+wu (o.getD (i+k).toNat default))+wu (wu (a.getD i.toNat default)*wu (b.getD k.toNat default)))).tdiv 1000000000))),(8,vi (wi (k+1)))],[⟨(us o).set (wi (i+k)).toNat (vu (wv ((wu (wu (c+wu (o.getD (i+k).toNat default))+wu (wu (a.getD i.toNat default)*wu (b.getD k.toNat default)))).tmod 1000000000))),1,0,false,true⟩],_,[((us o).get?Internal (wi (i+k)).toNat=some (vu (o.getD (i+k).toNat default))),((us a).get?Internal i.toNat=some (vu (a.getD i.toNat default))),((us b).get?Internal k.toNat=some (vu (b.getD k.toNat default))),((us o).get?Internal (wi (i+k)).toNat=some (vu (o.getD (i+k).toNat default)))],_⟩ (by kernel_rfl) (bc (Zaq (i2.2 d3)) (bc rfl (bc (i6.2 k7) (bc (i9.2 k10) (bc rfl (bc (Zac.2 k12) (bc (i14.2 k15) (bc (Zac.2 k17) (bc (i18.2 k19) (bc rfl (bc rfl (bc (i32.2 k7) (bc (i33.2 k10) (bc rfl (bc rfl b0))))))))))))))) (qc (by (try rw [w5]);all_goals exact (Zat k10)) (qc (Zat k15) (qc (Zat k19) (qc (by (try rw [w5]);all_goals exact (Zat k10)) q0)))) c0 (by (try rw [w5]);(try rw [w21]);(try rw [w23]);(try rw [w25]);(try rw [w27]);(try rw [w29]);(try rw [w31]);(try rw [w35]);(try rw [w36]);(try rw [w38]);(try rw [w40]);all_goals exact H)
 ·obtain ⟨k41,H⟩:=H
  have w42:wi (i+(↑b.length:Int))=i+(↑b.length:Int):=wI64 k41
  have i43:(decide (0<=wi (i+(↑(us b).length:Int))))=true ↔ (0<=i+(↑b.length:Int)):=(by (try rw [w1]);(try rw [w42]);all_goals exact Zac)
  obtain ⟨k44,H⟩:=H
  have w45:(us o).length=o.length:=List.length_map ..
  have i46:(decide ((wi (i+(↑(us b).length:Int))).toNat<(us o).length))=true ↔ ((i+(↑b.length:Int)).toNat<o.length):=(by (try rw [w1]);(try rw [w42]);(try rw [w45]);all_goals exact Zac)
  obtain ⟨k47,k48,H⟩:=H
  have w49:wv c=c:=wU32 k48
  have w50:(us o).set (i+(↑b.length:Int)).toNat (vu c)=us (o.set (i+(↑b.length:Int)).toNat c):=(Zbh rfl rfl)
  obtain ⟨k51,H⟩:=H
  have w52:wi (i+1)=i+1:=wI64 k51
  exact Zae (G:=Zad kp127 [(12,8,.elem (vu (o.getD (i+(↑b.length:Int)).toNat default)))] []) 1000 [false] ⟨(atC (cd Tryz.f127) [1,1,0,1,0,0]),[(0,AV.vec fa 1 (us a)),(1,AV.vec fb 1 (us b)),(5,AV.row 0 0),(6,vi (wi (i+1)))],[⟨(us o).set (wi (i+(↑(us b).length:Int))).toNat (vu (wv c)),1,0,false,true⟩],_,[((us o).get?Internal (wi (i+(↑(us b).length:Int))).toNat=some (vu (o.getD (i+(↑b.length:Int)).toNat default)))],_⟩ (by kernel_rfl) (bc (Zam (fun h=>d3 (i2.1 h))) (bc rfl (bc (i43.2 k44) (bc (i46.2 k47) (bc rfl b0))))) (qc (by (try rw [w1]);(try rw [w42]);all_goals exact (Zat k47)) q0) c0 (by (try rw [w1]);(try rw [w42]);(try rw [w49]);(try rw [w50]);(try rw [w52]);all_goals exact H)
theorem rValid (s fa:Bool) (a:List Int)  (dq:AV) (H :
  Zdh s fa a 0 (Zag dq)) :
 rValid_at s fa a (Zag dq):=by
 unfold rValid_at
 exact Zae (G:=Zad kp78 [] []) 1000 [] ⟨(atC (cd Tryz.f78) [1,0,1,0,0]),[(1,AV.ptr 0 0 0 0),(3,vi 0)],[⟨[ag [vb s,AV.vec fa 1 (us a)]],2,0,false,false⟩],_,[],_⟩ (by kernel_rfl) b0 q0 c0 H
theorem rValidA (s fa:Bool) (a:List Int) (i:Int)  (dq:AV) (H :
  ((i<(↑a.length:Int))->(0<=i) /\
   (i.toNat<a.length) /\
   ((a.getD i.toNat default>=1000000000)->vb false=dq) /\
   (¬(a.getD i.toNat default>=1000000000)->(-9223372036854775808<=i+1/\i+1<=9223372036854775807) /\
    Zdh s fa a (i+1) (Zag dq))) /\
  (¬(i<(↑a.length:Int))->(J.ZaB a.length) /\
   (vb (bif (↑(J.Zbw a).length:Int)==(↑a.length:Int) then bif !s then true else decide ((↑a.length:Int)>0) else false))=dq)) :
 Zdh s fa a i (Zag dq):=by
 unfold Zdh
 have w1:(us a).length=a.length:=List.length_map ..
 have i2:(decide (i<(↑(us a).length:Int)))=true ↔ (i<(↑a.length:Int)):=(by (try rw [w1]);all_goals exact Zac)
 rcases xq H with ⟨d3,H⟩|⟨d3,H⟩
 ·obtain ⟨k5,H⟩:=H
  have i6:(decide (i.toNat<(us a).length))=true ↔ (i.toNat<a.length):=(by (try rw [w1]);all_goals exact Zac)
  obtain ⟨k7,H⟩:=H
  refine Zae (G:=Zad kp78 [(4,4,.elem (vu (a.getD i.toNat default)))] []) 9 [true] ⟨(atC (cd Tryz.f78) [1,0,1,0,0,1,0,0,1]),[(1,AV.ptr 0 0 0 0),(3,vi i),(16,vb (decide (a.getD i.toNat default>=1000000000)))],[⟨[ag [vb s,AV.vec fa 1 (us a)]],2,0,false,false⟩],_,[((us a).get?Internal i.toNat=some (vu (a.getD i.toNat default)))],_⟩ (by kernel_rfl) (bc rfl (bc (Zaq (i2.2 d3)) (bc rfl (bc (Zac.2 k5) (bc (i6.2 k7) b0))))) (qc (Zat k7) q0) c0 ?_
  rcases xq H with ⟨d9,H⟩|⟨d9,H⟩
  ·exact Zao (G:=Zad kp78 [] []) 1000 [true] (vb false) (by kernel_rfl) (bc (Zaq (Zac.2 d9)) b0) q0 c0 H
  ·obtain ⟨k10,H⟩:=H
   have w11:wi (i+1)=i+1:=wI64 k10
   exact Zae (G:=Zad kp78 [] []) 1000 [false] ⟨(atC (cd Tryz.f78) [1,0,1,0,0]),[(1,AV.ptr 0 0 0 0),(3,vi (wi (i+1)))],[⟨[ag [vb s,AV.vec fa 1 (us a)]],2,0,false,false⟩],_,[],_⟩ (by kernel_rfl) (bc (Zam (fun h=>d9 (Zac.1 h))) b0) q0 c0 (by (try rw [w11]);all_goals exact H)
 ·obtain ⟨k12,H⟩:=H
  have w13:(us (J.Zbw a)).length=(J.Zbw a).length:=List.length_map ..
  exact Zao (G:=Zad kp78 [(6,2,.call (vf (us (J.Zbw a))) none)] []) 1000 [false] (asm:=[true,(decide (i<(↑(us a).length:Int)))==false,true,true,!(((↑(us (J.Zbw a)).length:Int)==(↑(us a).length:Int))==true&&true)||true,!((!s)==false&&(((↑(us (J.Zbw a)).length:Int)==(↑(us a).length:Int))==true&&true))||true]) (vb (bif (↑(us (J.Zbw a)).length:Int)==(↑(us a).length:Int) then bif !s then true else decide ((↑(us a).length:Int)>0) else false)) (by kernel_rfl) (bc rfl (bc (Zam (fun h=>d3 (i2.1 h))) (bc rfl (bc rfl (bc (Bool.or_true _) (bc (Bool.or_true _) b0)))))) q0 (ce (@Zd7 fa a k12) c0) (by (try rw [w1]);(try rw [w13]);all_goals exact H)
end Go.Av

namespace Go.Av
open Go.Proofs
theorem big_lim (f s:Bool) (v:Nat):bigA f (J.sg s v) = .agg [.bool (bif s then decide (((J.lim v).length:Int)>0) else false),.vec f 1 ((J.lim v).map (.int .u32))]:=by
 rw [big_sg]
 have hc:=ZaE (v:=v)
 have e:decide (v ≠ 0)=decide (((J.lim v).length:Int)>0):=by
  rw [decide_eq_decide,ZaN];omega
 rw [e]
theorem rsignedN (s fa:Bool) (k v:Nat) (h:J.ZaB k/\J.fits k v):Ev M1 (.pure 118 [.bool s,usA fa (J.Zay k v)]) (bigA false (J.sg s v)) []:=by
 refine call118 (rSigned _ _ _ _ _ ⟨h,?_⟩)
 rw [big_lim];exact .refl _
theorem ev118_a (s fa:Bool) (v:Int) (h:J.ok v):Ev M1 (.pure 118 [.bool s,usA fa (J.Zab v)]) (bigA false (J.sg s v.natAbs)) []:=rsignedN s fa _ _ ⟨h,Zai _⟩
theorem Zc8 (s fa:Bool) (v:Nat) (h:J.ZaB (J.cnt v)):Ev M1 (.pure 118 [.bool s,usA fa (J.lim v)]) (bigA false (J.sg s v)) []:=rsignedN s fa _ _ ⟨h,Zai _⟩
theorem cnt_u64 {u:Nat} (h:u<=18446744073709551615):J.cnt u<=3:=Zaz.1 (fits3 h)
theorem ev121 (n:Int) (h:J.inI n):Ev M1 (.pure 121 [.int .i64 n]) (bigA false n) []:=by
 unfold J.inI at h
 refine call121 (rFromInt64 n _ ⟨fun k => ?_,fun k => ?_⟩)
 ·have e1:IntKind.u64.wrap (0-IntKind.u64.wrap n) = -n:=by
   rw [wrap_neg ⟨h.1,k⟩]
   have e1:(2:Int) ^ IntKind.u64.bits=18446744073709551616:=rfl
   have e3:IntKind.u64.signed=false:=rfl
   simp only [IntKind.wrap,e1,e3,Bool.false_and,Bool.false_eq_true,if_false]
   omega
  have e2:J.sg true (-n).toNat=n:=by unfold J.sg;rw [if_pos rfl];omega
  rw [e1]
  have:=Zc8 true false (-n).toNat (by have:=cnt_u64 (u:=(-n).toNat) (by omega);unfold J.ZaB;omega)
  rw [e2] at this
  exact ⟨by omega,_,_,this,.refl _⟩
 ·have e1:IntKind.u64.wrap n=n:=wU64 ⟨by omega,by omega⟩
  have e2:J.sg false n.toNat=n:=by rw [Zb2];omega
  rw [e1]
  have:=Zc8 false false n.toNat (by have:=cnt_u64 (u:=n.toNat) (by omega);unfold J.ZaB;omega)
  rw [e2] at this
  exact ⟨by omega,_,_,this,.refl _⟩
theorem Zb7 {k v:Nat} (h:J.fits k v):J.Zbw (J.Zay k v)=J.lim v:=by
 unfold J.Zbw
 rw [Zan];exact Zfs k v h
theorem set_last {o:List Int} {n:Nat} {c:Int} (h:o.length=n+1):o.set n c=o.take n++[c]:=by
 have:=Za5 (o:=o) (i:=n) (d:=c) (by omega)
 rwa [List.take_of_length_le (by simp;omega)] at this
theorem ZgW {fa fb:Bool} {n m v w:Nat} {R:List Int} (hn:n<=900000) (hmn:m<=n) (hv:J.fits n v) (hw:J.fits m w):∀ (k i:Nat) (o:List Int) (c:Nat),i+k=n->c<=1->o.length=n+1 ->
  o.take i++J.Zay (k+1) (v / 1000000000 ^ i+w / 1000000000 ^ i+c)=R->Zcl fa fb (J.Zay n v) (J.Zay m w) o c i (Zag (usA false (J.Zbw R)))
 | 0,i,o,c,hi,hc,hol,hq=>by
  have hi:i=n:=by omega
  subst hi
  rw [ZaL hv (by omega),ZaL hw (by omega)] at hq
  have e:J.Zay 1 (0+0+c)=[(c:Int)]:=by simp [J.Zay];omega
  rw [Nat.zero_add,e,<- set_last hol] at hq
  refine rPlusA _ _ _ _ _ _ _ _ ⟨fun h=>by rw [Zan] at h;omega,fun _ => ?_⟩
  rw [Zan,Int.toNat_natCast,hq]
  have hR:R.length=i+1:=by rw [<- hq];simpa using hol
  exact ⟨by omega,by omega,by unfold J.ZaB;omega,.refl _⟩
 | k+1,i,o,c,hi,hc,hol,hq=>by
  have gx:=ZaA v (show i<n by omega)
  rw [plus_step,Za9,Za9] at hq
  have nxt:∀ (d c':Int),d=(((v / 1000000000 ^ i % 1000000000+w / 1000000000 ^ i % 1000000000+c) % 1000000000:Nat):Int)->c'=(((v / 1000000000 ^ i % 1000000000+w / 1000000000 ^ i % 1000000000+c) / 1000000000:Nat):Int)->(v / 1000000000 ^ i % 1000000000+w / 1000000000 ^ i % 1000000000+c) / 1000000000<=1->Zcl fa fb (J.Zay n v) (J.Zay m w) (o.set i d) c' ((i:Int)+1) (Zag (usA false (J.Zbw R))):=by
   intro d c' hd hc' hc1
   subst hc'
   refine ZgW hn hmn hv hw k (i+1) (o.set i d) _ (by omega) hc1 (by simpa using hol) ?_
   rw [Za5 (by omega),<- hq,hd,List.append_assoc];rfl
  refine rPlusA _ _ _ _ _ _ _ _ ⟨fun _ => ?_,fun h=>by rw [Zan] at h;omega⟩
  rw [Int.toNat_natCast,gx,Zan,Zan]
  by_cases him:i<m
  ·rw [ZaA w him]
   generalize v / 1000000000 ^ i=V at nxt
   generalize w / 1000000000 ^ i=W at nxt
   have e3:(c:Int)+((V % 1000000000:Nat):Int)+((W % 1000000000:Nat):Int)=((V % 1000000000+W % 1000000000+c:Nat):Int):=by omega
   rw [e3,tdivB,tmodB]
   exact ⟨by omega,by omega,by omega,fun _=>⟨by omega,by omega,by omega,by omega,by omega,nxt _ _ rfl rfl (by omega)⟩,fun h=>by omega⟩
  ·have hW:=ZaL hw (show m<=i by omega)
   rw [hW] at nxt
   generalize v / 1000000000 ^ i=V at nxt
   have e3:(c:Int)+((V % 1000000000:Nat):Int)=((V % 1000000000+0 % 1000000000+c:Nat):Int):=by omega
   rw [e3,tdivB,tmodB]
   exact ⟨by omega,by omega,by omega,fun h=>by omega,fun _=>⟨by omega,by omega,by omega,nxt _ _ rfl rfl (by omega)⟩⟩
theorem rplusN (fa fb:Bool) (v w:Nat) (h1:J.cnt v<=900000) (h2:J.cnt w<=900000):Ev M1 (.pure 129 [usA fa (J.lim v),usA fb (J.lim w)]) (usA false (J.lim (v+w))) []:=by
 refine call129 (rPlus _ _ _ _ _ ?_)
 rw [ZaN,ZaN]
 refine ⟨fun k=>⟨by omega,by omega,by omega,by omega,?_⟩,fun k=>⟨by omega,by omega,by omega,by omega,?_⟩⟩
 ·have hf:J.fits (J.cnt w+1) (w+v):=Zc4 (Zai w) (ZaP (Zai v) (by omega))
  have e:((J.cnt w:Int)+1).toNat=J.cnt w+1:=by omega
  have:=ZgW (fa:=fb) (fb:=fa) (v:=w) (w:=v) (R:=J.Zay (J.cnt w+1) (w+v)) h2 (show J.cnt v<=J.cnt w by omega) (Zai _) (Zai _) (J.cnt w) 0 (List.replicate (J.cnt w+1) 0) 0 (by omega) (by omega) (by simp) (by simp)
  rw [Zb7 hf,Nat.add_comm w v] at this
  rw [e];exact this
 ·have hf:J.fits (J.cnt v+1) (v+w):=Zc4 (Zai v) (ZaP (Zai w) (by omega))
  have e:((J.cnt v:Int)+1).toNat=J.cnt v+1:=by omega
  have:=ZgW (fa:=fa) (fb:=fb) (v:=v) (w:=w) (R:=J.Zay (J.cnt v+1) (v+w)) h1 (show J.cnt w<=J.cnt v by omega) (Zai _) (Zai _) (J.cnt v) 0 (List.replicate (J.cnt v+1) 0) 0 (by omega) (by omega) (by simp) (by simp)
  rw [Zb7 hf] at this
  rw [e];exact this
theorem ev129 (fa fb:Bool) (v w:Int) (h:J.okB v/\J.okB w):Ev M1 (.pure 129 [usA fa (J.Zab v),usA fb (J.Zab w)]) (usA false (J.lim (v.natAbs+w.natAbs))) []:=
 rplusN fa fb _ _ (by have:=h.1;unfold J.okB at this;omega) (by have:=h.2;unfold J.okB at this;omega)
theorem Zfz {fa fb:Bool} {n m v w:Nat} {R:List Int} (hn:n<=1000000) (hv:J.fits n v) (hw:J.fits m w) (hm:m<=1000000):∀ (k i:Nat) (o:List Int) (c:Nat),i+k=n->c<=1->o.length=n->w / 1000000000 ^ i+c<=v / 1000000000 ^ i ->
  o.take i++J.Zay k (v / 1000000000 ^ i-w / 1000000000 ^ i-c)=R->ZbF fa fb (J.Zay n v) (J.Zay m w) o c i (Zag (usA false (J.Zbw R)))
 | 0,i,o,c,hi,hc,hol,hle,hq=>by
  rw [List.take_of_length_le (by omega),J.Zay,List.append_nil] at hq
  refine rMinusA _ _ _ _ _ _ _ _ ⟨fun h=>by rw [Zan] at h;omega,fun _ => ?_⟩
  rw [hq]
  rw [hq] at hol
  exact ⟨by unfold J.ZaB;omega,.refl _⟩
 | k+1,i,o,c,hi,hc,hol,hle,hq=>by
  have gx:=ZaA v (show i<n by omega)
  obtain ⟨s1,s2⟩:=Zh8 k (v / 1000000000 ^ i) (w / 1000000000 ^ i) c hle hc
  rw [Za9,Za9] at s1 s2
  have nxt1:v / 1000000000 ^ i % 1000000000<w / 1000000000 ^ i % 1000000000+c -> ∀ d:Int,((v / 1000000000 ^ i % 1000000000+1000000000-(w / 1000000000 ^ i % 1000000000+c):Nat):Int)=d->ZbF fa fb (J.Zay n v) (J.Zay m w) (o.set i d) (1:Nat) ((i:Int)+1) (Zag (usA false (J.Zbw R))):=by
   intro hlt d hd
   obtain ⟨t1,t2⟩:=s1 hlt
   refine Zfz hn hv hw hm k (i+1) (o.set i d) 1 (by omega) (by omega) (by simpa using hol) t2 ?_
   rw [Za5 (by omega),<- hq,t1,hd,List.append_assoc];rfl
  have nxt0:¬v / 1000000000 ^ i % 1000000000<w / 1000000000 ^ i % 1000000000+c -> ∀ d:Int,((v / 1000000000 ^ i % 1000000000-(w / 1000000000 ^ i % 1000000000+c):Nat):Int)=d->ZbF fa fb (J.Zay n v) (J.Zay m w) (o.set i d) (0:Nat) ((i:Int)+1) (Zag (usA false (J.Zbw R))):=by
   intro hlt d hd
   obtain ⟨t1,t2⟩:=s2 hlt
   refine Zfz hn hv hw hm k (i+1) (o.set i d) 0 (by omega) (by omega) (by simpa using hol) t2 ?_
   rw [Za5 (by omega),<- hq,t1,hd,List.append_assoc];rfl
  refine rMinusA _ _ _ _ _ _ _ _ ⟨fun _ => ?_,fun h=>by rw [Zan] at h;omega⟩
  rw [Int.toNat_natCast,gx,Zan,Zan]
  by_cases him:i<m
  ·rw [ZaA w him]
   generalize v / 1000000000 ^ i=V at nxt0 nxt1
   generalize w / 1000000000 ^ i=W at nxt0 nxt1
   exact ⟨by omega,by omega,by omega,by omega,fun _=>⟨by omega,by omega,fun h=>⟨by omega,by omega,by omega,nxt0 (by omega) _ (by omega)⟩,fun h=>⟨by omega,by omega,nxt1 (by omega) _ (by omega)⟩⟩,fun h=>by omega⟩
  ·have hW:=ZaL hw (show m<=i by omega)
   rw [hW] at nxt0 nxt1
   generalize v / 1000000000 ^ i=V at nxt0 nxt1
   exact ⟨by omega,by omega,by omega,by omega,fun h=>by omega,fun _=>⟨fun h=>⟨by omega,by omega,by omega,nxt0 (by omega) _ (by omega)⟩,fun h=>⟨by omega,by omega,nxt1 (by omega) _ (by omega)⟩⟩⟩
theorem rminusN (fa fb:Bool) (v w:Nat) (h1:J.cnt v<=1000000) (h3:w<=v):Ev M1 (.pure 130 [usA fa (J.lim v),usA fb (J.lim w)]) (usA false (J.lim (v-w))) []:=by
 have h2:=ZaJ h3
 refine call130 (rMinus _ _ _ _ _ ?_)
 rw [ZaN,Int.toNat_natCast]
 refine ⟨by omega,by omega,by omega,?_⟩
 have:=Zfz (fa:=fa) (fb:=fb) (v:=v) (w:=w) (R:=J.Zay (J.cnt v) (v-w)) h1 (Zai _) (Zai w) (by omega) (J.cnt v) 0 (List.replicate (J.cnt v) 0) 0 (by omega) (by omega) (by simp) (by simpa using h3) (by simp)
 rw [Zb7 (Zbs (Zai v) (Nat.sub_le _ _))] at this
 exact this
theorem ev130 (fa fb:Bool) (v w:Int) (h:J.ok v/\w.natAbs<=v.natAbs):Ev M1 (.pure 130 [usA fa (J.Zab v),usA fb (J.Zab w)]) (usA false (J.lim (v.natAbs-w.natAbs))) []:=rminusN fa fb _ _ h.1 h.2
theorem ev130_a (fa fb:Bool) (v w:Nat) (h:J.ZaB (J.cnt v)/\w<=v):Ev M1 (.pure 130 [usA fa (J.lim v),usA fb (J.lim w)]) (usA false (J.lim (v-w))) []:=rminusN fa fb _ _ h.1 h.2
theorem ZgU {fa fb:Bool} {n v m w i K:Nat} {Q0:List Int} {Q:AV} (hm:m<=1000000) (hn:n<=1000000) (hi:i<n) (hK:K<=1000000) (hw:J.fits m w)
  (hq:∀ o:List Int,o=Q0++J.zs K->ZcM fa fb (J.Zay n v) (J.Zay m w) o ((i:Int)+1) (Zag Q)) :
  ∀ (r j:Nat) (o:List Int) (U c:Nat),j+r=m->o.length=i+m+1+K->c<1000000000->J.fits r U->o.drop (i+j)=J.Zay r U++J.zs (K+1)->o.take (i+j)++J.Zay (r+1) (U+v / 1000000000 ^ i % 1000000000*(w / 1000000000 ^ j)+c)=Q0 ->
   ZcL fa fb (J.Zay n v) (J.Zay m w) o i c j (Zag Q)
 | 0,j,o,U,c,hj,hol,hc,hU,ho,hQ=>by
  have hU0:=Zbl.1 hU
  have hj':j=m:=by omega
  subst hj'
  rw [ZaL hw (Nat.le_refl _),hU0,Nat.mul_zero] at hQ
  have e:J.Zay 1 (0+0+c)=[(c:Int)]:=by simp [J.Zay];omega
  rw [Nat.zero_add,e] at hQ
  rw [hU0,J.Zay,List.nil_append] at ho
  refine rTimesB _ _ _ _ _ _ _ _ _ ⟨fun h=>by rw [Zan] at h;omega,fun _ => ?_⟩
  rw [Zan]
  have e1:((i:Int)+(j:Int)).toNat=i+j:=by omega
  rw [e1]
  refine ⟨by omega,by omega,by omega,by omega,by omega,hq _ ?_⟩
  have ho2:o.drop (i+j+1)=J.zs K:=by
   rw [show i+j+1=1+(i+j) by omega,Nat.add_comm 1,<- List.drop_drop,ho];rfl
  rw [<- hQ,<- ho2]
  rw [List.set_eq_take_append_cons_drop,if_pos (by omega),List.append_assoc];rfl
 | r+1,j,o,U,c,hj,hol,hc,hU,ho,hQ=>by
  have gx:=ZaA v hi
  have gy:=ZaA w (show j<m by omega)
  have hx:v / 1000000000 ^ i % 1000000000<1000000000:=Nat.mod_lt _ (by omega)
  have e1:((i:Int)+(j:Int)).toNat=i+j:=by omega
  have hod:=Zcs (d:=o) (i:=i+j) (by omega)
  rw [ho,ZaF,List.cons_append] at hod
  obtain ⟨g1,g2⟩:=List.cons.inj hod
  have hu:U % 1000000000<1000000000:=Nat.mod_lt _ (by omega)
  have hy:w / 1000000000 ^ j % 1000000000<1000000000:=Nat.mod_lt _ (by omega)
  obtain ⟨w1,w2⟩:=ZhR hu hx hy hc
  rw [ZhS,Za9] at hQ
  refine rTimesB _ _ _ _ _ _ _ _ _ ⟨fun _ => ?_,fun h=>by rw [Zan] at h;omega⟩
  rw [Int.toNat_natCast,Int.toNat_natCast,e1,gy,gx,Zan,Zan,<- g1]
  have c1:((v / 1000000000 ^ i % 1000000000:Nat):Int)*((w / 1000000000 ^ j % 1000000000:Nat):Int)=((v / 1000000000 ^ i % 1000000000*(w / 1000000000 ^ j % 1000000000):Nat):Int):=(Int.natCast_mul _ _).symm
  rw [c1]
  have main:∀ d c':Int,d=(((U % 1000000000+v / 1000000000 ^ i % 1000000000*(w / 1000000000 ^ j % 1000000000)+c) % 1000000000:Nat):Int)->c'=(((U % 1000000000+v / 1000000000 ^ i % 1000000000*(w / 1000000000 ^ j % 1000000000)+c) / 1000000000:Nat):Int) ->
    ZcL fa fb (J.Zay n v) (J.Zay m w) (o.set (i+j) d) i c' ((j:Int)+1) (Zag Q):=by
   intro d c' hd hc'
   subst hc'
   refine ZgU hm hn hi hK hw hq r (j+1) _ (U / 1000000000) _ (by omega) (by simpa using hol) w2 (Zb5.1 hU) ?_ ?_
   ·rw [show i+(j+1)=i+j+1 by omega,List.drop_set_of_lt (by omega),<- g2]
   ·rw [show i+(j+1)=i+j+1 by omega,Za5 (by omega),<- hQ,hd,List.append_assoc];rfl
  have hx':((v / 1000000000 ^ i % 1000000000:Nat):Int)<=18446744073709551615:=by
   generalize v / 1000000000 ^ i % 1000000000=z at hx;omega
  have hy':((w / 1000000000 ^ j % 1000000000:Nat):Int)<=18446744073709551615:=by
   generalize w / 1000000000 ^ j % 1000000000=z at hy;omega
  generalize v / 1000000000 ^ i % 1000000000*(w / 1000000000 ^ j % 1000000000)=p at w1 w2 main
  have hu':((U % 1000000000:Nat):Int)<1000000000:=by omega
  generalize U % 1000000000=u at w1 w2 main hu'
  have c2:((c:Nat):Int)+((u:Nat):Int)+((p:Nat):Int)=((u+p+c:Nat):Int):=by omega
  rw [c2,tdivB,tmodB]
  exact ⟨by omega,by omega,by omega,by omega,by omega,by omega,by omega,by omega,by omega,⟨Int.natCast_nonneg _,hx'⟩,⟨Int.natCast_nonneg _,hy'⟩,by omega,by omega,by omega,by omega,by omega,main _ _ rfl rfl⟩
theorem ZgV {fa fb:Bool} {n m v w:Nat} {R:List Int} (hn:n<=400000) (hm:m<=400000) (hv:J.fits n v) (hw:J.fits m w) :
  ∀ (k i:Nat) (o:List Int) (U:Nat),i+k=n->o.length=n+m->J.fits m U->o.drop i=J.Zay m U++J.zs k->o.take i++J.Zay (m+k) (U+v / 1000000000 ^ i*w)=R->ZcM fa fb (J.Zay n v) (J.Zay m w) o i (Zag (usA false (J.Zbw R)))
 | 0,i,o,U,hi,hol,hU,ho,hR=>by
  have hi':i=n:=by omega
  subst hi'
  rw [ZaL hv (Nat.le_refl _),Nat.zero_mul,Nat.add_zero,Nat.add_zero] at hR
  have e:J.Zay m U++J.zs 0=J.Zay m U:=by simp [J.zs]
  rw [e] at ho
  rw [<- ho,List.take_append_drop] at hR
  refine rTimesA _ _ _ _ _ _ _ ⟨fun h=>by rw [Zan] at h;omega,fun _ => ?_⟩
  rw [hR]
  rw [hR] at hol
  exact ⟨by unfold J.ZaB;omega,.refl _⟩
 | k+1,i,o,U,hi,hol,hU,ho,hR=>by
  have hx:v / 1000000000 ^ i % 1000000000<1000000000:=Nat.mod_lt _ (by omega)
  refine rTimesA _ _ _ _ _ _ _ ⟨fun _ => ?_,fun h=>by rw [Zan] at h;omega⟩
  have hf:J.fits (m+1) (U+v / 1000000000 ^ i % 1000000000*w):=fits_mul rfl hU hw hx
  have step:U+v / 1000000000 ^ i*w=U+v / 1000000000 ^ i % 1000000000*w+1000000000*(v / 1000000000 ^ (i+1)*w):=by
   have hs:=Za4 v i
   generalize v / 1000000000 ^ (i+1)=V' at hs ⊢
   generalize v / 1000000000 ^ i % 1000000000=d at hs ⊢
   rw [hs];grind
  refine ZgU (Q0:=o.take i++J.Zay (m+1) (U+v / 1000000000 ^ i % 1000000000*w)) (K:=k) (by omega) (by omega) (by omega) (by omega) hw (fun o' ho' => ?_) m 0 o U 0 (by omega) (by omega) (by omega) hU ho (by simp)
  have hlen:(o.take i).length=i:=by rw [List.length_take];omega
  refine ZgV hn hm hv hw k (i+1) o' ((U+v / 1000000000 ^ i % 1000000000*w) / 1000000000) (by omega) ?_ (Zb5.1 hf) ?_ ?_
  ·rw [ho']
   simp only [List.length_append,hlen,Zan,J.zs,List.length_replicate]
   omega
  ·rw [ho',ZaF]
   have e1:i+1=(o.take i++[(((U+v / 1000000000 ^ i % 1000000000*w) % 1000000000:Nat):Int)]).length:=by simp [hlen]
   rw [e1]
   have e2:o.take i++((((U+v / 1000000000 ^ i % 1000000000*w) % 1000000000:Nat):Int)::J.Zay m ((U+v / 1000000000 ^ i % 1000000000*w) / 1000000000))++J.zs k
     = (o.take i++[(((U+v / 1000000000 ^ i % 1000000000*w) % 1000000000:Nat):Int)])++(J.Zay m ((U+v / 1000000000 ^ i % 1000000000*w) / 1000000000)++J.zs k):=by simp
   rw [e2,List.drop_left]
  ·rw [<- hR,ho',ZaF,show m+(k+1)=(m+k)+1 by omega,ZaF (m+k)]
   have e1:i+1=(o.take i++[(((U+v / 1000000000 ^ i % 1000000000*w) % 1000000000:Nat):Int)]).length:=by simp [hlen]
   have e2:o.take i++((((U+v / 1000000000 ^ i % 1000000000*w) % 1000000000:Nat):Int)::J.Zay m ((U+v / 1000000000 ^ i % 1000000000*w) / 1000000000))++J.zs k
     = (o.take i++[(((U+v / 1000000000 ^ i % 1000000000*w) % 1000000000:Nat):Int)])++(J.Zay m ((U+v / 1000000000 ^ i % 1000000000*w) / 1000000000)++J.zs k):=by simp
   rw [e2,e1,List.take_left,List.append_assoc]
   have e3:(U+v / 1000000000 ^ i*w) % 1000000000=(U+v / 1000000000 ^ i % 1000000000*w) % 1000000000:=by rw [step];omega
   have e4:(U+v / 1000000000 ^ i*w) / 1000000000=(U+v / 1000000000 ^ i % 1000000000*w) / 1000000000+v / 1000000000 ^ (i+1)*w:=by rw [step];omega
   rw [e3,e4,<- e1];rfl
theorem rtimesN (fa fb:Bool) (n v m w:Nat) (h:n<=400000/\m<=400000/\J.fits n v/\J.fits m w):Ev M1 (.pure 127 [usA fa (J.Zay n v),usA fb (J.Zay m w)]) (usA false (J.lim (v*w))) []:=by
 obtain ⟨h1,h2,h3,h4⟩:=h
 refine call127 (rTimes _ _ _ _ _ ?_)
 rw [Zan,Zan]
 have e:((n:Int)+(m:Int)).toNat=n+m:=by omega
 rw [e]
 refine ⟨by omega,by omega,by omega,by omega,?_⟩
 have:=ZgV (fa:=fa) (fb:=fb) (R:=J.Zay (n+m) (v*w)) h1 h2 h3 h4 n 0 (List.replicate (n+m) 0) 0 (by omega) (by simp) (Zaz.2 (by rw [Zbq];omega)) (by
  rw [List.drop_zero,Zg0];unfold J.zs;rw [List.replicate_append_replicate,Nat.add_comm]) (by simp [Nat.add_comm])
 rw [Zb7 (ZcV h3 h4)] at this
 exact this
theorem ev127 (fa fb:Bool) (v w:Int) (h:J.okB v/\J.okB w):Ev M1 (.pure 127 [usA fa (J.Zab v),usA fb (J.Zab w)]) (usA false (J.lim (v.natAbs*w.natAbs))) []:=rtimesN fa fb _ _ _ _ ⟨h.1,h.2,Zai _,Zai _⟩
theorem ev127_a (fa fb:Bool) (v w:Nat) (h:J.okB v/\J.okB w):Ev M1 (.pure 127 [usA fa (J.lim v),usA fb (J.lim w)]) (usA false (J.lim (v*w))) []:=rtimesN fa fb _ _ _ _ ⟨h.1,h.2,Zai _,Zai _⟩
theorem trimF_len:∀ (n:Nat) (a:List Int),a.length=n->(J.ZfX n a).length<=n
 | 0,a,h=>by rw [J.ZfX];omega
 | n+1,a,h=>by
  rw [J.ZfX]
  split
  ·have:=trimF_len n (a.take n) (by simp;omega)
   omega
  ·omega
theorem trimL_same (a:List Int):((J.Zbw a).length=a.length) ↔ (a.length=0\/a.getD (a.length-1) default ≠ 0):=by
 unfold J.Zbw
 cases h:a.length with
 | zero=>rw [J.ZfX];omega
 | succ n =>
  rw [J.ZfX]
  split
  ·rename_i k
   have:=trimF_len n (a.take n) (by simp;omega)
   simp only [Nat.add_sub_cancel]
   constructor
   ·intro e;omega
   ·rintro (e | e)
    ·omega
    ·exact absurd k e
  ·rename_i k
   simp only [Nat.add_sub_cancel]
   exact ⟨fun _ => .inr k,fun _=>h⟩
theorem rvalidH (s fa:Bool) (a:List Int) (hs:J.ZaB a.length) (m:Nat):∀ i:Nat,i+m=a.length->(∀ j,j<i->a.getD j default<1000000000) ->
  Zdh s fa a i (Zag (.bool (J.val s a))):=by
 have hs':=hs
 unfold J.ZaB at hs'
 induction m with
 | zero =>
  intro i hi hall
  have h1:a.all (fun x=>decide (x<1000000000))=true:=by
   rw [List.all_eq_true]
   intro x hx
   obtain ⟨j,hj,rfl⟩:=List.mem_iff_getElem.1 hx
   have:=hall j (by omega)
   rw [List.getD_eq_getElem?_getD,List.getElem?_eq_getElem hj] at this
   simpa using this
  refine rValidA _ _ _ _ _ ⟨fun h=>by omega,fun _=>⟨hs,?_⟩⟩
  congr 1
  unfold J.val
  rw [h1,Bool.true_and]
  have ht:=trimL_same a
  by_cases h0:a.length=0
  ·have e1:(((J.Zbw a).length:Int)==(a.length:Int))=true:=by
    have:=ht.2 (.inl h0)
    simp only [beq_iff_eq];omega
   rw [e1,show decide (0<a.length)=false from decide_eq_false (by omega),show decide ((a.length:Int)>0)=false from decide_eq_false (by omega)]
   cases s <;> rfl
  ·rw [show decide (0<a.length)=true from decide_eq_true (by omega),show decide ((a.length:Int)>0)=true from decide_eq_true (by omega)]
   by_cases hz:a.getD (a.length-1) default=0
   ·have:¬(J.Zbw a).length=a.length:=fun e=>by rcases ht.1 e with h | h;exact h0 h;exact h hz
    have e1:(((J.Zbw a).length:Int)==(a.length:Int))=false:=by rw [beq_eq_false_iff_ne];omega
    rw [e1,hz];rfl
   ·have e1:(((J.Zbw a).length:Int)==(a.length:Int))=true:=by
     have:=ht.2 (.inr hz)
     simp only [beq_iff_eq];omega
    rw [e1]
    have e2:(a.getD (a.length-1) default != 0)=true:=by simpa using hz
    simp only [cond_true,e2]
    cases s <;> rfl
 | succ m ih =>
  intro i hi hall
  refine rValidA _ _ _ _ _ ⟨fun h=>⟨by omega,by omega,fun k => ?_,fun k=>⟨by omega,?_⟩⟩,fun h=>by omega⟩
  ·have:J.val s a=false:=by
    unfold J.val
    have:a.all (fun x=>decide (x<1000000000))=false:=by
     rw [List.all_eq_false]
     have hlt:i<a.length:=by omega
     refine ⟨a[i],List.getElem_mem hlt,?_⟩
     rw [Int.toNat_natCast,List.getD_eq_getElem?_getD,List.getElem?_eq_getElem hlt] at k
     simp only [Option.getD_some] at k
     simp;omega
    rw [this];rfl
   rw [this]
  ·have:=ih (i+1) (by omega) fun j hj=>by
    by_cases e:j=i
    ·subst e
     rw [Int.toNat_natCast] at k;omega
    ·exact hall j (by omega)
   rwa [show ((i+1:Nat):Int)=(i:Int)+1 by omega] at this
theorem ev78_a (s fa:Bool) (a:List Int) (h:J.ZaB a.length):Ev M1 (.pure 78 [.agg [.bool s,.vec fa 1 (a.map (.int .u32))]]) (.bool (J.val s a)) []:=
 call78 (rValid _ _ _ _ (rvalidH s fa a h a.length 0 (by omega) (fun j hj=>by omega)))
theorem ev78 (fa:Bool) (v:Int) (h:J.ok v):Ev M1 (.pure 78 [bigA fa v]) (.bool true) []:=by
 have:=ev78_a (J.Zaa v) fa (J.Zab v) (by rw [ZaX];exact h)
 rwa [val_true] at this
end Go.Av

namespace Go.Av
open Go.Proofs
set_option maxRecDepth 100000
def fi79:Fi:=⟨18,[.tmp 4]⟩
def kp79:List (Nat × List Nat):=[(0,[2,3]),(1,[4])]
def fi88:Fi:=⟨16,[.cell 4 24]⟩
def kp88:List (Nat × List Nat):=[(0,[2,3,4]),(1,[4])]
def fi90:Fi:=⟨40,[.cell 4 24]⟩
def kp90:List (Nat × List Nat):=[(0,[2,3,4]),(1,[2,3,4,9]),(2,[4]),(3,[2,3,4,23]),(4,[4]),(5,[4])]
def fi111:Fi:=⟨24,[.tmp 4]⟩
def kp111:List (Nat × List Nat):=[(0,[2,3]),(1,[2,3,9]),(2,[11]),(3,[4]),(4,[4]),(5,[2,3,13]),(6,[4]),(7,[4])]
def fi122:Fi:=⟨9,[.cell 2 24]⟩
def kp122:List (Nat × List Nat):=[(0,[1,2]),(1,[2])]
def fi153:Fi:=⟨10,[.tmp 4]⟩
def kp153:List (Nat × List Nat):=[(0,[0,1]),(1,[4])]
def fi157:Fi:=⟨9,[.cell 4 24]⟩
def kp157:List (Nat × List Nat):=[(0,[2,3,4]),(1,[4])]
def rSub_at (fa fb:Bool) (a b:Int) (Q:AV->Heap->Prop):Prop:=Wp M1 (.run fi157 (atC (cd Tryz.f157) []) [(0,bigA fa a),(1,bigA fb b)] []) Q
def rAdd_at (fa fb:Bool) (a b:Int) (Q:AV->Heap->Prop):Prop:=Wp M1 (.run fi90 (atC (cd Tryz.f90) []) [(0,bigA fa a),(1,bigA fb b)] []) Q
def rMul_at (fa fb:Bool) (a b:Int) (Q:AV->Heap->Prop):Prop:=Wp M1 (.run fi88 (atC (cd Tryz.f88) []) [(0,bigA fa a),(1,bigA fb b)] []) Q
def rNeg_at (fa:Bool) (v:Int) (Q:AV->Heap->Prop):Prop:=Wp M1 (.run fi122 (atC (cd Tryz.f122) []) [(0,bigA fa v)] []) Q
def rCmp_at (fa fb:Bool) (a b:Int) (Q:AV->Heap->Prop):Prop:=Wp M1 (.run fi111 (atC (cd Tryz.f111) []) [(0,bigA fa a),(1,bigA fb b)] []) Q
def rSame_at (fa fb:Bool) (a b:Int) (Q:AV->Heap->Prop):Prop:=Wp M1 (.run fi79 (atC (cd Tryz.f79) []) [(0,bigA fa a),(1,bigA fb b)] []) Q
def rBy_at (fa:Bool) (v:Nat) (x:Int) (Q:AV->Heap->Prop):Prop:=Wp M1 (.run fi153 (atC (cd Tryz.f153) []) [(0,.vec fa 1 ((J.lim v).map (.int .u32))),(1,.int .u32 x)] []) Q
theorem call79 {args:List AV} {d:AV} (h:wc M1 fi79 Tryz.f79 args d):Ev M1 (.pure 79 args) d []:=pcl _ _ (by kernel_rfl) h
theorem call88 {args:List AV} {d:AV} (h:wc M1 fi88 Tryz.f88 args d):Ev M1 (.pure 88 args) d []:=pcl _ _ (by kernel_rfl) h
theorem call90 {args:List AV} {d:AV} (h:wc M1 fi90 Tryz.f90 args d):Ev M1 (.pure 90 args) d []:=pcl _ _ (by kernel_rfl) h
theorem call111 {args:List AV} {d:AV} (h:wc M1 fi111 Tryz.f111 args d):Ev M1 (.pure 111 args) d []:=pcl _ _ (by kernel_rfl) h
theorem call122 {args:List AV} {d:AV} (h:wc M1 fi122 Tryz.f122 args d):Ev M1 (.pure 122 args) d []:=pcl _ _ (by kernel_rfl) h
theorem call153 {args:List AV} {d:AV} (h:wc M1 fi153 Tryz.f153 args d):Ev M1 (.pure 153 args) d []:=pcl _ _ (by kernel_rfl) h
theorem call157 {args:List AV} {d:AV} (h:wc M1 fi157 Tryz.f157 args d):Ev M1 (.pure 157 args) d []:=pcl _ _ (by kernel_rfl) h
theorem rSub (fa fb:Bool) (a b:Int)  (dq:AV) (H :
  ∃ (b1:Bool) (l1:List Int),
  (Ev M1 (Conf.pure 122 [bigA fb b]) (ag [vb b1,vf (us l1)]) []) /\
  ∃ (b2:Bool) (l2:List Int),
  (Ev M1 (Conf.pure 90 [bigA fa a,ag [vb b1,vf (us l1)]]) (ag [vb b2,vf (us l2)]) []) /\
  Weak (ag [vb b2,vf (us l2)]) dq) :
 rSub_at fa fb a b (Zag dq):=by
 unfold rSub_at
 obtain ⟨b1,l1,k1,b2,l2,k2,H⟩:=H
 exact Zah (G:=Zad kp157 [(1,2,.call (ag [vb b1,vf (us l1)]) none),(1,3,.call (ag [vb b2,vf (us l2)]) none)] []) 1000 [] (ag [vb b2,vf (us l2)]) (by kernel_rfl) (bc rfl (bc rfl (bc rfl b0))) q0 (ce k1 (ce k2 c0)) H
theorem rAdd (fa fb:Bool) (a b:Int)  (dq:AV) (H :
  ((J.Zaa a=J.Zaa b)->(J.okB a/\J.okB b) /\
   (J.ZaB (J.cnt (a.natAbs+b.natAbs))) /\
   Weak (bigA false (J.sg (J.Zaa a) (a.natAbs+b.natAbs))) dq) /\
  (¬(J.Zaa a=J.Zaa b)->(J.ok a/\J.ok b) /\
   ((J.sgnI ((↑a.natAbs:Int)-(↑b.natAbs:Int))>=0)->(J.ok a/\b.natAbs<=a.natAbs) /\
    (J.ZaB (J.cnt (a.natAbs-b.natAbs))) /\
    Weak (bigA false (J.sg (J.Zaa a) (a.natAbs-b.natAbs))) dq) /\
   (¬(J.sgnI ((↑a.natAbs:Int)-(↑b.natAbs:Int))>=0)->(J.ok b/\a.natAbs<=b.natAbs) /\
    (J.ZaB (J.cnt (b.natAbs-a.natAbs))) /\
    Weak (bigA false (J.sg (J.Zaa b) (b.natAbs-a.natAbs))) dq))) :
 rAdd_at fa fb a b (Zag dq):=by
 unfold rAdd_at
 rcases xq H with ⟨d2,H⟩|⟨d2,H⟩
 ·obtain ⟨k3,k4,H⟩:=H
  exact Zah (G:=Zad kp90 [(2,6,.call (vf (us (J.lim (a.natAbs+b.natAbs)))) none),(2,7,.call (bigA false (J.sg (J.Zaa a) (a.natAbs+b.natAbs))) none)] []) 1000 [true] (bigA false (J.sg (J.Zaa a) (a.natAbs+b.natAbs))) (by kernel_rfl) (bc rfl (bc rfl (bc (Zaq (i_eq.2 d2)) (bc rfl (bc rfl (bc rfl (bc rfl b0))))))) q0 (ce (@ev129 fa fb a b k3) (ce (@Zc8 (J.Zaa a) false (a.natAbs+b.natAbs) k4) c0)) H
 ·obtain ⟨k5,H⟩:=H
  refine Zae (G:=Zad kp90 [(3,4,.call (vi (J.sgnI ((↑a.natAbs:Int)-(↑b.natAbs:Int)))) none)] []) 10 [false] ⟨(atC (cd Tryz.f90) [1,1,0,1]),[(2,AV.ptr 0 0 0 0),(3,AV.ptr 1 0 0 0),(4,AV.ptr 2 0 0 0),(23,vb (decide (J.sgnI ((↑a.natAbs:Int)-(↑b.natAbs:Int))>=0)))],[⟨[bigA fa a],2,0,false,false⟩,⟨[bigA fb b],2,0,false,false⟩,⟨[ag [vb false,AV.vnil]],2,0,false,false⟩],_,[],_⟩ (by kernel_rfl) (bc rfl (bc rfl (bc (Zam (fun h=>d2 (i_eq.1 h))) (bc rfl (bc rfl b0))))) q0 (ce (@ev116 fa fb a b k5) c0) ?_
  rcases xq H with ⟨d7,H⟩|⟨d7,H⟩
  ·obtain ⟨k8,k9,H⟩:=H
   exact Zah (G:=Zad kp90 [(4,6,.call (vf (us (J.lim (a.natAbs-b.natAbs)))) none),(4,7,.call (bigA false (J.sg (J.Zaa a) (a.natAbs-b.natAbs))) none)] []) 1000 [true] (bigA false (J.sg (J.Zaa a) (a.natAbs-b.natAbs))) (by kernel_rfl) (bc (Zaq (Zac.2 d7)) (bc rfl (bc rfl (bc rfl (bc rfl b0))))) q0 (ce (@ev130 fa fb a b k8) (ce (@Zc8 (J.Zaa a) false (a.natAbs-b.natAbs) k9) c0)) H
  ·obtain ⟨k10,k11,H⟩:=H
   exact Zah (G:=Zad kp90 [(5,6,.call (vf (us (J.lim (b.natAbs-a.natAbs)))) none),(5,7,.call (bigA false (J.sg (J.Zaa b) (b.natAbs-a.natAbs))) none)] []) 1000 [false] (bigA false (J.sg (J.Zaa b) (b.natAbs-a.natAbs))) (by kernel_rfl) (bc (Zam (fun h=>d7 (Zac.1 h))) (bc rfl (bc rfl (bc rfl (bc rfl b0))))) q0 (ce (@ev130 fb fa b a k10) (ce (@Zc8 (J.Zaa b) false (b.natAbs-a.natAbs) k11) c0)) H
theorem rMul (fa fb:Bool) (a b:Int)  (dq:AV) (H :
  (J.okB a/\J.okB b) /\
  (J.ZaB (J.cnt (a.natAbs*b.natAbs))) /\
  Weak (bigA false (J.sg (!J.Zaa a==J.Zaa b) (a.natAbs*b.natAbs))) dq) :
 rMul_at fa fb a b (Zag dq):=by
 unfold rMul_at
 obtain ⟨k1,k2,H⟩:=H
 exact Zah (G:=Zad kp88 [(1,9,.call (vf (us (J.lim (a.natAbs*b.natAbs)))) none),(1,10,.call (bigA false (J.sg (!J.Zaa a==J.Zaa b) (a.natAbs*b.natAbs))) none)] []) 1000 [] (bigA false (J.sg (!J.Zaa a==J.Zaa b) (a.natAbs*b.natAbs))) (by kernel_rfl) (bc rfl (bc rfl (bc rfl (bc rfl (bc rfl b0))))) q0 (ce (@ev127 fa fb a b k1) (ce (@Zc8 (!J.Zaa a==J.Zaa b) false (a.natAbs*b.natAbs) k2) c0)) H
theorem rNeg (fa:Bool) (v:Int)  (dq:AV) (H :
  (J.ok v) /\
  Weak (bigA false (J.sg (!J.Zaa v) v.natAbs)) dq) :
 rNeg_at fa v (Zag dq):=by
 unfold rNeg_at
 obtain ⟨k1,H⟩:=H
 exact Zah (G:=Zad kp122 [(1,5,.call (bigA false (J.sg (!J.Zaa v) v.natAbs)) none)] []) 1000 [] (bigA false (J.sg (!J.Zaa v) v.natAbs)) (by kernel_rfl) (bc rfl (bc rfl (bc rfl b0))) q0 (ce (@ev118_a (!J.Zaa v) fa v k1) c0) H
theorem rCmp (fa fb:Bool) (a b:Int)  (dq:AV) (H :
  ((¬(J.Zaa a=J.Zaa b))->((J.Zaa a=true)->vi (-1)=dq) /\
   (¬(J.Zaa a=true)->vi 1=dq)) /\
  (¬(¬(J.Zaa a=J.Zaa b))->((J.Zaa a=true)->(J.ok b/\J.ok a) /\
    vi (J.sgnI ((↑b.natAbs:Int)-(↑a.natAbs:Int)))=dq) /\
   (¬(J.Zaa a=true)->(J.ok a/\J.ok b) /\
    vi (J.sgnI ((↑a.natAbs:Int)-(↑b.natAbs:Int)))=dq))) :
 rCmp_at fa fb a b (Zag dq):=by
 unfold rCmp_at
 rcases xq H with ⟨d2,H⟩|⟨d2,H⟩
 ·rcases xq H with ⟨d4,H⟩|⟨d4,H⟩
  ·exact Zao (G:=Zad kp111 [] []) 1000 [true,true] (asm:=[true,true,(!J.Zaa a==J.Zaa b)==true,0==0,(J.Zaa a)==true]) (vi (-1)) (by kernel_rfl) (bc rfl (bc rfl (bc (Zaq ((ZaH i_eq).2 d2)) (bc (beq_self_eq_true _) (bc (Zaq ((Zas _).2 d4)) b0))))) q0 c0 H
  ·exact Zao (G:=Zad kp111 [] []) 1000 [true,false] (asm:=[true,true,(!J.Zaa a==J.Zaa b)==true,0==0,(J.Zaa a)==false]) (vi 1) (by kernel_rfl) (bc rfl (bc rfl (bc (Zaq ((ZaH i_eq).2 d2)) (bc (beq_self_eq_true _) (bc (Zam (fun h=>d4 ((Zas _).1 h))) b0))))) q0 c0 H
 ·rcases xq H with ⟨d6,H⟩|⟨d6,H⟩
  ·obtain ⟨k7,H⟩:=H
   exact Zao (G:=Zad kp111 [(6,4,.call (vi (J.sgnI ((↑b.natAbs:Int)-(↑a.natAbs:Int)))) none)] []) 1000 [false,true] (asm:=[true,true,(!J.Zaa a==J.Zaa b)==false,0==0,(J.Zaa a)==true,true,true]) (vi (J.sgnI ((↑b.natAbs:Int)-(↑a.natAbs:Int)))) (by kernel_rfl) (bc rfl (bc rfl (bc (Zam (fun h=>d2 ((ZaH i_eq).1 h))) (bc (beq_self_eq_true _) (bc (Zaq ((Zas _).2 d6)) (bc rfl (bc rfl b0))))))) q0 (ce (@ev116 fb fa b a k7) c0) H
  ·obtain ⟨k8,H⟩:=H
   exact Zao (G:=Zad kp111 [(7,4,.call (vi (J.sgnI ((↑a.natAbs:Int)-(↑b.natAbs:Int)))) none)] []) 1000 [false,false] (asm:=[true,true,(!J.Zaa a==J.Zaa b)==false,0==0,(J.Zaa a)==false,true,true]) (vi (J.sgnI ((↑a.natAbs:Int)-(↑b.natAbs:Int)))) (by kernel_rfl) (bc rfl (bc rfl (bc (Zam (fun h=>d2 ((ZaH i_eq).1 h))) (bc (beq_self_eq_true _) (bc (Zam (fun h=>d6 ((Zas _).1 h))) (bc rfl (bc rfl b0))))))) q0 (ce (@ev116 fa fb a b k8) c0) H
theorem rSame (fa fb:Bool) (a b:Int)  (dq:AV) (H :
  ((J.Zaa a=J.Zaa b)->(J.ok a/\J.ok b)) /\
  vb (bif J.Zaa a==J.Zaa b then J.sgnI ((↑a.natAbs:Int)-(↑b.natAbs:Int))==0 else false)=dq) :
 rSame_at fa fb a b (Zag dq):=by
 unfold rSame_at
 obtain ⟨k2,H⟩:=H
 exact Zao (G:=Zad kp79 [(1,10,.call (vi (J.sgnI ((↑a.natAbs:Int)-(↑b.natAbs:Int)))) none)] []) 1000 [] (asm:=[true,true,!((J.Zaa a==J.Zaa b)==true&&true)||true,!((J.Zaa a==J.Zaa b)==true&&true)||true]) (calls:=[⟨(J.Zaa a==J.Zaa b)==true&&true&&true,false,116,[AV.vec fa 1 (us (J.Zab a)),AV.vec fb 1 (us (J.Zab b))],[],vi (J.sgnI ((↑a.natAbs:Int)-(↑b.natAbs:Int))),[]⟩]) (vb (bif J.Zaa a==J.Zaa b then J.sgnI ((↑a.natAbs:Int)-(↑b.natAbs:Int))==0 else false)) (by kernel_rfl) (bc rfl (bc rfl (bc (Bool.or_true _) (bc (Bool.or_true _) b0)))) q0 (cc (fun hc=>((@ev116 fa fb a b (k2 ((i_at (i_at (i_bt i_eq))).1 hc))):Ev M1 (Conf.pure 116 [AV.vec fa 1 (us (J.Zab a)),AV.vec fb 1 (us (J.Zab b))]) (vi (J.sgnI ((↑a.natAbs:Int)-(↑b.natAbs:Int)))) [])) c0) H
theorem rBy (fa:Bool) (v:Nat) (x:Int)  (dq:AV) (H :
  ∃ (l1:List Int),
  (Ev M1 (Conf.pure 115 [AV.vec true 1 [vu x]]) (vf (us l1)) []) /\
  ∃ (l2:List Int),
  (Ev M1 (Conf.pure 127 [AV.vec fa 1 (us (J.lim v)),vf (us l1)]) (vf (us l2)) []) /\
  Weak (vf (us l2)) dq) :
 rBy_at fa v x (Zag dq):=by
 unfold rBy_at
 obtain ⟨l1,k1,l2,k2,H⟩:=H
 exact Zah (G:=Zad kp153 [(1,3,.call (vf (us l1)) none),(1,4,.call (vf (us l2)) none)] []) 1000 [] (vf (us l2)) (by kernel_rfl) b0 q0 (ce k1 (ce k2 c0)) H
end Go.Av

namespace Go.Av
open Go.Proofs
theorem Zc9 {n v:Nat} (h:J.fits n v):J.cnt v<=n:=Zaz.1 h
theorem ZbK {n:Int}:J.sgnI n=0 ↔ n=0:=by
 unfold J.sgnI
 (repeat' split) <;> omega
theorem ev90 (fa fb:Bool) (a b:Int) (h:J.okB a/\J.okB b):Ev M1 (.pure 90 [bigA fa a,bigA fb b]) (bigA false (a+b)) []:=by
 obtain ⟨ha,hb⟩:=h
 have oa:=Zcz ha
 have ob:=Zcz hb
 have ha':=ha
 have hb':=hb
 unfold J.okB at ha' hb'
 refine call90 (rAdd _ _ _ _ _ ⟨fun h=>⟨⟨ha,hb⟩,?_,?_⟩,fun h=>⟨⟨oa,ob⟩,fun k=>⟨⟨oa,?_⟩,?_,?_⟩,fun k=>⟨⟨ob,?_⟩,?_,?_⟩⟩⟩)
 ·have:=Zc9 (Zc4 (ZaP (Zai a.natAbs) ha') (ZaP (Zai b.natAbs) hb'))
  unfold J.ZaB;omega
 ·rw [sg_add h];exact .refl _
 ·have k:¬(J.sgnI ((a.natAbs:Int)-(b.natAbs:Int))<0):=by omega
  rw [Zbn] at k;omega
 ·have:=ZaJ (Nat.sub_le a.natAbs b.natAbs)
  unfold J.ZaB;omega
 ·have k:¬(J.sgnI ((a.natAbs:Int)-(b.natAbs:Int))<0):=by omega
  rw [Zbn] at k
  rw [sg_sub h (by omega)];exact .refl _
 ·have k:J.sgnI ((a.natAbs:Int)-(b.natAbs:Int))<0:=by omega
  rw [Zbn] at k;omega
 ·have:=ZaJ (Nat.sub_le b.natAbs a.natAbs)
  unfold J.ZaB;omega
 ·have k:J.sgnI ((a.natAbs:Int)-(b.natAbs:Int))<0:=by omega
  rw [Zbn] at k
  rw [sg_sub (fun x=>h x.symm) (by omega),Int.add_comm];exact .refl _
theorem ev88 (fa fb:Bool) (a b:Int) (h:J.okB a/\J.okB b):Ev M1 (.pure 88 [bigA fa a,bigA fb b]) (bigA false (a*b)) []:=by
 refine call88 (rMul _ _ _ _ _ ⟨h,?_,?_⟩)
 ·have:=Zc9 (ZcV (ZaP (Zai a.natAbs) h.1) (ZaP (Zai b.natAbs) h.2))
  unfold J.ZaB;omega
 ·rw [sg_mul];exact .refl _
theorem sg_not (v:Int):J.sg (!J.Zaa v) v.natAbs = -v:=by
 unfold J.sg
 by_cases k:v<0
 ·rw [Zak.2 k,if_neg (by simp)];omega
 ·rw [ZaY k,if_pos (by simp)];omega
theorem ev122 (fa:Bool) (v:Int) (h:J.ok v):Ev M1 (.pure 122 [bigA fa v]) (bigA false (-v)) []:=by
 refine call122 (rNeg _ _ _ ⟨h,?_⟩)
 rw [sg_not];exact .refl _
theorem ev157 (fa fb:Bool) (a b:Int) (h:J.okB a/\J.okB b):Ev M1 (.pure 157 [bigA fa a,bigA fb b]) (bigA false (a-b)) []:=by
 have hb:J.okB (-b):=by have:=h.2;unfold J.okB at *;rwa [Int.natAbs_neg]
 have en:=ev122 fb b (Zcz h.2)
 have ea:=ev90 fa false a (-b) ⟨h.1,hb⟩
 exact call157 (rSub _ _ _ _ _ ⟨_,_,en,_,_,ea,.refl _⟩)
theorem ev157_a (fa:Bool) (a:Int) (h:J.okB a):Ev M1 (.pure 157 [bigA fa a,.agg [.bool false,.vec false 1 ((J.Zab 1).map (.int .u32))]]) (bigA false (a-1)) []:=
 ev157 fa false a 1 ⟨h,Ze7 (by decide)⟩
theorem ev111 (fa fb:Bool) (a b:Int) (h:J.okB a/\J.okB b):Ev M1 (.pure 111 [bigA fa a,bigA fb b]) (.int .i64 (J.sgnI (a-b))) []:=by
 have oa:=Zcz h.1
 have ob:=Zcz h.2
 refine call111 (rCmp _ _ _ _ _ ⟨fun k=>⟨fun ka => ?_,fun ka => ?_⟩,fun k=>⟨fun ka=>⟨⟨ob,oa⟩,?_⟩,fun ka=>⟨⟨oa,ob⟩,?_⟩⟩⟩)
 ·have kb:¬b<0:=fun x=>k (by rw [ka,Zak.2 x])
  rw [Zak] at ka
  congr 1;unfold J.sgnI;rw [if_pos (by omega)]
 ·have kb:b<0:=by
   by_cases kb:b<0
   ·exact kb
   ·exact absurd (by rw [Bool.eq_false_iff.2 ka,ZaY kb]) k
  have ka:¬a<0:=fun x=>ka (Zak.2 x)
  congr 1;unfold J.sgnI;rw [if_neg (by omega),if_pos (by omega)]
 ·have k:=Classical.not_not.1 k
  have kb:=Zak.1 (k ▸ ka)
  rw [Zak] at ka
  congr 2;omega
 ·have k:=Classical.not_not.1 k
  have kb:¬b<0:=fun x=>ka (by rw [k];exact Zak.2 x)
  have ka:¬a<0:=fun x=>ka (Zak.2 x)
  congr 2;omega
theorem ev79 (fa fb:Bool) (a b:Int) (h:J.ok a/\J.ok b):Ev M1 (.pure 79 [bigA fa a,bigA fb b]) (.bool (decide (a=b))) []:=by
 refine call79 (rSame _ _ _ _ _ ⟨fun _=>h,?_⟩)
 congr 1
 by_cases ka:a<0 <;> by_cases kb:b<0
 ·rw [Zak.2 ka,Zak.2 kb]
  have:(J.sgnI ((a.natAbs:Int)-(b.natAbs:Int))==0)=decide (a=b):=by
   rw [Bool.eq_iff_iff,beq_iff_eq,ZbK,decide_eq_true_eq];omega
  simpa using this
 ·rw [Zak.2 ka,ZaY kb]
  have:decide (a=b)=false:=decide_eq_false (by omega)
  rw [this];rfl
 ·rw [ZaY ka,Zak.2 kb]
  have:decide (a=b)=false:=decide_eq_false (by omega)
  rw [this];rfl
 ·rw [ZaY ka,ZaY kb]
  have:(J.sgnI ((a.natAbs:Int)-(b.natAbs:Int))==0)=decide (a=b):=by
   rw [Bool.eq_iff_iff,beq_iff_eq,ZbK,decide_eq_true_eq];omega
  simpa using this
def J.dig (x:Int):Prop:=0<=x/\x<1000000000
theorem ZhD (fa:Bool) (v:Nat) (x:Int) (h:J.okB v/\J.dig x):Ev M1 (.pure 153 [usA fa (J.lim v),.int .u32 x]) (usA false (J.lim (v*x.toNat))) []:=by
 obtain ⟨h1,h2,h3⟩:=h
 have e:[AV.int .u32 x]=(J.Zay 1 x.toNat).map (.int .u32):=by
  simp only [J.Zay,List.map_cons,List.map_nil]
  have:((x.toNat % 1000000000:Nat):Int)=x:=by omega
  rw [this]
 have hx:J.fits 1 x.toNat:=by unfold J.fits;omega
 have t1:=rtrimN true 1 x.toNat ⟨by unfold J.ZaB;omega,hx⟩
 have hc:=Zc9 hx
 have t2:=ev127_a fa false v x.toNat ⟨h1,by unfold J.okB;rw [Int.natAbs_natCast];omega⟩
 have t1':Ev M1 (.pure 115 [.vec true 1 [.int .u32 x]]) (usA false (J.lim x.toNat)) []:=by rw [e];exact t1
 exact call153 (rBy _ _ _ _ ⟨_,t1',_,t2,.refl _⟩)
theorem lim_cons (x R:Nat) (hx:x<1000000000):J.Zbw ((x:Int)::J.lim R)=J.lim (x+1000000000*R):=by
 have e:((x:Int)::J.lim R)=J.Zay (J.cnt R+1) (x+1000000000*R):=by
  rw [ZaF]
  have e1:(x+1000000000*R) % 1000000000=x:=by omega
  have e2:(x+1000000000*R) / 1000000000=R:=by omega
  rw [e1,e2];rfl
 rw [e]
 refine Zb7 (Zb5.2 ?_)
 have e2:(x+1000000000*R) / 1000000000=R:=by omega
 rw [e2];exact Zai R
end Go.Av

namespace Go.Av
open Go.Proofs
theorem ev115_c (fa:Bool) (x:Int) (R:Nat) (h:0<=x/\x<1000000000/\J.cnt R<=900000):Ev M1 (.pure 115 [.vec fa 1 (.int .u32 x::(J.lim R).map (.int .u32))]) (usA false (J.lim (x.toNat+1000000000*R))) []:=by
 obtain ⟨n,rfl⟩:=Int.eq_ofNat_of_zero_le h.1
 have:=Zd7 fa ((n:Int)::J.lim R) (by unfold J.ZaB;simp only [List.length_cons,ZaN];omega)
 rw [lim_cons n R (by omega)] at this
 exact this
end Go.Av

namespace Go.Av
open Go.Proofs
set_option maxRecDepth 100000
def ZfZ:Fi:=⟨173,[.tmp 4,.tmp 5]⟩
def Zcp:List (Nat × List Nat):=[(0,[0,1]),(1,[0,1,28]),(2,[6,7]),(3,[4,5]),(4,[0,1,8]),(5,[0,8,9]),(6,[0,8,9,10]),(7,[0,8,9,10,11]),(8,[0,8,9,10,11,12]),(9,[8,9,10,11,12,13]),(10,[8,9,10,11,12,13]),(11,[8,9,10,11,12,13,14]),(12,[8,9,10,11,12,13,14,76]),(13,[8,9,10,11,12,13,14]),(14,[8,9,10,11,12,13,14]),(15,[8,9,10,11,12,13,14,15]),(16,[8,9,10,11,12,13,14,15,91]),(17,[8,9,10,11,12,13,14,15]),(18,[8,9,10,11,12,13,14,15,103]),(19,[8,9,10,11,12,13,14,15]),(20,[8,9,10,11,12,13,14,16]),(21,[8,9,10,11,12,13,14,16,117]),(22,[8,9,10,11,12,13,14,16]),(23,[8,9,10,11,12,13,14,16,17]),(24,[8,9,10,11,12,13,14,16,17,125]),(25,[8,9,10,11,12,13,14,16,17]),(26,[8,9,10,11,12,13,14,16,17]),(27,[8,9,10,11,12,13,14,16]),(28,[8,9,10,11,12,13,14]),(29,[8,11,12,18]),(30,[8,11,12,18,19]),(31,[8,11,12,18,19,20]),(32,[8,11,12,18,19,20,146]),(33,[8,11,12,18,19,20]),(34,[8,11,12,18,19,20]),(35,[8,11,12,18,19,20]),(36,[8,11,12,18,19,20]),(37,[4,5])]
def rParts_at (fa fb:Bool) (A D:Nat) (Q:AV->Heap->Prop):Prop:=Wp M1 (.run ZfZ (atC (cd Tryz.f117) []) [(0,.vec fa 1 ((J.lim A).map (.int .u32))),(1,.vec fb 1 ((J.lim D).map (.int .u32)))] []) Q
def ZcT (V U:Nat) (s t i:Int) (n:Nat) (o:List Int) (Q:AV->Heap->Prop):Prop:=Wp M1 (.run ZfZ (atC (cd Tryz.f117) [1,1,1,1,1,1,1,1,1,0,1,0,0]) [(8,.int .u32 s),(9,.vec false 1 ((J.lim V).map (.int .u32))),(10,.int .u64 t),(11,.vnil),(12,.ref 0 0 0 n),(13,.vec false 1 ((J.lim U).map (.int .u32))),(14,.int .i64 i)] [⟨o.map (.int .u32),1,0,false,true⟩]) Q
def Zdx (V U:Nat) (s t i:Int) (n:Nat) (o:List Int) (Q:AV->Heap->Prop):Prop:=Wp M1 (.run ZfZ (atC (cd Tryz.f117) [1,1,1,1,1,1,1,1,1,0,1,0,0]) [(8,.int .u32 s),(9,.vec false 1 ((J.lim V).map (.int .u32))),(10,.int .u64 t),(11,.vec false 1 []),(12,.ref 0 0 0 n),(13,.vec false 1 ((J.lim U).map (.int .u32))),(14,.int .i64 i)] [⟨o.map (.int .u32),1,0,false,true⟩]) Q
def Zei (V U:Nat) (s t i:Int) (n:Nat) (o:List Int) (c:Int) (l:List Int) (Q:AV->Heap->Prop):Prop:=Wp M1 (.run ZfZ (atC (cd Tryz.f117) [1,1,1,1,1,1,1,1,1,0,1,0,0]) [(8,.int .u32 s),(9,.vec false 1 ((J.lim V).map (.int .u32))),(10,.int .u64 t),(11,.vec false 1 ((c::l).map (.int .u32))),(12,.ref 0 0 0 n),(13,.vec false 1 ((J.lim U).map (.int .u32))),(14,.int .i64 i)] [⟨o.map (.int .u32),1,0,false,true⟩]) Q
def Zdk (V U:Nat) (s t i:Int) (n:Nat) (o:List Int) (R2:Nat) (Q:AV->Heap->Prop):Prop:=Wp M1 (.run ZfZ (atC (cd Tryz.f117) [1,1,1,1,1,1,1,1,1,0,1,0,0,1,0,0,1,0]) [(8,.int .u32 s),(9,.vec false 1 ((J.lim V).map (.int .u32))),(10,.int .u64 t),(11,.vec false 1 ((J.lim R2).map (.int .u32))),(12,.ref 0 0 0 n),(13,.vec false 1 ((J.lim U).map (.int .u32))),(14,.int .i64 i)] [⟨o.map (.int .u32),1,0,false,true⟩]) Q
def Zb8 (V U:Nat) (s t i:Int) (n:Nat) (o:List Int) (R:Nat) (Q:AV->Heap->Prop):Prop:=Wp M1 (.run ZfZ (atC (cd Tryz.f117) [1,1,1,1,1,1,1,1,1,0,1,0,0]) [(8,.int .u32 s),(9,.vec false 1 ((J.lim V).map (.int .u32))),(10,.int .u64 t),(11,.vec false 1 ((J.lim R).map (.int .u32))),(12,.ref 0 0 0 n),(13,.vec false 1 ((J.lim U).map (.int .u32))),(14,.int .i64 i)] [⟨o.map (.int .u32),1,0,false,true⟩]) Q
def Zbd (V U:Nat) (s t i:Int) (n:Nat) (o:List Int) (R p:Nat) (g:Int) (Q:AV->Heap->Prop):Prop:=Wp M1 (.run ZfZ (atC (cd Tryz.f117) [1,1,1,1,1,1,1,1,1,0,1,0,0,1,0,0,1,1,1,1,1,1,1,0,0,0]) [(8,.int .u32 s),(9,.vec false 1 ((J.lim V).map (.int .u32))),(10,.int .u64 t),(11,.vec false 1 ((J.lim R).map (.int .u32))),(12,.ref 0 0 0 n),(13,.vec false 1 ((J.lim U).map (.int .u32))),(14,.int .i64 i),(16,.int .u64 g),(17,.vec false 1 ((J.lim p).map (.int .u32)))] [⟨o.map (.int .u32),1,0,false,true⟩]) Q
def ZeG (s:Int) (n:Nat) (o:List Int) (Q:AV->Heap->Prop):Prop:=Wp M1 (.run ZfZ (atC (cd Tryz.f117) [1,1,1,1,1,1,1,1,1,1,1,1,0,1,0,0]) [(8,.int .u32 s),(11,.vnil),(12,.ref 0 0 0 n),(18,.int .u64 0),(19,.row 1 0),(20,.int .i64 (-1))] [⟨o.map (.int .u32),1,0,false,true⟩,⟨[],1,0,false,true⟩]) Q
def ZcN (R:Nat) (s c i:Int) (n:Nat) (o l:List Int) (Q:AV->Heap->Prop):Prop:=Wp M1 (.run ZfZ (atC (cd Tryz.f117) [1,1,1,1,1,1,1,1,1,1,1,1,0,1,0,0]) [(8,.int .u32 s),(11,.vec false 1 ((J.lim R).map (.int .u32))),(12,.ref 0 0 0 n),(18,.int .u64 c),(19,.row 1 0),(20,.int .i64 i)] [⟨o.map (.int .u32),1,0,false,true⟩,⟨l.map (.int .u32),1,0,false,true⟩]) Q
theorem call117 {args:List AV} {d:AV} (h:wc M1 ZfZ Tryz.f117 args d):Ev M1 (.pure 117 args) d []:=pcl _ _ (by kernel_rfl) h
noncomputable abbrev zNwD1 (D:Nat):=vu ((J.lim (D*(Int.tdiv 1000000000 ((J.lim D).getD ((↑(J.lim D).length:Int)-1).toNat default+1)).toNat)).getD ((↑(J.lim (D*(Int.tdiv 1000000000 ((J.lim D).getD ((↑(J.lim D).length:Int)-1).toNat default+1)).toNat)).length:Int)-1).toNat default)
noncomputable abbrev zNwD2 (D:Nat):=vf (us (J.lim (D*(Int.tdiv 1000000000 ((J.lim D).getD ((↑(J.lim D).length:Int)-1).toNat default+1)).toNat)))
noncomputable abbrev zNwD3 (A:Nat) (D:Nat):=vf (us (J.lim (A*(Int.tdiv 1000000000 ((J.lim D).getD ((↑(J.lim D).length:Int)-1).toNat default+1)).toNat)))
noncomputable abbrev zNwD4 (A:Nat) (D:Nat):=us (J.lim ((↑A:Int).tdiv (↑D:Int)).toNat)
noncomputable abbrev zNwD5 (A:Nat) (D:Nat):=us (J.lim ((↑A:Int).tmod (↑D:Int)).toNat)
theorem rParts (fa fb:Bool) (A D:Nat)  (dq:AV) (H :
  ((((↑(J.lim A).length:Int)<=2)/\((↑(J.lim D).length:Int)<=2))->(J.cnt A<=2) /\
   (J.cnt D<=2) /\
   (0<=(↑A:Int).tdiv (↑D:Int)/\(↑A:Int).tdiv (↑D:Int)<=18446744073709551615) /\
   (0<=(↑A:Int).tmod (↑D:Int)/\(↑A:Int).tmod (↑D:Int)<=18446744073709551615) /\
   (¬(↑D:Int)=0) /\
   Weak (tu [vf (us (J.lim ((↑A:Int).tdiv (↑D:Int)).toNat)),vf (us (J.lim ((↑A:Int).tmod (↑D:Int)).toNat))]) dq) /\
  (¬(((↑(J.lim A).length:Int)<=2)/\((↑(J.lim D).length:Int)<=2))->(-9223372036854775808<=(↑(J.lim D).length:Int)-1/\(↑(J.lim D).length:Int)-1<=9223372036854775807) /\
   (0<=(↑(J.lim D).length:Int)-1) /\
   (((↑(J.lim D).length:Int)-1).toNat<(J.lim D).length) /\
   (0<=(J.lim D).getD ((↑(J.lim D).length:Int)-1).toNat default/\(J.lim D).getD ((↑(J.lim D).length:Int)-1).toNat default<=18446744073709551615) /\
   (0<=(J.lim D).getD ((↑(J.lim D).length:Int)-1).toNat default+1/\(J.lim D).getD ((↑(J.lim D).length:Int)-1).toNat default+1<=18446744073709551615) /\
   (¬(J.lim D).getD ((↑(J.lim D).length:Int)-1).toNat default+1=0) /\
   (0<=Int.tdiv 1000000000 ((J.lim D).getD ((↑(J.lim D).length:Int)-1).toNat default+1)/\Int.tdiv 1000000000 ((J.lim D).getD ((↑(J.lim D).length:Int)-1).toNat default+1)<=18446744073709551615) /\
   (0<=Int.tdiv 1000000000 ((J.lim D).getD ((↑(J.lim D).length:Int)-1).toNat default+1)/\Int.tdiv 1000000000 ((J.lim D).getD ((↑(J.lim D).length:Int)-1).toNat default+1)<=4294967295) /\
   (J.okB (↑D:Int)/\J.dig (Int.tdiv 1000000000 ((J.lim D).getD ((↑(J.lim D).length:Int)-1).toNat default+1))) /\
   (-9223372036854775808<=(↑(J.lim (D*(Int.tdiv 1000000000 ((J.lim D).getD ((↑(J.lim D).length:Int)-1).toNat default+1)).toNat)).length:Int)-1/\(↑(J.lim (D*(Int.tdiv 1000000000 ((J.lim D).getD ((↑(J.lim D).length:Int)-1).toNat default+1)).toNat)).length:Int)-1<=9223372036854775807) /\
   (0<=(↑(J.lim (D*(Int.tdiv 1000000000 ((J.lim D).getD ((↑(J.lim D).length:Int)-1).toNat default+1)).toNat)).length:Int)-1) /\
   (((↑(J.lim (D*(Int.tdiv 1000000000 ((J.lim D).getD ((↑(J.lim D).length:Int)-1).toNat default+1)).toNat)).length:Int)-1).toNat<(J.lim (D*(Int.tdiv 1000000000 ((J.lim D).getD ((↑(J.lim D).length:Int)-1).toNat default+1)).toNat)).length) /\
   (0<=(J.lim (D*(Int.tdiv 1000000000 ((J.lim D).getD ((↑(J.lim D).length:Int)-1).toNat default+1)).toNat)).getD ((↑(J.lim (D*(Int.tdiv 1000000000 ((J.lim D).getD ((↑(J.lim D).length:Int)-1).toNat default+1)).toNat)).length:Int)-1).toNat default/\(J.lim (D*(Int.tdiv 1000000000 ((J.lim D).getD ((↑(J.lim D).length:Int)-1).toNat default+1)).toNat)).getD ((↑(J.lim (D*(Int.tdiv 1000000000 ((J.lim D).getD ((↑(J.lim D).length:Int)-1).toNat default+1)).toNat)).length:Int)-1).toNat default<=18446744073709551615) /\
   (-9223372036854775808<=(↑(J.lim A).length:Int)+1/\(↑(J.lim A).length:Int)+1<=9223372036854775807) /\
   (0<=(↑(J.lim A).length:Int)+1) /\
   (((↑(J.lim A).length:Int)+1)*4<=1099511627776) /\
   ((↑(J.lim A).length:Int)+1<=1099511627776) /\
   (J.okB (↑A:Int)/\J.dig (Int.tdiv 1000000000 ((J.lim D).getD ((↑(J.lim D).length:Int)-1).toNat default+1))) /\
   (0<=(↑(J.lim (A*(Int.tdiv 1000000000 ((J.lim D).getD ((↑(J.lim D).length:Int)-1).toNat default+1)).toNat)).length:Int)) /\
   (0<=(↑(J.lim (A*(Int.tdiv 1000000000 ((J.lim D).getD ((↑(J.lim D).length:Int)-1).toNat default+1)).toNat)).length:Int).toNat) /\
   ((↑(J.lim (A*(Int.tdiv 1000000000 ((J.lim D).getD ((↑(J.lim D).length:Int)-1).toNat default+1)).toNat)).length:Int).toNat<=(List.replicate ((↑(J.lim A).length:Int)+1).toNat (0:Int)).length) /\
   (-9223372036854775808<=(↑(J.lim (A*(Int.tdiv 1000000000 ((J.lim D).getD ((↑(J.lim D).length:Int)-1).toNat default+1)).toNat)).length:Int)-1/\(↑(J.lim (A*(Int.tdiv 1000000000 ((J.lim D).getD ((↑(J.lim D).length:Int)-1).toNat default+1)).toNat)).length:Int)-1<=9223372036854775807) /\
   ZcT (D*(Int.tdiv 1000000000 ((J.lim D).getD ((↑(J.lim D).length:Int)-1).toNat default+1)).toNat) (A*(Int.tdiv 1000000000 ((J.lim D).getD ((↑(J.lim D).length:Int)-1).toNat default+1)).toNat) (Int.tdiv 1000000000 ((J.lim D).getD ((↑(J.lim D).length:Int)-1).toNat default+1)) ((J.lim (D*(Int.tdiv 1000000000 ((J.lim D).getD ((↑(J.lim D).length:Int)-1).toNat default+1)).toNat)).getD ((↑(J.lim (D*(Int.tdiv 1000000000 ((J.lim D).getD ((↑(J.lim D).length:Int)-1).toNat default+1)).toNat)).length:Int)-1).toNat default) ((↑(J.lim (A*(Int.tdiv 1000000000 ((J.lim D).getD ((↑(J.lim D).length:Int)-1).toNat default+1)).toNat)).length:Int)-1) ((↑(J.lim (A*(Int.tdiv 1000000000 ((J.lim D).getD ((↑(J.lim D).length:Int)-1).toNat default+1)).toNat)).length:Int).toNat-0) (List.replicate ((↑(J.lim A).length:Int)+1).toNat (0:Int)) (Zag dq))) :
 rParts_at fa fb A D (Zag dq):=by
 unfold rParts_at
 have w1:(us (J.lim A)).length=(J.lim A).length:=List.length_map ..
 have w2:(us (J.lim D)).length=(J.lim D).length:=List.length_map ..
 have i3:(bif decide ((↑(us (J.lim A)).length:Int)<=2) then decide ((↑(us (J.lim D)).length:Int)<=2) else false)=true ↔ (((↑(J.lim A).length:Int)<=2)/\((↑(J.lim D).length:Int)<=2)):=(by (try rw [w1]);(try rw [w2]);all_goals exact (ZaG Zac Zac))
 rcases xq H with ⟨d4,H⟩|⟨d4,H⟩
 ·obtain ⟨k5,k6,k7,H⟩:=H
  have w8:wu ((↑A:Int).tdiv (↑D:Int))=(↑A:Int).tdiv (↑D:Int):=wU64 k7
  obtain ⟨k9,k11,H⟩:=H
  exact Zah (G:=Zad Zcp [(2,1,.call (vw (↑A:Int)) none),(2,3,.call (vw (↑D:Int)) none),(3,3,.call (vf (zNwD4 A D)) none),(3,7,.call (vf (zNwD5 A D)) none)] []) 1000 [true] (calls:=[pc 119 [AV.vec fa 1 (us (J.lim A))] (vw (↑A:Int)),pc 119 [AV.vec fb 1 (us (J.lim D))] (vw (↑D:Int)),pc 120 [vw (wu ((↑A:Int).tdiv (↑D:Int)))] (vf (zNwD4 A D)),pc 120 [vw ((↑A:Int).tmod (↑D:Int))] (vf (zNwD5 A D))]) (tu [vf (zNwD4 A D),vf (zNwD5 A D)]) (by kernel_rfl) (bc (Zaq (i3.2 d4)) (bc (ZdH.2 k11) (bc (ZdH.2 k11) b0))) q0 (ce (@ev119 fa A k5) (ce (@ev119 fb D k6) (ce (by (try rw [w8]);all_goals exact (@ev120 ((↑A:Int).tdiv (↑D:Int)) k7)) (ce (@ev120 ((↑A:Int).tmod (↑D:Int)) k9) c0)))) H
 ·obtain ⟨k13,H⟩:=H
  have w14:wi ((↑(J.lim D).length:Int)-1)=(↑(J.lim D).length:Int)-1:=wI64 k13
  have i15:(decide (0<=wi ((↑(us (J.lim D)).length:Int)-1)))=true ↔ (0<=(↑(J.lim D).length:Int)-1):=(by (try rw [w2]);(try rw [w14]);all_goals exact Zac)
  obtain ⟨k16,H⟩:=H
  have i17:(decide ((wi ((↑(us (J.lim D)).length:Int)-1)).toNat<(us (J.lim D)).length))=true ↔ (((↑(J.lim D).length:Int)-1).toNat<(J.lim D).length):=(by (try rw [w2]);(try rw [w14]);all_goals exact Zac)
  obtain ⟨k18,k19,H⟩:=H
  have w20:wu ((J.lim D).getD ((↑(J.lim D).length:Int)-1).toNat default)=(J.lim D).getD ((↑(J.lim D).length:Int)-1).toNat default:=wU64 k19
  obtain ⟨k21,H⟩:=H
  have w22:wu ((J.lim D).getD ((↑(J.lim D).length:Int)-1).toNat default+1)=(J.lim D).getD ((↑(J.lim D).length:Int)-1).toNat default+1:=wU64 k21
  have i23:(!wu (wu ((J.lim D).getD ((↑(J.lim D).length:Int)-1).toNat default)+1)==0)=true ↔ (¬(J.lim D).getD ((↑(J.lim D).length:Int)-1).toNat default+1=0):=(by (try rw [w20]);(try rw [w22]);all_goals exact ZdH)
  obtain ⟨k24,k25,H⟩:=H
  have w26:wu (Int.tdiv 1000000000 ((J.lim D).getD ((↑(J.lim D).length:Int)-1).toNat default+1))=Int.tdiv 1000000000 ((J.lim D).getD ((↑(J.lim D).length:Int)-1).toNat default+1):=wU64 k25
  obtain ⟨k27,H⟩:=H
  have w28:wv (Int.tdiv 1000000000 ((J.lim D).getD ((↑(J.lim D).length:Int)-1).toNat default+1))=Int.tdiv 1000000000 ((J.lim D).getD ((↑(J.lim D).length:Int)-1).toNat default+1):=wU32 k27
  obtain ⟨k29,H⟩:=H
  have w30:(us (J.lim (D*(Int.tdiv 1000000000 ((J.lim D).getD ((↑(J.lim D).length:Int)-1).toNat default+1)).toNat))).length=(J.lim (D*(Int.tdiv 1000000000 ((J.lim D).getD ((↑(J.lim D).length:Int)-1).toNat default+1)).toNat)).length:=List.length_map ..
  obtain ⟨k31,H⟩:=H
  have w32:wi ((↑(J.lim (D*(Int.tdiv 1000000000 ((J.lim D).getD ((↑(J.lim D).length:Int)-1).toNat default+1)).toNat)).length:Int)-1)=(↑(J.lim (D*(Int.tdiv 1000000000 ((J.lim D).getD ((↑(J.lim D).length:Int)-1).toNat default+1)).toNat)).length:Int)-1:=wI64 k31
  have i33:(decide (0<=wi ((↑(us (J.lim (D*(Int.tdiv 1000000000 ((J.lim D).getD ((↑(J.lim D).length:Int)-1).toNat default+1)).toNat))).length:Int)-1)))=true ↔ (0<=(↑(J.lim (D*(Int.tdiv 1000000000 ((J.lim D).getD ((↑(J.lim D).length:Int)-1).toNat default+1)).toNat)).length:Int)-1):=(by (try rw [w30]);(try rw [w32]);all_goals exact Zac)
  obtain ⟨k34,H⟩:=H
  have i35:(decide ((wi ((↑(us (J.lim (D*(Int.tdiv 1000000000 ((J.lim D).getD ((↑(J.lim D).length:Int)-1).toNat default+1)).toNat))).length:Int)-1)).toNat<(us (J.lim (D*(Int.tdiv 1000000000 ((J.lim D).getD ((↑(J.lim D).length:Int)-1).toNat default+1)).toNat))).length))=true ↔ (((↑(J.lim (D*(Int.tdiv 1000000000 ((J.lim D).getD ((↑(J.lim D).length:Int)-1).toNat default+1)).toNat)).length:Int)-1).toNat<(J.lim (D*(Int.tdiv 1000000000 ((J.lim D).getD ((↑(J.lim D).length:Int)-1).toNat default+1)).toNat)).length):=(by (try rw [w30]);(try rw [w32]);all_goals exact Zac)
  obtain ⟨k36,k37,H⟩:=H
  have w38:wu ((J.lim (D*(Int.tdiv 1000000000 ((J.lim D).getD ((↑(J.lim D).length:Int)-1).toNat default+1)).toNat)).getD ((↑(J.lim (D*(Int.tdiv 1000000000 ((J.lim D).getD ((↑(J.lim D).length:Int)-1).toNat default+1)).toNat)).length:Int)-1).toNat default)=(J.lim (D*(Int.tdiv 1000000000 ((J.lim D).getD ((↑(J.lim D).length:Int)-1).toNat default+1)).toNat)).getD ((↑(J.lim (D*(Int.tdiv 1000000000 ((J.lim D).getD ((↑(J.lim D).length:Int)-1).toNat default+1)).toNat)).length:Int)-1).toNat default:=wU64 k37
  obtain ⟨k39,H⟩:=H
  have w40:wi ((↑(J.lim A).length:Int)+1)=(↑(J.lim A).length:Int)+1:=wI64 k39
  have i41:(decide (0<=wi ((↑(us (J.lim A)).length:Int)+1)))=true ↔ (0<=(↑(J.lim A).length:Int)+1):=(by (try rw [w1]);(try rw [w40]);all_goals exact Zac)
  obtain ⟨k42,H⟩:=H
  have i43:(decide (wi ((↑(us (J.lim A)).length:Int)+1)<=wi ((↑(us (J.lim A)).length:Int)+1)))=true ↔ ((↑(J.lim A).length:Int)+1<=(↑(J.lim A).length:Int)+1):=(by (try rw [w1]);(try rw [w40]);all_goals exact Zac)
  have i44:(decide (wi ((↑(us (J.lim A)).length:Int)+1)*4<=1099511627776))=true ↔ (((↑(J.lim A).length:Int)+1)*4<=1099511627776):=(by (try rw [w1]);(try rw [w40]);all_goals exact Zac)
  obtain ⟨k45,H⟩:=H
  have i46:(decide (wi ((↑(us (J.lim A)).length:Int)+1)<=1099511627776))=true ↔ ((↑(J.lim A).length:Int)+1<=1099511627776):=(by (try rw [w1]);(try rw [w40]);all_goals exact Zac)
  obtain ⟨k47,H⟩:=H
  have w48:List.replicate ((↑(J.lim A).length:Int)+1).toNat (vu 0)=us (List.replicate ((↑(J.lim A).length:Int)+1).toNat (0:Int)):=(Zdn rfl)
  obtain ⟨k49,H⟩:=H
  have w50:(us (J.lim (A*(Int.tdiv 1000000000 ((J.lim D).getD ((↑(J.lim D).length:Int)-1).toNat default+1)).toNat))).length=(J.lim (A*(Int.tdiv 1000000000 ((J.lim D).getD ((↑(J.lim D).length:Int)-1).toNat default+1)).toNat)).length:=List.length_map ..
  have i51:(decide (0<=(↑(us (J.lim (A*(Int.tdiv 1000000000 ((J.lim D).getD ((↑(J.lim D).length:Int)-1).toNat default+1)).toNat))).length:Int)))=true ↔ (0<=(↑(J.lim (A*(Int.tdiv 1000000000 ((J.lim D).getD ((↑(J.lim D).length:Int)-1).toNat default+1)).toNat)).length:Int)):=(by (try rw [w50]);all_goals exact Zac)
  obtain ⟨k52,H⟩:=H
  have i53:(decide (0<=(↑(us (J.lim (A*(Int.tdiv 1000000000 ((J.lim D).getD ((↑(J.lim D).length:Int)-1).toNat default+1)).toNat))).length:Int).toNat))=true ↔ (0<=(↑(J.lim (A*(Int.tdiv 1000000000 ((J.lim D).getD ((↑(J.lim D).length:Int)-1).toNat default+1)).toNat)).length:Int).toNat):=(by (try rw [w50]);all_goals exact Zac)
  obtain ⟨k54,H⟩:=H
  have w55:(us (List.replicate ((↑(J.lim A).length:Int)+1).toNat (0:Int))).length=(List.replicate ((↑(J.lim A).length:Int)+1).toNat (0:Int)).length:=List.length_map ..
  have i56:(decide ((↑(us (J.lim (A*(Int.tdiv 1000000000 ((J.lim D).getD ((↑(J.lim D).length:Int)-1).toNat default+1)).toNat))).length:Int).toNat<=(List.replicate (wi ((↑(us (J.lim A)).length:Int)+1)).toNat (vu 0)).length))=true ↔ ((↑(J.lim (A*(Int.tdiv 1000000000 ((J.lim D).getD ((↑(J.lim D).length:Int)-1).toNat default+1)).toNat)).length:Int).toNat<=(List.replicate ((↑(J.lim A).length:Int)+1).toNat (0:Int)).length):=(by (try rw [w1]);(try rw [w40]);(try rw [w48]);(try rw [w50]);(try rw [w55]);all_goals exact Zac)
  obtain ⟨k57,k58,H⟩:=H
  have w59:wi ((↑(J.lim (A*(Int.tdiv 1000000000 ((J.lim D).getD ((↑(J.lim D).length:Int)-1).toNat default+1)).toNat)).length:Int)-1)=(↑(J.lim (A*(Int.tdiv 1000000000 ((J.lim D).getD ((↑(J.lim D).length:Int)-1).toNat default+1)).toNat)).length:Int)-1:=wI64 k58
  exact Zae (G:=Zad Zcp [(4,5,.elem (vu ((J.lim D).getD ((↑(J.lim D).length:Int)-1).toNat default))),(5,2,.call (zNwD2 D) none),(6,5,.elem (zNwD1 D)),(9,2,.call (zNwD3 A D) none)] []) 1000 [false] ⟨(atC (cd Tryz.f117) [1,1,1,1,1,1,1,1,1,0,1,0,0]),[(8,vu (wv (wu (Int.tdiv 1000000000 (wu (wu ((J.lim D).getD ((↑(J.lim D).length:Int)-1).toNat default)+1)))))),(9,vf (us (J.lim (D*(Int.tdiv 1000000000 ((J.lim D).getD ((↑(J.lim D).length:Int)-1).toNat default+1)).toNat)))),(10,vw (wu ((J.lim (D*(Int.tdiv 1000000000 ((J.lim D).getD ((↑(J.lim D).length:Int)-1).toNat default+1)).toNat)).getD ((↑(J.lim (D*(Int.tdiv 1000000000 ((J.lim D).getD ((↑(J.lim D).length:Int)-1).toNat default+1)).toNat)).length:Int)-1).toNat default))),(11,AV.vnil),(12,AV.ref 0 0 0 ((↑(us (J.lim (A*(Int.tdiv 1000000000 ((J.lim D).getD ((↑(J.lim D).length:Int)-1).toNat default+1)).toNat))).length:Int).toNat-0)),(13,vf (us (J.lim (A*(Int.tdiv 1000000000 ((J.lim D).getD ((↑(J.lim D).length:Int)-1).toNat default+1)).toNat)))),(14,vi (wi ((↑(us (J.lim (A*(Int.tdiv 1000000000 ((J.lim D).getD ((↑(J.lim D).length:Int)-1).toNat default+1)).toNat))).length:Int)-1)))],[⟨List.replicate (wi ((↑(us (J.lim A)).length:Int)+1)).toNat (vu 0),1,0,false,true⟩],[(bif decide ((↑(us (J.lim A)).length:Int)<=2) then decide ((↑(us (J.lim D)).length:Int)<=2) else false)==false,decide (0<=wi ((↑(us (J.lim D)).length:Int)-1)),decide ((wi ((↑(us (J.lim D)).length:Int)-1)).toNat<(us (J.lim D)).length),!wu (wu ((J.lim D).getD ((↑(J.lim D).length:Int)-1).toNat default)+1)==0,decide (0<=wi ((↑(us (J.lim (D*(Int.tdiv 1000000000 ((J.lim D).getD ((↑(J.lim D).length:Int)-1).toNat default+1)).toNat))).length:Int)-1)),decide ((wi ((↑(us (J.lim (D*(Int.tdiv 1000000000 ((J.lim D).getD ((↑(J.lim D).length:Int)-1).toNat default+1)).toNat))).length:Int)-1)).toNat<(us (J.lim (D*(Int.tdiv 1000000000 ((J.lim D).getD ((↑(J.lim D).length:Int)-1).toNat default+1)).toNat))).length),decide (0<=wi ((↑(us (J.lim A)).length:Int)+1)),decide (wi ((↑(us (J.lim A)).length:Int)+1)<=wi ((↑(us (J.lim A)).length:Int)+1)),decide (wi ((↑(us (J.lim A)).length:Int)+1)*4<=1099511627776),decide (wi ((↑(us (J.lim A)).length:Int)+1)<=1099511627776),true,decide (0<=(↑(us (J.lim (A*(Int.tdiv 1000000000 ((J.lim D).getD ((↑(J.lim D).length:Int)-1).toNat default+1)).toNat))).length:Int)),decide (0<=(↑(us (J.lim (A*(Int.tdiv 1000000000 ((J.lim D).getD ((↑(J.lim D).length:Int)-1).toNat default+1)).toNat))).length:Int).toNat),decide ((↑(us (J.lim (A*(Int.tdiv 1000000000 ((J.lim D).getD ((↑(J.lim D).length:Int)-1).toNat default+1)).toNat))).length:Int).toNat<=(List.replicate (wi ((↑(us (J.lim A)).length:Int)+1)).toNat (vu 0)).length)],[((us (J.lim D)).get?Internal (wi ((↑(us (J.lim D)).length:Int)-1)).toNat=some (vu ((J.lim D).getD ((↑(J.lim D).length:Int)-1).toNat default))),((us (J.lim (D*(Int.tdiv 1000000000 ((J.lim D).getD ((↑(J.lim D).length:Int)-1).toNat default+1)).toNat))).get?Internal (wi ((↑(us (J.lim (D*(Int.tdiv 1000000000 ((J.lim D).getD ((↑(J.lim D).length:Int)-1).toNat default+1)).toNat))).length:Int)-1)).toNat=some (zNwD1 D))],[pc 153 [AV.vec fb 1 (us (J.lim D)),vu (wv (wu (Int.tdiv 1000000000 (wu (wu ((J.lim D).getD ((↑(J.lim D).length:Int)-1).toNat default)+1)))))] (zNwD2 D),pc 153 [AV.vec fa 1 (us (J.lim A)),vu (wv (wu (Int.tdiv 1000000000 (wu (wu ((J.lim D).getD ((↑(J.lim D).length:Int)-1).toNat default)+1)))))] (zNwD3 A D)]⟩ (by kernel_rfl) (bc (Zam (fun h=>d4 (i3.1 h))) (bc (i15.2 k16) (bc (i17.2 k18) (bc (i23.2 k24) (bc (i33.2 k34) (bc (i35.2 k36) (bc (i41.2 k42) (bc (i43.2 (by omega)) (bc (i44.2 k45) (bc (i46.2 k47) (bc rfl (bc (i51.2 k52) (bc (i53.2 k54) (bc (i56.2 k57) b0)))))))))))))) (qc (by (try rw [w2]);(try rw [w14]);all_goals exact (Zat k18)) (qc (by (try rw [w30]);(try rw [w32]);all_goals exact (Zat k36)) q0)) (ce (by (try rw [w20]);(try rw [w22]);(try rw [w26]);(try rw [w28]);all_goals exact (@ZhD fb D (Int.tdiv 1000000000 ((J.lim D).getD ((↑(J.lim D).length:Int)-1).toNat default+1)) k29)) (ce (by (try rw [w20]);(try rw [w22]);(try rw [w26]);(try rw [w28]);all_goals exact (@ZhD fa A (Int.tdiv 1000000000 ((J.lim D).getD ((↑(J.lim D).length:Int)-1).toNat default+1)) k49)) c0)) (by (try rw [w1]);(try rw [w20]);(try rw [w22]);(try rw [w26]);(try rw [w28]);(try rw [w38]);(try rw [w40]);(try rw [w48]);(try rw [w50]);(try rw [w59]);all_goals exact H)
theorem rPartsA0 (V U:Nat) (s t i:Int) (n:Nat) (o:List Int) (R2:Nat) (dq:AV) (H :
  ((i>=0)->(Ev M1 (Conf.pure 115 [AV.vec true 1 [vu ((J.lim U).getD i.toNat default)]]) (vf (us (J.lim R2))) []) /\
   (0<=i) /\
   (i.toNat<(J.lim U).length) /\
   Zdk V U s t i n o R2 (Zag dq)) /\
  (¬(i>=0)->ZeG s n o (Zag dq))) :
 ZcT V U s t i n o (Zag dq):=by
 unfold ZcT
 rcases xq H with ⟨d2,H⟩|⟨d2,H⟩
 ·obtain ⟨k3,k5,H⟩:=H
  have w6:(us (J.lim U)).length=(J.lim U).length:=List.length_map ..
  have i7:(decide (i.toNat<(us (J.lim U)).length))=true ↔ (i.toNat<(J.lim U).length):=(by (try rw [w6]);all_goals exact Zac)
  obtain ⟨k8,H⟩:=H
  exact Zae (G:=Zad Zcp [(14,3,.elem (vu ((J.lim U).getD i.toNat default))),(14,7,.call (.vec false 1 ((J.lim R2).map (.int .u32))) none)] []) 10 [true] ⟨(atC (cd Tryz.f117) [1,1,1,1,1,1,1,1,1,0,1,0,0,1,0,0,1,0]),[(8,vu s),(9,vf (us (J.lim V))),(10,vw t),(11,vf (us (J.lim R2))),(12,AV.ref 0 0 0 n),(13,vf (us (J.lim U))),(14,vi i)],[⟨us o,1,0,false,true⟩],_,[((us (J.lim U)).get?Internal i.toNat=some (vu ((J.lim U).getD i.toNat default)))],_⟩ (by kernel_rfl) (bc (Zaq (Zac.2 d2)) (bc (Zac.2 k5) (bc (i7.2 k8) b0))) (qc (Zat k8) q0) (ce k3 c0) H
 ·have w9:[]=us []:=rfl
  exact Zae (G:=Zad Zcp [] []) 1000 [false] ⟨(atC (cd Tryz.f117) [1,1,1,1,1,1,1,1,1,1,1,1,0,1,0,0]),[(8,vu s),(11,AV.vnil),(12,AV.ref 0 0 0 n),(18,vw 0),(19,AV.row 1 0),(20,vi (-1))],[⟨us o,1,0,false,true⟩,⟨[],1,0,false,true⟩],_,[],_⟩ (by kernel_rfl) (bc (Zam (fun h=>d2 (Zac.1 h))) (bc rfl (bc rfl (bc rfl (bc rfl b0))))) q0 c0 (by (try rw [w9]);all_goals exact H)
theorem rPartsAE (V U:Nat) (s t i:Int) (n:Nat) (o:List Int) (R2:Nat) (dq:AV) (H :
  ((i>=0)->(Ev M1 (Conf.pure 115 [AV.vec true 1 [vu ((J.lim U).getD i.toNat default)]]) (vf (us (J.lim R2))) []) /\
   (0<=i) /\
   (i.toNat<(J.lim U).length) /\
   Zdk V U s t i n o R2 (Zag dq)) /\
  (¬(i>=0)->Wp M1 (.run ZfZ (atC (cd Tryz.f117) [1,1,1,1,1,1,1,1,1,1,1,1,0,1,0,0]) [(8,vu s),(11,vf []),(12,AV.ref 0 0 0 n),(18,vw 0),(19,AV.row 1 0),(20,vi (-1))] [{ elems:=us o,es:=1,ver:=0,frozen:=false,clean:=true },{ elems:=[],es:=1,ver:=0,frozen:=false,clean:=true }]) (Zag dq))) :
 Zdx V U s t i n o (Zag dq):=by
 unfold Zdx
 rcases xq H with ⟨d2,H⟩|⟨d2,H⟩
 ·obtain ⟨k3,k5,H⟩:=H
  have w6:(us (J.lim U)).length=(J.lim U).length:=List.length_map ..
  have i7:(decide (i.toNat<(us (J.lim U)).length))=true ↔ (i.toNat<(J.lim U).length):=(by (try rw [w6]);all_goals exact Zac)
  obtain ⟨k8,H⟩:=H
  exact Zae (G:=Zad Zcp [(14,3,.elem (vu ((J.lim U).getD i.toNat default))),(14,7,.call (.vec false 1 ((J.lim R2).map (.int .u32))) none)] []) 10 [true] ⟨(atC (cd Tryz.f117) [1,1,1,1,1,1,1,1,1,0,1,0,0,1,0,0,1,0]),[(8,vu s),(9,vf (us (J.lim V))),(10,vw t),(11,vf (us (J.lim R2))),(12,AV.ref 0 0 0 n),(13,vf (us (J.lim U))),(14,vi i)],[⟨us o,1,0,false,true⟩],_,[((us (J.lim U)).get?Internal i.toNat=some (vu ((J.lim U).getD i.toNat default)))],_⟩ (by kernel_rfl) (bc (Zaq (Zac.2 d2)) (bc (Zac.2 k5) (bc (i7.2 k8) b0))) (qc (Zat k8) q0) (ce k3 c0) H
 ·have w9:[]=us []:=rfl
  exact Zae (G:=Zad Zcp [] []) 1000 [false] ⟨(atC (cd Tryz.f117) [1,1,1,1,1,1,1,1,1,1,1,1,0,1,0,0]),[(8,vu s),(11,vf []),(12,AV.ref 0 0 0 n),(18,vw 0),(19,AV.row 1 0),(20,vi (-1))],[⟨us o,1,0,false,true⟩,⟨[],1,0,false,true⟩],_,[],_⟩ (by kernel_rfl) (bc (Zam (fun h=>d2 (Zac.1 h))) (bc rfl (bc rfl (bc rfl (bc rfl b0))))) q0 c0 (by (try rw [w9]);all_goals exact H)
theorem rPartsA (V U:Nat) (s t i:Int) (n:Nat) (o:List Int) (c:Int) (l:List Int) (R2:Nat) (dq:AV) (H :
  ((i>=0)->(Ev M1 (Conf.pure 115 [vf (vu ((J.lim U).getD i.toNat default)::vu c::us l)]) (vf (us (J.lim R2))) []) /\
   (0<=i) /\
   (i.toNat<(J.lim U).length) /\
   ((1+(l.length+1))*4<=1099511627776) /\
   Zdk V U s t i n o R2 (Zag dq)) /\
  (¬(i>=0)->(0<=(↑(l.length+1):Int)) /\
   ((↑(l.length+1):Int)*4<=1099511627776) /\
   ((↑(l.length+1):Int)<=1099511627776) /\
   (-9223372036854775808<=(↑(l.length+1):Int)-1/\(↑(l.length+1):Int)-1<=9223372036854775807) /\
   Wp M1 (.run ZfZ (atC (cd Tryz.f117) [1,1,1,1,1,1,1,1,1,1,1,1,0,1,0,0]) [(8,vu s),(11,vf (vu c::us l)),(12,AV.ref 0 0 0 n),(18,vw 0),(19,AV.row 1 0),(20,vi ((↑(l.length+1):Int)-1))] [{ elems:=us o,es:=1,ver:=0,frozen:=false,clean:=true },{ elems:=vu 0::us (List.replicate l.length (0:Int)),es:=1,ver:=0,frozen:=false,clean:=true }]) (Zag dq))) :
 Zei V U s t i n o c l (Zag dq):=by
 unfold Zei
 rcases xq H with ⟨d2,H⟩|⟨d2,H⟩
 ·obtain ⟨k3,k5,H⟩:=H
  have w6:(us (J.lim U)).length=(J.lim U).length:=List.length_map ..
  have i7:(decide (i.toNat<(us (J.lim U)).length))=true ↔ (i.toNat<(J.lim U).length):=(by (try rw [w6]);all_goals exact Zac)
  obtain ⟨k8,H⟩:=H
  have w9:(us l).length=l.length:=List.length_map ..
  have i10:(decide ((1+((us l).length+1))*4<=1099511627776))=true ↔ ((1+(l.length+1))*4<=1099511627776):=(by (try rw [w9]);all_goals exact Zac)
  obtain ⟨k11,H⟩:=H
  exact Zae (G:=Zad Zcp [(14,3,.elem (vu ((J.lim U).getD i.toNat default))),(14,7,.call (.vec false 1 ((J.lim R2).map (.int .u32))) none)] []) 10 [true] ⟨(atC (cd Tryz.f117) [1,1,1,1,1,1,1,1,1,0,1,0,0,1,0,0,1,0]),[(8,vu s),(9,vf (us (J.lim V))),(10,vw t),(11,vf (us (J.lim R2))),(12,AV.ref 0 0 0 n),(13,vf (us (J.lim U))),(14,vi i)],[⟨us o,1,0,false,true⟩,⟨vu ((J.lim U).getD i.toNat default)::vu c::us l,1,0,true,true⟩],_,[((us (J.lim U)).get?Internal i.toNat=some (vu ((J.lim U).getD i.toNat default)))],_⟩ (by kernel_rfl) (bc (Zaq (Zac.2 d2)) (bc (Zac.2 k5) (bc (i7.2 k8) (bc (i10.2 k11) (bc rfl b0))))) (qc (Zat k8) q0) (ce k3 c0) (ZbB [0] (by kernel_rfl) H)
 ·have w12:(us l).length=l.length:=List.length_map ..
  have i13:(decide (0<=(↑((us l).length+1):Int)))=true ↔ (0<=(↑(l.length+1):Int)):=(by (try rw [w12]);all_goals exact Zac)
  obtain ⟨k14,H⟩:=H
  have i15:(decide ((↑((us l).length+1):Int)<=(↑((us l).length+1):Int)))=true ↔ ((↑(l.length+1):Int)<=(↑(l.length+1):Int)):=(by (try rw [w12]);all_goals exact Zac)
  have i16:(decide ((↑((us l).length+1):Int)*4<=1099511627776))=true ↔ ((↑(l.length+1):Int)*4<=1099511627776):=(by (try rw [w12]);all_goals exact Zac)
  obtain ⟨k17,H⟩:=H
  have i18:(decide ((↑((us l).length+1):Int)<=1099511627776))=true ↔ ((↑(l.length+1):Int)<=1099511627776):=(by (try rw [w12]);all_goals exact Zac)
  obtain ⟨k19,H⟩:=H
  have w20:List.replicate l.length (vu 0)=us (List.replicate l.length (0:Int)):=(Zdn rfl)
  obtain ⟨k21,H⟩:=H
  have w22:wi ((↑(l.length+1):Int)-1)=(↑(l.length+1):Int)-1:=wI64 k21
  exact Zae (G:=Zad Zcp [] []) 1000 [false] ⟨(atC (cd Tryz.f117) [1,1,1,1,1,1,1,1,1,1,1,1,0,1,0,0]),[(8,vu s),(11,vf (vu c::us l)),(12,AV.ref 0 0 0 n),(18,vw 0),(19,AV.row 1 0),(20,vi (wi ((↑((us l).length+1):Int)-1)))],[⟨us o,1,0,false,true⟩,⟨vu 0::List.replicate (us l).length (vu 0),1,0,false,true⟩],[(decide (i>=0))==false,decide (0<=(↑((us l).length+1):Int)),decide ((↑((us l).length+1):Int)<=(↑((us l).length+1):Int)),decide ((↑((us l).length+1):Int)*4<=1099511627776),decide ((↑((us l).length+1):Int)<=1099511627776)],[],_⟩ (by kernel_rfl) (bc (Zam (fun h=>d2 (Zac.1 h))) (bc (i13.2 k14) (bc (i15.2 (by omega)) (bc (i16.2 k17) (bc (i18.2 k19) b0))))) q0 c0 (by (try rw [w12]);(try rw [w20]);(try rw [w22]);all_goals exact H)
noncomputable abbrev zNwD6 (V:Nat):=us (J.lim (V*Int.toNat 999999999))
noncomputable abbrev zNwD7 (V:Nat) (R2:Nat) (t:Int):=us (J.lim (V*(((J.lim R2).getD (↑(J.lim V).length:Int).toNat default*1000000000+(J.lim R2).getD ((↑(J.lim V).length:Int)-1).toNat default).tdiv t).toNat))
noncomputable abbrev zNwD8 (V:Nat) (R2:Nat) (t:Int):=us (J.lim (V*(((J.lim R2).getD (↑(J.lim V).length:Int).toNat default*1000000000).tdiv t).toNat))
noncomputable abbrev zNwD9 (R2:Nat) (V:Nat):=vu ((J.lim R2).getD ((↑(J.lim V).length:Int)-1).toNat default)
noncomputable abbrev zNwD10 (V:Nat) (R2:Nat) (t:Int):=us (J.lim (V*((0+(J.lim R2).getD ((↑(J.lim V).length:Int)-1).toNat default).tdiv t).toNat))
noncomputable abbrev zNwD11 (R2:Nat) (V:Nat):=(↑(J.lim R2).length:Int)>=(↑(J.lim V).length:Int)
noncomputable abbrev zNwD12 (V:Nat) (t:Int):=us (J.lim (V*(Int.tdiv 0 t).toNat))
theorem rPartsB (V U:Nat) (s t i:Int) (n:Nat) (o:List Int) (R2:Nat)  (dq:AV) (H :
  (((↑(J.lim R2).length:Int)>(↑(J.lim V).length:Int))->(0<=(↑(J.lim V).length:Int)) /\
   ((↑(J.lim V).length:Int).toNat<(J.lim R2).length) /\
   (0<=(J.lim R2).getD (↑(J.lim V).length:Int).toNat default/\(J.lim R2).getD (↑(J.lim V).length:Int).toNat default<=18446744073709551615) /\
   (0<=(J.lim R2).getD (↑(J.lim V).length:Int).toNat default*1000000000/\(J.lim R2).getD (↑(J.lim V).length:Int).toNat default*1000000000<=18446744073709551615) /\
   (((↑(J.lim R2).length:Int)>=(↑(J.lim V).length:Int))->(-9223372036854775808<=(↑(J.lim V).length:Int)-1/\(↑(J.lim V).length:Int)-1<=9223372036854775807) /\
    (0<=(↑(J.lim V).length:Int)-1) /\
    (((↑(J.lim V).length:Int)-1).toNat<(J.lim R2).length) /\
    (0<=(J.lim R2).getD ((↑(J.lim V).length:Int)-1).toNat default/\(J.lim R2).getD ((↑(J.lim V).length:Int)-1).toNat default<=18446744073709551615) /\
    (0<=(J.lim R2).getD (↑(J.lim V).length:Int).toNat default*1000000000+(J.lim R2).getD ((↑(J.lim V).length:Int)-1).toNat default/\(J.lim R2).getD (↑(J.lim V).length:Int).toNat default*1000000000+(J.lim R2).getD ((↑(J.lim V).length:Int)-1).toNat default<=18446744073709551615) /\
    (¬t=0) /\
    (0<=((J.lim R2).getD (↑(J.lim V).length:Int).toNat default*1000000000+(J.lim R2).getD ((↑(J.lim V).length:Int)-1).toNat default).tdiv t/\((J.lim R2).getD (↑(J.lim V).length:Int).toNat default*1000000000+(J.lim R2).getD ((↑(J.lim V).length:Int)-1).toNat default).tdiv t<=18446744073709551615) /\
    ((((J.lim R2).getD (↑(J.lim V).length:Int).toNat default*1000000000+(J.lim R2).getD ((↑(J.lim V).length:Int)-1).toNat default).tdiv t>999999999)->(J.okB (↑V:Int)/\J.dig 999999999) /\
     Zbd V U s t i n o R2 (V*Int.toNat 999999999) 999999999 (Zag dq)) /\
    (¬(((J.lim R2).getD (↑(J.lim V).length:Int).toNat default*1000000000+(J.lim R2).getD ((↑(J.lim V).length:Int)-1).toNat default).tdiv t>999999999)->(0<=((J.lim R2).getD (↑(J.lim V).length:Int).toNat default*1000000000+(J.lim R2).getD ((↑(J.lim V).length:Int)-1).toNat default).tdiv t/\((J.lim R2).getD (↑(J.lim V).length:Int).toNat default*1000000000+(J.lim R2).getD ((↑(J.lim V).length:Int)-1).toNat default).tdiv t<=4294967295) /\
     (J.okB (↑V:Int)/\J.dig (((J.lim R2).getD (↑(J.lim V).length:Int).toNat default*1000000000+(J.lim R2).getD ((↑(J.lim V).length:Int)-1).toNat default).tdiv t)) /\
     Zbd V U s t i n o R2 (V*(((J.lim R2).getD (↑(J.lim V).length:Int).toNat default*1000000000+(J.lim R2).getD ((↑(J.lim V).length:Int)-1).toNat default).tdiv t).toNat) (((J.lim R2).getD (↑(J.lim V).length:Int).toNat default*1000000000+(J.lim R2).getD ((↑(J.lim V).length:Int)-1).toNat default).tdiv t) (Zag dq))) /\
   (¬((↑(J.lim R2).length:Int)>=(↑(J.lim V).length:Int))->(¬t=0) /\
    (0<=((J.lim R2).getD (↑(J.lim V).length:Int).toNat default*1000000000).tdiv t/\((J.lim R2).getD (↑(J.lim V).length:Int).toNat default*1000000000).tdiv t<=18446744073709551615) /\
    ((((J.lim R2).getD (↑(J.lim V).length:Int).toNat default*1000000000).tdiv t>999999999)->(J.okB (↑V:Int)/\J.dig 999999999) /\
     Zbd V U s t i n o R2 (V*Int.toNat 999999999) 999999999 (Zag dq)) /\
    (¬(((J.lim R2).getD (↑(J.lim V).length:Int).toNat default*1000000000).tdiv t>999999999)->(0<=((J.lim R2).getD (↑(J.lim V).length:Int).toNat default*1000000000).tdiv t/\((J.lim R2).getD (↑(J.lim V).length:Int).toNat default*1000000000).tdiv t<=4294967295) /\
     (J.okB (↑V:Int)/\J.dig (((J.lim R2).getD (↑(J.lim V).length:Int).toNat default*1000000000).tdiv t)) /\
     Zbd V U s t i n o R2 (V*(((J.lim R2).getD (↑(J.lim V).length:Int).toNat default*1000000000).tdiv t).toNat) (((J.lim R2).getD (↑(J.lim V).length:Int).toNat default*1000000000).tdiv t) (Zag dq)))) /\
  (¬((↑(J.lim R2).length:Int)>(↑(J.lim V).length:Int))->(((↑(J.lim R2).length:Int)>=(↑(J.lim V).length:Int))->(-9223372036854775808<=(↑(J.lim V).length:Int)-1/\(↑(J.lim V).length:Int)-1<=9223372036854775807) /\
    (0<=(↑(J.lim V).length:Int)-1) /\
    (((↑(J.lim V).length:Int)-1).toNat<(J.lim R2).length) /\
    (0<=(J.lim R2).getD ((↑(J.lim V).length:Int)-1).toNat default/\(J.lim R2).getD ((↑(J.lim V).length:Int)-1).toNat default<=18446744073709551615) /\
    (0<=0+(J.lim R2).getD ((↑(J.lim V).length:Int)-1).toNat default/\0+(J.lim R2).getD ((↑(J.lim V).length:Int)-1).toNat default<=18446744073709551615) /\
    (¬t=0) /\
    (0<=(0+(J.lim R2).getD ((↑(J.lim V).length:Int)-1).toNat default).tdiv t/\(0+(J.lim R2).getD ((↑(J.lim V).length:Int)-1).toNat default).tdiv t<=18446744073709551615) /\
    (((0+(J.lim R2).getD ((↑(J.lim V).length:Int)-1).toNat default).tdiv t>999999999)->(J.okB (↑V:Int)/\J.dig 999999999) /\
     Zbd V U s t i n o R2 (V*Int.toNat 999999999) 999999999 (Zag dq)) /\
    (¬((0+(J.lim R2).getD ((↑(J.lim V).length:Int)-1).toNat default).tdiv t>999999999)->(0<=(0+(J.lim R2).getD ((↑(J.lim V).length:Int)-1).toNat default).tdiv t/\(0+(J.lim R2).getD ((↑(J.lim V).length:Int)-1).toNat default).tdiv t<=4294967295) /\
     (J.okB (↑V:Int)/\J.dig ((0+(J.lim R2).getD ((↑(J.lim V).length:Int)-1).toNat default).tdiv t)) /\
     Zbd V U s t i n o R2 (V*((0+(J.lim R2).getD ((↑(J.lim V).length:Int)-1).toNat default).tdiv t).toNat) ((0+(J.lim R2).getD ((↑(J.lim V).length:Int)-1).toNat default).tdiv t) (Zag dq))) /\
   (¬((↑(J.lim R2).length:Int)>=(↑(J.lim V).length:Int))->(¬t=0) /\
    (0<=Int.tdiv 0 t/\Int.tdiv 0 t<=18446744073709551615) /\
    ((Int.tdiv 0 t>999999999)->(J.okB (↑V:Int)/\J.dig 999999999) /\
     Zbd V U s t i n o R2 (V*Int.toNat 999999999) 999999999 (Zag dq)) /\
    (¬(Int.tdiv 0 t>999999999)->(0<=Int.tdiv 0 t/\Int.tdiv 0 t<=4294967295) /\
     (J.okB (↑V:Int)/\J.dig (Int.tdiv 0 t)) /\
     Zbd V U s t i n o R2 (V*(Int.tdiv 0 t).toNat) (Int.tdiv 0 t) (Zag dq))))) :
 Zdk V U s t i n o R2 (Zag dq):=by
 unfold Zdk
 have w1:(us (J.lim R2)).length=(J.lim R2).length:=List.length_map ..
 have w2:(us (J.lim V)).length=(J.lim V).length:=List.length_map ..
 have i3:(decide ((↑(us (J.lim R2)).length:Int)>(↑(us (J.lim V)).length:Int)))=true ↔ ((↑(J.lim R2).length:Int)>(↑(J.lim V).length:Int)):=(by (try rw [w1]);(try rw [w2]);all_goals exact Zac)
 rcases xq H with ⟨d4,H⟩|⟨d4,H⟩
 ·have i5:(decide (0<=(↑(us (J.lim V)).length:Int)))=true ↔ (0<=(↑(J.lim V).length:Int)):=(by (try rw [w2]);all_goals exact Zac)
  obtain ⟨k6,H⟩:=H
  have i7:(decide ((↑(us (J.lim V)).length:Int).toNat<(us (J.lim R2)).length))=true ↔ ((↑(J.lim V).length:Int).toNat<(J.lim R2).length):=(by (try rw [w1]);(try rw [w2]);all_goals exact Zac)
  obtain ⟨k8,k9,H⟩:=H
  have w10:wu ((J.lim R2).getD (↑(J.lim V).length:Int).toNat default)=(J.lim R2).getD (↑(J.lim V).length:Int).toNat default:=wU64 k9
  obtain ⟨k11,H⟩:=H
  have w12:wu ((J.lim R2).getD (↑(J.lim V).length:Int).toNat default*1000000000)=(J.lim R2).getD (↑(J.lim V).length:Int).toNat default*1000000000:=wU64 k11
  have i13:(decide ((↑(us (J.lim R2)).length:Int)>=(↑(us (J.lim V)).length:Int)))=true ↔ (zNwD11 R2 V):=(by (try rw [w1]);(try rw [w2]);all_goals exact Zac)
  refine Zae (G:=Zad Zcp [(17,4,.elem (vu ((J.lim R2).getD (↑(J.lim V).length:Int).toNat default)))] []) 9 [true] ⟨(atC (cd Tryz.f117) [1,1,1,1,1,1,1,1,1,0,1,0,0,1,0,0,1,1,1,0,1]),[(8,vu s),(9,vf (us (J.lim V))),(10,vw t),(11,vf (us (J.lim R2))),(12,AV.ref 0 0 0 n),(13,vf (us (J.lim U))),(14,vi i),(15,vw (wu (wu ((J.lim R2).getD (↑(J.lim V).length:Int).toNat default)*1000000000))),(103,vb (decide ((↑(us (J.lim R2)).length:Int)>=(↑(us (J.lim V)).length:Int))))],[⟨us o,1,0,false,true⟩],_,[((us (J.lim R2)).get?Internal (↑(us (J.lim V)).length:Int).toNat=some (vu ((J.lim R2).getD (↑(J.lim V).length:Int).toNat default)))],_⟩ (by kernel_rfl) (bc (Zaq (i3.2 d4)) (bc (i5.2 k6) (bc (i7.2 k8) b0))) (qc (by (try rw [w2]);all_goals exact (Zat k8)) q0) c0 ?_
  rcases xq H with ⟨d14,H⟩|⟨d14,H⟩
  ·obtain ⟨k15,H⟩:=H
   have w16:wi ((↑(J.lim V).length:Int)-1)=(↑(J.lim V).length:Int)-1:=wI64 k15
   have i17:(decide (0<=wi ((↑(us (J.lim V)).length:Int)-1)))=true ↔ (0<=(↑(J.lim V).length:Int)-1):=(by (try rw [w2]);(try rw [w16]);all_goals exact Zac)
   obtain ⟨k18,H⟩:=H
   have i19:(decide ((wi ((↑(us (J.lim V)).length:Int)-1)).toNat<(us (J.lim R2)).length))=true ↔ (((↑(J.lim V).length:Int)-1).toNat<(J.lim R2).length):=(by (try rw [w1]);(try rw [w2]);(try rw [w16]);all_goals exact Zac)
   obtain ⟨k20,k21,H⟩:=H
   have w22:wu ((J.lim R2).getD ((↑(J.lim V).length:Int)-1).toNat default)=(J.lim R2).getD ((↑(J.lim V).length:Int)-1).toNat default:=wU64 k21
   obtain ⟨k23,H⟩:=H
   have w24:wu ((J.lim R2).getD (↑(J.lim V).length:Int).toNat default*1000000000+(J.lim R2).getD ((↑(J.lim V).length:Int)-1).toNat default)=(J.lim R2).getD (↑(J.lim V).length:Int).toNat default*1000000000+(J.lim R2).getD ((↑(J.lim V).length:Int)-1).toNat default:=wU64 k23
   obtain ⟨k26,k27,H⟩:=H
   have w28:wu (((J.lim R2).getD (↑(J.lim V).length:Int).toNat default*1000000000+(J.lim R2).getD ((↑(J.lim V).length:Int)-1).toNat default).tdiv t)=((J.lim R2).getD (↑(J.lim V).length:Int).toNat default*1000000000+(J.lim R2).getD ((↑(J.lim V).length:Int)-1).toNat default).tdiv t:=wU64 k27
   have i29:(decide (wu ((wu (wu (wu ((J.lim R2).getD (↑(J.lim V).length:Int).toNat default)*1000000000)+wu ((J.lim R2).getD ((↑(J.lim V).length:Int)-1).toNat default))).tdiv t)>999999999))=true ↔ (((J.lim R2).getD (↑(J.lim V).length:Int).toNat default*1000000000+(J.lim R2).getD ((↑(J.lim V).length:Int)-1).toNat default).tdiv t>999999999):=(by (try rw [w10]);(try rw [w12]);(try rw [w22]);(try rw [w24]);(try rw [w28]);all_goals exact Zac)
   refine Zae (G:=Zad Zcp [(19,6,.elem (zNwD9 R2 V))] []) 7 [true] ⟨(atC (cd Tryz.f117) [1,1,1,1,1,1,1,1,1,0,1,0,0,1,0,0,1,1,1,1,1,0,1]),[(8,vu s),(9,vf (us (J.lim V))),(10,vw t),(11,vf (us (J.lim R2))),(12,AV.ref 0 0 0 n),(13,vf (us (J.lim U))),(14,vi i),(16,vw (wu ((wu (wu (wu ((J.lim R2).getD (↑(J.lim V).length:Int).toNat default)*1000000000)+wu ((J.lim R2).getD ((↑(J.lim V).length:Int)-1).toNat default))).tdiv t))),(117,vb (decide (wu ((wu (wu (wu ((J.lim R2).getD (↑(J.lim V).length:Int).toNat default)*1000000000)+wu ((J.lim R2).getD ((↑(J.lim V).length:Int)-1).toNat default))).tdiv t)>999999999)))],[⟨us o,1,0,false,true⟩],_,[((us (J.lim R2)).get?Internal (wi ((↑(us (J.lim V)).length:Int)-1)).toNat=some (zNwD9 R2 V))],_⟩ (by kernel_rfl) (bc (Zaq (i13.2 d14)) (bc (i17.2 k18) (bc (i19.2 k20) (bc (ZdH.2 k26) b0)))) (qc (by (try rw [w2]);(try rw [w16]);all_goals exact (Zat k20)) q0) c0 ?_
   rcases xq H with ⟨d30,H⟩|⟨d30,H⟩
   ·obtain ⟨k31,H⟩:=H
    exact Zae (G:=Zad Zcp [(23,3,.call (vf (zNwD6 V)) none)] []) 1000 [true] ⟨(atC (cd Tryz.f117) [1,1,1,1,1,1,1,1,1,0,1,0,0,1,0,0,1,1,1,1,1,1,1,0,0,0]),[(8,vu s),(9,vf (us (J.lim V))),(10,vw t),(11,vf (us (J.lim R2))),(12,AV.ref 0 0 0 n),(13,vf (us (J.lim U))),(14,vi i),(16,vw 999999999),(17,vf (zNwD6 V))],[⟨us o,1,0,false,true⟩],_,[],_⟩ (by kernel_rfl) (bc (Zaq (i29.2 d30)) b0) q0 (ce (@ZhD false V 999999999 k31) c0) H
   ·obtain ⟨k32,H⟩:=H
    have w33:wv (((J.lim R2).getD (↑(J.lim V).length:Int).toNat default*1000000000+(J.lim R2).getD ((↑(J.lim V).length:Int)-1).toNat default).tdiv t)=((J.lim R2).getD (↑(J.lim V).length:Int).toNat default*1000000000+(J.lim R2).getD ((↑(J.lim V).length:Int)-1).toNat default).tdiv t:=wU32 k32
    obtain ⟨k34,H⟩:=H
    exact Zae (G:=Zad Zcp [(23,3,.call (vf (zNwD7 V R2 t)) none)] []) 1000 [false] ⟨(atC (cd Tryz.f117) [1,1,1,1,1,1,1,1,1,0,1,0,0,1,0,0,1,1,1,1,1,1,1,0,0,0]),[(8,vu s),(9,vf (us (J.lim V))),(10,vw t),(11,vf (us (J.lim R2))),(12,AV.ref 0 0 0 n),(13,vf (us (J.lim U))),(14,vi i),(16,vw (wu ((wu (wu (wu ((J.lim R2).getD (↑(J.lim V).length:Int).toNat default)*1000000000)+wu ((J.lim R2).getD ((↑(J.lim V).length:Int)-1).toNat default))).tdiv t))),(17,vf (zNwD7 V R2 t))],[⟨us o,1,0,false,true⟩],_,[],[pc 153 [vf (us (J.lim V)),vu (wv (wu ((wu (wu (wu ((J.lim R2).getD (↑(J.lim V).length:Int).toNat default)*1000000000)+wu ((J.lim R2).getD ((↑(J.lim V).length:Int)-1).toNat default))).tdiv t)))] (vf (zNwD7 V R2 t))]⟩ (by kernel_rfl) (bc (Zam (fun h=>d30 (i29.1 h))) b0) q0 (ce (by (try rw [w10]);(try rw [w12]);(try rw [w22]);(try rw [w24]);(try rw [w28]);(try rw [w33]);all_goals exact (@ZhD false V (((J.lim R2).getD (↑(J.lim V).length:Int).toNat default*1000000000+(J.lim R2).getD ((↑(J.lim V).length:Int)-1).toNat default).tdiv t) k34)) c0) (by (try rw [w10]);(try rw [w12]);(try rw [w22]);(try rw [w24]);(try rw [w28]);all_goals exact H)
  ·obtain ⟨k36,k37,H⟩:=H
   have w38:wu (((J.lim R2).getD (↑(J.lim V).length:Int).toNat default*1000000000).tdiv t)=((J.lim R2).getD (↑(J.lim V).length:Int).toNat default*1000000000).tdiv t:=wU64 k37
   have i39:(decide (wu ((wu (wu ((J.lim R2).getD (↑(J.lim V).length:Int).toNat default)*1000000000)).tdiv t)>999999999))=true ↔ (((J.lim R2).getD (↑(J.lim V).length:Int).toNat default*1000000000).tdiv t>999999999):=(by (try rw [w10]);(try rw [w12]);(try rw [w38]);all_goals exact Zac)
   rcases xq H with ⟨d40,H⟩|⟨d40,H⟩
   ·obtain ⟨k41,H⟩:=H
    exact Zae (G:=Zad Zcp [(23,3,.call (vf (zNwD6 V)) none)] []) 1000 [false,true] ⟨(atC (cd Tryz.f117) [1,1,1,1,1,1,1,1,1,0,1,0,0,1,0,0,1,1,1,1,1,1,1,0,0,0]),[(8,vu s),(9,vf (us (J.lim V))),(10,vw t),(11,vf (us (J.lim R2))),(12,AV.ref 0 0 0 n),(13,vf (us (J.lim U))),(14,vi i),(16,vw 999999999),(17,vf (zNwD6 V))],[⟨us o,1,0,false,true⟩],_,[],_⟩ (by kernel_rfl) (bc (Zam (fun h=>d14 (i13.1 h))) (bc (ZdH.2 k36) (bc (Zaq (i39.2 d40)) b0))) q0 (ce (@ZhD false V 999999999 k41) c0) H
   ·obtain ⟨k42,H⟩:=H
    have w43:wv (((J.lim R2).getD (↑(J.lim V).length:Int).toNat default*1000000000).tdiv t)=((J.lim R2).getD (↑(J.lim V).length:Int).toNat default*1000000000).tdiv t:=wU32 k42
    obtain ⟨k44,H⟩:=H
    exact Zae (G:=Zad Zcp [(23,3,.call (vf (zNwD8 V R2 t)) none)] []) 1000 [false,false] ⟨(atC (cd Tryz.f117) [1,1,1,1,1,1,1,1,1,0,1,0,0,1,0,0,1,1,1,1,1,1,1,0,0,0]),[(8,vu s),(9,vf (us (J.lim V))),(10,vw t),(11,vf (us (J.lim R2))),(12,AV.ref 0 0 0 n),(13,vf (us (J.lim U))),(14,vi i),(16,vw (wu ((wu (wu ((J.lim R2).getD (↑(J.lim V).length:Int).toNat default)*1000000000)).tdiv t))),(17,vf (zNwD8 V R2 t))],[⟨us o,1,0,false,true⟩],_,[],[pc 153 [vf (us (J.lim V)),vu (wv (wu ((wu (wu ((J.lim R2).getD (↑(J.lim V).length:Int).toNat default)*1000000000)).tdiv t)))] (vf (zNwD8 V R2 t))]⟩ (by kernel_rfl) (bc (Zam (fun h=>d14 (i13.1 h))) (bc (ZdH.2 k36) (bc (Zam (fun h=>d40 (i39.1 h))) b0))) q0 (ce (by (try rw [w10]);(try rw [w12]);(try rw [w38]);(try rw [w43]);all_goals exact (@ZhD false V (((J.lim R2).getD (↑(J.lim V).length:Int).toNat default*1000000000).tdiv t) k44)) c0) (by (try rw [w10]);(try rw [w12]);(try rw [w38]);all_goals exact H)
 ·have i45:(decide ((↑(us (J.lim R2)).length:Int)>=(↑(us (J.lim V)).length:Int)))=true ↔ (zNwD11 R2 V):=(by (try rw [w1]);(try rw [w2]);all_goals exact Zac)
  rcases xq H with ⟨d46,H⟩|⟨d46,H⟩
  ·obtain ⟨k47,H⟩:=H
   have w48:wi ((↑(J.lim V).length:Int)-1)=(↑(J.lim V).length:Int)-1:=wI64 k47
   have i49:(decide (0<=wi ((↑(us (J.lim V)).length:Int)-1)))=true ↔ (0<=(↑(J.lim V).length:Int)-1):=(by (try rw [w2]);(try rw [w48]);all_goals exact Zac)
   obtain ⟨k50,H⟩:=H
   have i51:(decide ((wi ((↑(us (J.lim V)).length:Int)-1)).toNat<(us (J.lim R2)).length))=true ↔ (((↑(J.lim V).length:Int)-1).toNat<(J.lim R2).length):=(by (try rw [w1]);(try rw [w2]);(try rw [w48]);all_goals exact Zac)
   obtain ⟨k52,k53,H⟩:=H
   have w54:wu ((J.lim R2).getD ((↑(J.lim V).length:Int)-1).toNat default)=(J.lim R2).getD ((↑(J.lim V).length:Int)-1).toNat default:=wU64 k53
   obtain ⟨k55,H⟩:=H
   have w56:wu (0+(J.lim R2).getD ((↑(J.lim V).length:Int)-1).toNat default)=0+(J.lim R2).getD ((↑(J.lim V).length:Int)-1).toNat default:=wU64 k55
   obtain ⟨k58,k59,H⟩:=H
   have w60:wu ((0+(J.lim R2).getD ((↑(J.lim V).length:Int)-1).toNat default).tdiv t)=(0+(J.lim R2).getD ((↑(J.lim V).length:Int)-1).toNat default).tdiv t:=wU64 k59
   have i61:(decide (wu ((wu (0+wu ((J.lim R2).getD ((↑(J.lim V).length:Int)-1).toNat default))).tdiv t)>999999999))=true ↔ ((0+(J.lim R2).getD ((↑(J.lim V).length:Int)-1).toNat default).tdiv t>999999999):=(by (try rw [w54]);(try rw [w56]);(try rw [w60]);all_goals exact Zac)
   refine Zae (G:=Zad Zcp [(19,6,.elem (zNwD9 R2 V))] []) 16 [false,true] ⟨(atC (cd Tryz.f117) [1,1,1,1,1,1,1,1,1,0,1,0,0,1,0,0,1,1,1,1,1,0,1]),[(8,vu s),(9,vf (us (J.lim V))),(10,vw t),(11,vf (us (J.lim R2))),(12,AV.ref 0 0 0 n),(13,vf (us (J.lim U))),(14,vi i),(16,vw (wu ((wu (0+wu ((J.lim R2).getD ((↑(J.lim V).length:Int)-1).toNat default))).tdiv t))),(117,vb (decide (wu ((wu (0+wu ((J.lim R2).getD ((↑(J.lim V).length:Int)-1).toNat default))).tdiv t)>999999999)))],[⟨us o,1,0,false,true⟩],_,[((us (J.lim R2)).get?Internal (wi ((↑(us (J.lim V)).length:Int)-1)).toNat=some (zNwD9 R2 V))],_⟩ (by kernel_rfl) (bc (Zam (fun h=>d4 (i3.1 h))) (bc (Zaq (i45.2 d46)) (bc (i49.2 k50) (bc (i51.2 k52) (bc (ZdH.2 k58) b0))))) (qc (by (try rw [w2]);(try rw [w48]);all_goals exact (Zat k52)) q0) c0 ?_
   rcases xq H with ⟨d62,H⟩|⟨d62,H⟩
   ·obtain ⟨k63,H⟩:=H
    exact Zae (G:=Zad Zcp [(23,3,.call (vf (zNwD6 V)) none)] []) 1000 [true] ⟨(atC (cd Tryz.f117) [1,1,1,1,1,1,1,1,1,0,1,0,0,1,0,0,1,1,1,1,1,1,1,0,0,0]),[(8,vu s),(9,vf (us (J.lim V))),(10,vw t),(11,vf (us (J.lim R2))),(12,AV.ref 0 0 0 n),(13,vf (us (J.lim U))),(14,vi i),(16,vw 999999999),(17,vf (zNwD6 V))],[⟨us o,1,0,false,true⟩],_,[],_⟩ (by kernel_rfl) (bc (Zaq (i61.2 d62)) b0) q0 (ce (@ZhD false V 999999999 k63) c0) H
   ·obtain ⟨k64,H⟩:=H
    have w65:wv ((0+(J.lim R2).getD ((↑(J.lim V).length:Int)-1).toNat default).tdiv t)=(0+(J.lim R2).getD ((↑(J.lim V).length:Int)-1).toNat default).tdiv t:=wU32 k64
    obtain ⟨k66,H⟩:=H
    exact Zae (G:=Zad Zcp [(23,3,.call (vf (zNwD10 V R2 t)) none)] []) 1000 [false] ⟨(atC (cd Tryz.f117) [1,1,1,1,1,1,1,1,1,0,1,0,0,1,0,0,1,1,1,1,1,1,1,0,0,0]),[(8,vu s),(9,vf (us (J.lim V))),(10,vw t),(11,vf (us (J.lim R2))),(12,AV.ref 0 0 0 n),(13,vf (us (J.lim U))),(14,vi i),(16,vw (wu ((wu (0+wu ((J.lim R2).getD ((↑(J.lim V).length:Int)-1).toNat default))).tdiv t))),(17,vf (zNwD10 V R2 t))],[⟨us o,1,0,false,true⟩],_,[],[pc 153 [vf (us (J.lim V)),vu (wv (wu ((wu (0+wu ((J.lim R2).getD ((↑(J.lim V).length:Int)-1).toNat default))).tdiv t)))] (vf (zNwD10 V R2 t))]⟩ (by kernel_rfl) (bc (Zam (fun h=>d62 (i61.1 h))) b0) q0 (ce (by (try rw [w54]);(try rw [w56]);(try rw [w60]);(try rw [w65]);all_goals exact (@ZhD false V ((0+(J.lim R2).getD ((↑(J.lim V).length:Int)-1).toNat default).tdiv t) k66)) c0) (by (try rw [w54]);(try rw [w56]);(try rw [w60]);all_goals exact H)
  ·obtain ⟨k68,k69,H⟩:=H
   have w70:wu (Int.tdiv 0 t)=Int.tdiv 0 t:=wU64 k69
   have i71:(decide (wu (Int.tdiv 0 t)>999999999))=true ↔ (Int.tdiv 0 t>999999999):=(by (try rw [w70]);all_goals exact Zac)
   rcases xq H with ⟨d72,H⟩|⟨d72,H⟩
   ·obtain ⟨k73,H⟩:=H
    exact Zae (G:=Zad Zcp [(23,3,.call (vf (zNwD6 V)) none)] []) 1000 [false,false,true] ⟨(atC (cd Tryz.f117) [1,1,1,1,1,1,1,1,1,0,1,0,0,1,0,0,1,1,1,1,1,1,1,0,0,0]),[(8,vu s),(9,vf (us (J.lim V))),(10,vw t),(11,vf (us (J.lim R2))),(12,AV.ref 0 0 0 n),(13,vf (us (J.lim U))),(14,vi i),(16,vw 999999999),(17,vf (zNwD6 V))],[⟨us o,1,0,false,true⟩],_,[],_⟩ (by kernel_rfl) (bc (Zam (fun h=>d4 (i3.1 h))) (bc (Zam (fun h=>d46 (i45.1 h))) (bc (ZdH.2 k68) (bc (Zaq (i71.2 d72)) b0)))) q0 (ce (@ZhD false V 999999999 k73) c0) H
   ·obtain ⟨k74,H⟩:=H
    have w75:wv (Int.tdiv 0 t)=Int.tdiv 0 t:=wU32 k74
    obtain ⟨k76,H⟩:=H
    exact Zae (G:=Zad Zcp [(23,3,.call (vf (zNwD12 V t)) none)] []) 1000 [false,false,false] ⟨(atC (cd Tryz.f117) [1,1,1,1,1,1,1,1,1,0,1,0,0,1,0,0,1,1,1,1,1,1,1,0,0,0]),[(8,vu s),(9,vf (us (J.lim V))),(10,vw t),(11,vf (us (J.lim R2))),(12,AV.ref 0 0 0 n),(13,vf (us (J.lim U))),(14,vi i),(16,vw (wu (Int.tdiv 0 t))),(17,vf (zNwD12 V t))],[⟨us o,1,0,false,true⟩],_,[],[pc 153 [vf (us (J.lim V)),vu (wv (wu (Int.tdiv 0 t)))] (vf (zNwD12 V t))]⟩ (by kernel_rfl) (bc (Zam (fun h=>d4 (i3.1 h))) (bc (Zam (fun h=>d46 (i45.1 h))) (bc (ZdH.2 k68) (bc (Zam (fun h=>d72 (i71.1 h))) b0)))) q0 (ce (by (try rw [w70]);(try rw [w75]);all_goals exact (@ZhD false V (Int.tdiv 0 t) k76)) c0) (by (try rw [w70]);all_goals exact H)
theorem rPartsH (V U:Nat) (s t i:Int) (n:Nat) (o:List Int) (R:Nat)  (dq:AV) (H :
  ((i>=0)->False) /\
  (¬(i>=0)->(0<=(↑(J.lim R).length:Int)) /\
   ((↑(J.lim R).length:Int)*4<=1099511627776) /\
   ((↑(J.lim R).length:Int)<=1099511627776) /\
   (-9223372036854775808<=(↑(J.lim R).length:Int)-1/\(↑(J.lim R).length:Int)-1<=9223372036854775807) /\
   ZcN R s 0 ((↑(J.lim R).length:Int)-1) n o (List.replicate (↑(J.lim R).length:Int).toNat (0:Int)) (Zag dq))) :
 Zb8 V U s t i n o R (Zag dq):=by
 unfold Zb8
 rcases xq H with ⟨d2,H⟩|⟨d2,H⟩
 ·exact False.elim H
 ·have w3:(us (J.lim R)).length=(J.lim R).length:=List.length_map ..
  have i4:(decide (0<=(↑(us (J.lim R)).length:Int)))=true ↔ (0<=(↑(J.lim R).length:Int)):=(by (try rw [w3]);all_goals exact Zac)
  obtain ⟨k5,H⟩:=H
  have i6:(decide ((↑(us (J.lim R)).length:Int)<=(↑(us (J.lim R)).length:Int)))=true ↔ ((↑(J.lim R).length:Int)<=(↑(J.lim R).length:Int)):=(by (try rw [w3]);all_goals exact Zac)
  have i7:(decide ((↑(us (J.lim R)).length:Int)*4<=1099511627776))=true ↔ ((↑(J.lim R).length:Int)*4<=1099511627776):=(by (try rw [w3]);all_goals exact Zac)
  obtain ⟨k8,H⟩:=H
  have i9:(decide ((↑(us (J.lim R)).length:Int)<=1099511627776))=true ↔ ((↑(J.lim R).length:Int)<=1099511627776):=(by (try rw [w3]);all_goals exact Zac)
  obtain ⟨k10,H⟩:=H
  have w11:List.replicate (↑(J.lim R).length:Int).toNat (vu 0)=us (List.replicate (↑(J.lim R).length:Int).toNat (0:Int)):=(Zdn rfl)
  obtain ⟨k12,H⟩:=H
  have w13:wi ((↑(J.lim R).length:Int)-1)=(↑(J.lim R).length:Int)-1:=wI64 k12
  exact Zae (G:=Zad Zcp [] []) 1000 [false] ⟨(atC (cd Tryz.f117) [1,1,1,1,1,1,1,1,1,1,1,1,0,1,0,0]),[(8,vu s),(11,vf (us (J.lim R))),(12,AV.ref 0 0 0 n),(18,vw 0),(19,AV.row 1 0),(20,vi (wi ((↑(us (J.lim R)).length:Int)-1)))],[⟨us o,1,0,false,true⟩,⟨List.replicate (↑(us (J.lim R)).length:Int).toNat (vu 0),1,0,false,true⟩],[(decide (i>=0))==false,decide (0<=(↑(us (J.lim R)).length:Int)),decide ((↑(us (J.lim R)).length:Int)<=(↑(us (J.lim R)).length:Int)),decide ((↑(us (J.lim R)).length:Int)*4<=1099511627776),decide ((↑(us (J.lim R)).length:Int)<=1099511627776)],[],_⟩ (by kernel_rfl) (bc (Zam (fun h=>d2 (Zac.1 h))) (bc (i4.2 k5) (bc (i6.2 (by omega)) (bc (i7.2 k8) (bc (i9.2 k10) b0))))) q0 c0 (by (try rw [w3]);(try rw [w11]);(try rw [w13]);all_goals exact H)
theorem rPartsG (V U:Nat) (s t i:Int) (n:Nat) (o:List Int) (R p:Nat) (g:Int)  (dq:AV) (H :
  (J.ZaB (J.cnt p)/\J.ZaB (J.cnt R)) /\
  ((J.sgnI ((↑p:Int)-(↑R:Int))>0)->(0<=g-1/\g-1<=18446744073709551615) /\
   (J.ZaB (J.cnt p)/\V<=p) /\
   Zbd V U s t i n o R (p-V) (g-1) (Zag dq)) /\
  (¬(J.sgnI ((↑p:Int)-(↑R:Int))>0)->(J.ZaB (J.cnt R)/\p<=R) /\
   (0<=i) /\
   (i.toNat<n) /\
   (0+i.toNat<o.length) /\
   (0<=g/\g<=4294967295) /\
   (-9223372036854775808<=i-1/\i-1<=9223372036854775807) /\
   Zb8 V U s t (i-1) n (o.set (0+i.toNat) g) (R-p) (Zag dq))) :
 Zbd V U s t i n o R p g (Zag dq):=by
 unfold Zbd
 obtain ⟨k1,H⟩:=H
 refine Zae (G:=Zad Zcp [(24,2,.call (vi (J.sgnI ((↑p:Int)-(↑R:Int)))) none)] []) 3 [] ⟨(atC (cd Tryz.f117) [1,1,1,1,1,1,1,1,1,0,1,0,0,1,0,0,1,1,1,1,1,1,1,0,0,0,0,1]),[(8,vu s),(9,vf (us (J.lim V))),(10,vw t),(11,vf (us (J.lim R))),(12,AV.ref 0 0 0 n),(13,vf (us (J.lim U))),(14,vi i),(16,vw g),(17,vf (us (J.lim p))),(125,vb (decide (J.sgnI ((↑p:Int)-(↑R:Int))>0)))],[⟨us o,1,0,false,true⟩],_,[],_⟩ (by kernel_rfl) b0 q0 (ce (@ev116_a false false p R k1) c0) ?_
 rcases xq H with ⟨d3,H⟩|⟨d3,H⟩
 ·obtain ⟨k4,H⟩:=H
  have w5:wu (g-1)=g-1:=wU64 k4
  obtain ⟨k6,H⟩:=H
  exact Zae (G:=Zad Zcp [(26,2,.call (vf (us (J.lim (p-V)))) none)] []) 1000 [true] ⟨(atC (cd Tryz.f117) [1,1,1,1,1,1,1,1,1,0,1,0,0,1,0,0,1,1,1,1,1,1,1,0,0,0]),[(8,vu s),(9,vf (us (J.lim V))),(10,vw t),(11,vf (us (J.lim R))),(12,AV.ref 0 0 0 n),(13,vf (us (J.lim U))),(14,vi i),(16,vw (wu (g-1))),(17,vf (us (J.lim (p-V))))],[⟨us o,1,0,false,true⟩],_,[],_⟩ (by kernel_rfl) (bc (Zaq (Zac.2 d3)) b0) q0 (ce (@ev130_a false false p V k6) c0) (by (try rw [w5]);all_goals exact H)
 ·obtain ⟨k7,k9,k11,k12,k13,H⟩:=H
  have w14:wv g=g:=wU32 k13
  have w15:(us o).set (0+i.toNat) (vu g)=us (o.set (0+i.toNat) g):=(Zbh rfl rfl)
  obtain ⟨k16,H⟩:=H
  have w17:wi (i-1)=i-1:=wI64 k16
  exact Zae (G:=Zad Zcp [(27,2,.call (vf (us (J.lim (R-p)))) none),(28,5,.elem (vu (o.getD (0+i.toNat) default)))] []) 1000 [false] ⟨(atC (cd Tryz.f117) [1,1,1,1,1,1,1,1,1,0,1,0,0]),[(8,vu s),(9,vf (us (J.lim V))),(10,vw t),(11,vf (us (J.lim (R-p)))),(12,AV.ref 0 0 0 n),(13,vf (us (J.lim U))),(14,vi (wi (i-1)))],[⟨(us o).set (0+i.toNat) (vu (wv g)),1,0,false,true⟩],_,[((us o).get?Internal (0+i.toNat)=some (vu (o.getD (0+i.toNat) default)))],_⟩ (by kernel_rfl) (bc (Zam (fun h=>d3 (Zac.1 h))) (bc rfl (bc (Zac.2 k9) (bc (Zac.2 k11) (bc rfl b0))))) (qc (Zat k12) q0) (ce (@ev130_a false false R p k7) c0) (by (try rw [w14]);(try rw [w15]);(try rw [w17]);all_goals exact H)
noncomputable abbrev zNwD13 (n:Nat) (o:List Int):=us (J.Zbw (List.take n (List.drop 0 o)))
theorem rPartsL0 (s:Int) (n:Nat) (o:List Int)  (dq:AV) (H :
  (J.ZaB (List.take n (List.drop 0 o)).length) /\
  ∃ (l1:List Int),
  (Ev M1 (Conf.pure 115 [vf []]) (vf (us l1)) []) /\
  Weak (tu [vf (us (J.Zbw (List.take n (List.drop 0 o)))),vf (us l1)]) dq) :
 ZeG s n o (Zag dq):=by
 unfold ZeG
 have w1:List.drop 0 (us o)=us (List.drop 0 o):=(ZfB rfl)
 have w2:List.take n (us (List.drop 0 o))=us (List.take n (List.drop 0 o)):=(ZfA rfl)
 obtain ⟨k3,l1,k4,H⟩:=H
 exact Zah (G:=Zad Zcp [(37,1,.call (vf (zNwD13 n o)) none),(37,3,.call (vf (us l1)) none)] []) 1000 [false] (calls:=[pc 115 [vf (List.take n (List.drop 0 (us o)))] (vf (zNwD13 n o)),pc 115 [vf []] (vf (us l1))]) (tu [vf (zNwD13 n o),vf (us l1)]) (by kernel_rfl) (bc rfl (bc rfl (bc rfl b0))) q0 (ce (by (try rw [w1]);(try rw [w2]);all_goals exact (@Zd7 false (List.take n (List.drop 0 o)) k3)) (ce k4 c0)) H
noncomputable abbrev zNwD14 (n:Nat) (o:List Int):=us (J.Zbw (List.take n (List.drop 0 o)))
theorem rPartsL (R:Nat) (s c i:Int) (n:Nat) (o l:List Int)  (dq:AV) (H :
  ((i>=0)->(0<=i) /\
   (i.toNat<(J.lim R).length) /\
   (0<=c*1000000000/\c*1000000000<=18446744073709551615) /\
   (0<=(J.lim R).getD i.toNat default/\(J.lim R).getD i.toNat default<=18446744073709551615) /\
   (0<=c*1000000000+(J.lim R).getD i.toNat default/\c*1000000000+(J.lim R).getD i.toNat default<=18446744073709551615) /\
   (0<=s/\s<=18446744073709551615) /\
   (¬s=0) /\
   (i.toNat<l.length) /\
   (0<=(c*1000000000+(J.lim R).getD i.toNat default).tdiv s/\(c*1000000000+(J.lim R).getD i.toNat default).tdiv s<=18446744073709551615) /\
   (0<=(c*1000000000+(J.lim R).getD i.toNat default).tdiv s/\(c*1000000000+(J.lim R).getD i.toNat default).tdiv s<=4294967295) /\
   (-9223372036854775808<=i-1/\i-1<=9223372036854775807) /\
   ZcN R s ((c*1000000000+(J.lim R).getD i.toNat default).tmod s) (i-1) n o (l.set i.toNat ((c*1000000000+(J.lim R).getD i.toNat default).tdiv s)) (Zag dq)) /\
  (¬(i>=0)->(J.ZaB (List.take n (List.drop 0 o)).length) /\
   (J.ZaB l.length) /\
   Weak (tu [vf (us (J.Zbw (List.take n (List.drop 0 o)))),vf (us (J.Zbw l))]) dq)) :
 ZcN R s c i n o l (Zag dq):=by
 unfold ZcN
 rcases xq H with ⟨d2,H⟩|⟨d2,H⟩
 ·obtain ⟨k4,H⟩:=H
  have w5:(us (J.lim R)).length=(J.lim R).length:=List.length_map ..
  have i6:(decide (i.toNat<(us (J.lim R)).length))=true ↔ (i.toNat<(J.lim R).length):=(by (try rw [w5]);all_goals exact Zac)
  obtain ⟨k7,k8,H⟩:=H
  have w9:wu (c*1000000000)=c*1000000000:=wU64 k8
  obtain ⟨k10,H⟩:=H
  have w11:wu ((J.lim R).getD i.toNat default)=(J.lim R).getD i.toNat default:=wU64 k10
  obtain ⟨k12,H⟩:=H
  have w13:wu (c*1000000000+(J.lim R).getD i.toNat default)=c*1000000000+(J.lim R).getD i.toNat default:=wU64 k12
  obtain ⟨k14,H⟩:=H
  have w15:wu s=s:=wU64 k14
  have i16:(!wu s==0)=true ↔ (¬s=0):=(by (try rw [w15]);all_goals exact ZdH)
  obtain ⟨k17,H⟩:=H
  have w19:(us l).length=l.length:=List.length_map ..
  have i20:(decide (i.toNat<(us l).length))=true ↔ (i.toNat<l.length):=(by (try rw [w19]);all_goals exact Zac)
  obtain ⟨k21,k22,H⟩:=H
  have w23:wu ((c*1000000000+(J.lim R).getD i.toNat default).tdiv s)=(c*1000000000+(J.lim R).getD i.toNat default).tdiv s:=wU64 k22
  obtain ⟨k24,H⟩:=H
  have w25:wv ((c*1000000000+(J.lim R).getD i.toNat default).tdiv s)=(c*1000000000+(J.lim R).getD i.toNat default).tdiv s:=wU32 k24
  have w26:(us l).set i.toNat (vu ((c*1000000000+(J.lim R).getD i.toNat default).tdiv s))=us (l.set i.toNat ((c*1000000000+(J.lim R).getD i.toNat default).tdiv s)):=(Zbh rfl rfl)
  have i27:(!wu s==0)=true ↔ (¬s=0):=(by (try rw [w15]);all_goals exact ZdH)
  obtain ⟨k28,H⟩:=H
  have w29:wi (i-1)=i-1:=wI64 k28
  exact Zae (G:=Zad Zcp [(34,5,.elem (vu ((J.lim R).getD i.toNat default))),(35,8,.elem (vu (l.getD i.toNat default)))] []) 1000 [true] ⟨(atC (cd Tryz.f117) [1,1,1,1,1,1,1,1,1,1,1,1,0,1,0,0]),[(8,vu s),(11,vf (us (J.lim R))),(12,AV.ref 0 0 0 n),(18,vw ((wu (wu (c*1000000000)+wu ((J.lim R).getD i.toNat default))).tmod (wu s))),(19,AV.row 1 0),(20,vi (wi (i-1)))],[⟨us o,1,0,false,true⟩,⟨(us l).set i.toNat (vu (wv (wu ((wu (wu (c*1000000000)+wu ((J.lim R).getD i.toNat default))).tdiv (wu s))))),1,0,false,true⟩],_,[((us (J.lim R)).get?Internal i.toNat=some (vu ((J.lim R).getD i.toNat default))),((us l).get?Internal i.toNat=some (vu (l.getD i.toNat default)))],_⟩ (by kernel_rfl) (bc (Zaq (Zac.2 d2)) (bc (Zac.2 k4) (bc (i6.2 k7) (bc (i16.2 k17) (bc rfl (bc (Zac.2 k4) (bc (i20.2 k21) (bc rfl (bc (i27.2 k17) b0))))))))) (qc (Zat k7) (qc (Zat k21) q0)) c0 (by (try rw [w9]);(try rw [w11]);(try rw [w13]);(try rw [w15]);(try rw [w23]);(try rw [w25]);(try rw [w26]);(try rw [w29]);all_goals exact H)
 ·have w30:List.drop 0 (us o)=us (List.drop 0 o):=(ZfB rfl)
  have w31:List.take n (us (List.drop 0 o))=us (List.take n (List.drop 0 o)):=(ZfA rfl)
  obtain ⟨k32,k33,H⟩:=H
  exact Zah (G:=Zad Zcp [(37,1,.call (vf (zNwD14 n o)) none),(37,3,.call (vf (us (J.Zbw l))) none)] []) 1000 [false] (calls:=[pc 115 [vf (List.take n (List.drop 0 (us o)))] (vf (zNwD14 n o)),pc 115 [vf (us l)] (vf (us (J.Zbw l)))]) (tu [vf (zNwD14 n o),vf (us (J.Zbw l))]) (by kernel_rfl) (bc (Zam (fun h=>d2 (Zac.1 h))) (bc rfl (bc rfl b0))) q0 (ce (by (try rw [w30]);(try rw [w31]);all_goals exact (@Zd7 false (List.take n (List.drop 0 o)) k32)) (ce (@Zd7 false l k33) c0)) H
end Go.Av

namespace Go.Av
open Go.Proofs
theorem scl_facts1 {D:Nat} (h:1<=J.cnt D):0<J.scl D/\J.scl D<1000000000/\J.fits (J.cnt D) (D*J.scl D)/\1000000000 ^ (J.cnt D-1)<=D*J.scl D/\D / 1000000000 ^ (J.cnt D-1)<1000000000:=by
 have hf:=Zai D
 have ht:D / 1000000000 ^ (J.cnt D-1)<1000000000:=ZbT (by rw [show J.cnt D-1+1=J.cnt D by omega];exact hf)
 have hnf:¬J.fits (J.cnt D-1) D:=fun k=>by have:=Zaz.1 k;omega
 have hge:1000000000 ^ (J.cnt D-1)<=D:=by unfold J.fits at hnf;omega
 have ht1:0<D / 1000000000 ^ (J.cnt D-1):=Nat.div_pos hge (Nat.pow_pos (by omega))
 have hlt:D<1000000000 ^ (J.cnt D-1)*(D / 1000000000 ^ (J.cnt D-1)+1):=Nat.lt_mul_div_succ D (Nat.pow_pos (by omega))
 have hp:1000000000 ^ J.cnt D=1000000000 ^ (J.cnt D-1)*1000000000:=by rw [<- Nat.pow_succ];congr 1;omega
 have hs1:0<J.scl D:=Nat.div_pos (by omega) (by omega)
 have hs2:J.scl D*(D / 1000000000 ^ (J.cnt D-1)+1)<=1000000000:=Nat.div_mul_le_self _ _
 unfold J.fits
 rw [hp]
 generalize D / 1000000000 ^ (J.cnt D-1)=t at ht1 ht hlt hs2
 generalize 1000000000 ^ (J.cnt D-1)=P at hge hlt
 have hs3:J.scl D<1000000000:=by
  have:J.scl D*2<=J.scl D*(t+1):=Nat.mul_le_mul_left _ (by omega)
  omega
 generalize J.scl D=s at hs1 hs2 hs3
 refine ⟨hs1,hs3,?_,?_,ht⟩
 ·have h1:D*s<P*(t+1)*s:=Nat.mul_lt_mul_of_pos_right hlt hs1
  have h2:P*(t+1)*s=P*(s*(t+1)):=by grind
  have h3:P*(s*(t+1))<=P*1000000000:=Nat.mul_le_mul_left _ hs2
  omega
 ·have:D*1<=D*s:=Nat.mul_le_mul_left _ hs1
  omega
theorem Zgs {V:Nat} (hV:V ≠ 0):1<=J.cnt V/\1<=V / 1000000000 ^ (J.cnt V-1)/\V / 1000000000 ^ (J.cnt V-1)<1000000000:=by
 have hm:1<=J.cnt V:=by
  have:=ZaE (v:=V)
  omega
 have hnf:¬J.fits (J.cnt V-1) V:=fun k=>by have:=Zaz.1 k;omega
 have hge:1000000000 ^ (J.cnt V-1)<=V:=by unfold J.fits at hnf;omega
 exact ⟨hm,Nat.div_pos hge (Nat.pow_pos (by omega)),ZbT (by rw [show J.cnt V-1+1=J.cnt V by omega];exact Zai V)⟩
theorem fits_row {V R:Nat} (h:R<V*1000000000):J.fits (J.cnt V+1) R:=by
 have h1:=Zai V
 unfold J.fits at h1 ⊢
 rw [Nat.pow_succ]
 exact Nat.lt_of_lt_of_le h (Nat.mul_le_mul_right _ (Nat.le_of_lt h1))
theorem partsTail {V R2 T:Nat} {t:Int} {G:Nat->Int->Prop} (hV:V ≠ 0) (hc:J.cnt V<=400000) (hT:T=V / 1000000000 ^ (J.cnt V-1)) (ht:t=(T:Int)) (hR:R2<V*1000000000)
  (hG:∀ g:Nat,R2 / V<=g->g<1000000000->G (V*g) (g:Int)) :
   (((↑(J.lim R2).length:Int)>(↑(J.lim V).length:Int))->(0<=(↑(J.lim V).length:Int)) /\
    ((↑(J.lim V).length:Int).toNat<(J.lim R2).length) /\
    (0<=(J.lim R2).getD (↑(J.lim V).length:Int).toNat default/\(J.lim R2).getD (↑(J.lim V).length:Int).toNat default<=18446744073709551615) /\
    (0<=(J.lim R2).getD (↑(J.lim V).length:Int).toNat default*1000000000/\(J.lim R2).getD (↑(J.lim V).length:Int).toNat default*1000000000<=18446744073709551615) /\
    (((↑(J.lim R2).length:Int)>=(↑(J.lim V).length:Int))->(-9223372036854775808<=(↑(J.lim V).length:Int)-1/\(↑(J.lim V).length:Int)-1<=9223372036854775807) /\
     (0<=(↑(J.lim V).length:Int)-1) /\
     (((↑(J.lim V).length:Int)-1).toNat<(J.lim R2).length) /\
     (0<=(J.lim R2).getD ((↑(J.lim V).length:Int)-1).toNat default/\(J.lim R2).getD ((↑(J.lim V).length:Int)-1).toNat default<=18446744073709551615) /\
     (0<=(J.lim R2).getD (↑(J.lim V).length:Int).toNat default*1000000000+(J.lim R2).getD ((↑(J.lim V).length:Int)-1).toNat default/\(J.lim R2).getD (↑(J.lim V).length:Int).toNat default*1000000000+(J.lim R2).getD ((↑(J.lim V).length:Int)-1).toNat default<=18446744073709551615) /\
     (¬t=0) /\
     (0<=((J.lim R2).getD (↑(J.lim V).length:Int).toNat default*1000000000+(J.lim R2).getD ((↑(J.lim V).length:Int)-1).toNat default).tdiv t/\((J.lim R2).getD (↑(J.lim V).length:Int).toNat default*1000000000+(J.lim R2).getD ((↑(J.lim V).length:Int)-1).toNat default).tdiv t<=18446744073709551615) /\
     ((((J.lim R2).getD (↑(J.lim V).length:Int).toNat default*1000000000+(J.lim R2).getD ((↑(J.lim V).length:Int)-1).toNat default).tdiv t>999999999)->(J.okB (↑V:Int)/\J.dig 999999999) /\
      G (V*Int.toNat 999999999) 999999999) /\
     (¬(((J.lim R2).getD (↑(J.lim V).length:Int).toNat default*1000000000+(J.lim R2).getD ((↑(J.lim V).length:Int)-1).toNat default).tdiv t>999999999)->(0<=((J.lim R2).getD (↑(J.lim V).length:Int).toNat default*1000000000+(J.lim R2).getD ((↑(J.lim V).length:Int)-1).toNat default).tdiv t/\((J.lim R2).getD (↑(J.lim V).length:Int).toNat default*1000000000+(J.lim R2).getD ((↑(J.lim V).length:Int)-1).toNat default).tdiv t<=4294967295) /\
      (J.okB (↑V:Int)/\J.dig (((J.lim R2).getD (↑(J.lim V).length:Int).toNat default*1000000000+(J.lim R2).getD ((↑(J.lim V).length:Int)-1).toNat default).tdiv t)) /\
      G (V*(((J.lim R2).getD (↑(J.lim V).length:Int).toNat default*1000000000+(J.lim R2).getD ((↑(J.lim V).length:Int)-1).toNat default).tdiv t).toNat) (((J.lim R2).getD (↑(J.lim V).length:Int).toNat default*1000000000+(J.lim R2).getD ((↑(J.lim V).length:Int)-1).toNat default).tdiv t))) /\
    (¬((↑(J.lim R2).length:Int)>=(↑(J.lim V).length:Int))->(¬t=0) /\
     (0<=((J.lim R2).getD (↑(J.lim V).length:Int).toNat default*1000000000).tdiv t/\((J.lim R2).getD (↑(J.lim V).length:Int).toNat default*1000000000).tdiv t<=18446744073709551615) /\
     ((((J.lim R2).getD (↑(J.lim V).length:Int).toNat default*1000000000).tdiv t>999999999)->(J.okB (↑V:Int)/\J.dig 999999999) /\
      G (V*Int.toNat 999999999) 999999999) /\
     (¬(((J.lim R2).getD (↑(J.lim V).length:Int).toNat default*1000000000).tdiv t>999999999)->(0<=((J.lim R2).getD (↑(J.lim V).length:Int).toNat default*1000000000).tdiv t/\((J.lim R2).getD (↑(J.lim V).length:Int).toNat default*1000000000).tdiv t<=4294967295) /\
      (J.okB (↑V:Int)/\J.dig (((J.lim R2).getD (↑(J.lim V).length:Int).toNat default*1000000000).tdiv t)) /\
      G (V*(((J.lim R2).getD (↑(J.lim V).length:Int).toNat default*1000000000).tdiv t).toNat) (((J.lim R2).getD (↑(J.lim V).length:Int).toNat default*1000000000).tdiv t)))) /\
   (¬((↑(J.lim R2).length:Int)>(↑(J.lim V).length:Int))->(((↑(J.lim R2).length:Int)>=(↑(J.lim V).length:Int))->(-9223372036854775808<=(↑(J.lim V).length:Int)-1/\(↑(J.lim V).length:Int)-1<=9223372036854775807) /\
     (0<=(↑(J.lim V).length:Int)-1) /\
     (((↑(J.lim V).length:Int)-1).toNat<(J.lim R2).length) /\
     (0<=(J.lim R2).getD ((↑(J.lim V).length:Int)-1).toNat default/\(J.lim R2).getD ((↑(J.lim V).length:Int)-1).toNat default<=18446744073709551615) /\
     (0<=0+(J.lim R2).getD ((↑(J.lim V).length:Int)-1).toNat default/\0+(J.lim R2).getD ((↑(J.lim V).length:Int)-1).toNat default<=18446744073709551615) /\
     (¬t=0) /\
     (0<=(0+(J.lim R2).getD ((↑(J.lim V).length:Int)-1).toNat default).tdiv t/\(0+(J.lim R2).getD ((↑(J.lim V).length:Int)-1).toNat default).tdiv t<=18446744073709551615) /\
     (((0+(J.lim R2).getD ((↑(J.lim V).length:Int)-1).toNat default).tdiv t>999999999)->(J.okB (↑V:Int)/\J.dig 999999999) /\
      G (V*Int.toNat 999999999) 999999999) /\
     (¬((0+(J.lim R2).getD ((↑(J.lim V).length:Int)-1).toNat default).tdiv t>999999999)->(0<=(0+(J.lim R2).getD ((↑(J.lim V).length:Int)-1).toNat default).tdiv t/\(0+(J.lim R2).getD ((↑(J.lim V).length:Int)-1).toNat default).tdiv t<=4294967295) /\
      (J.okB (↑V:Int)/\J.dig ((0+(J.lim R2).getD ((↑(J.lim V).length:Int)-1).toNat default).tdiv t)) /\
      G (V*((0+(J.lim R2).getD ((↑(J.lim V).length:Int)-1).toNat default).tdiv t).toNat) ((0+(J.lim R2).getD ((↑(J.lim V).length:Int)-1).toNat default).tdiv t))) /\
    (¬((↑(J.lim R2).length:Int)>=(↑(J.lim V).length:Int))->(¬t=0) /\
     (0<=Int.tdiv 0 t/\Int.tdiv 0 t<=18446744073709551615) /\
     ((Int.tdiv 0 t>999999999)->(J.okB (↑V:Int)/\J.dig 999999999) /\
      G (V*Int.toNat 999999999) 999999999) /\
     (¬(Int.tdiv 0 t>999999999)->(0<=Int.tdiv 0 t/\Int.tdiv 0 t<=4294967295) /\
      (J.okB (↑V:Int)/\J.dig (Int.tdiv 0 t)) /\
      G (V*(Int.tdiv 0 t).toNat) (Int.tdiv 0 t)))):=by
 obtain ⟨hm,hT1,hTlt⟩:=Zgs hV
 rw [<- hT] at hT1 hTlt
 have hqB:R2 / V<1000000000:=Nat.div_lt_of_lt_mul hR
 have hfR:J.fits (J.cnt V+1) R2:=fits_row hR
 have hcR:=Zaz.1 hfR
 have hq:R2 / V<=R2 / 1000000000 ^ (J.cnt V-1) / T:=by
  rw [Nat.le_div_iff_mul_le hT1,Nat.le_div_iff_mul_le (Nat.pow_pos (by omega))]
  have h1:T*1000000000 ^ (J.cnt V-1)<=V:=by rw [hT];exact Nat.div_mul_le_self _ _
  have h2:=Nat.mul_le_mul_left (R2 / V) h1
  have h3:=Nat.div_mul_le_self R2 V
  rw [Nat.mul_assoc];omega
 have hsp:=Za4 R2 (J.cnt V-1)
 rw [show J.cnt V-1+1=J.cnt V by omega] at hsp
 have hd1:R2 / 1000000000 ^ J.cnt V<1000000000:=ZbT hfR
 have hd0:R2 / 1000000000 ^ (J.cnt V-1) % 1000000000<1000000000:=Nat.mod_lt _ (by omega)
 have e0:((J.cnt V:Int)-1).toNat=J.cnt V-1:=by omega
 have okV:J.okB (V:Int):=by unfold J.okB;rw [Int.natAbs_natCast];exact hc
 subst ht
 have hHb:R2 / 1000000000 ^ (J.cnt V-1)<=18446744073709551615:=by
  generalize R2 / 1000000000 ^ J.cnt V=d1 at hsp hd1
  omega
 have key:∀ x:Int,x=((R2 / 1000000000 ^ (J.cnt V-1):Nat):Int)->(¬(T:Int)=0)/\(0<=x.tdiv T/\x.tdiv T<=18446744073709551615) /\
   ((x.tdiv T>999999999)->(J.okB (V:Int)/\J.dig 999999999)/\G (V*Int.toNat 999999999) 999999999) /\
   (¬(x.tdiv T>999999999)->(0<=x.tdiv T/\x.tdiv T<=4294967295)/\(J.okB (V:Int)/\J.dig (x.tdiv T))/\G (V*(x.tdiv T).toNat) (x.tdiv T)):=by
  intro x hx
  have e:x.tdiv T=((R2 / 1000000000 ^ (J.cnt V-1) / T:Nat):Int):=by rw [hx];exact (Int.ofNat_tdiv _ _).symm
  have hb:R2 / 1000000000 ^ (J.cnt V-1) / T<=18446744073709551615:=Nat.le_trans (Nat.div_le_self _ _) hHb
  rw [e,Int.toNat_natCast]
  generalize R2 / 1000000000 ^ (J.cnt V-1) / T=z at hq hb
  refine ⟨by omega,by omega,fun _=>⟨⟨okV,by unfold J.dig;omega⟩,hG 999999999 (by omega) (by omega)⟩,fun h=>⟨by omega,⟨okV,by unfold J.dig;omega⟩,hG z hq (by omega)⟩⟩
 simp only [ZaN,Int.toNat_natCast,e0]
 refine ⟨fun h => ?_,fun h=>⟨fun h2 => ?_,fun h2 => ?_⟩⟩
 ·have g1:(J.lim R2).getD (J.cnt V) default=((R2 / 1000000000 ^ J.cnt V % 1000000000:Nat):Int):=ZaA R2 (show J.cnt V<J.cnt R2 by omega)
  have g0:(J.lim R2).getD (J.cnt V-1) default=((R2 / 1000000000 ^ (J.cnt V-1) % 1000000000:Nat):Int):=ZaA R2 (show J.cnt V-1<J.cnt R2 by omega)
  rw [g1,g0,Nat.mod_eq_of_lt hd1]
  have hx:((R2 / 1000000000 ^ J.cnt V:Nat):Int)*1000000000+((R2 / 1000000000 ^ (J.cnt V-1) % 1000000000:Nat):Int)=((R2 / 1000000000 ^ (J.cnt V-1):Nat):Int):=by
   generalize R2 / 1000000000 ^ J.cnt V=d1 at hsp hd1
   generalize R2 / 1000000000 ^ (J.cnt V-1)=d0 at hsp hd0
   omega
  have kk:=key _ hx
  generalize R2 / 1000000000 ^ J.cnt V=d1 at hd1 kk
  generalize R2 / 1000000000 ^ (J.cnt V-1) % 1000000000=d0 at hd0 kk
  exact ⟨by omega,by omega,by omega,by omega,fun _=>⟨by omega,by omega,by omega,by omega,by omega,kk⟩,fun h3=>absurd h (by omega)⟩
 ·have g0:(J.lim R2).getD (J.cnt V-1) default=((R2 / 1000000000 ^ (J.cnt V-1) % 1000000000:Nat):Int):=ZaA R2 (show J.cnt V-1<J.cnt R2 by omega)
  have hz:R2 / 1000000000 ^ J.cnt V=0:=ZaL (Zai R2) (by omega)
  rw [g0]
  have hx:0+((R2 / 1000000000 ^ (J.cnt V-1) % 1000000000:Nat):Int)=((R2 / 1000000000 ^ (J.cnt V-1):Nat):Int):=by
   rw [hz] at hsp
   generalize R2 / 1000000000 ^ (J.cnt V-1)=d0 at hsp hd0
   omega
  have kk:=key _ hx
  generalize R2 / 1000000000 ^ (J.cnt V-1) % 1000000000=d0 at hd0 kk
  exact ⟨by omega,by omega,by omega,by omega,by omega,kk⟩
 ·have hz:R2 / 1000000000 ^ (J.cnt V-1)=0:=ZaL (Zai R2) (by omega)
  exact key 0 (by rw [hz];rfl)
theorem rloopG {V U R2 n:Nat} {s t i:Int} {o:List Int} {dq:AV} (hV:V ≠ 0) (hc:J.cnt V<=400000) (hR:R2<V*1000000000) (hi:0<=i/\i.toNat<n/\i.toNat<o.length/\i<=9000000)
  (hn:Zb8 V U s t (i-1) n (o.set i.toNat ((R2 / V:Nat):Int)) (R2 % V) (Zag dq)) :
  ∀ (k g:Nat),g=R2 / V+k->g<1000000000->Zbd V U s t i n o R2 (V*g) (g:Int) (Zag dq):=by
 have hqm:=Nat.div_add_mod R2 V
 have hml:=Nat.mod_lt R2 (Nat.pos_of_ne_zero hV)
 have hcR:J.cnt R2<=J.cnt V+1:=Zaz.1 (fits_row hR)
 generalize R2 / V=q at hn hqm ⊢
 generalize R2 % V=r at hn hqm hml
 have hcp:∀ g,g<1000000000->J.cnt (V*g)<=J.cnt V+1:=fun g hg=>Zaz.1 (ZcV (Zai V) (by unfold J.fits;omega))
 intro k
 induction k with
 | zero =>
  intro g hg hlt
  have hg:g=q:=by omega
  subst hg
  have e:R2-V*g=r:=by omega
  have hcp:=hcp _ hlt
  refine rPartsG _ _ _ _ _ _ _ _ _ _ _ ⟨⟨by unfold J.ZaB;omega,by unfold J.ZaB;omega⟩,fun h => ?_,fun h=>⟨⟨by unfold J.ZaB;omega,by omega⟩,hi.1,hi.2.1,by omega,by omega,by omega,?_⟩⟩
  ·exfalso
   have:¬(((V*g:Nat):Int)-(R2:Int)>0):=by omega
   unfold J.sgnI at h
   (repeat' split at h) <;> omega
  ·rw [Nat.zero_add,e];exact hn
 | succ k ih =>
  intro g hg hlt
  have hgt:R2<V*g:=by
   have:V*(q+1)<=V*g:=Nat.mul_le_mul_left _ (by omega)
   rw [Nat.mul_succ] at this;omega
  have hcp:=hcp _ hlt
  have hVg:V<=V*g:=Nat.le_mul_of_pos_right _ (by omega)
  have e:V*g-V=V*(g-1):=by
   rw [Nat.mul_sub];simp
  refine rPartsG _ _ _ _ _ _ _ _ _ _ _ ⟨⟨by unfold J.ZaB;omega,by unfold J.ZaB;omega⟩,fun h=>⟨by omega,⟨by unfold J.ZaB;omega,hVg⟩,?_⟩,fun h => ?_⟩
  ·rw [e,show (g:Int)-1=((g-1:Nat):Int) by omega]
   exact ih (g-1) (by omega) (by omega)
  ·exfalso
   unfold J.sgnI at h
   (repeat' split at h) <;> omega
end Go.Av

namespace Go.Av
open Go.Proofs
theorem loopLR {R s n Q:Nat} {o:List Int} (hs:0<s/\s<1000000000) (ho:o.take n=J.Zay n Q) (hQ:J.fits n Q) (hn:n<=1000000) (hR:J.cnt R<=1000000):∀ (i k:Nat) (l:List Int),i+k=J.cnt R->l.length=J.cnt R->l.drop i=J.Zay k (R / 1000000000 ^ i / s) ->
  ZcN R s ((R / 1000000000 ^ i % s:Nat):Int) ((i:Int)-1) n o l (Zag (.tup [usA false (J.lim Q),usA false (J.lim (R / s))]))
 | 0,k,l,hi,hol,hl=>by
  have hk:k=J.cnt R:=by omega
  subst hk
  rw [List.drop_zero] at hl
  simp only [Nat.pow_zero,Nat.div_one] at hl ⊢
  refine rPartsL _ _ _ _ _ _ _ _ ⟨fun h=>by omega,fun _ => ?_⟩
  rw [List.drop_zero,ho,hl,Zan,Zan,Zb7 hQ,Zb7 (Zbs (Zai R) (Nat.div_le_self _ _))]
  exact ⟨hn,hR,.refl _⟩
 | i+1,k,l,hi,hol,hl=>by
  have gx:(J.lim R).getD i default=((R / 1000000000 ^ i % 1000000000:Nat):Int):=ZaA R (show i<J.cnt R by omega)
  have e1:(((i+1:Nat):Int)-1)=(i:Nat):=by omega
  have hsp:=Za4 R i
  have hx:R / 1000000000 ^ i % 1000000000<1000000000:=Nat.mod_lt _ (by omega)
  obtain ⟨b1,b2,b3⟩:=ZcW (R / 1000000000 ^ (i+1)) (R / 1000000000 ^ i % 1000000000) s hx hs.1
  have hs':R / 1000000000 ^ i % 1000000000+1000000000*(R / 1000000000 ^ (i+1))=R / 1000000000 ^ i:=by omega
  rw [hs'] at b1 b2
  have hr:=Nat.mod_lt (R / 1000000000 ^ (i+1)) hs.1
  rw [e1]
  refine rPartsL _ _ _ _ _ _ _ _ ⟨fun _ => ?_,fun h=>by omega⟩
  rw [Int.toNat_natCast,gx,ZaN]
  have c1:((R / 1000000000 ^ (i+1) % s:Nat):Int)*1000000000+((R / 1000000000 ^ i % 1000000000:Nat):Int)=((R / 1000000000 ^ (i+1) % s*1000000000+R / 1000000000 ^ i % 1000000000:Nat):Int):=by omega
  obtain ⟨q0,hq0⟩:∃ q0,q0=(R / 1000000000 ^ (i+1) % s*1000000000+R / 1000000000 ^ i % 1000000000) / s:=⟨_,rfl⟩
  have c2:(((R / 1000000000 ^ (i+1) % s*1000000000+R / 1000000000 ^ i % 1000000000:Nat):Int)).tdiv s=(q0:Nat):=by rw [hq0];exact (Int.ofNat_tdiv _ _).symm
  have c3:(((R / 1000000000 ^ (i+1) % s*1000000000+R / 1000000000 ^ i % 1000000000:Nat):Int)).tmod s=((R / 1000000000 ^ i % s:Nat):Int):=by rw [b2];exact (Int.ofNat_tmod _ _).symm
  rw [<- hq0] at b1 b3
  rw [c1,c2,c3]
  have main:ZcN R s ((R / 1000000000 ^ i % s:Nat):Int) ((i:Int)-1) n o (l.set i (q0:Nat)) (Zag (.tup [usA false (J.lim Q),usA false (J.lim (R / s))])):=by
   refine loopLR hs ho hQ hn hR i (k+1) _ (by omega) (by simpa using hol) ?_
   rw [ZcF (by omega),hl,ZaF,b1]
   generalize R / 1000000000 ^ (i+1) / s=z
   have e2:(1000000000*z+q0) % 1000000000=q0:=by omega
   have e3:(1000000000*z+q0) / 1000000000=z:=by omega
   rw [e2,e3]
  have hx':((R / 1000000000 ^ i % 1000000000:Nat):Int)<1000000000:=by omega
  have hr':R / 1000000000 ^ (i+1) % s<1000000000:=by omega
  generalize R / 1000000000 ^ (i+1) % s=X at hr' main ⊢
  generalize R / 1000000000 ^ i % 1000000000=Y at hx' main ⊢
  exact ⟨by omega,by omega,by omega,by omega,by omega,by omega,by omega,by omega,by omega,by omega,by omega,main⟩
theorem stepH {V U s j n:Nat} {t:Int} {o:List Int} {dq:AV} (hV:V ≠ 0) (hc:J.cnt V<=400000) (hn:n=J.cnt U) (hU:n<=500000) (ht:t=((V / 1000000000 ^ (J.cnt V-1):Nat):Int)) (hj:j<n) (hol:n<=o.length)
  (ih:Zb8 V U s t ((j:Int)-1) n (o.set j ((U / 1000000000 ^ j % 1000000000+1000000000*(U / 1000000000 ^ (j+1) % V)) / V:Nat)) (U / 1000000000 ^ j % V) (Zag dq)) :
  (U / 1000000000 ^ (j+1) % V=0->Zdx V U s t j n o (Zag dq)/\ZcT V U s t j n o (Zag dq)) /\
  (∀ c l,J.lim (U / 1000000000 ^ (j+1) % V)=c::l->Zei V U s t j n o c l (Zag dq)):=by
 subst hn
 have gx:(J.lim U).getD j default=((U / 1000000000 ^ j % 1000000000:Nat):Int):=ZaA U hj
 have hx:U / 1000000000 ^ j % 1000000000<1000000000:=Nat.mod_lt _ (by omega)
 have hsp:=Za4 U j
 have hs':U / 1000000000 ^ j % 1000000000+1000000000*(U / 1000000000 ^ (j+1))=U / 1000000000 ^ j:=by omega
 obtain ⟨b1,b2,b3⟩:=ZcW (U / 1000000000 ^ (j+1)) (U / 1000000000 ^ j % 1000000000) V hx (Nat.pos_of_ne_zero hV)
 rw [hs'] at b2
 have hr:=Nat.mod_lt (U / 1000000000 ^ (j+1)) (Nat.pos_of_ne_zero hV)
 rw [b2] at ih
 generalize U / 1000000000 ^ (j+1) % V=R at hr ih b3 ⊢
 generalize U / 1000000000 ^ j % 1000000000=x at hx gx ih b3
 have e2:R*1000000000+x=x+1000000000*R:=by omega
 rw [e2] at ih b3
 have hlu:=ZaN U
 have hR2:x+1000000000*R<V*1000000000:=by omega
 have tl:=partsTail (G:=fun p g=>Zbd V U s t j (J.cnt U) o (x+1000000000*R) p g (Zag dq)) (R2:=x+1000000000*R) hV hc rfl ht hR2
  (fun g hg hlt=>rloopG (i:=(j:Int)) hV hc hR2 ⟨by omega,by omega,by omega,by omega⟩ (by rw [Int.toNat_natCast];exact ih) (g-(x+1000000000*R) / V) g (by omega) hlt)
 have one:R=0->Ev M1 (.pure 115 [.vec true 1 [.int .u32 ((J.lim U).getD (j:Int).toNat default)]]) (usA false (J.lim (x+1000000000*R))) []:=by
  intro h0
  have:=rtrimN true 1 x ⟨by unfold J.ZaB;omega,by unfold J.fits;omega⟩
  rw [h0,Int.toNat_natCast,gx]
  rw [Zeo hx] at this
  exact this
 refine ⟨fun h0=>⟨?_,?_⟩,fun c l hcl => ?_⟩
 ·exact rPartsAE _ _ _ _ _ _ _ (x+1000000000*R) _ ⟨fun _=>⟨one h0,by omega,by omega,rPartsB _ _ _ _ _ _ _ _ _ tl⟩,fun h=>absurd h (by omega)⟩
 ·exact rPartsA0 _ _ _ _ _ _ _ (x+1000000000*R) _ ⟨fun _=>⟨one h0,by omega,by omega,rPartsB _ _ _ _ _ _ _ _ _ tl⟩,fun h=>absurd h (by omega)⟩
 ·have hcR:J.cnt R<=J.cnt V:=ZaJ (Nat.le_of_lt hr)
  have ev:=ev115_c false (x:Int) R ⟨by omega,by omega,by omega⟩
  rw [Int.toNat_natCast,hcl,<- gx] at ev
  have hll:=ZaN R
  rw [hcl] at hll
  simp only [List.length_cons] at hll
  refine rPartsA _ _ _ _ _ _ _ _ _ (x+1000000000*R) _ ⟨fun _=>⟨?_,by omega,by omega,by omega,rPartsB _ _ _ _ _ _ _ _ _ tl⟩,fun h=>absurd h (by omega)⟩
  rw [Int.toNat_natCast];exact ev
theorem ZeW {o:List Int} {j n:Nat} {d:Int} (hj:j<n) (hn:n<=o.length):((o.set j d).take n).drop j=d::(o.take n).drop (j+1):=by
 rw [List.take_set,ZcF (by simp;omega)]
theorem loopHR {V U s n:Nat} {t:Int} (hV:V ≠ 0) (hc:J.cnt V<=400000) (hn:n=J.cnt U) (hU:n<=500000) (ht:t=((V / 1000000000 ^ (J.cnt V-1):Nat):Int)) (hs:0<s/\s<1000000000):∀ (j:Nat) (o:List Int),j<=n->n<=o.length ->
  (o.take n).drop j=J.Zay (n-j) (U / 1000000000 ^ j / V)->Zb8 V U s t ((j:Int)-1) n o (U / 1000000000 ^ j % V) (Zag (.tup [usA false (J.lim (U / V)),usA false (J.lim (U % V / s))]))
 | 0,o,hj,hol,ho=>by
  simp only [Nat.pow_zero,Nat.div_one,List.drop_zero,Nat.sub_zero] at ho ⊢
  have hm:=Nat.mod_lt U (Nat.pos_of_ne_zero hV)
  have hcR:J.cnt (U % V)<=J.cnt V:=ZaJ (Nat.le_of_lt hm)
  have hfQ:J.fits n (U / V):=by rw [hn];exact Zbs (Zai U) (Nat.div_le_self _ _)
  refine rPartsH _ _ _ _ _ _ _ _ _ ⟨fun h=>by omega,fun _ => ?_⟩
  rw [ZaN,Int.toNat_natCast]
  refine ⟨by omega,by omega,by omega,by omega,?_⟩
  have:=loopLR (R:=U % V) (s:=s) (o:=o) hs ho hfQ (by omega) (by omega) (J.cnt (U % V)) 0 (List.replicate (J.cnt (U % V)) 0) (by omega) (by simp) (by simp [J.Zay])
  rw [ZaL (Zai (U % V)) (Nat.le_refl _),Nat.zero_mod] at this
  exact this
 | j+1,o,hj,hol,ho=>by
  have hx:U / 1000000000 ^ j % 1000000000<1000000000:=Nat.mod_lt _ (by omega)
  have hsp:=Za4 U j
  have hs':U / 1000000000 ^ j % 1000000000+1000000000*(U / 1000000000 ^ (j+1))=U / 1000000000 ^ j:=by omega
  obtain ⟨b1,b2,b3⟩:=ZcW (U / 1000000000 ^ (j+1)) (U / 1000000000 ^ j % 1000000000) V hx (Nat.pos_of_ne_zero hV)
  rw [hs'] at b1
  have e2:U / 1000000000 ^ (j+1) % V*1000000000+U / 1000000000 ^ j % 1000000000=U / 1000000000 ^ j % 1000000000+1000000000*(U / 1000000000 ^ (j+1) % V):=by omega
  rw [e2] at b1 b3
  have ih:=loopHR hV hc hn hU ht hs j (o.set j ((U / 1000000000 ^ j % 1000000000+1000000000*(U / 1000000000 ^ (j+1) % V)) / V:Nat)) (by omega) (by simpa using hol) (by
   rw [ZeW (by omega) hol,ho,show n-j=(n-(j+1))+1 by omega,ZaF,b1]
   generalize U / 1000000000 ^ (j+1) / V=z
   generalize (U / 1000000000 ^ j % 1000000000+1000000000*(U / 1000000000 ^ (j+1) % V)) / V=q0 at b3
   have e2:(1000000000*z+q0) % 1000000000=q0:=by omega
   have e3:(1000000000*z+q0) / 1000000000=z:=by omega
   rw [e2,e3])
  obtain ⟨k1,k2⟩:=stepH (s:=s) hV hc hn hU ht (show j<n by omega) hol ih
  rw [show (((j+1:Nat):Int)-1)=(j:Nat) by omega]
  by_cases h0:U / 1000000000 ^ (j+1) % V=0
  ·have:=(k1 h0).1
   unfold Zdx at this
   unfold Zb8
   rw [h0,ZbR];exact this
  ·have hne:J.lim (U / 1000000000 ^ (j+1) % V) ≠ []:=by
    intro e
    have:=ZaN (U / 1000000000 ^ (j+1) % V)
    rw [e] at this
    exact h0 (ZaE.1 this.symm)
   obtain ⟨c,l,hcl⟩:=List.exists_cons_of_ne_nil hne
   have:=k2 c l hcl
   unfold Zei at this
   rw [<- hcl] at this
   exact this
end Go.Av

namespace Go.Av
open Go.Proofs
theorem partsN (fa fb:Bool) (A D:Nat) (hD:D ≠ 0) (hA:J.cnt A<=399000) (hd:J.cnt D<=399000):Ev M1 (.pure 117 [usA fa (J.lim A),usA fb (J.lim D)]) (.tup [usA false (J.lim (A / D)),usA false (J.lim (A % D))]) []:=by
 obtain ⟨m1,m2,m3⟩:=Zgs hD
 obtain ⟨s1,s2,s3,s4,s5⟩:=scl_facts1 m1
 refine call117 (rParts _ _ _ _ _ ⟨fun h => ?_,fun h => ?_⟩)
 ·rw [ZaN,ZaN] at h
  have f1:=ZaP (Zai A) (show J.cnt A<=2 by omega)
  have hA2:A<1000000000000000000:=by unfold J.fits at f1;simpa using f1
  have f2:=ZaP (Zai D) (show J.cnt D<=2 by omega)
  have hD2:D<1000000000000000000:=by unfold J.fits at f2;simpa using f2
  have c1:(A:Int).tdiv D=((A / D:Nat):Int):=(Int.ofNat_tdiv _ _).symm
  have c2:(A:Int).tmod D=((A % D:Nat):Int):=(Int.ofNat_tmod _ _).symm
  have d1:=Nat.div_le_self A D
  have d2:=Nat.mod_lt A (Nat.pos_of_ne_zero hD)
  rw [c1,c2,Int.toNat_natCast,Int.toNat_natCast]
  exact ⟨by omega,by omega,le8 (by omega),le8 (by omega),by omega,.refl _⟩
 ·have e0:((J.cnt D:Int)-1).toNat=J.cnt D-1:=by omega
  have gD:(J.lim D).getD (J.cnt D-1) default=((D / 1000000000 ^ (J.cnt D-1):Nat):Int):=by
   have:=ZaA (n:=J.cnt D) D (show J.cnt D-1<J.cnt D by omega)
   rw [Nat.mod_eq_of_lt s5] at this
   exact this
  have hs:Int.tdiv 1000000000 ((J.lim D).getD (J.cnt D-1) default+1)=(J.scl D:Int):=by
   rw [gD]
   unfold J.scl
   generalize D / 1000000000 ^ (J.cnt D-1)=t
   have:((t:Int)+1)=((t+1:Nat):Int):=by omega
   rw [this]
   exact (Int.ofNat_tdiv 1000000000 (t+1)).symm
  have hV:D*J.scl D ≠ 0:=Nat.mul_ne_zero hD (by omega)
  obtain ⟨v1,v2,v3⟩:=Zgs hV
  have hcV:J.cnt (D*J.scl D)<=J.cnt D:=Zaz.1 s3
  have f1:J.fits 1 (J.scl D):=by unfold J.fits;omega
  have hcU:J.cnt (A*J.scl D)<=J.cnt A+1:=Zaz.1 (ZcV (Zai A) f1)
  have e1:((J.cnt (D*J.scl D):Int)-1).toNat=J.cnt (D*J.scl D)-1:=by omega
  have gV:(J.lim (D*J.scl D)).getD (J.cnt (D*J.scl D)-1) default=((D*J.scl D / 1000000000 ^ (J.cnt (D*J.scl D)-1):Nat):Int):=by
   have:=ZaA (n:=J.cnt (D*J.scl D)) (D*J.scl D) (show J.cnt (D*J.scl D)-1<J.cnt (D*J.scl D) by omega)
   rw [Nat.mod_eq_of_lt v3] at this
   exact this
  have okD:J.okB (D:Int):=by unfold J.okB;rw [Int.natAbs_natCast];omega
  have okA:J.okB (A:Int):=by unfold J.okB;rw [Int.natAbs_natCast];omega
  have dg:J.dig (J.scl D:Int):=by unfold J.dig;omega
  obtain ⟨q1,q2⟩:=Zhf (A:=A) (D:=D) s1
  simp only [ZaN,e0,hs,Int.toNat_natCast,e1,gV,Nat.sub_zero]
  have go:ZcT (D*J.scl D) (A*J.scl D) (J.scl D:Int) ((D*J.scl D / 1000000000 ^ (J.cnt (D*J.scl D)-1):Nat):Int) ((J.cnt (A*J.scl D):Int)-1) (J.cnt (A*J.scl D)) (List.replicate ((J.cnt A:Int)+1).toNat 0) (Zag (.tup [usA false (J.lim (A / D)),usA false (J.lim (A % D))])):=by
   have eL:((J.cnt A:Int)+1).toNat=J.cnt A+1:=by omega
   rw [eL]
   by_cases hz:J.cnt (A*J.scl D)=0
   ·have hU:=ZaE.1 hz
    have hA0:A=0:=by
     rcases Nat.mul_eq_zero.1 hU with h | h
     ·exact h
     ·omega
    subst hA0
    rw [hz]
    have l0:J.lim 0=[]:=ZbR
    have tr:=rtrimN false 0 0 ⟨by unfold J.ZaB;omega,Zbl.2 rfl⟩
    rw [l0] at tr
    refine rPartsA0 _ _ _ _ _ _ _ 0 _ ⟨fun h=>by omega,fun _=>rPartsL0 _ _ _ _ ⟨by simp [J.ZaB],[],tr,?_⟩⟩
    rw [Nat.zero_div,Nat.zero_mod,l0]
    exact .refl _
   ·obtain ⟨j,hj⟩:∃ j,J.cnt (A*J.scl D)=j+1:=⟨J.cnt (A*J.scl D)-1,by omega⟩
    have hn:j+1=J.cnt (A*J.scl D):=hj.symm
    have hc1:J.cnt (D*J.scl D)<=400000:=by omega
    have hU5:j+1<=500000:=by omega
    have hj0:j<=j+1:=by omega
    have hj1:j<j+1:=by omega
    have hol:j+1<=(List.replicate (J.cnt A+1) (0:Int)).length:=by simp;omega
    have hzero:A*J.scl D / 1000000000 ^ (j+1)=0:=ZaL (Zai _) (by omega)
    have hx:A*J.scl D / 1000000000 ^ j % 1000000000<1000000000:=Nat.mod_lt _ (by omega)
    obtain ⟨b1,b2,b3⟩:=ZcW (A*J.scl D / 1000000000 ^ (j+1)) (A*J.scl D / 1000000000 ^ j % 1000000000) (D*J.scl D) hx (Nat.pos_of_ne_zero hV)
    have hsp:=Za4 (A*J.scl D) j
    have hs':A*J.scl D / 1000000000 ^ j % 1000000000+1000000000*(A*J.scl D / 1000000000 ^ (j+1))=A*J.scl D / 1000000000 ^ j:=by omega
    have ih:=loopHR (V:=D*J.scl D) (U:=A*J.scl D) (s:=J.scl D) hV hc1 hn hU5 rfl ⟨s1,s2⟩ j ((List.replicate (J.cnt A+1) (0:Int)).set j ((A*J.scl D / 1000000000 ^ j % 1000000000+1000000000*(A*J.scl D / 1000000000 ^ (j+1) % (D*J.scl D))) / (D*J.scl D):Nat)) hj0 (by simpa using hol) (by
     rw [ZeW hj1 hol,show j+1-j=0+1 by omega,ZaF,List.drop_of_length_le (by simp;omega)]
     rw [hs'] at b1
     rw [hzero] at b1 b3 ⊢
     rw [Nat.zero_div,Nat.zero_mod] at b1
     rw [Nat.zero_mod] at b3 ⊢
     rw [b1]
     have e5:0*1000000000+A*J.scl D / 1000000000 ^ j % 1000000000=A*J.scl D / 1000000000 ^ j % 1000000000+1000000000*0:=by simp only [Nat.zero_mul,Nat.mul_zero,Nat.zero_add,Nat.add_zero]
     rw [e5] at b3 ⊢
     rw [Nat.mul_zero,Nat.zero_add,Nat.mod_eq_of_lt b3];rfl)
    obtain ⟨k1,_⟩:=stepH (s:=J.scl D) hV hc1 hn hU5 rfl hj1 hol ih
    have:=(k1 (by rw [hzero,Nat.zero_mod])).2
    rw [q1,q2] at this
    rw [hj,show (((j+1:Nat):Int)-1)=(j:Nat) by omega]
    exact this
  have hscl:(J.scl D:Int)<=4294967295:=by omega
  have hb1:D / 1000000000 ^ (J.cnt D-1)<1000000000:=s5
  rw [gD]
  generalize D / 1000000000 ^ (J.cnt D-1)=T at hb1 ⊢
  generalize D*J.scl D / 1000000000 ^ (J.cnt (D*J.scl D)-1)=T2 at v3 go ⊢
  exact ⟨by omega,by omega,by omega,by omega,by omega,by omega,by omega,by omega,⟨okD,dg⟩,by omega,by omega,by omega,by omega,by omega,by omega,by omega,by omega,⟨okA,dg⟩,by omega,by omega,by rw [List.length_replicate];omega,by omega,go⟩
theorem ev117 (fa fb:Bool) (A D:Nat) (h:J.cnt A<=399000/\J.cnt D<=399000/\D ≠ 0):Ev M1 (.pure 117 [usA fa (J.lim A),usA fb (J.lim D)]) (.tup [usA false (J.lim (A / D)),usA false (J.lim (A % D))]) []:=partsN fa fb A D h.2.2 h.1 h.2.1
theorem ev117_a (fa fb:Bool) (v w:Int) (h:J.cnt v.natAbs<=399000/\J.cnt w.natAbs<=399000/\w ≠ 0):Ev M1 (.pure 117 [usA fa (J.Zab v),usA fb (J.Zab w)]) (.tup [usA false (J.lim (v.natAbs / w.natAbs)),usA false (J.lim (v.natAbs % w.natAbs))]) []:=partsN fa fb _ _ (by have:=h.2.2;omega) h.1 h.2.1
end Go.Av

namespace Go.Av
open Go.Proofs
set_option maxRecDepth 100000
def fi80:Fi:=⟨54,[.cell 4 24]⟩
def kp80:List (Nat × List Nat):=[(0,[2,3,4]),(1,[4,5,6]),(2,[4,5,6,27]),(3,[4,6,8]),(4,[4,5,6]),(5,[4,5,6,38]),(6,[4]),(7,[4,9,10]),(8,[4,9,10,46]),(9,[4,9,10]),(10,[4])]
def fi128:Fi:=⟨54,[.cell 4 24,.cell 5 24,.tmp 6]⟩
def kp128:List (Nat × List Nat):=[(0,[2,3,4,5]),(1,[2,3,4,5,14]),(2,[4,5,6]),(3,[2,3,4,5,7,8]),(4,[2,3,4,5,8,9,10]),(5,[3,4,5,9,10,45]),(6,[4,5,9,10]),(7,[4,5,6])]
def Zh1 (fa fb:Bool) (a b:Int) (Q:AV->Heap->Prop):Prop:=Wp M1 (.run fi128 (atC (cd Tryz.f128) []) [(0,bigA fa a),(1,bigA fb b)] []) Q
def rGCD_at (fa fb:Bool) (a b:Int) (Q:AV->Heap->Prop):Prop:=Wp M1 (.run fi80 (atC (cd Tryz.f80) []) [(0,bigA fa a),(1,bigA fb b)] []) Q
def Zf6 (fx fy:Bool) (x y:Nat) (Q:AV->Heap->Prop):Prop:=Wp M1 (.run fi80 (atC (cd Tryz.f80) [1,1,0,0,0]) [(4,.ptr 0 0 0 0),(5,.vec fx 1 ((J.lim x).map (.int .u32))),(6,.vec fy 1 ((J.lim y).map (.int .u32)))] [⟨[.agg [.bool false,.vnil]],2,0,false,false⟩]) Q
def Zej (u v:Int) (Q:AV->Heap->Prop):Prop:=Wp M1 (.run fi80 (atC (cd Tryz.f80) [1,1,1,1,1,0,0,0]) [(4,.ptr 0 0 0 0),(9,.int .u64 u),(10,.int .u64 v)] [⟨[.agg [.bool false,.vnil]],2,0,false,false⟩]) Q
theorem call80 {args:List AV} {d:AV} (h:wc M1 fi80 Tryz.f80 args d):Ev M1 (.pure 80 args) d []:=pcl _ _ (by kernel_rfl) h
theorem call128 {args:List AV} {d:AV} (h:wc M1 fi128 Tryz.f128 args d):Ev M1 (.pure 128 args) d []:=pcl _ _ (by kernel_rfl) h
noncomputable abbrev zNwE1 (a:Int) (b:Int):=J.sg (!J.Zaa a==J.Zaa b) (a.natAbs / b.natAbs)
noncomputable abbrev zNwE2 (a:Int) (b:Int):=tu [vf (us (J.lim (a.natAbs / b.natAbs))),vf (us (J.lim (a.natAbs % b.natAbs)))]
theorem rDivMod (fa fb:Bool) (a b:Int)  (dq:AV) (H :
  (((↑(J.Zab b).length:Int)=0)->Weak (tu [ag [vb false,AV.vnil],ag [vb false,AV.vnil],vi 6]) dq) /\
  (¬((↑(J.Zab b).length:Int)=0)->(J.cnt a.natAbs<=399000/\J.cnt b.natAbs<=399000/\b ≠ 0) /\
   (J.ZaB (J.cnt (a.natAbs / b.natAbs))) /\
   (J.ZaB (J.cnt (a.natAbs % b.natAbs))) /\
   ((((↑(J.lim (a.natAbs % b.natAbs)).length:Int)>0)/\(¬(J.Zaa a=J.Zaa b)))->(J.inI 1) /\
    (J.okB (J.sg (!J.Zaa a==J.Zaa b) (a.natAbs / b.natAbs))) /\
    (J.okB (J.sg (J.Zaa a) (a.natAbs % b.natAbs))/\J.okB b) /\
    Weak (tu [bigA false (J.sg (!J.Zaa a==J.Zaa b) (a.natAbs / b.natAbs)-1),bigA false (J.sg (J.Zaa a) (a.natAbs % b.natAbs)+b),vi 0]) dq) /\
   (¬(((↑(J.lim (a.natAbs % b.natAbs)).length:Int)>0)/\(¬(J.Zaa a=J.Zaa b)))->Weak (tu [bigA false (J.sg (!J.Zaa a==J.Zaa b) (a.natAbs / b.natAbs)),bigA false (J.sg (J.Zaa a) (a.natAbs % b.natAbs)),vi 0]) dq))) :
 Zh1 fa fb a b (Zag dq):=by
 unfold Zh1
 have w1:(us (J.Zab b)).length=(J.Zab b).length:=List.length_map ..
 have i2:((↑(us (J.Zab b)).length:Int)==0)=true ↔ ((↑(J.Zab b).length:Int)=0):=(by (try rw [w1]);all_goals exact i_eq)
 rcases xq H with ⟨d3,H⟩|⟨d3,H⟩
 ·exact Zah (G:=Zad kp128 [] []) 1000 [true] (tu [ag [vb false,AV.vnil],ag [vb false,AV.vnil],vi 6]) (by kernel_rfl) (bc rfl (bc (Zaq (i2.2 d3)) (bc rfl (bc rfl b0)))) q0 c0 H
 ·obtain ⟨k4,k5,k6,H⟩:=H
  refine Zae (G:=Zad kp128 [(3,4,.call (zNwE2 a b) none),(4,6,.call (bigA false (zNwE1 a b)) none),(4,10,.call (bigA false (J.sg (J.Zaa a) (a.natAbs % b.natAbs))) none)] []) 10 [false] ⟨(atC (cd Tryz.f128) [1,1,1,0]),[(2,AV.ptr 0 0 0 0),(3,AV.ptr 1 0 0 0),(4,AV.ptr 2 0 0 0),(5,AV.ptr 3 0 0 0),(7,vf (us (J.lim (a.natAbs / b.natAbs)))),(8,vf (us (J.lim (a.natAbs % b.natAbs))))],[⟨[bigA fa a],2,0,false,false⟩,⟨[bigA fb b],2,0,false,false⟩,⟨[ag [vb false,AV.vnil]],2,0,false,false⟩,⟨[ag [vb false,AV.vnil]],2,0,false,false⟩],_,[],_⟩ (by kernel_rfl) (bc rfl (bc (Zam (fun h=>d3 (i2.1 h))) (bc rfl (bc rfl b0)))) q0 (ce (@ev117_a fa fb a b k4) c0) (ZdN (G:=Zad kp128 [(3,4,.call (zNwE2 a b) none),(4,6,.call (bigA false (zNwE1 a b)) none),(4,10,.call (bigA false (J.sg (J.Zaa a) (a.natAbs % b.natAbs))) none)] []) [0,1,2,3,5,4] 11 (e1:=[(2,AV.ptr 0 0 0 0),(3,AV.ptr 1 0 0 0),(4,AV.ptr 2 0 0 0),(5,AV.ptr 3 0 0 0),(8,vf (us (J.lim (a.natAbs % b.natAbs)))),(9,AV.ptr 4 0 0 0),(10,AV.ptr 5 0 0 0)]) (L1:=[⟨[bigA fa a],2,0,false,false⟩,⟨[bigA fb b],2,0,false,false⟩,⟨[ag [vb false,AV.vnil]],2,0,false,false⟩,⟨[ag [vb false,AV.vnil]],2,0,false,false⟩,⟨[bigA false (zNwE1 a b)],2,0,false,false⟩,⟨[bigA false (J.sg (J.Zaa a) (a.natAbs % b.natAbs))],2,0,false,false⟩]) (a:=[true,true,true,true,true]) (q:=[]) (cs:=[⟨true,false,118,[vb !J.Zaa a==J.Zaa b,vf (us (J.lim (a.natAbs / b.natAbs)))],[],bigA false (zNwE1 a b),[]⟩,⟨true,false,118,[vb (J.Zaa a),vf (us (J.lim (a.natAbs % b.natAbs)))],[],bigA false (J.sg (J.Zaa a) (a.natAbs % b.natAbs)),[]⟩]) (by kernel_rfl) (by kernel_rfl) (Zal rfl (Zal rfl (Zal rfl (Zal rfl (Zal rfl ZaQ))))) Zbf (Za8 (fun _=>(@Zc8 (!J.Zaa a==J.Zaa b) false (a.natAbs / b.natAbs) k5)) (Za8 (fun _=>(@Zc8 (J.Zaa a) false (a.natAbs % b.natAbs) k6)) Zbg)) ?_)
  have w7:(us (J.lim (a.natAbs % b.natAbs))).length=(J.lim (a.natAbs % b.natAbs)).length:=List.length_map ..
  have i8:(bif decide ((↑(us (J.lim (a.natAbs % b.natAbs))).length:Int)>0) then !J.Zaa a==J.Zaa b else false)=true ↔ (((↑(J.lim (a.natAbs % b.natAbs)).length:Int)>0)/\(¬(J.Zaa a=J.Zaa b))):=(by (try rw [w7]);all_goals exact (ZaG Zac (ZaH i_eq)))
  rcases xq H with ⟨d9,H⟩|⟨d9,H⟩
  ·obtain ⟨k10,k11,k12,H⟩:=H
   exact Zah (G:=Zad kp128 [(6,1,.call (ag [vb false,vf (us (J.Zab 1))]) none),(6,2,.call (bigA false (J.sg (!J.Zaa a==J.Zaa b) (a.natAbs / b.natAbs)-1)) none),(6,5,.call (bigA false (J.sg (J.Zaa a) (a.natAbs % b.natAbs)+b)) none)] [(7,[5003,4002,7001,6000])]) 1000 [true] (asm:=[!(decide ((↑(us (J.lim (a.natAbs % b.natAbs))).length:Int)>0)==true&&true)||true,!(decide ((↑(us (J.lim (a.natAbs % b.natAbs))).length:Int)>0)==true&&true)||true,(bif decide ((↑(us (J.lim (a.natAbs % b.natAbs))).length:Int)>0) then !J.Zaa a==J.Zaa b else false)==true,true,true,true,true,true,true,true,true,true]) (tu [bigA false (J.sg (!J.Zaa a==J.Zaa b) (a.natAbs / b.natAbs)-1),bigA false (J.sg (J.Zaa a) (a.natAbs % b.natAbs)+b),vi 0]) (by kernel_rfl) (bc (Bool.or_true _) (bc (Bool.or_true _) (bc (Zaq (i8.2 d9)) (bc rfl (bc rfl (bc rfl (bc rfl (bc rfl (bc rfl (bc rfl (bc rfl (bc rfl b0)))))))))))) q0 (ce (@ev121 1 k10) (ce (@ev157_a false (zNwE1 a b) k11) (ce (@ev90 false fb (J.sg (J.Zaa a) (a.natAbs % b.natAbs)) b k12) c0))) H
  ·exact Zah (G:=Zad kp128 [] [(7,[5003,4002,7001,6000])]) 1000 [false] (asm:=[!(decide ((↑(us (J.lim (a.natAbs % b.natAbs))).length:Int)>0)==true&&true)||true,!(decide ((↑(us (J.lim (a.natAbs % b.natAbs))).length:Int)>0)==true&&true)||true,(bif decide ((↑(us (J.lim (a.natAbs % b.natAbs))).length:Int)>0) then !J.Zaa a==J.Zaa b else false)==false,true,true,true,true]) (tu [bigA false (zNwE1 a b),bigA false (J.sg (J.Zaa a) (a.natAbs % b.natAbs)),vi 0]) (by kernel_rfl) (bc (Bool.or_true _) (bc (Bool.or_true _) (bc (Zam (fun h=>d9 (i8.1 h))) (bc rfl (bc rfl (bc rfl (bc rfl b0))))))) q0 c0 H
theorem rGCD (fa fb:Bool) (a b:Int)  (dq:AV) (H :
  Wp M1 (.run fi80 (atC (cd Tryz.f80) [1,1,0,0,0]) [(4,AV.ptr 0 0 0 0),(5,AV.vec fa 1 (us (J.Zab a))),(6,AV.vec fb 1 (us (J.Zab b)))] [{ elems:=[ag [vb false,AV.vnil]],es:=2,ver:=0,frozen:=false,clean:=false }]) (Zag dq)) :
 rGCD_at fa fb a b (Zag dq):=by
 unfold rGCD_at
 exact Zae (G:=Zad kp80 [] []) 1000 [] ⟨(atC (cd Tryz.f80) [1,1,0,0,0]),[(4,AV.ptr 2 0 0 0),(5,AV.vec fa 1 (us (J.Zab a))),(6,AV.vec fb 1 (us (J.Zab b)))],[⟨[bigA fa a],2,0,false,false⟩,⟨[bigA fb b],2,0,false,false⟩,⟨[ag [vb false,AV.vnil]],2,0,false,false⟩],_,[],_⟩ (by kernel_rfl) (bc rfl (bc rfl b0)) q0 c0 (ZbB [2] (by kernel_rfl) H)
theorem rGCDH (fx fy:Bool) (x y:Nat)  (dq:AV) (H :
  ((((↑(J.lim y).length:Int)>0)/\(((↑(J.lim x).length:Int)>2)\/((↑(J.lim y).length:Int)>2)))->(J.cnt x<=399000/\J.cnt y<=399000/\y ≠ 0) /\
   Zf6 fy false y (x % y) (Zag dq)) /\
  (¬(((↑(J.lim y).length:Int)>0)/\(((↑(J.lim x).length:Int)>2)\/((↑(J.lim y).length:Int)>2)))->(((↑(J.lim y).length:Int)=0)->(J.ZaB (J.cnt x)) /\
    Weak (bigA false (J.sg false x)) dq) /\
   (¬((↑(J.lim y).length:Int)=0)->(J.cnt x<=2) /\
    (J.cnt y<=2) /\
    Zej ((↑x:Int)) ((↑y:Int)) (Zag dq)))) :
 Zf6 fx fy x y (Zag dq):=by
 unfold Zf6
 have w1:(us (J.lim y)).length=(J.lim y).length:=List.length_map ..
 have w2:(us (J.lim x)).length=(J.lim x).length:=List.length_map ..
 have i3:(bif decide ((↑(us (J.lim y)).length:Int)>0) then bif decide ((↑(us (J.lim x)).length:Int)>2) then true else decide ((↑(us (J.lim y)).length:Int)>2) else false)=true ↔ (((↑(J.lim y).length:Int)>0)/\(((↑(J.lim x).length:Int)>2)\/((↑(J.lim y).length:Int)>2))):=(by (try rw [w1]);(try rw [w2]);all_goals exact (ZaG Zac (ZaM Zac Zac)))
 rcases xq H with ⟨d4,H⟩|⟨d4,H⟩
 ·obtain ⟨k5,H⟩:=H
  exact Zae (G:=Zad kp80 [(3,2,.call (tu [vf (us (J.lim (x / y))),vf (us (J.lim (x % y)))]) none)] []) 1000 [true] ⟨(atC (cd Tryz.f80) [1,1,0,0,0]),[(4,AV.ptr 0 0 0 0),(5,AV.vec fy 1 (us (J.lim y))),(6,vf (us (J.lim (x % y))))],[⟨[ag [vb false,AV.vnil]],2,0,false,false⟩],_,[],_⟩ (by kernel_rfl) (bc (Zaq (i3.2 d4)) b0) q0 (ce (@ev117 fx fy x y k5) c0) H
 ·have i6:((↑(us (J.lim y)).length:Int)==0)=true ↔ ((↑(J.lim y).length:Int)=0):=(by (try rw [w1]);all_goals exact i_eq)
  rcases xq H with ⟨d7,H⟩|⟨d7,H⟩
  ·obtain ⟨k8,H⟩:=H
   exact Zah (G:=Zad kp80 [(6,1,.call (bigA false (J.sg false x)) none)] []) 1000 [false,true] (bigA false (J.sg false x)) (by kernel_rfl) (bc (Zam (fun h=>d4 (i3.1 h))) (bc (Zaq (i6.2 d7)) (bc rfl b0))) q0 (ce (@Zc8 false fx x k8) c0) H
  ·obtain ⟨k9,k10,H⟩:=H
   exact Zae (G:=Zad kp80 [(7,1,.call (vw (↑x:Int)) none),(7,3,.call (vw (↑y:Int)) none)] []) 1000 [false,false] ⟨(atC (cd Tryz.f80) [1,1,1,1,1,0,0,0]),[(4,AV.ptr 0 0 0 0),(9,vw (↑x:Int)),(10,vw (↑y:Int))],[⟨[ag [vb false,AV.vnil]],2,0,false,false⟩],_,[],_⟩ (by kernel_rfl) (bc (Zam (fun h=>d4 (i3.1 h))) (bc (Zam (fun h=>d7 (i6.1 h))) b0)) q0 (ce (@ev119 fx x k9) (ce (@ev119 fy y k10) c0)) H
theorem rGCDW (u v:Int)  (dq:AV) (H :
  ((v>0)->(¬v=0) /\
   Zej v (u.tmod v) (Zag dq)) /\
  (¬(v>0)->(0<=u/\u<=18446744073709551615) /\
   (J.ZaB (J.cnt u.toNat)) /\
   Weak (bigA false (J.sg false u.toNat)) dq)) :
 Zej u v (Zag dq):=by
 unfold Zej
 rcases xq H with ⟨d2,H⟩|⟨d2,H⟩
 ·obtain ⟨k4,H⟩:=H
  exact Zae (G:=Zad kp80 [] []) 1000 [true] ⟨(atC (cd Tryz.f80) [1,1,1,1,1,0,0,0]),[(4,AV.ptr 0 0 0 0),(9,vw v),(10,vw (u.tmod v))],[⟨[ag [vb false,AV.vnil]],2,0,false,false⟩],_,[],_⟩ (by kernel_rfl) (bc (Zaq (Zac.2 d2)) (bc (ZdH.2 k4) b0)) q0 c0 H
 ·obtain ⟨k5,k6,H⟩:=H
  exact Zah (G:=Zad kp80 [(10,1,.call (vf (us (J.lim u.toNat))) none),(10,2,.call (bigA false (J.sg false u.toNat)) none)] []) 1000 [false] (bigA false (J.sg false u.toNat)) (by kernel_rfl) (bc (Zam (fun h=>d2 (Zac.1 h))) (bc rfl b0)) q0 (ce (@ev120 u k5) (ce (@Zc8 false false (u.toNat) k6) c0)) H
end Go.Av

namespace Go.Av
open Go.Proofs
theorem ev128 (fa fb:Bool) (a b:Int) (h:J.cnt a.natAbs<=399000/\J.cnt b.natAbs<=399000/\b ≠ 0):Ev M1 (.pure 128 [bigA fa a,bigA fb b]) (.tup [bigA false (J.flo a b),bigA false (J.flr a b),.int .i64 0]) []:=by
 obtain ⟨ha,hb,h0⟩:=h
 have hl:=ZaX b
 have hd0:b.natAbs ≠ 0:=by omega
 have hm:=Nat.mod_lt a.natAbs (Nat.pos_of_ne_zero hd0)
 have heq:=sg_div (a:=a) h0
 have hc1:=ZaJ (Nat.le_of_lt hm)
 have hc2:=ZaJ (Nat.div_le_self a.natAbs b.natAbs)
 have okb:J.okB b:=by unfold J.okB;omega
 have okr:J.okB (J.sg (J.Zaa a) (a.natAbs % b.natAbs)):=by unfold J.okB;rw [Zde];omega
 have okq:J.okB (J.sg (!(J.Zaa a==J.Zaa b)) (a.natAbs / b.natAbs)):=by unfold J.okB;rw [Zde];omega
 have hra:(J.sg (J.Zaa a) (a.natAbs % b.natAbs)).natAbs=a.natAbs % b.natAbs:=Zde _ _
 have hrl:=ZaN (a.natAbs % b.natAbs)
 have hrc:=ZaE (v:=a.natAbs % b.natAbs)
 have hneg:(J.Zaa a=true->J.sg (J.Zaa a) (a.natAbs % b.natAbs)<=0)/\(¬J.Zaa a=true->0<=J.sg (J.Zaa a) (a.natAbs % b.natAbs)):=by
  unfold J.sg
  exact ⟨fun h=>by rw [if_pos h];omega,fun h=>by rw [if_neg h];omega⟩
 refine call128 (rDivMod _ _ _ _ _ ⟨fun h => ?_,fun _=>⟨⟨ha,hb,h0⟩,by unfold J.ZaB;omega,by unfold J.ZaB;omega,fun k=>⟨by unfold J.inI;omega,okq,⟨okr,okb⟩,?_⟩,fun k => ?_⟩⟩)
 ·have:=ZaE (v:=b.natAbs)
  omega
 ·obtain ⟨k1,k2⟩:=k
  have hne:a.natAbs % b.natAbs ≠ 0:=by omega
  generalize J.sg (J.Zaa a) (a.natAbs % b.natAbs)=r at *
  generalize J.sg (!(J.Zaa a==J.Zaa b)) (a.natAbs / b.natAbs)=q at *
  have hs:(r<0/\0<b)\/(0<r/\b<0):=by
   by_cases ka:J.Zaa a=true
   ·have:=hneg.1 ka
    have kb:¬b<0:=fun x=>k2 (by rw [ka,Zak.2 x])
    exact .inl ⟨by omega,by omega⟩
   ·have:=hneg.2 ka
    by_cases kb:b<0
    ·exact .inr ⟨by omega,kb⟩
    ·exact absurd (by rw [Bool.eq_false_iff.2 ka,ZaY kb]) k2
  obtain ⟨e1,e2⟩:=Zes (a:=a) (b:=b) (q:=q-1) (r:=r+b) (by grind) (by omega)
  rw [e1,e2]
  exact .refl _
 ·generalize hr:J.sg (J.Zaa a) (a.natAbs % b.natAbs)=r at *
  generalize J.sg (!(J.Zaa a==J.Zaa b)) (a.natAbs / b.natAbs)=q at *
  have hs:r=0\/(r<0/\b<0)\/(0<r/\0<b):=by
   by_cases hz:a.natAbs % b.natAbs=0
   ·left;omega
   ·right
    have k:J.Zaa a=J.Zaa b:=Classical.byContradiction fun k2=>k ⟨by omega,k2⟩
    by_cases ka:J.Zaa a=true
    ·have:=hneg.1 ka
     exact .inl ⟨by omega,Zak.1 (k ▸ ka)⟩
    ·have:=hneg.2 ka
     have:¬b<0:=fun x=>ka (by rw [k];exact Zak.2 x)
     exact .inr ⟨by omega,by omega⟩
  obtain ⟨e1,e2⟩:=Zes (a:=a) (b:=b) (q:=q) (r:=r) heq (by omega)
  rw [e1,e2]
  exact .refl _
theorem ev128_b (fa:Bool) (a:Int) (h:J.cnt a.natAbs<=399000):Ev M1 (.pure 128 [bigA fa a,.agg [.bool false,.vec false 1 ((J.Zab 2).map (.int .u32))]]) (.tup [bigA false (J.flo a 2),bigA false (J.flr a 2),.int .i64 0]) []:=
 ev128 fa false a 2 ⟨h,by have:=Zd9 (n:=(2:Int).natAbs) (by decide);omega,by decide⟩
theorem gcd_step (x y:Nat):Nat.gcd y (x % y)=Nat.gcd x y:=by rw [Nat.gcd_comm x y,Nat.gcd_rec y x,Nat.gcd_comm]
theorem rgcdW (n:Nat):∀ u v:Nat,v<=n->u<=18446744073709551615->v<=18446744073709551615->Zej u v (Zag (bigA false (Nat.gcd u v:Nat))):=by
 have base:∀ u:Nat,u<=18446744073709551615->Zej u (0:Nat) (Zag (bigA false (Nat.gcd u 0:Nat))):=by
  intro u hu
  refine rGCDW _ _ _ ⟨fun h=>by omega,fun _=>⟨by omega,by have:=cnt_u64 (u:=u) hu;rw [Int.toNat_natCast];unfold J.ZaB;omega,?_⟩⟩
  rw [Int.toNat_natCast,Zb2,Nat.gcd_zero_right];exact .refl _
 induction n with
 | zero =>
  intro u v hv hu hv2
  have:v=0:=by omega
  subst this
  exact base u hu
 | succ n ih =>
  intro u v hv hu hv2
  by_cases h0:v=0
  ·subst h0;exact base u hu
  ·refine rGCDW _ _ _ ⟨fun h=>⟨by omega,?_⟩,fun h=>absurd h (by omega)⟩
   rw [<- Int.ofNat_tmod]
   have hlt:=Nat.mod_lt u (show 0<v by omega)
   have:=ih v (u % v) (by omega) hv2 (by omega)
   rwa [gcd_step] at this
theorem rgcdH (n:Nat):∀ (fx fy:Bool) (x y:Nat),y<=n->J.cnt x<=399000->J.cnt y<=399000->Zf6 fx fy x y (Zag (bigA false (Nat.gcd x y:Nat))):=by
 have small:∀ x:Nat,J.cnt x<=2->x<=18446744073709551615:=by
  intro x h
  have f:=ZaP (Zai x) h
  have:x<1000000000000000000:=by unfold J.fits at f;simpa using f
  omega
 induction n with
 | zero =>
  intro fx fy x y hy hx hcy
  have:y=0:=by omega
  subst this
  refine rGCDH _ _ _ _ _ ⟨fun h => ?_,fun _=>⟨fun _=>⟨by unfold J.ZaB;omega,?_⟩,fun h => ?_⟩⟩
  ·have:=h.1
   rw [ZaN,Zbq] at this;omega
  ·rw [Zb2,Nat.gcd_zero_right];exact .refl _
  ·rw [ZaN,Zbq] at h;omega
 | succ n ih =>
  intro fx fy x y hy hx hcy
  have hc:=ZaE (v:=y)
  refine rGCDH _ _ _ _ _ ⟨fun h => ?_,fun h=>⟨fun k=>⟨by unfold J.ZaB;omega,?_⟩,fun k => ?_⟩⟩
  ·rw [ZaN,ZaN] at h
   have h0:y ≠ 0:=fun e=>by have:=hc.2 e;omega
   have hlt:=Nat.mod_lt x (show 0<y by omega)
   have:=ih fy false y (x % y) (by omega) hcy (by have:=ZaJ (Nat.le_of_lt hlt);omega)
   rw [gcd_step] at this
   exact ⟨⟨hx,hcy,h0⟩,this⟩
  ·rw [ZaN] at k
   have:y=0:=hc.1 (by omega)
   rw [this,Zb2,Nat.gcd_zero_right];exact .refl _
  ·rw [ZaN,ZaN] at h
   rw [ZaN] at k
   exact ⟨by omega,by omega,rgcdW y x y (Nat.le_refl _) (small x (by omega)) (small y (by omega))⟩
theorem ev80 (fa fb:Bool) (a b:Int) (h:J.cnt a.natAbs<=399000/\J.cnt b.natAbs<=399000):Ev M1 (.pure 80 [bigA fa a,bigA fb b]) (bigA false (Int.gcd a b:Nat)) []:=
 call80 (rGCD _ _ _ _ _ (rgcdH b.natAbs fa fb a.natAbs b.natAbs (Nat.le_refl _) h.1 h.2))
end Go.Av

namespace Go.Av
open Go.Proofs
theorem cnt_pow (k:Nat):J.cnt (1000000000 ^ k)=k+1:=by
 have h1:=Zaz.1 (fits_pow (show k<k+1 by omega))
 have h2:¬J.fits k (1000000000 ^ k):=fun h=>Nat.lt_irrefl _ h
 have h3:¬J.cnt (1000000000 ^ k)<=k:=fun h=>h2 (Zaz.2 h)
 omega
abbrev unitA (k:Nat):AV:=.agg [.bool false,.vec false 1 ((List.replicate k (0:Int)++[1]).map (.int .u32))]
theorem unit_big (k:Nat):unitA k=bigA false ((1000000000 ^ k:Nat):Int):=by
 show _=AV.agg [.bool (J.Zaa ((1000000000 ^ k:Nat):Int)),.vec false 1 ((J.Zab ((1000000000 ^ k:Nat):Int)).map (.int .u32))]
 rw [isNeg_nat,limI_natAbs,Int.natAbs_natCast,cnt_pow,limN_unit]
def J.okK (k:Nat):Prop:=k<=390000
theorem okK_cnt {k:Nat} (h:J.okK k):J.cnt (((1000000000 ^ k:Nat):Int)).natAbs<=399000:=by
 rw [Int.natAbs_natCast,cnt_pow];unfold J.okK at h;omega
theorem okK_okB {k:Nat} (h:J.okK k):J.okB ((1000000000 ^ k:Nat):Int):=by
 have:=okK_cnt h
 unfold J.okB;omega
def J.bk (k:Nat):Nat:=1000000000 ^ k
theorem unit_bk (k:Nat):unitA k=bigA false (J.bk k:Int):=unit_big k
theorem ev128_c (fa:Bool) (a:Int) (k:Nat) (h:J.cnt a.natAbs<=399000/\J.okK k):Ev M1 (.pure 128 [bigA fa a,unitA k]) (.tup [bigA false (J.flo a (J.bk k:Int)),bigA false (J.flr a (J.bk k:Int)),.int .i64 0]) []:=by
 rw [unit_bk]
 refine ev128 fa false a _ ⟨h.1,okK_cnt h.2,?_⟩
 have:0<J.bk k:=Nat.pow_pos (by omega)
 omega
theorem ev90_a (fb:Bool) (b:Int) (k:Nat) (h:J.okK k/\J.okB b):Ev M1 (.pure 90 [unitA k,bigA fb b]) (bigA false ((J.bk k:Int)+b)) []:=by
 rw [unit_bk]
 exact ev90 false fb _ b ⟨okK_okB h.1,h.2⟩
theorem ev111_a (fa:Bool) (a:Int) (k:Nat) (h:J.okB a/\J.okK k):Ev M1 (.pure 111 [bigA fa a,unitA k]) (.int .i64 (J.sgnI (a-(J.bk k:Int)))) []:=by
 rw [unit_bk]
 exact ev111 fa false a _ ⟨h.1,okK_okB h.2⟩
end Go.Av

namespace Go.Av
open Go.Proofs
set_option maxRecDepth 100000
def fi158:Fi:=⟨52,[.cell 2 24,.tmp 3]⟩
def ZfD:List (Nat × List Nat):=[(0,[1,2]),(1,[1,2,13]),(2,[2,3]),(3,[1,2,18]),(4,[2,3]),(5,[1,2,4]),(6,[1,2,4,5]),(7,[1,2,4,5,6]),(8,[1,2,4,5,9]),(9,[1,2,4,5,9,49]),(10,[2,3]),(11,[1,2,4,5])]
def rSqrt_at (fa:Bool) (a:Int) (Q:AV->Heap->Prop):Prop:=Wp M1 (.run fi158 (atC (cd Tryz.f158) []) [(0,bigA fa a)] []) Q
def ZgD (fa:Bool) (a:Int) (k:Nat) (Q:AV->Heap->Prop):Prop:=Wp M1 (.run fi158 (atC (cd Tryz.f158) [1,1,1,1,1,0,0]) [(1,.ptr 0 0 0 0),(2,.ptr 1 0 0 0),(4,.ptr 2 0 0 0),(5,.ptr 3 0 0 0)] [⟨[bigA fa a],2,0,false,false⟩,⟨[.agg [.bool false,.vnil]],2,0,false,false⟩,⟨[.agg [.bool false,.row 4 1]],2,0,false,false⟩,⟨[.agg [.bool false,.vec false 1 ((J.Zab 2).map (.int .u32))]],2,0,false,false⟩,⟨(List.replicate k (0:Int)++[1]).map (.int .u32),1,1,false,true⟩]) Q
def ZdX (fa:Bool) (a x:Int) (Q:AV->Heap->Prop):Prop:=Wp M1 (.run fi158 (atC (cd Tryz.f158) [1,1,1,1,1,0,0]) [(1,.ptr 0 0 0 0),(2,.ptr 1 0 0 0),(4,.ptr 2 0 0 0),(5,.ptr 3 0 0 0)] [⟨[bigA fa a],2,0,false,false⟩,⟨[.agg [.bool false,.vnil]],2,0,false,false⟩,⟨[bigA false x],2,0,false,false⟩,⟨[.agg [.bool false,.vec false 1 ((J.Zab 2).map (.int .u32))]],2,0,false,false⟩]) Q
theorem call158 {args:List AV} {d:AV} (h:wc M1 fi158 Tryz.f158 args d):Ev M1 (.pure 158 args) d []:=pcl _ _ (by kernel_rfl) h
theorem rSqrt (fa:Bool) (a:Int)  (dq:AV) (H :
  ((J.Zaa a=true)->Weak (tu [ag [vb false,AV.vnil],vi 7]) dq) /\
  (¬(J.Zaa a=true)->(((↑(J.Zab a).length:Int)=0)->Weak (tu [ag [vb false,AV.vnil],vi 0]) dq) /\
   (¬((↑(J.Zab a).length:Int)=0)->(-9223372036854775808<=(↑(J.Zab a).length:Int)+1/\(↑(J.Zab a).length:Int)+1<=9223372036854775807) /\
    (-9223372036854775808<=((↑(J.Zab a).length:Int)+1).tdiv 2/\((↑(J.Zab a).length:Int)+1).tdiv 2<=9223372036854775807) /\
    (0<=((↑(J.Zab a).length:Int)+1).tdiv 2) /\
    (((↑(J.Zab a).length:Int)+1).tdiv 2*4<=1099511627776) /\
    (((↑(J.Zab a).length:Int)+1).tdiv 2<=1099511627776) /\
    (((List.replicate (((↑(J.Zab a).length:Int)+1).tdiv 2).toNat (0:Int)).length+1)*4<=1099511627776) /\
    (J.inI 2) /\
    ZgD fa a ((((↑(J.Zab a).length:Int)+1).tdiv 2).toNat) (Zag dq)))) :
 rSqrt_at fa a (Zag dq):=by
 unfold rSqrt_at
 rcases xq H with ⟨d2,H⟩|⟨d2,H⟩
 ·exact Zah (G:=Zad ZfD [] []) 1000 [true] (asm:=[0==0,(J.Zaa a)==true,true]) (tu [ag [vb false,AV.vnil],vi 7]) (by kernel_rfl) (bc (beq_self_eq_true _) (bc (Zaq ((Zas _).2 d2)) (bc rfl b0))) q0 c0 H
 ·have w3:(us (J.Zab a)).length=(J.Zab a).length:=List.length_map ..
  have i4:((↑(us (J.Zab a)).length:Int)==0)=true ↔ ((↑(J.Zab a).length:Int)=0):=(by (try rw [w3]);all_goals exact i_eq)
  rcases xq H with ⟨d5,H⟩|⟨d5,H⟩
  ·exact Zah (G:=Zad ZfD [] []) 1000 [false,true] (asm:=[0==0,(J.Zaa a)==false,true,((↑(us (J.Zab a)).length:Int)==0)==true,true]) (tu [ag [vb false,AV.vnil],vi 0]) (by kernel_rfl) (bc (beq_self_eq_true _) (bc (Zam (fun h=>d2 ((Zas _).1 h))) (bc rfl (bc (Zaq (i4.2 d5)) (bc rfl b0))))) q0 c0 H
  ·obtain ⟨k6,H⟩:=H
   have w7:wi ((↑(J.Zab a).length:Int)+1)=(↑(J.Zab a).length:Int)+1:=wI64 k6
   obtain ⟨k8,H⟩:=H
   have w9:wi (((↑(J.Zab a).length:Int)+1).tdiv 2)=((↑(J.Zab a).length:Int)+1).tdiv 2:=wI64 k8
   have i10:(decide (0<=wi ((wi ((↑(us (J.Zab a)).length:Int)+1)).tdiv 2)))=true ↔ (0<=((↑(J.Zab a).length:Int)+1).tdiv 2):=(by (try rw [w3]);(try rw [w7]);(try rw [w9]);all_goals exact Zac)
   obtain ⟨k11,H⟩:=H
   have i12:(decide (wi ((wi ((↑(us (J.Zab a)).length:Int)+1)).tdiv 2)<=wi ((wi ((↑(us (J.Zab a)).length:Int)+1)).tdiv 2)))=true ↔ (((↑(J.Zab a).length:Int)+1).tdiv 2<=((↑(J.Zab a).length:Int)+1).tdiv 2):=(by (try rw [w3]);(try rw [w7]);(try rw [w9]);all_goals exact Zac)
   have i13:(decide (wi ((wi ((↑(us (J.Zab a)).length:Int)+1)).tdiv 2)*4<=1099511627776))=true ↔ (((↑(J.Zab a).length:Int)+1).tdiv 2*4<=1099511627776):=(by (try rw [w3]);(try rw [w7]);(try rw [w9]);all_goals exact Zac)
   obtain ⟨k14,H⟩:=H
   have i15:(decide (wi ((wi ((↑(us (J.Zab a)).length:Int)+1)).tdiv 2)<=1099511627776))=true ↔ (((↑(J.Zab a).length:Int)+1).tdiv 2<=1099511627776):=(by (try rw [w3]);(try rw [w7]);(try rw [w9]);all_goals exact Zac)
   obtain ⟨k16,H⟩:=H
   have w17:List.replicate (((↑(J.Zab a).length:Int)+1).tdiv 2).toNat (vu 0)=us (List.replicate (((↑(J.Zab a).length:Int)+1).tdiv 2).toNat (0:Int)):=(Zdn rfl)
   have w18:(us (List.replicate (((↑(J.Zab a).length:Int)+1).tdiv 2).toNat (0:Int))).length=(List.replicate (((↑(J.Zab a).length:Int)+1).tdiv 2).toNat (0:Int)).length:=List.length_map ..
   have i19:(decide (((List.replicate (wi ((wi ((↑(us (J.Zab a)).length:Int)+1)).tdiv 2)).toNat (vu 0)).length+1)*4<=1099511627776))=true ↔ (((List.replicate (((↑(J.Zab a).length:Int)+1).tdiv 2).toNat (0:Int)).length+1)*4<=1099511627776):=(by (try rw [w3]);(try rw [w7]);(try rw [w9]);(try rw [w17]);(try rw [w18]);all_goals exact Zac)
   obtain ⟨k20,H⟩:=H
   have w21:us (List.replicate (((↑(J.Zab a).length:Int)+1).tdiv 2).toNat (0:Int))++[vu 1]=us (List.replicate (((↑(J.Zab a).length:Int)+1).tdiv 2).toNat (0:Int)++[1]):=(Zfa rfl rfl)
   obtain ⟨k22,H⟩:=H
   exact Zae (G:=Zad ZfD [(6,0,.call (ag [vb false,vf (us (J.Zab 2))]) none)] []) 1000 [false,false] ⟨(atC (cd Tryz.f158) [1,1,1,1,1,0,0]),[(1,AV.ptr 0 0 0 0),(2,AV.ptr 1 0 0 0),(4,AV.ptr 3 0 0 0),(5,AV.ptr 4 0 0 0)],[⟨[bigA fa a],2,0,false,false⟩,⟨[ag [vb false,AV.vnil]],2,0,false,false⟩,⟨List.replicate (wi ((wi ((↑(us (J.Zab a)).length:Int)+1)).tdiv 2)).toNat (vu 0)++[vu 1],1,1,false,true⟩,⟨[ag [vb false,AV.row 2 1]],2,0,false,false⟩,⟨[ag [vb false,vf (us (J.Zab 2))]],2,0,false,false⟩],[0==0,(J.Zaa a)==false,true,((↑(us (J.Zab a)).length:Int)==0)==false,true,true,decide (0<=wi ((wi ((↑(us (J.Zab a)).length:Int)+1)).tdiv 2)),decide (wi ((wi ((↑(us (J.Zab a)).length:Int)+1)).tdiv 2)<=wi ((wi ((↑(us (J.Zab a)).length:Int)+1)).tdiv 2)),decide (wi ((wi ((↑(us (J.Zab a)).length:Int)+1)).tdiv 2)*4<=1099511627776),decide (wi ((wi ((↑(us (J.Zab a)).length:Int)+1)).tdiv 2)<=1099511627776),true,decide (((List.replicate (wi ((wi ((↑(us (J.Zab a)).length:Int)+1)).tdiv 2)).toNat (vu 0)).length+1)*4<=1099511627776),true,true],[],_⟩ (by kernel_rfl) (bc (beq_self_eq_true _) (bc (Zam (fun h=>d2 ((Zas _).1 h))) (bc rfl (bc (Zam (fun h=>d5 (i4.1 h))) (bc rfl (bc rfl (bc (i10.2 k11) (bc (i12.2 (by omega)) (bc (i13.2 k14) (bc (i15.2 k16) (bc rfl (bc (i19.2 k20) (bc rfl (bc rfl b0)))))))))))))) q0 (ce (@ev121 2 k22) c0) (by (try rw [w3]);(try rw [w7]);(try rw [w9]);(try rw [w17]);(try rw [w21]);all_goals exact ZbB [0,1,3,4,2] (by kernel_rfl) H)
noncomputable abbrev ZcC (k:Nat) (a:Int):=(↑(J.bk k):Int)+J.flo a (↑(J.bk k):Int)
noncomputable abbrev zNwF2:=ag [vb false,vf (us (J.Zab 2))]
noncomputable abbrev zNwF3 (k:Nat):=ag [vb false,vf (us (List.replicate k (0:Int)++[1]))]
theorem rSqrtF (fa:Bool) (a:Int) (k:Nat)  (dq:AV) (H :
  (J.cnt a.natAbs<=399000/\J.okK k) /\
  (J.okK k/\J.okB (J.flo a (↑(J.bk k):Int))) /\
  (J.cnt ((↑(J.bk k):Int)+J.flo a (↑(J.bk k):Int)).natAbs<=399000) /\
  (J.okB (J.flo ((↑(J.bk k):Int)+J.flo a (↑(J.bk k):Int)) 2)/\J.okK k) /\
  ((J.sgnI (J.flo ((↑(J.bk k):Int)+J.flo a (↑(J.bk k):Int)) 2-(↑(J.bk k):Int))>=0)->Weak (tu [ag [vb false,vf (us (List.replicate k (0:Int)++[1]))],vi 0]) dq) /\
  (¬(J.sgnI (J.flo ((↑(J.bk k):Int)+J.flo a (↑(J.bk k):Int)) 2-(↑(J.bk k):Int))>=0)->ZdX fa a (J.flo ((↑(J.bk k):Int)+J.flo a (↑(J.bk k):Int)) 2) (Zag dq))) :
 ZgD fa a k (Zag dq):=by
 unfold ZgD
 obtain ⟨k1,k2,k3,H⟩:=H
 refine Zae (G:=Zad ZfD [(7,2,.call (tu [bigA false (J.flo a (↑(J.bk k):Int)),bigA false (J.flr a (↑(J.bk k):Int)),vi 0]) none),(8,2,.call (bigA false (ZcC k a)) none),(8,4,.call (tu [bigA false (J.flo (ZcC k a) 2),bigA false (J.flr (ZcC k a) 2),vi 0]) none)] []) 4 [] ⟨(atC (cd Tryz.f158) [1,1,1,1,1,0,0,0,1,0]),[(1,AV.ptr 0 0 0 0),(2,AV.ptr 1 0 0 0),(4,AV.ptr 2 0 0 0),(5,AV.ptr 3 0 0 0),(6,AV.ptr 5 0 0 0)],[⟨[bigA fa a],2,0,false,false⟩,⟨[ag [vb false,AV.vnil]],2,0,false,false⟩,⟨[ag [vb false,AV.row 4 1]],2,0,false,false⟩,⟨[zNwF2],2,0,false,false⟩,⟨us (List.replicate k (0:Int)++[1]),1,1,true,true⟩,⟨[bigA false (J.flo a (↑(J.bk k):Int))],2,0,false,false⟩,⟨[bigA false (J.flr a (↑(J.bk k):Int))],2,0,false,false⟩],_,[],_⟩ (by kernel_rfl) (bc rfl (bc rfl (bc rfl (bc rfl (bc rfl b0))))) q0 (ce (@ev128_c fa a k k1) c0) (ZdN (G:=Zad ZfD [(7,2,.call (tu [bigA false (J.flo a (↑(J.bk k):Int)),bigA false (J.flr a (↑(J.bk k):Int)),vi 0]) none),(8,2,.call (bigA false (ZcC k a)) none),(8,4,.call (tu [bigA false (J.flo (ZcC k a) 2),bigA false (J.flr (ZcC k a) 2),vi 0]) none)] []) [0,1,2,3,4,5,6,8,7] 9 (e1:=[(1,AV.ptr 0 0 0 0),(2,AV.ptr 1 0 0 0),(4,AV.ptr 2 0 0 0),(5,AV.ptr 3 0 0 0),(9,AV.ptr 7 0 0 0)]) (L1:=[⟨[bigA fa a],2,0,false,false⟩,⟨[ag [vb false,AV.vnil]],2,0,false,false⟩,⟨[ag [vb false,AV.row 4 1]],2,0,false,false⟩,⟨[zNwF2],2,0,false,false⟩,⟨us (List.replicate k (0:Int)++[1]),1,1,true,true⟩,⟨[bigA false (J.flo a (↑(J.bk k):Int))],2,0,false,false⟩,⟨[bigA false (J.flr a (↑(J.bk k):Int))],2,0,false,false⟩,⟨[bigA false (J.flo (ZcC k a) 2)],2,0,false,false⟩,⟨[bigA false (J.flr (ZcC k a) 2)],2,0,false,false⟩]) (a:=[true,true,true,true,true,true]) (q:=[]) (cs:=[⟨true,false,90,[(zNwF3 k),bigA false (J.flo a (↑(J.bk k):Int))],[],bigA false (ZcC k a),[]⟩,⟨true,false,128,[bigA false (ZcC k a),zNwF2],[],tu [bigA false (J.flo (ZcC k a) 2),bigA false (J.flr (ZcC k a) 2),vi 0],[]⟩]) (by kernel_rfl) (by kernel_rfl) (Zal rfl (Zal rfl (Zal rfl (Zal rfl (Zal rfl (Zal rfl ZaQ)))))) Zbf (Za8 (fun _=>(@ev90_a false (J.flo a (↑(J.bk k):Int)) k k2)) (Za8 (fun _=>(@ev128_b false (ZcC k a) k3)) Zbg)) ?_)
 obtain ⟨k4,H⟩:=H
 refine Zae (G:=Zad ZfD [(9,2,.call (vi (J.sgnI (J.flo (ZcC k a) 2-(↑(J.bk k):Int)))) none)] []) 3 [] ⟨(atC (cd Tryz.f158) [1,1,1,1,1,0,0,0,1,1,0,1]),[(1,AV.ptr 0 0 0 0),(2,AV.ptr 1 0 0 0),(4,AV.ptr 2 0 0 0),(5,AV.ptr 3 0 0 0),(9,AV.ptr 7 0 0 0),(49,vb (decide (J.sgnI (J.flo (ZcC k a) 2-(↑(J.bk k):Int))>=0)))],[⟨[bigA fa a],2,0,false,false⟩,⟨[ag [vb false,AV.vnil]],2,0,false,false⟩,⟨[ag [vb false,AV.row 4 1]],2,0,false,false⟩,⟨[zNwF2],2,0,false,false⟩,⟨us (List.replicate k (0:Int)++[1]),1,1,true,true⟩,⟨[bigA false (J.flo a (↑(J.bk k):Int))],2,0,false,false⟩,⟨[bigA false (J.flr a (↑(J.bk k):Int))],2,0,false,false⟩,⟨[bigA false (J.flo (ZcC k a) 2)],2,0,false,false⟩,⟨[bigA false (J.flr (ZcC k a) 2)],2,0,false,false⟩],_,[],_⟩ (by kernel_rfl) (bc rfl (bc rfl (bc rfl b0))) q0 (ce (@ev111_a false (J.flo (ZcC k a) 2) k k4) c0) ?_
 rcases xq H with ⟨d6,H⟩|⟨d6,H⟩
 ·exact ZcE (G:=Zad ZfD [] []) 1000 [true] (k:=((atC (cd Tryz.f158) [1,1,1,1,1,0,0,0,1,1,0,1,0,1])).tail) (env':=[(2,AV.ptr 1 0 0 0),(3,vi 0)]) (L':=[⟨[bigA fa a],2,0,false,false⟩,⟨[ag [vb false,AV.row 4 1]],2,0,false,false⟩,⟨[ag [vb false,AV.row 4 1]],2,0,false,false⟩,⟨[zNwF2],2,0,false,false⟩,⟨us (List.replicate k (0:Int)++[1]),1,1,true,true⟩,⟨[bigA false (J.flo a (↑(J.bk k):Int))],2,0,false,false⟩,⟨[bigA false (J.flr a (↑(J.bk k):Int))],2,0,false,false⟩,⟨[bigA false (J.flo (ZcC k a) 2)],2,0,false,false⟩,⟨[bigA false (J.flr (ZcC k a) 2)],2,0,false,false⟩]) (asm:=[(decide (J.sgnI (J.flo (ZcC k a) 2-(↑(J.bk k):Int))>=0))==true,true,true]) (eqs:=[]) (calls:=[]) (tu [ag [vb false,AV.row 4 1],vi 0]) (by kernel_rfl) (by kernel_rfl) (Zal (Zaq (Zac.2 d6)) (Zal rfl (Zal rfl ZaQ))) Zbf Zbg (ZeH (d:=(tu [(zNwF3 k),vi 0])) (bs:=[1==1]) (by kernel_rfl) (by kernel_rfl) (Zal (beq_self_eq_true _) ZaQ) (by kernel_rfl) H)
 ·exact Zae (G:=Zad ZfD [] []) 1000 [false] ⟨(atC (cd Tryz.f158) [1,1,1,1,1,0,0]),[(1,AV.ptr 0 0 0 0),(2,AV.ptr 1 0 0 0),(4,AV.ptr 2 0 0 0),(5,AV.ptr 3 0 0 0)],[⟨[bigA fa a],2,0,false,false⟩,⟨[ag [vb false,AV.vnil]],2,0,false,false⟩,⟨[bigA false (J.flo (ZcC k a) 2)],2,0,false,false⟩,⟨[zNwF2],2,0,false,false⟩,⟨us (List.replicate k (0:Int)++[1]),1,1,true,true⟩,⟨[bigA false (J.flo a (↑(J.bk k):Int))],2,0,false,false⟩,⟨[bigA false (J.flr a (↑(J.bk k):Int))],2,0,false,false⟩,⟨[bigA false (J.flo (ZcC k a) 2)],2,0,false,false⟩,⟨[bigA false (J.flr (ZcC k a) 2)],2,0,false,false⟩],_,[],_⟩ (by kernel_rfl) (bc (Zam (fun h=>d6 (Zac.1 h))) (bc rfl (bc rfl b0))) q0 c0 (ZbB [0,1,2,3] (by kernel_rfl) H)
noncomputable abbrev zNwF4:=ag [vb false,vf (us (J.Zab 2))]
theorem rSqrtH (fa:Bool) (a x:Int)  (dq:AV) (H :
  (J.cnt a.natAbs<=399000/\J.cnt x.natAbs<=399000/\x ≠ 0) /\
  (J.okB x/\J.okB (J.flo a x)) /\
  (J.cnt (x+J.flo a x).natAbs<=399000) /\
  (J.okB (J.flo (x+J.flo a x) 2)/\J.okB x) /\
  ((J.sgnI (J.flo (x+J.flo a x) 2-x)>=0)->Weak (tu [bigA false x,vi 0]) dq) /\
  (¬(J.sgnI (J.flo (x+J.flo a x) 2-x)>=0)->ZdX fa a (J.flo (x+J.flo a x) 2) (Zag dq))) :
 ZdX fa a x (Zag dq):=by
 unfold ZdX
 obtain ⟨k1,k2,k3,H⟩:=H
 refine Zae (G:=Zad ZfD [(7,2,.call (tu [bigA false (J.flo a x),bigA false (J.flr a x),vi 0]) none),(8,2,.call (bigA false (x+J.flo a x)) none),(8,4,.call (tu [bigA false (J.flo (x+J.flo a x) 2),bigA false (J.flr (x+J.flo a x) 2),vi 0]) none)] []) 4 [] ⟨(atC (cd Tryz.f158) [1,1,1,1,1,0,0,0,1,0]),[(1,AV.ptr 0 0 0 0),(2,AV.ptr 1 0 0 0),(4,AV.ptr 2 0 0 0),(5,AV.ptr 3 0 0 0),(6,AV.ptr 4 0 0 0)],[⟨[bigA fa a],2,0,false,false⟩,⟨[ag [vb false,AV.vnil]],2,0,false,false⟩,⟨[bigA false x],2,0,false,false⟩,⟨[zNwF4],2,0,false,false⟩,⟨[bigA false (J.flo a x)],2,0,false,false⟩,⟨[bigA false (J.flr a x)],2,0,false,false⟩],_,[],_⟩ (by kernel_rfl) (bc rfl (bc rfl (bc rfl (bc rfl b0)))) q0 (ce (@ev128 fa false a x k1) c0) (ZdN (G:=Zad ZfD [(7,2,.call (tu [bigA false (J.flo a x),bigA false (J.flr a x),vi 0]) none),(8,2,.call (bigA false (x+J.flo a x)) none),(8,4,.call (tu [bigA false (J.flo (x+J.flo a x) 2),bigA false (J.flr (x+J.flo a x) 2),vi 0]) none)] []) [0,1,2,3,4,5,7,6] 9 (e1:=[(1,AV.ptr 0 0 0 0),(2,AV.ptr 1 0 0 0),(4,AV.ptr 2 0 0 0),(5,AV.ptr 3 0 0 0),(9,AV.ptr 6 0 0 0)]) (L1:=[⟨[bigA fa a],2,0,false,false⟩,⟨[ag [vb false,AV.vnil]],2,0,false,false⟩,⟨[bigA false x],2,0,false,false⟩,⟨[zNwF4],2,0,false,false⟩,⟨[bigA false (J.flo a x)],2,0,false,false⟩,⟨[bigA false (J.flr a x)],2,0,false,false⟩,⟨[bigA false (J.flo (x+J.flo a x) 2)],2,0,false,false⟩,⟨[bigA false (J.flr (x+J.flo a x) 2)],2,0,false,false⟩]) (a:=[true,true,true,true,true]) (q:=[]) (cs:=[⟨true,false,90,[bigA false x,bigA false (J.flo a x)],[],bigA false (x+J.flo a x),[]⟩,⟨true,false,128,[bigA false (x+J.flo a x),zNwF4],[],tu [bigA false (J.flo (x+J.flo a x) 2),bigA false (J.flr (x+J.flo a x) 2),vi 0],[]⟩]) (by kernel_rfl) (by kernel_rfl) (Zal rfl (Zal rfl (Zal rfl (Zal rfl (Zal rfl ZaQ))))) Zbf (Za8 (fun _=>(@ev90 false false x (J.flo a x) k2)) (Za8 (fun _=>(@ev128_b false (x+J.flo a x) k3)) Zbg)) ?_)
 obtain ⟨k4,H⟩:=H
 refine Zae (G:=Zad ZfD [(9,2,.call (vi (J.sgnI (J.flo (x+J.flo a x) 2-x))) none)] []) 3 [] ⟨(atC (cd Tryz.f158) [1,1,1,1,1,0,0,0,1,1,0,1]),[(1,AV.ptr 0 0 0 0),(2,AV.ptr 1 0 0 0),(4,AV.ptr 2 0 0 0),(5,AV.ptr 3 0 0 0),(9,AV.ptr 6 0 0 0),(49,vb (decide (J.sgnI (J.flo (x+J.flo a x) 2-x)>=0)))],[⟨[bigA fa a],2,0,false,false⟩,⟨[ag [vb false,AV.vnil]],2,0,false,false⟩,⟨[bigA false x],2,0,false,false⟩,⟨[zNwF4],2,0,false,false⟩,⟨[bigA false (J.flo a x)],2,0,false,false⟩,⟨[bigA false (J.flr a x)],2,0,false,false⟩,⟨[bigA false (J.flo (x+J.flo a x) 2)],2,0,false,false⟩,⟨[bigA false (J.flr (x+J.flo a x) 2)],2,0,false,false⟩],_,[],_⟩ (by kernel_rfl) (bc rfl (bc rfl b0)) q0 (ce (@ev111 false false (J.flo (x+J.flo a x) 2) x k4) c0) ?_
 rcases xq H with ⟨d6,H⟩|⟨d6,H⟩
 ·exact Zah (G:=Zad ZfD [] []) 1000 [true] (tu [bigA false x,vi 0]) (by kernel_rfl) (bc (Zaq (Zac.2 d6)) (bc rfl (bc rfl b0))) q0 c0 H
 ·exact Zae (G:=Zad ZfD [] []) 1000 [false] ⟨(atC (cd Tryz.f158) [1,1,1,1,1,0,0]),[(1,AV.ptr 0 0 0 0),(2,AV.ptr 1 0 0 0),(4,AV.ptr 2 0 0 0),(5,AV.ptr 3 0 0 0)],[⟨[bigA fa a],2,0,false,false⟩,⟨[ag [vb false,AV.vnil]],2,0,false,false⟩,⟨[bigA false (J.flo (x+J.flo a x) 2)],2,0,false,false⟩,⟨[zNwF4],2,0,false,false⟩,⟨[bigA false (J.flo a x)],2,0,false,false⟩,⟨[bigA false (J.flr a x)],2,0,false,false⟩,⟨[bigA false (J.flo (x+J.flo a x) 2)],2,0,false,false⟩,⟨[bigA false (J.flr (x+J.flo a x) 2)],2,0,false,false⟩],_,[],_⟩ (by kernel_rfl) (bc (Zam (fun h=>d6 (Zac.1 h))) (bc rfl (bc rfl b0))) q0 c0 (ZbB [0,1,2,3] (by kernel_rfl) H)
end Go.Av

namespace Go.Av
open Go.Proofs
set_option maxRecDepth 100000
def fi150:Fi:=⟨2,[.cell 0 24]⟩
def kp150:List (Nat × List Nat):=[(0,[0]),(1,[0])]
def fi163:Fi:=⟨16,[.cell 4 24]⟩
def kp163:List (Nat × List Nat):=[(0,[2,3,4]),(1,[4,5]),(2,[4])]
def vUnit_at  (Q:AV->Heap->Prop):Prop:=Wp M1 (.run fi150 (atC (cd Tryz.f150) []) [] []) Q
def vExact_at (fa fb:Bool) (a b:Int) (Q:AV->Heap->Prop):Prop:=Wp M1 (.run fi163 (atC (cd Tryz.f163) []) [(0,bigA fa a),(1,bigA fb b)] []) Q
theorem call150 {args:List AV} {d:AV} (h:wc M1 fi150 Tryz.f150 args d):Ev M1 (.pure 150 args) d []:=pcl _ _ (by kernel_rfl) h
theorem call163 {args:List AV} {d:AV} (h:wc M1 fi163 Tryz.f163 args d):Ev M1 (.pure 163 args) d []:=pcl _ _ (by kernel_rfl) h
theorem vUnit   (dq:AV) (H :
  (J.inI 1) /\
  Weak (ag [vb false,vf (us (J.Zab 1))]) dq) :
 vUnit_at  (Zag dq):=by
 unfold vUnit_at
 obtain ⟨k1,H⟩:=H
 exact Zah (G:=Zad kp150 [(1,0,.call (ag [vb false,vf (us (J.Zab 1))]) none)] []) 1000 [] (ag [vb false,vf (us (J.Zab 1))]) (by kernel_rfl) (bc rfl b0) q0 (ce (@ev113 1 k1) c0) H
theorem vExact (fa fb:Bool) (a b:Int)  (dq:AV) (H :
  (J.okB a/\J.okB b/\b ≠ 0) /\
  Weak (bigA false (J.flo a b)) dq) :
 vExact_at fa fb a b (Zag dq):=by
 unfold vExact_at
 obtain ⟨k1,H⟩:=H
 exact Zah (G:=Zad kp163 [(1,2,.call (tu [bigA false (J.flo a b),bigA false (J.flr a b),vi 0]) none)] []) 1000 [] (bigA false (J.flo a b)) (by kernel_rfl) (bc rfl (bc rfl (bc rfl (bc rfl (bc rfl (bc rfl b0)))))) q0 (ce (@ev177 fa fb a b k1) c0) H
end Go.Av

namespace Go.Av
open Go.Proofs
theorem ev150:Ev M1 (.pure 150 []) (.agg [.bool false,.vec false 1 ((J.Zab 1).map (.int .u32))]) []:=
 call150 (vUnit _ ⟨by unfold J.inI;omega,.refl _⟩)
theorem ev163 (fa fb:Bool) (a b:Int) (h:J.okB a/\J.okB b/\b ≠ 0):Ev M1 (.pure 163 [bigA fa a,bigA fb b]) (bigA false (J.flo a b)) []:=
 call163 (vExact _ _ _ _ _ ⟨h,.refl _⟩)
theorem ev149_a (fa:Bool) (a:Int) (h:J.okB a):Ev M1 (.pure 149 [bigA fa a,.agg [.bool false,.vec false 1 ((J.Zab 1).map (.int .u32))]]) (.int .i64 (J.sgnI (a-1))) []:=
 ev149 fa false a 1 ⟨h,Ze7 (by decide)⟩
end Go.Av

namespace Go.Av
open Go.Proofs
set_option maxRecDepth 100000
def fi54:Fi:=⟨6,[.tmp 2]⟩
def kp54:List (Nat × List Nat):=[(0,[1]),(1,[2])]
def fi65:Fi:=⟨9,[.cell 2 26]⟩
def kp65:List (Nat × List Nat):=[(0,[1,2]),(1,[2])]
def fi112:Fi:=⟨6,[.cell 2 26]⟩
def kp112:List (Nat × List Nat):=[(0,[1,2]),(1,[2])]
def fi134:Fi:=⟨29,[.cell 4 26]⟩
def kp134:List (Nat × List Nat):=[(0,[2,3,4]),(1,[2,3,4,8]),(2,[2,3,4]),(3,[2,3,4,5]),(4,[2,3,4,5,19]),(5,[2,3,4]),(6,[4])]
def fi165:Fi:=⟨22,[.cell 2 24,.tmp 3]⟩
def kp165:List (Nat × List Nat):=[(0,[1,2]),(1,[1,2,4,5]),(2,[2,3])]
def vWhole_at (fa:Bool) (a:Int) (Q:AV->Heap->Prop):Prop:=Wp M1 (.run fi112 (atC (cd Tryz.f112) []) [(0,bigA fa a)] []) Q
def ZhN (fa fb:Bool) (a b:Int) (Q:AV->Heap->Prop):Prop:=Wp M1 (.run fi134 (atC (cd Tryz.f134) []) [(0,bigA fa a),(1,bigA fb b)] []) Q
def vRSign_at (fa ga:Bool) (p q:Int) (Q:AV->Heap->Prop):Prop:=Wp M1 (.run fi54 (atC (cd Tryz.f54) []) [(0,.agg [.bool (J.Zaa p),.vec fa 1 ((J.Zab p).map (.int .u32)),.bool (J.Zaa q),.vec ga 1 ((J.Zab q).map (.int .u32))])] []) Q
def vRNeg_at (fa ga:Bool) (p q:Int) (Q:AV->Heap->Prop):Prop:=Wp M1 (.run fi65 (atC (cd Tryz.f65) []) [(0,.agg [.bool (J.Zaa p),.vec fa 1 ((J.Zab p).map (.int .u32)),.bool (J.Zaa q),.vec ga 1 ((J.Zab q).map (.int .u32))])] []) Q
def vSide_at (fa:Bool) (a:Int) (Q:AV->Heap->Prop):Prop:=Wp M1 (.run fi165 (atC (cd Tryz.f165) []) [(0,bigA fa a)] []) Q
theorem call54 {args:List AV} {d:AV} (h:wc M1 fi54 Tryz.f54 args d):Ev M1 (.pure 54 args) d []:=pcl _ _ (by kernel_rfl) h
theorem call65 {args:List AV} {d:AV} (h:wc M1 fi65 Tryz.f65 args d):Ev M1 (.pure 65 args) d []:=pcl _ _ (by kernel_rfl) h
theorem call112 {args:List AV} {d:AV} (h:wc M1 fi112 Tryz.f112 args d):Ev M1 (.pure 112 args) d []:=pcl _ _ (by kernel_rfl) h
theorem call134 {args:List AV} {d:AV} (h:wc M1 fi134 Tryz.f134 args d):Ev M1 (.pure 134 args) d []:=pcl _ _ (by kernel_rfl) h
theorem call165 {args:List AV} {d:AV} (h:wc M1 fi165 Tryz.f165 args d):Ev M1 (.pure 165 args) d []:=pcl _ _ (by kernel_rfl) h
theorem vWhole (fa:Bool) (a:Int)  (dq:AV) (H :
  Weak (ag [vb (J.Zaa a),AV.vec fa 1 (us (J.Zab a)),vb false,vf (us (J.Zab 1))]) dq) :
 vWhole_at fa a (Zag dq):=by
 unfold vWhole_at
 exact Zah (G:=Zad kp112 [(1,1,.call (ag [vb false,vf (us (J.Zab 1))]) none)] []) 1000 [] (ag [vb (J.Zaa a),AV.vec fa 1 (us (J.Zab a)),vb false,vf (us (J.Zab 1))]) (by kernel_rfl) (bc rfl (bc rfl b0)) q0 (ce (@ev150 ) c0) H
noncomputable abbrev zNvJ1:=ag [vb false,AV.vnil,vb false,AV.vnil]
theorem vReduce (fa fb:Bool) (a b:Int)  (dq:AV) (H :
  ((J.sgnI b<0)->(J.okB a) /\
   (J.okB b) /\
   (J.okB (-a)/\J.okB (-b)) /\
   (J.okB (↑((-a).gcd (-b)):Int)) /\
   ((¬J.sgnI ((↑((-a).gcd (-b)):Int)-1)=0)->(J.okB (-a)/\J.okB (↑((-a).gcd (-b)):Int)/\(↑((-a).gcd (-b)):Int) ≠ 0) /\
    (J.okB (-b)/\J.okB (↑((-a).gcd (-b)):Int)/\(↑((-a).gcd (-b)):Int) ≠ 0) /\
    Weak (ag [vb (J.Zaa (J.flo (-a) (↑((-a).gcd (-b)):Int))),vf (us (J.Zab (J.flo (-a) (↑((-a).gcd (-b)):Int)))),vb (J.Zaa (J.flo (-b) (↑((-a).gcd (-b)):Int))),vf (us (J.Zab (J.flo (-b) (↑((-a).gcd (-b)):Int))))]) dq) /\
   (¬(¬J.sgnI ((↑((-a).gcd (-b)):Int)-1)=0)->Weak (ag [vb (J.Zaa (-a)),vf (us (J.Zab (-a))),vb (J.Zaa (-b)),vf (us (J.Zab (-b)))]) dq)) /\
  (¬(J.sgnI b<0)->(J.okB a/\J.okB b) /\
   (J.okB (↑(a.gcd b):Int)) /\
   ((¬J.sgnI ((↑(a.gcd b):Int)-1)=0)->(J.okB a/\J.okB (↑(a.gcd b):Int)/\(↑(a.gcd b):Int) ≠ 0) /\
    (J.okB b/\J.okB (↑(a.gcd b):Int)/\(↑(a.gcd b):Int) ≠ 0) /\
    Weak (ag [vb (J.Zaa (J.flo a (↑(a.gcd b):Int))),vf (us (J.Zab (J.flo a (↑(a.gcd b):Int)))),vb (J.Zaa (J.flo b (↑(a.gcd b):Int))),vf (us (J.Zab (J.flo b (↑(a.gcd b):Int))))]) dq) /\
   (¬(¬J.sgnI ((↑(a.gcd b):Int)-1)=0)->Weak (ag [vb (J.Zaa a),AV.vec fa 1 (us (J.Zab a)),vb (J.Zaa b),AV.vec fb 1 (us (J.Zab b))]) dq))) :
 ZhN fa fb a b (Zag dq):=by
 unfold ZhN
 refine Zae (G:=Zad kp134 [(1,1,.call (vi (J.sgnI b)) none)] []) 5 [] ⟨(atC (cd Tryz.f134) [1,0,1]),[(2,AV.ptr 0 0 0 0),(3,AV.ptr 1 0 0 0),(4,AV.ptr 2 0 0 0),(8,vb (decide (J.sgnI b<0)))],[⟨[bigA fa a],2,0,false,false⟩,⟨[bigA fb b],2,0,false,false⟩,⟨[zNvJ1],4,0,false,false⟩],_,[],_⟩ (by kernel_rfl) (bc rfl b0) q0 (ce (@ev96 fb b) c0) ?_
 rcases xq H with ⟨d2,H⟩|⟨d2,H⟩
 ·obtain ⟨k3,k4,k5,k6,H⟩:=H
  refine Zae (G:=Zad kp134 [(2,1,.call (bigA false (-a)) none),(2,3,.call (bigA false (-b)) none),(3,2,.call (bigA false (↑((-a).gcd (-b)):Int)) none),(4,1,.call (ag [vb false,vf (us (J.Zab 1))]) none),(4,2,.call (vi (J.sgnI ((↑((-a).gcd (-b)):Int)-1))) none)] []) 7 [true] ⟨(atC (cd Tryz.f134) [1,1,0,1,1]),[(2,AV.ptr 0 0 0 0),(3,AV.ptr 1 0 0 0),(4,AV.ptr 2 0 0 0),(5,AV.ptr 3 0 0 0),(19,vb (J.sgnI ((↑((-a).gcd (-b)):Int)-1) != 0))],[⟨[bigA false (-a)],2,0,false,false⟩,⟨[bigA false (-b)],2,0,false,false⟩,⟨[zNvJ1],4,0,false,false⟩,⟨[bigA false (↑((-a).gcd (-b)):Int)],2,0,false,false⟩],_,[],_⟩ (by kernel_rfl) (bc (Zaq (Zac.2 d2)) (bc rfl (bc rfl (bc rfl (bc rfl (bc rfl (bc rfl (bc rfl (bc rfl b0))))))))) q0 (ce (@ev104 fa a k3) (ce (@ev104 fb b k4) (ce (@ev162 false false (-a) (-b) k5) (ce (@ev150 ) (ce (@ev149_a false ((↑((-a).gcd (-b)):Int)) k6) c0))))) ?_
  rcases xq H with ⟨d8,H⟩|⟨d8,H⟩
  ·obtain ⟨k9,k10,H⟩:=H
   exact Zah (G:=Zad kp134 [(5,2,.call (bigA false (J.flo (-a) (↑((-a).gcd (-b)):Int))) none),(5,5,.call (bigA false (J.flo (-b) (↑((-a).gcd (-b)):Int))) none)] []) 1000 [true] (ag [vb (J.Zaa (J.flo (-a) (↑((-a).gcd (-b)):Int))),vf (us (J.Zab (J.flo (-a) (↑((-a).gcd (-b)):Int)))),vb (J.Zaa (J.flo (-b) (↑((-a).gcd (-b)):Int))),vf (us (J.Zab (J.flo (-b) (↑((-a).gcd (-b)):Int))))]) (by kernel_rfl) (bc (Zaq (i_ne.2 d8)) (bc rfl (bc rfl (bc rfl (bc rfl (bc rfl (bc rfl (bc rfl (bc rfl (bc rfl b0)))))))))) q0 (ce (@ev163 false false (-a) ((↑((-a).gcd (-b)):Int)) k9) (ce (@ev163 false false (-b) ((↑((-a).gcd (-b)):Int)) k10) c0)) H
  ·exact Zah (G:=Zad kp134 [] []) 1000 [false] (ag [vb (J.Zaa (-a)),vf (us (J.Zab (-a))),vb (J.Zaa (-b)),vf (us (J.Zab (-b)))]) (by kernel_rfl) (bc (Zam (fun h=>d8 (i_ne.1 h))) (bc rfl (bc rfl (bc rfl b0)))) q0 c0 H
 ·obtain ⟨k11,k12,H⟩:=H
  refine Zae (G:=Zad kp134 [(3,2,.call (bigA false (↑(a.gcd b):Int)) none),(4,1,.call (ag [vb false,vf (us (J.Zab 1))]) none),(4,2,.call (vi (J.sgnI ((↑(a.gcd b):Int)-1))) none)] []) 7 [false] ⟨(atC (cd Tryz.f134) [1,1,0,1,1]),[(2,AV.ptr 0 0 0 0),(3,AV.ptr 1 0 0 0),(4,AV.ptr 2 0 0 0),(5,AV.ptr 3 0 0 0),(19,vb (J.sgnI ((↑(a.gcd b):Int)-1) != 0))],[⟨[bigA fa a],2,0,false,false⟩,⟨[bigA fb b],2,0,false,false⟩,⟨[zNvJ1],4,0,false,false⟩,⟨[bigA false (↑(a.gcd b):Int)],2,0,false,false⟩],_,[],_⟩ (by kernel_rfl) (bc (Zam (fun h=>d2 (Zac.1 h))) (bc rfl (bc rfl (bc rfl (bc rfl b0))))) q0 (ce (@ev162 fa fb a b k11) (ce (@ev150 ) (ce (@ev149_a false ((↑(a.gcd b):Int)) k12) c0))) ?_
  rcases xq H with ⟨d14,H⟩|⟨d14,H⟩
  ·obtain ⟨k15,k16,H⟩:=H
   exact Zah (G:=Zad kp134 [(5,2,.call (bigA false (J.flo a (↑(a.gcd b):Int))) none),(5,5,.call (bigA false (J.flo b (↑(a.gcd b):Int))) none)] []) 1000 [true] (ag [vb (J.Zaa (J.flo a (↑(a.gcd b):Int))),vf (us (J.Zab (J.flo a (↑(a.gcd b):Int)))),vb (J.Zaa (J.flo b (↑(a.gcd b):Int))),vf (us (J.Zab (J.flo b (↑(a.gcd b):Int))))]) (by kernel_rfl) (bc (Zaq (i_ne.2 d14)) (bc rfl (bc rfl (bc rfl (bc rfl (bc rfl (bc rfl (bc rfl (bc rfl (bc rfl b0)))))))))) q0 (ce (@ev163 fa false a ((↑(a.gcd b):Int)) k15) (ce (@ev163 fb false b ((↑(a.gcd b):Int)) k16) c0)) H
  ·exact Zah (G:=Zad kp134 [] []) 1000 [false] (ag [vb (J.Zaa a),AV.vec fa 1 (us (J.Zab a)),vb (J.Zaa b),AV.vec fb 1 (us (J.Zab b))]) (by kernel_rfl) (bc (Zam (fun h=>d14 (i_ne.1 h))) (bc rfl (bc rfl (bc rfl b0)))) q0 c0 H
theorem vRSign (fa ga:Bool) (p q:Int)  (dq:AV) (H :
  vi (J.sgnI p)=dq) :
 vRSign_at fa ga p q (Zag dq):=by
 unfold vRSign_at
 exact Zao (G:=Zad kp54 [(1,2,.call (vi (J.sgnI p)) none)] []) 1000 [] (vi (J.sgnI p)) (by kernel_rfl) (bc rfl b0) q0 (ce (@ev96 fa p) c0) H
theorem vRNeg (fa ga:Bool) (p q:Int)  (dq:AV) (H :
  (J.okB p) /\
  Weak (ag [vb (J.Zaa (-p)),vf (us (J.Zab (-p))),vb (J.Zaa q),AV.vec ga 1 (us (J.Zab q))]) dq) :
 vRNeg_at fa ga p q (Zag dq):=by
 unfold vRNeg_at
 obtain ⟨k1,H⟩:=H
 exact Zah (G:=Zad kp65 [(1,2,.call (bigA false (-p)) none)] []) 1000 [] (ag [vb (J.Zaa (-p)),vf (us (J.Zab (-p))),vb (J.Zaa q),AV.vec ga 1 (us (J.Zab q))]) (by kernel_rfl) (bc rfl (bc rfl (bc rfl b0))) q0 (ce (@ev104 fa p k1) c0) H
theorem vSide (fa:Bool) (a:Int)  (dq:AV) (H :
  (J.okS a) /\
  ((J.sqe a=0)->(J.okB (J.sq a)/\J.okB (J.sq a))) /\
  ((J.sqe a=0)->(J.okB (J.sq a*J.sq a)/\J.okB a)) /\
  Weak (tu [bigA false (J.sq a),vb (bif J.sqe a==0 then J.sgnI (J.sq a*J.sq a-a)==0 else false)]) dq) :
 vSide_at fa a (Zag dq):=by
 unfold vSide_at
 obtain ⟨k1,k3,k5,H⟩:=H
 exact Zah (G:=Zad kp165 [(1,1,.call (tu [bigA false (J.sq a),vi (J.sqe a)]) none),(2,6,.call (bigA false (J.sq a*J.sq a)) none),(2,8,.call (vi (J.sgnI (J.sq a*J.sq a-a))) none)] []) 1000 [] (asm:=[true,true,true,!((J.sqe a==0)==true&&true)||true,!((J.sqe a==0)==true&&true)||true,!((J.sqe a==0)==true&&true)||true,true]) (calls:=[⟨true,false,178,[bigA fa a],[],tu [bigA false (J.sq a),vi (J.sqe a)],[]⟩,⟨(J.sqe a==0)==true&&true&&true,false,135,[bigA false (J.sq a),bigA false (J.sq a)],[],bigA false (J.sq a*J.sq a),[]⟩,⟨(J.sqe a==0)==true&&true&&true,false,149,[bigA false (J.sq a*J.sq a),bigA fa a],[],vi (J.sgnI (J.sq a*J.sq a-a)),[]⟩]) (tu [bigA false (J.sq a),vb (bif J.sqe a==0 then J.sgnI (J.sq a*J.sq a-a)==0 else false)]) (by kernel_rfl) (bc rfl (bc rfl (bc rfl (bc (Bool.or_true _) (bc (Bool.or_true _) (bc (Bool.or_true _) (bc rfl b0))))))) q0 (cc (fun _=>(@ev178 fa a k1)) (cc (fun hc=>((@ZhF false false (J.sq a) (J.sq a) (k3 ((i_at (i_at (i_bt i_eq))).1 hc))):Ev M1 (Conf.pure 135 [bigA false (J.sq a),bigA false (J.sq a)]) (bigA false (J.sq a*J.sq a)) [])) (cc (fun hc=>((@ev149 false fa (J.sq a*J.sq a) a (k5 ((i_at (i_at (i_bt i_eq))).1 hc))):Ev M1 (Conf.pure 149 [bigA false (J.sq a*J.sq a),bigA fa a]) (vi (J.sgnI (J.sq a*J.sq a-a))) [])) c0))) H
end Go.Av

namespace Go.Av
open Go.Proofs
abbrev ratA (f g:Bool) (r:Rat):AV:=.agg [.bool (J.Zaa r.num),.vec f 1 ((J.Zab r.num).map (.int .u32)),.bool (J.Zaa (r.den:Int)),.vec g 1 ((J.Zab (r.den:Int)).map (.int .u32))]
abbrev ratF (r:Rat):AV:=ratA false false r
theorem Zds (b d f g:Bool) (xs ys:List AV):Weak (.agg [.bool b,.vec f 1 xs,.bool d,.vec g 1 ys]) (.agg [.bool b,.vec false 1 xs,.bool d,.vec false 1 ys]):=by
 refine .agg _ _ rfl fun i x y hx hy => ?_
 match i with
 | 0=>simp at hx hy;subst hx;subst hy;exact .refl _
 | 1=>simp at hx hy;subst hx;subst hy;exact Zbv _ _ _
 | 2=>simp at hx hy;subst hx;subst hy;exact .refl _
 | 3=>simp at hx hy;subst hx;subst hy;exact Zbv _ _ _
 | i+4=>simp at hx
theorem rat_neg {a b:Int} (h:b<0):(Rat.divInt a b).num=(-a) / (((-a).gcd (-b):Nat):Int)/\((Rat.divInt a b).den:Int)=(-b) / (((-a).gcd (-b):Nat):Int):=by
 have e:(-a).gcd (-b)=b.gcd a:=by rw [Int.neg_gcd,Int.gcd_neg,Int.gcd_comm]
 rw [e,Rat.num_divInt,Rat.den_divInt,if_neg (by omega),Int.sign_eq_neg_one_of_neg h]
 refine ⟨by rw [Int.neg_mul,Int.one_mul],?_⟩
 have e2:((b.natAbs / b.gcd a:Nat):Int)=(b.natAbs:Int) / (b.gcd a:Int):=rfl
 rw [e2]
 congr 1;omega
theorem Zfv {a b:Int} (h:0<b):(Rat.divInt a b).num=a / ((a.gcd b:Nat):Int)/\((Rat.divInt a b).den:Int)=b / ((a.gcd b:Nat):Int):=by
 have e:a.gcd b=b.gcd a:=Int.gcd_comm _ _
 rw [e,Rat.num_divInt,Rat.den_divInt,if_neg (by omega),Int.sign_eq_one_of_pos h]
 refine ⟨by rw [Int.one_mul],?_⟩
 have e2:((b.natAbs / b.gcd a:Nat):Int)=(b.natAbs:Int) / (b.gcd a:Int):=rfl
 rw [e2]
 congr 1;omega
theorem gcd_okB {a b:Int} (hb:b ≠ 0) (h:J.okB b):J.okB ((a.gcd b:Nat):Int)/\((a.gcd b:Nat):Int) ≠ 0:=by
 have h1:0<a.gcd b:=Int.gcd_pos_of_ne_zero_right _ hb
 have h2:a.gcd b<=b.natAbs:=Nat.le_of_dvd (by omega) (Int.gcd_dvd_natAbs_right a b)
 have:=ZaJ h2
 refine ⟨?_,by omega⟩
 unfold J.okB at *
 rw [Int.natAbs_natCast];omega
theorem Zd6 {a:Int} {g:Nat} (h:(g:Int) ≠ 0):J.flo a (g:Int)=a / (g:Int):=by
 unfold J.flo
 rw [if_pos (by omega)]
theorem ev134 (fa fb:Bool) (a b:Int) (h:J.okB a/\J.okB b/\b ≠ 0):Ev M1 (.pure 134 [bigA fa a,bigA fb b]) (ratF (Rat.divInt a b)) []:=by
 obtain ⟨ha,hb,h0⟩:=h
 have hna:J.okB (-a):=by unfold J.okB at *;rwa [Int.natAbs_neg]
 have hnb:J.okB (-b):=by unfold J.okB at *;rwa [Int.natAbs_neg]
 refine call134 (vReduce _ _ _ _ _ ⟨fun k => ?_,fun k => ?_⟩)
 ·rw [Zbn] at k
  obtain ⟨g1,g2⟩:=gcd_okB (a:=-a) (b:=-b) (by omega) hnb
  obtain ⟨r1,r2⟩:=rat_neg (a:=a) k
  refine ⟨ha,hb,⟨hna,hnb⟩,g1,fun _=>⟨⟨hna,g1,g2⟩,⟨hnb,g1,g2⟩,?_⟩,fun k2 => ?_⟩
  ·show Weak _ (AV.agg [.bool (J.Zaa (Rat.divInt a b).num),.vec false 1 ((J.Zab (Rat.divInt a b).num).map (.int .u32)),.bool (J.Zaa ((Rat.divInt a b).den:Int)),.vec false 1 ((J.Zab ((Rat.divInt a b).den:Int)).map (.int .u32))])
   rw [r1,r2,Zd6 g2,Zd6 g2];exact .refl _
  ·have k2:=ZbK.1 (Classical.not_not.1 k2)
   have e:(((-a).gcd (-b):Nat):Int)=1:=by omega
   show Weak _ (AV.agg [.bool (J.Zaa (Rat.divInt a b).num),.vec false 1 ((J.Zab (Rat.divInt a b).num).map (.int .u32)),.bool (J.Zaa ((Rat.divInt a b).den:Int)),.vec false 1 ((J.Zab ((Rat.divInt a b).den:Int)).map (.int .u32))])
   rw [r1,r2,e,Int.ediv_one,Int.ediv_one];exact Zds _ _ _ _ _ _
 ·rw [Zbn] at k
  obtain ⟨g1,g2⟩:=gcd_okB (a:=a) (b:=b) h0 hb
  obtain ⟨r1,r2⟩:=Zfv (a:=a) (show 0<b by omega)
  refine ⟨⟨ha,hb⟩,g1,fun _=>⟨⟨ha,g1,g2⟩,⟨hb,g1,g2⟩,?_⟩,fun k2 => ?_⟩
  ·show Weak _ (AV.agg [.bool (J.Zaa (Rat.divInt a b).num),.vec false 1 ((J.Zab (Rat.divInt a b).num).map (.int .u32)),.bool (J.Zaa ((Rat.divInt a b).den:Int)),.vec false 1 ((J.Zab ((Rat.divInt a b).den:Int)).map (.int .u32))])
   rw [r1,r2,Zd6 g2,Zd6 g2];exact .refl _
  ·have k2:=ZbK.1 (Classical.not_not.1 k2)
   have e:((a.gcd b:Nat):Int)=1:=by omega
   show Weak _ (AV.agg [.bool (J.Zaa (Rat.divInt a b).num),.vec false 1 ((J.Zab (Rat.divInt a b).num).map (.int .u32)),.bool (J.Zaa ((Rat.divInt a b).den:Int)),.vec false 1 ((J.Zab ((Rat.divInt a b).den:Int)).map (.int .u32))])
   rw [r1,r2,e,Int.ediv_one,Int.ediv_one];exact Zds _ _ _ _ _ _
theorem ev54 (fa ga:Bool) (p q:Int):Ev M1 (.pure 54 [.agg [.bool (J.Zaa p),.vec fa 1 ((J.Zab p).map (.int .u32)),.bool (J.Zaa q),.vec ga 1 ((J.Zab q).map (.int .u32))]]) (.int .i64 (J.sgnI p)) []:=
 call54 (vRSign _ _ _ _ _ rfl)
end Go.Av

namespace Go.Av
open Go.Proofs
theorem ev65 (fa ga:Bool) (r:Rat) (h:J.okB r.num):Ev M1 (.pure 65 [ratA fa ga r]) (ratF (-r)) []:=by
 refine call65 (vRNeg _ _ _ _ _ ⟨h,?_⟩)
 show Weak _ (AV.agg [.bool (J.Zaa (-r).num),.vec false 1 ((J.Zab (-r).num).map (.int .u32)),.bool (J.Zaa ((-r).den:Int)),.vec false 1 ((J.Zab ((-r).den:Int)).map (.int .u32))])
 rw [Rat.neg_num,Rat.neg_den]
 exact Zds _ _ _ _ _ _
namespace J
noncomputable def Zfh (a:Int):Bool:=bif sqe a==0 then sgnI (sq a*sq a-a)==0 else false
end J
theorem sq_le {a:Int} (h:0<=a):(J.sq a).natAbs*(J.sq a).natAbs<=a.natAbs/\(J.sq a).natAbs<=a.natAbs:=by
 have:=Zie a.natAbs
 unfold J.sq
 rw [if_neg (by omega),Int.natAbs_natCast]
 refine ⟨this.1,?_⟩
 have h1:=this.1
 by_cases hz:J.ZhB a.natAbs=0
 ·omega
 ·have:=Nat.le_mul_of_pos_left (J.ZhB a.natAbs) (Nat.pos_of_ne_zero hz)
  omega
theorem ev165 (fa:Bool) (a:Int) (h:J.okS a):Ev M1 (.pure 165 [bigA fa a]) (.tup [bigA false (J.sq a),.bool (J.Zfh a)]) []:=by
 have ha:J.okB a:=by unfold J.okS at h;unfold J.okB;omega
 have hk:J.sqe a=0->0<=a:=by
  intro k
  unfold J.sqe at k
  split at k <;> omega
 refine call165 (vSide _ _ _ ⟨h,fun k => ?_,fun k=>⟨?_,ha⟩,.refl _⟩)
 ·have:=ZaJ (sq_le (hk k)).2
  unfold J.okS at h
  unfold J.okB
  omega
 ·have:=ZaJ (sq_le (hk k)).1
  unfold J.okS at h
  unfold J.okB
  rw [Int.natAbs_mul];omega
theorem ev112 (fa:Bool) (a:Int):Ev M1 (.pure 112 [bigA fa a]) (ratF (a:Rat)) []:=by
 refine call112 (vWhole _ _ _ ?_)
 show Weak _ (AV.agg [.bool (J.Zaa (a:Rat).num),.vec false 1 ((J.Zab (a:Rat).num).map (.int .u32)),.bool (J.Zaa ((a:Rat).den:Int)),.vec false 1 ((J.Zab ((a:Rat).den:Int)).map (.int .u32))])
 rw [Rat.num_intCast,Rat.den_intCast]
 exact Zds _ _ _ _ _ _
end Go.Av

namespace Go.Av
open Go.Proofs
set_option maxRecDepth 100000
def fi75:Fi:=⟨6,[.cell 2 26]⟩
def kp75:List (Nat × List Nat):=[(0,[0,2]),(1,[2])]
def fi95:Fi:=⟨16,[.cell 4 26]⟩
def kp95:List (Nat × List Nat):=[(0,[2,3,4]),(1,[4])]
def fi99:Fi:=⟨21,[.cell 4 26,.tmp 5]⟩
def kp99:List (Nat × List Nat):=[(0,[2,3,4]),(1,[2,3,4,8]),(2,[4,5]),(3,[4,5])]
def fi110:Fi:=⟨25,[.tmp 4]⟩
def kp110:List (Nat × List Nat):=[(0,[2,3]),(1,[2,3,5]),(2,[2,3,5,12]),(3,[4]),(4,[4])]
def fi114:Fi:=⟨36,[.cell 4 26]⟩
def kp114:List (Nat × List Nat):=[(0,[2,3,4]),(1,[2,3,4,10]),(2,[4]),(3,[4])]
def fi141:Fi:=⟨26,[.cell 2 26,.tmp 3]⟩
def kp141:List (Nat × List Nat):=[(0,[1,2]),(1,[1,2,4,5]),(2,[1,2,4,14]),(3,[2,4,6,7]),(4,[2,4,6,21]),(5,[2,3]),(6,[2,3])]
def vRAdd_at (fa ga fb gb:Bool) (r s:Rat) (Q:AV->Heap->Prop):Prop:=Wp M1 (.run fi114 (atC (cd Tryz.f114) []) [(0,ratA fa ga r),(1,ratA fb gb s)] []) Q
def vRMul_at (fa ga fb gb:Bool) (r s:Rat) (Q:AV->Heap->Prop):Prop:=Wp M1 (.run fi95 (atC (cd Tryz.f95) []) [(0,ratA fa ga r),(1,ratA fb gb s)] []) Q
def vRDiv_at (fa ga fb gb:Bool) (r s:Rat) (Q:AV->Heap->Prop):Prop:=Wp M1 (.run fi99 (atC (cd Tryz.f99) []) [(0,ratA fa ga r),(1,ratA fb gb s)] []) Q
def vRCmp_at (fa ga fb gb:Bool) (r s:Rat) (Q:AV->Heap->Prop):Prop:=Wp M1 (.run fi110 (atC (cd Tryz.f110) []) [(0,ratA fa ga r),(1,ratA fb gb s)] []) Q
def vRFrom_at (n:Int) (Q:AV->Heap->Prop):Prop:=Wp M1 (.run fi75 (atC (cd Tryz.f75) []) [(0,.int .i64 n)] []) Q
def vRSqrt_at (fa ga:Bool) (r:Rat) (Q:AV->Heap->Prop):Prop:=Wp M1 (.run fi141 (atC (cd Tryz.f141) []) [(0,ratA fa ga r)] []) Q
theorem call75 {args:List AV} {d:AV} (h:wc M1 fi75 Tryz.f75 args d):Ev M1 (.pure 75 args) d []:=pcl _ _ (by kernel_rfl) h
theorem call95 {args:List AV} {d:AV} (h:wc M1 fi95 Tryz.f95 args d):Ev M1 (.pure 95 args) d []:=pcl _ _ (by kernel_rfl) h
theorem call99 {args:List AV} {d:AV} (h:wc M1 fi99 Tryz.f99 args d):Ev M1 (.pure 99 args) d []:=pcl _ _ (by kernel_rfl) h
theorem call110 {args:List AV} {d:AV} (h:wc M1 fi110 Tryz.f110 args d):Ev M1 (.pure 110 args) d []:=pcl _ _ (by kernel_rfl) h
theorem call114 {args:List AV} {d:AV} (h:wc M1 fi114 Tryz.f114 args d):Ev M1 (.pure 114 args) d []:=pcl _ _ (by kernel_rfl) h
theorem call141 {args:List AV} {d:AV} (h:wc M1 fi141 Tryz.f141 args d):Ev M1 (.pure 141 args) d []:=pcl _ _ (by kernel_rfl) h
theorem vRAdd (fa ga fb gb:Bool) (r s:Rat)  (dq:AV) (H :
  (J.okB (↑r.den:Int)/\J.okB (↑s.den:Int)) /\
  ((J.sgnI ((↑r.den:Int)-(↑s.den:Int))=0)->(J.okB r.num/\J.okB s.num) /\
   (J.okB (r.num+s.num)/\J.okB (↑r.den:Int)/\(↑r.den:Int) ≠ 0) /\
   Weak (ratF (Rat.divInt (r.num+s.num) (↑r.den:Int))) dq) /\
  (¬(J.sgnI ((↑r.den:Int)-(↑s.den:Int))=0)->(J.okB r.num/\J.okB (↑s.den:Int)) /\
   (J.okB s.num/\J.okB (↑r.den:Int)) /\
   (J.okB (r.num*(↑s.den:Int))/\J.okB (s.num*(↑r.den:Int))) /\
   (J.okB (r.num*(↑s.den:Int)+s.num*(↑r.den:Int))/\J.okB ((↑r.den:Int)*(↑s.den:Int))/\(↑r.den:Int)*(↑s.den:Int) ≠ 0) /\
   Weak (ratF (Rat.divInt (r.num*(↑s.den:Int)+s.num*(↑r.den:Int)) ((↑r.den:Int)*(↑s.den:Int)))) dq)) :
 vRAdd_at fa ga fb gb r s (Zag dq):=by
 unfold vRAdd_at
 obtain ⟨k1,H⟩:=H
 refine Zae (G:=Zad kp114 [(1,4,.call (vi (J.sgnI ((↑r.den:Int)-(↑s.den:Int)))) none)] []) 5 [] ⟨(atC (cd Tryz.f114) [1,0,1]),[(2,AV.ptr 0 0 0 0),(3,AV.ptr 1 0 0 0),(4,AV.ptr 2 0 0 0),(10,vb (J.sgnI ((↑r.den:Int)-(↑s.den:Int))==0))],[⟨[ratA fa ga r],4,0,false,false⟩,⟨[ratA fb gb s],4,0,false,false⟩,⟨[ag [vb false,AV.vnil,vb false,AV.vnil]],4,0,false,false⟩],_,[],_⟩ (by kernel_rfl) (bc rfl (bc rfl b0)) q0 (ce (@ev149 ga gb ((↑r.den:Int)) ((↑s.den:Int)) k1) c0) ?_
 rcases xq H with ⟨d3,H⟩|⟨d3,H⟩
 ·obtain ⟨k4,k5,H⟩:=H
  exact Zah (G:=Zad kp114 [(2,4,.call (bigA false (r.num+s.num)) none),(2,7,.call (ratF (Rat.divInt (r.num+s.num) (↑r.den:Int))) none)] []) 1000 [true] (ratF (Rat.divInt (r.num+s.num) (↑r.den:Int))) (by kernel_rfl) (bc (Zaq (i_eq.2 d3)) (bc rfl (bc rfl (bc rfl (bc rfl b0))))) q0 (ce (@ev152 fa fb (r.num) (s.num) k4) (ce (@ev134 false ga (r.num+s.num) ((↑r.den:Int)) k5) c0)) H
 ·obtain ⟨k6,k7,k8,k9,H⟩:=H
  exact Zah (G:=Zad kp114 [(3,4,.call (bigA false (r.num*(↑s.den:Int))) none),(3,9,.call (bigA false (s.num*(↑r.den:Int))) none),(3,10,.call (bigA false (r.num*(↑s.den:Int)+s.num*(↑r.den:Int))) none),(3,15,.call (bigA false ((↑r.den:Int)*(↑s.den:Int))) none),(3,16,.call (ratF (Rat.divInt (r.num*(↑s.den:Int)+s.num*(↑r.den:Int)) ((↑r.den:Int)*(↑s.den:Int)))) none)] []) 1000 [false] (ratF (Rat.divInt (r.num*(↑s.den:Int)+s.num*(↑r.den:Int)) ((↑r.den:Int)*(↑s.den:Int)))) (by kernel_rfl) (bc (Zam (fun h=>d3 (i_eq.1 h))) (bc rfl (bc rfl (bc rfl (bc rfl (bc rfl (bc rfl (bc rfl b0)))))))) q0 (ce (@ZhF fa gb (r.num) ((↑s.den:Int)) k6) (ce (@ZhF fb ga (s.num) ((↑r.den:Int)) k7) (ce (@ev152 false false (r.num*(↑s.den:Int)) (s.num*(↑r.den:Int)) k8) (ce (@ZhF ga gb ((↑r.den:Int)) ((↑s.den:Int)) k1) (ce (@ev134 false false (r.num*(↑s.den:Int)+s.num*(↑r.den:Int)) ((↑r.den:Int)*(↑s.den:Int)) k9) c0))))) H
theorem vRMul (fa ga fb gb:Bool) (r s:Rat)  (dq:AV) (H :
  (J.okB r.num/\J.okB s.num) /\
  (J.okB (↑r.den:Int)/\J.okB (↑s.den:Int)) /\
  (J.okB (r.num*s.num)/\J.okB ((↑r.den:Int)*(↑s.den:Int))/\(↑r.den:Int)*(↑s.den:Int) ≠ 0) /\
  Weak (ratF (Rat.divInt (r.num*s.num) ((↑r.den:Int)*(↑s.den:Int)))) dq) :
 vRMul_at fa ga fb gb r s (Zag dq):=by
 unfold vRMul_at
 obtain ⟨k1,k2,k3,H⟩:=H
 exact Zah (G:=Zad kp95 [(1,4,.call (bigA false (r.num*s.num)) none),(1,9,.call (bigA false ((↑r.den:Int)*(↑s.den:Int))) none),(1,10,.call (ratF (Rat.divInt (r.num*s.num) ((↑r.den:Int)*(↑s.den:Int)))) none)] []) 1000 [] (ratF (Rat.divInt (r.num*s.num) ((↑r.den:Int)*(↑s.den:Int)))) (by kernel_rfl) (bc rfl (bc rfl (bc rfl (bc rfl (bc rfl b0))))) q0 (ce (@ZhF fa fb (r.num) (s.num) k1) (ce (@ZhF ga gb ((↑r.den:Int)) ((↑s.den:Int)) k2) (ce (@ev134 false false (r.num*s.num) ((↑r.den:Int)*(↑s.den:Int)) k3) c0))) H
theorem vRDiv (fa ga fb gb:Bool) (r s:Rat)  (dq:AV) (H :
  ((J.sgnI s.num=0)->Weak (tu [ag [vb false,AV.vnil,vb false,AV.vnil],vi 6]) dq) /\
  (¬(J.sgnI s.num=0)->(J.okB r.num/\J.okB (↑s.den:Int)) /\
   (J.okB (↑r.den:Int)/\J.okB s.num) /\
   (J.okB (r.num*(↑s.den:Int))/\J.okB ((↑r.den:Int)*s.num)/\(↑r.den:Int)*s.num ≠ 0) /\
   Weak (tu [ratF (Rat.divInt (r.num*(↑s.den:Int)) ((↑r.den:Int)*s.num)),vi 0]) dq)) :
 vRDiv_at fa ga fb gb r s (Zag dq):=by
 unfold vRDiv_at
 refine Zae (G:=Zad kp99 [(1,1,.call (vi (J.sgnI s.num)) none)] []) 5 [] ⟨(atC (cd Tryz.f99) [1,0,1]),[(2,AV.ptr 0 0 0 0),(3,AV.ptr 1 0 0 0),(4,AV.ptr 2 0 0 0),(8,vb (J.sgnI s.num==0))],[⟨[ratA fa ga r],4,0,false,false⟩,⟨[ratA fb gb s],4,0,false,false⟩,⟨[ag [vb false,AV.vnil,vb false,AV.vnil]],4,0,false,false⟩],_,[],_⟩ (by kernel_rfl) (bc rfl b0) q0 (ce (@ev54 fb gb (s.num) ((↑s.den:Int))) c0) ?_
 rcases xq H with ⟨d2,H⟩|⟨d2,H⟩
 ·exact Zah (G:=Zad kp99 [] []) 1000 [true] (tu [ag [vb false,AV.vnil,vb false,AV.vnil],vi 6]) (by kernel_rfl) (bc (Zaq (i_eq.2 d2)) (bc rfl b0)) q0 c0 H
 ·obtain ⟨k3,k4,k5,H⟩:=H
  exact Zah (G:=Zad kp99 [(3,4,.call (bigA false (r.num*(↑s.den:Int))) none),(3,9,.call (bigA false ((↑r.den:Int)*s.num)) none),(3,10,.call (ratF (Rat.divInt (r.num*(↑s.den:Int)) ((↑r.den:Int)*s.num))) none)] []) 1000 [false] (tu [ratF (Rat.divInt (r.num*(↑s.den:Int)) ((↑r.den:Int)*s.num)),vi 0]) (by kernel_rfl) (bc (Zam (fun h=>d2 (i_eq.1 h))) (bc rfl (bc rfl (bc rfl (bc rfl (bc rfl b0)))))) q0 (ce (@ZhF fa gb (r.num) ((↑s.den:Int)) k3) (ce (@ZhF ga fb ((↑r.den:Int)) (s.num) k4) (ce (@ev134 false false (r.num*(↑s.den:Int)) ((↑r.den:Int)*s.num) k5) c0))) H
theorem vRCmp (fa ga fb gb:Bool) (r s:Rat)  (dq:AV) (H :
  ∃ (n1:Int),
  (Ev M1 (Conf.pure 148 [vi (J.sgnI r.num),vi (J.sgnI s.num)]) (vi n1) []) /\
  ((¬n1=0)->vi n1=dq) /\
  (¬(¬n1=0)->(J.okB r.num/\J.okB (↑s.den:Int)) /\
   (J.okB s.num/\J.okB (↑r.den:Int)) /\
   (J.okB (r.num*(↑s.den:Int))/\J.okB (s.num*(↑r.den:Int))) /\
   vi (J.sgnI (r.num*(↑s.den:Int)-s.num*(↑r.den:Int)))=dq)) :
 vRCmp_at fa ga fb gb r s (Zag dq):=by
 unfold vRCmp_at
 obtain ⟨n1,k1,H⟩:=H
 refine Zae (G:=Zad kp110 [(1,1,.call (vi (J.sgnI r.num)) none),(1,3,.call (vi (J.sgnI s.num)) none),(1,4,.call (vi n1) none)] []) 7 [] ⟨(atC (cd Tryz.f110) [1,0,1,1]),[(2,AV.ptr 0 0 0 0),(3,AV.ptr 1 0 0 0),(5,vi n1),(12,vb (n1 != 0))],[⟨[ratA fa ga r],4,0,false,false⟩,⟨[ratA fb gb s],4,0,false,false⟩],_,[],_⟩ (by kernel_rfl) (bc rfl (bc rfl b0)) q0 (ce (@ev54 fa ga (r.num) ((↑r.den:Int))) (ce (@ev54 fb gb (s.num) ((↑s.den:Int))) (ce k1 c0))) ?_
 rcases xq H with ⟨d3,H⟩|⟨d3,H⟩
 ·exact Zao (G:=Zad kp110 [] []) 1000 [true] (vi n1) (by kernel_rfl) (bc (Zaq (i_ne.2 d3)) b0) q0 c0 H
 ·obtain ⟨k4,k5,k6,H⟩:=H
  exact Zao (G:=Zad kp110 [(4,4,.call (bigA false (r.num*(↑s.den:Int))) none),(4,9,.call (bigA false (s.num*(↑r.den:Int))) none),(4,10,.call (vi (J.sgnI (r.num*(↑s.den:Int)-s.num*(↑r.den:Int)))) none)] []) 1000 [false] (vi (J.sgnI (r.num*(↑s.den:Int)-s.num*(↑r.den:Int)))) (by kernel_rfl) (bc (Zam (fun h=>d3 (i_ne.1 h))) (bc rfl (bc rfl (bc rfl (bc rfl b0))))) q0 (ce (@ZhF fa gb (r.num) ((↑s.den:Int)) k4) (ce (@ZhF fb ga (s.num) ((↑r.den:Int)) k5) (ce (@ev149 false false (r.num*(↑s.den:Int)) (s.num*(↑r.den:Int)) k6) c0))) H
theorem vRFrom (n:Int)  (dq:AV) (H :
  (J.inI n) /\
  Weak (ratF (↑n:Rat)) dq) :
 vRFrom_at n (Zag dq):=by
 unfold vRFrom_at
 obtain ⟨k1,H⟩:=H
 exact Zah (G:=Zad kp75 [(1,1,.call (bigA false n) none),(1,2,.call (ratF (↑n:Rat)) none)] []) 1000 [] (ratF (↑n:Rat)) (by kernel_rfl) (bc rfl b0) q0 (ce (@ev113 n k1) (ce (@ev112 false n) c0)) H
noncomputable abbrev zNvK1:=ag [vb false,AV.vnil,vb false,AV.vnil]
theorem vRSqrt (fa ga:Bool) (r:Rat)  (dq:AV) (H :
  (J.okS r.num) /\
  ((J.Zfh r.num=true)->(J.okS (↑r.den:Int)) /\
   ((J.Zfh (↑r.den:Int)=true)->Weak (tu [ag [vb (J.Zaa (J.sq r.num)),vf (us (J.Zab (J.sq r.num))),vb (J.Zaa (J.sq (↑r.den:Int))),vf (us (J.Zab (J.sq (↑r.den:Int))))],vb true]) dq) /\
   (¬(J.Zfh (↑r.den:Int)=true)->Weak (tu [ag [vb false,AV.vnil,vb false,AV.vnil],vb false]) dq)) /\
  (¬(J.Zfh r.num=true)->Weak (tu [ag [vb false,AV.vnil,vb false,AV.vnil],vb false]) dq)) :
 vRSqrt_at fa ga r (Zag dq):=by
 unfold vRSqrt_at
 obtain ⟨k1,H⟩:=H
 refine Zae (G:=Zad kp141 [(1,2,.call (tu [bigA false (J.sq r.num),vb (J.Zfh r.num)]) none)] []) 7 [] ⟨(atC (cd Tryz.f141) [1,0,1,1]),[(1,AV.ptr 0 0 0 0),(2,AV.ptr 1 0 0 0),(4,AV.ptr 2 0 0 0),(14,vb (J.Zfh r.num))],[⟨[ratA fa ga r],4,0,false,false⟩,⟨[zNvK1],4,0,false,false⟩,⟨[bigA false (J.sq r.num)],2,0,false,false⟩],_,[],_⟩ (by kernel_rfl) (bc rfl (bc rfl b0)) q0 (ce (@ev165 fa (r.num) k1) c0) ?_
 rcases xq H with ⟨d3,H⟩|⟨d3,H⟩
 ·obtain ⟨k4,H⟩:=H
  refine Zae (G:=Zad kp141 [(3,2,.call (tu [bigA false (J.sq (↑r.den:Int)),vb (J.Zfh (↑r.den:Int))]) none)] []) 5 [true] ⟨(atC (cd Tryz.f141) [1,0,1,1,0,1,1]),[(2,AV.ptr 1 0 0 0),(4,AV.ptr 2 0 0 0),(6,AV.ptr 3 0 0 0),(21,vb (J.Zfh (↑r.den:Int)))],[⟨[ratA fa ga r],4,0,false,false⟩,⟨[zNvK1],4,0,false,false⟩,⟨[bigA false (J.sq r.num)],2,0,false,false⟩,⟨[bigA false (J.sq (↑r.den:Int))],2,0,false,false⟩],[(J.Zfh r.num)==true,true,true],[],_⟩ (by kernel_rfl) (bc (Zaq ((Zas _).2 d3)) (bc rfl (bc rfl b0))) q0 (ce (@ev165 ga ((↑r.den:Int)) k4) c0) ?_
  rcases xq H with ⟨d6,H⟩|⟨d6,H⟩
  ·exact Zah (G:=Zad kp141 [] []) 1000 [true] (asm:=[(J.Zfh (↑r.den:Int))==true,true,true,true]) (tu [ag [vb (J.Zaa (J.sq r.num)),vf (us (J.Zab (J.sq r.num))),vb (J.Zaa (J.sq (↑r.den:Int))),vf (us (J.Zab (J.sq (↑r.den:Int))))],vb true]) (by kernel_rfl) (bc (Zaq ((Zas _).2 d6)) (bc rfl (bc rfl (bc rfl b0)))) q0 c0 H
  ·exact Zah (G:=Zad kp141 [] []) 1000 [false] (asm:=[(J.Zfh (↑r.den:Int))==false,true]) (tu [zNvK1,vb false]) (by kernel_rfl) (bc (Zam (fun h=>d6 ((Zas _).1 h))) (bc rfl b0)) q0 c0 H
 ·exact Zah (G:=Zad kp141 [] []) 1000 [false] (asm:=[(J.Zfh r.num)==false,true]) (tu [zNvK1,vb false]) (by kernel_rfl) (bc (Zam (fun h=>d3 ((Zas _).1 h))) (bc rfl b0)) q0 c0 H
end Go.Av

namespace Go.Av
open Go.Proofs
def J.okR (r:Rat):Prop:=J.cnt r.num.natAbs<=90000/\J.cnt r.den<=90000
theorem ZeJ {r:Rat} (h:J.okR r):J.okB r.num/\J.okB (r.den:Int):=by
 unfold J.okR at h
 unfold J.okB
 rw [Int.natAbs_natCast];omega
theorem ZaZ {a b:Int} {n m:Nat} (ha:J.cnt a.natAbs<=n) (hb:J.cnt b.natAbs<=m):J.cnt (a*b).natAbs<=n+m:=by
 rw [Int.natAbs_mul]
 exact Zaz.1 (ZcV (Zaz.2 ha) (Zaz.2 hb))
theorem Zgi {a b:Int} {n:Nat} (ha:J.cnt a.natAbs<=n) (hb:J.cnt b.natAbs<=n):J.cnt (a+b).natAbs<=n+1:=by
 have h:=Zaz.1 (Zc4 (Zaz.2 ha) (Zaz.2 hb))
 exact Nat.le_trans (ZaJ (Int.natAbs_add_le a b)) h
theorem Za7 {r:Rat} {n:Nat} (h:J.cnt r.den<=n):J.cnt ((r.den:Int)).natAbs<=n:=by rwa [Int.natAbs_natCast]
theorem Zb0 (r:Rat):(r.den:Int) ≠ 0:=by have:=r.den_pos;omega
theorem rat_add (r s:Rat):Rat.divInt (r.num*(s.den:Int)+s.num*(r.den:Int)) ((r.den:Int)*(s.den:Int))=r+s:=by
 rw [<- Rat.divInt_add_divInt _ _ (Zb0 r) (Zb0 s),Rat.num_divInt_den,Rat.num_divInt_den]
theorem rat_add_same {r s:Rat} (h:(r.den:Int)=(s.den:Int)):Rat.divInt (r.num+s.num) (r.den:Int)=r+s:=by
 rw [<- rat_add,<- h,<- Int.add_mul,Rat.divInt_mul_right (Zb0 r)]
theorem ZgC (r s:Rat):Rat.divInt (r.num*s.num) ((r.den:Int)*(s.den:Int))=r*s:=by
 rw [<- Rat.divInt_mul_divInt,Rat.num_divInt_den,Rat.num_divInt_den]
theorem rat_div (r s:Rat):Rat.divInt (r.num*(s.den:Int)) ((r.den:Int)*s.num)=r / s:=by
 rw [<- Rat.divInt_mul_divInt,Rat.num_divInt_den,<- Rat.inv_divInt,Rat.num_divInt_den,Rat.div_def]
theorem ev114 (fa ga fb gb:Bool) (r s:Rat) (h:J.okR r/\J.okR s):Ev M1 (.pure 114 [ratA fa ga r,ratA fb gb s]) (ratF (r+s)) []:=by
 obtain ⟨hr,hs⟩:=h
 obtain ⟨r1,r2⟩:=ZeJ hr
 obtain ⟨s1,s2⟩:=ZeJ hs
 obtain ⟨cr1,cr2⟩:=hr
 obtain ⟨cs1,cs2⟩:=hs
 have m1:=ZaZ cr1 (Za7 cs2)
 have m2:=ZaZ cs1 (Za7 cr2)
 have m3:=ZaZ (Za7 cr2) (Za7 cs2)
 have a1:=Zgi m1 m2
 have a2:=Zgi cr1 cs1
 refine call114 (vRAdd _ _ _ _ _ _ _ ⟨⟨r2,s2⟩,fun k=>⟨⟨r1,s1⟩,⟨by unfold J.okB;omega,r2,Zb0 r⟩,?_⟩,fun k=>⟨⟨r1,s2⟩,⟨s1,r2⟩,⟨by unfold J.okB;omega,by unfold J.okB;omega⟩,⟨by unfold J.okB;omega,by unfold J.okB;omega,Int.mul_ne_zero (Zb0 r) (Zb0 s)⟩,?_⟩⟩)
 ·have k:=ZbK.1 k
  rw [rat_add_same (by omega)];exact .refl _
 ·rw [rat_add];exact .refl _
theorem ev95 (fa ga fb gb:Bool) (r s:Rat) (h:J.okR r/\J.okR s):Ev M1 (.pure 95 [ratA fa ga r,ratA fb gb s]) (ratF (r*s)) []:=by
 obtain ⟨hr,hs⟩:=h
 obtain ⟨r1,r2⟩:=ZeJ hr
 obtain ⟨s1,s2⟩:=ZeJ hs
 obtain ⟨cr1,cr2⟩:=hr
 obtain ⟨cs1,cs2⟩:=hs
 have m1:=ZaZ cr1 cs1
 have m3:=ZaZ (Za7 cr2) (Za7 cs2)
 refine call95 (vRMul _ _ _ _ _ _ _ ⟨⟨r1,s1⟩,⟨r2,s2⟩,⟨by unfold J.okB;omega,by unfold J.okB;omega,Int.mul_ne_zero (Zb0 r) (Zb0 s)⟩,?_⟩)
 rw [ZgC];exact .refl _
theorem hid_ex (r:Rat):∃ s:Rat,s=r:=⟨r,rfl⟩
noncomputable def J.hid (r:Rat):Rat:=Classical.choose (hid_ex r)
theorem hid_eq (r:Rat):J.hid r=r:=Classical.choose_spec (hid_ex r)
noncomputable def J.qi (n:Int):Rat:=J.hid n
theorem Ze2 (n:Int):J.qi n=(n:Rat):=hid_eq _
theorem ev75 (n:Int) (h:J.inI n):Ev M1 (.pure 75 [.int .i64 n]) (ratF (J.qi n)) []:=by
 rw [Ze2]
 exact call75 (vRFrom _ _ ⟨h,.refl _⟩)
end Go.Av

namespace Go.Av
open Go.Proofs
theorem Zc2 (a:Int):J.Zfh a=true ↔ 0<=a/\J.sq a*J.sq a=a:=by
 unfold J.Zfh J.sqe
 by_cases h:a<0
 ·rw [if_pos h];simp;omega
 ·rw [if_neg h]
  have:=@ZbK (J.sq a*J.sq a-a)
  simp only [beq_self_eq_true,cond_true,beq_iff_eq,this]
  omega
theorem sq_nonneg (a:Int):0<=J.sq a:=by
 unfold J.sq;split <;> omega
theorem sq_nat (n:Nat):J.sq ((n*n:Nat):Int)=n:=by
 unfold J.sq
 rw [if_neg (by omega),Int.natAbs_natCast,Zgf ⟨Nat.le_refl _,Nat.mul_lt_mul'' (Nat.lt_succ_self n) (Nat.lt_succ_self n)⟩]
theorem isSq_nat (n:Nat):J.Zfh ((n*n:Nat):Int)=true:=by
 rw [Zc2,sq_nat];omega
namespace J
def rsq (r:Rat):Prop:=Zfh r.num=true/\Zfh (r.den:Int)=true
noncomputable def rt (r:Rat):Rat:=Rat.divInt (sq r.num) (sq (r.den:Int))
end J
theorem dvd_one {g:Nat} (h:g ∣ 1):g=1:=Nat.dvd_one.1 h
theorem gcd_sq {r:Rat} (h:J.rsq r):Int.gcd (J.sq r.num) (J.sq (r.den:Int))=1:=by
 obtain ⟨h1,h2⟩:=h
 obtain ⟨_,h1⟩:=(Zc2 _).1 h1
 obtain ⟨_,h2⟩:=(Zc2 _).1 h2
 have c:Nat.gcd r.num.natAbs r.den=1:=r.reduced
 generalize J.sq r.num=x at *
 generalize J.sq (r.den:Int)=y at *
 have e1:x.natAbs ∣ r.num.natAbs:=by rw [<- h1,Int.natAbs_mul];exact Nat.dvd_mul_right _ _
 have e2:y.natAbs ∣ r.den:=by
  have:r.den=(r.den:Int).natAbs:=rfl
  rw [this,<- h2,Int.natAbs_mul];exact Nat.dvd_mul_right _ _
 apply Nat.dvd_one.1
 rw [<- c]
 exact Nat.dvd_gcd (Nat.dvd_trans (Nat.gcd_dvd_left _ _) e1) (Nat.dvd_trans (Nat.gcd_dvd_right _ _) e2)
theorem sq_den_pos {r:Rat} (h:J.rsq r):0<J.sq (r.den:Int):=by
 obtain ⟨_,h2⟩:=(Zc2 _).1 h.2
 have:=sq_nonneg (r.den:Int)
 have hd:=r.den_pos
 by_cases e:J.sq (r.den:Int)=0
 ·rw [e] at h2;omega
 ·omega
theorem rt_num {r:Rat} (h:J.rsq r):(J.rt r).num=J.sq r.num/\((J.rt r).den:Int)=J.sq (r.den:Int):=by
 obtain ⟨e1,e2⟩:=Zfv (a:=J.sq r.num) (sq_den_pos h)
 unfold J.rt
 rw [e1,e2,gcd_sq h];simp
theorem Zgz {r:Rat} (h:J.rsq r):J.rt r*J.rt r=r:=by
 obtain ⟨e1,e2⟩:=rt_num h
 rw [<- ZgC,e1,e2,((Zc2 _).1 h.1).2,((Zc2 _).1 h.2).2,Rat.num_divInt_den]
theorem mul_self (s:Rat):(s*s).num=s.num*s.num/\((s*s).den:Int)=(s.den:Int)*(s.den:Int):=by
 have hd:=s.den_pos
 have c:Nat.gcd s.num.natAbs s.den=1:=s.reduced
 have g:Int.gcd (s.num*s.num) ((s.den:Int)*(s.den:Int))=1:=by
  rw [Int.gcd,Int.natAbs_mul,Int.natAbs_mul,Int.natAbs_natCast]
  exact Nat.Coprime.mul_left (Nat.Coprime.mul_right c c) (Nat.Coprime.mul_right c c)
 obtain ⟨e1,e2⟩:=Zfv (a:=s.num*s.num) (b:=(s.den:Int)*(s.den:Int)) (Int.mul_pos (by omega) (by omega))
 rw [ZgC,g] at e1 e2
 rw [e1,e2];simp
theorem rsq_of {r s:Rat} (h:s*s=r):J.rsq r:=by
 obtain ⟨e1,e2⟩:=mul_self s
 rw [h] at e1 e2
 unfold J.rsq
 rw [e1,e2]
 refine ⟨?_,isSq_nat s.den⟩
 rw [<- Int.natAbs_mul_self]
 exact isSq_nat _
end Go.Av

namespace Go.Av
open Go.Proofs
theorem rsqrtH (fa:Bool) (a:Nat) (ha:J.cnt a<=300000) (h0:a ≠ 0) (n:Nat):∀ x:Nat,x<=n->0<x->a<(x+1)*(x+1)->J.fits 300001 x ->
  ZdX fa a x (Zag (.tup [bigA false (J.ZhB a:Nat),.int .i64 0])):=by
 induction n with
 | zero=>intro x h1 h2;omega
 | succ n ih =>
  intro x h1 h2 h3 h4
  have hfa:J.fits 300001 a:=ZaP (Zai a) (by omega)
  have hfq:J.fits 300001 (a / x):=Zbs hfa (Nat.div_le_self _ _)
  have hfs:J.fits 300002 (x+a / x):=Zc4 h4 hfq
  have hfy:J.fits 300002 ((x+a / x) / 2):=Zbs hfs (Nat.div_le_self _ _)
  have e2:(x:Int)+((a / x:Nat):Int)=((x+a / x:Nat):Int):=by omega
  refine rSqrtH fa _ _ _ ?_
  rw [flo_nat h2,e2,flo_two]
  have c1:=Zaz.1 hfa
  have c2:=Zaz.1 h4
  have c3:=Zaz.1 hfs
  refine ⟨⟨by rw [Int.natAbs_natCast];omega,by rw [Int.natAbs_natCast];omega,by omega⟩,⟨ZbM h4 (by omega),ZbM hfq (by omega)⟩,by rw [Int.natAbs_natCast];omega,⟨ZbM hfy (by omega),ZbM h4 (by omega)⟩,fun k => ?_,fun k => ?_⟩
  ·have k:¬(J.sgnI (((x+a / x) / 2:Nat)-(x:Int))<0):=by omega
   rw [Zbn] at k
   rw [ZeK h2 h3 (by omega)]
   exact .refl _
  ·have k:J.sgnI (((x+a / x) / 2:Nat)-(x:Int))<0:=by omega
   rw [Zbn] at k
   have hn:=Zd0 (a:=a) h2
   refine ih _ (by omega) ?_ hn (Zbs h4 (by omega))
   apply Nat.pos_of_ne_zero
   intro e
   rw [e] at hn
   omega
theorem ev158 (fa:Bool) (v:Int) (h:J.okS v):Ev M1 (.pure 158 [bigA fa v]) (.tup [bigA false (J.sq v),.int .i64 (J.sqe v)]) []:=by
 have hl:=ZaX v
 have e1:J.Zab (0:Int)=[]:=ZbR
 have e2:J.Zaa (0:Int)=false:=rfl
 have w0:∀ e:Int,Weak (.tup [.agg [.bool false,.vnil],.int .i64 e]) (.tup [bigA false 0,.int .i64 e]):=by
  intro e
  show Weak _ (.tup [.agg [.bool (J.Zaa 0),.vec false 1 ((J.Zab 0).map (.int .u32))],.int .i64 e])
  rw [e1,e2]
  exact ZbH (Zdb false) (.refl _)
 unfold J.okS at h
 by_cases hneg:v<0
 ·unfold J.sq J.sqe
  rw [if_pos hneg,if_pos hneg]
  exact call158 (rSqrt _ _ _ ⟨fun _=>w0 7,fun k=>absurd (Zak.2 hneg) k⟩)
 ·unfold J.sq J.sqe
  rw [if_neg hneg,if_neg hneg]
  refine call158 (rSqrt _ _ _ ⟨fun k=>absurd (Zak.1 k) hneg,fun _=>⟨fun k => ?_,fun k => ?_⟩⟩)
  ·have hz:v.natAbs=0:=ZaE.1 (by omega)
   have:J.ZhB v.natAbs=0:=by rw [hz];exact Zgf ⟨by omega,by omega⟩
   rw [this];exact w0 0
  ·have hz:J.cnt v.natAbs ≠ 0:=by omega
   have hz':v.natAbs ≠ 0:=fun e=>hz (by rw [e];exact Zbq)
   have ek:(((J.Zab v).length:Int)+1).tdiv 2=(((J.cnt v.natAbs+1) / 2:Nat):Int):=by
    rw [hl]
    have:((J.cnt v.natAbs:Nat):Int)+1=((J.cnt v.natAbs+1:Nat):Int):=by omega
    rw [this]
    exact (Int.ofNat_tdiv (J.cnt v.natAbs+1) 2).symm
   rw [ek,Int.toNat_natCast,List.length_replicate]
   generalize hk:(J.cnt v.natAbs+1) / 2=k
   have hv:((v.natAbs:Nat):Int)=v:=by omega
   have big:v.natAbs<(1000000000 ^ k+1)*(1000000000 ^ k+1):=by
    have h1:=Zai v.natAbs
    unfold J.fits at h1
    have h2:1000000000 ^ J.cnt v.natAbs<=1000000000 ^ (k+k):=Nat.pow_le_pow_right (by omega) (by omega)
    rw [Nat.pow_add] at h2
    have h3:=Nat.mul_le_mul (Nat.le_succ (1000000000 ^ k)) (Nat.le_succ (1000000000 ^ k))
    exact Nat.lt_of_lt_of_le h1 (Nat.le_trans h2 h3)
   have hp:0<1000000000 ^ k:=Nat.pow_pos (by omega)
   have hf:J.fits 300001 (1000000000 ^ k):=fits_pow (by omega)
   refine ⟨by omega,by omega,by omega,by omega,by omega,by omega,by unfold J.inI;omega,?_⟩
   rw [<- hv,Int.natAbs_natCast]
   generalize v.natAbs=a at *
   have hkk:J.okK k:=by unfold J.okK;omega
   have hfa:J.fits 300001 a:=ZaP (Zai a) (by omega)
   have hfq:J.fits 300001 (a / 1000000000 ^ k):=Zbs hfa (Nat.div_le_self _ _)
   have hfs:J.fits 300002 (1000000000 ^ k+a / 1000000000 ^ k):=Zc4 hf hfq
   have hfy:J.fits 300002 ((1000000000 ^ k+a / 1000000000 ^ k) / 2):=Zbs hfs (Nat.div_le_self _ _)
   refine rSqrtF fa _ _ _ ?_
   have hu:=unit_bk k
   rw [show (ag [vb false,vf (us (List.replicate k (0:Int)++[1]))])=bigA false (J.bk k:Int) from hu]
   rw [show J.bk k=1000000000 ^ k from rfl]
   generalize 1000000000 ^ k=x at *
   have e2:(x:Int)+((a / x:Nat):Int)=((x+a / x:Nat):Int):=by omega
   rw [flo_nat hp,e2,flo_two]
   have c1:=Zaz.1 hfa
   have c3:=Zaz.1 hfs
   refine ⟨⟨by rw [Int.natAbs_natCast];omega,hkk⟩,⟨hkk,ZbM hfq (by omega)⟩,by rw [Int.natAbs_natCast];omega,⟨ZbM hfy (by omega),hkk⟩,fun k => ?_,fun k => ?_⟩
   ·have k:¬(J.sgnI (((x+a / x) / 2:Nat)-(x:Int))<0):=by omega
    rw [Zbn] at k
    rw [ZeK hp big (by omega)]
    exact .refl _
   ·have k:J.sgnI (((x+a / x) / 2:Nat)-(x:Int))<0:=by omega
    rw [Zbn] at k
    have hn:=Zd0 (a:=a) hp
    refine rsqrtH fa a h hz' _ _ (Nat.le_refl _) ?_ hn (Zbs hf (by omega))
    apply Nat.pos_of_ne_zero
    intro e
    rw [e] at hn
    omega
end Go.Av

namespace Go.Av
open Go.Proofs
set_option maxRecDepth 100000
def fi20:Fi:=⟨6,[.tmp 2]⟩
def kp20:List (Nat × List Nat):=[(0,[1]),(1,[2])]
def fi81:Fi:=⟨2,[.cell 0 24]⟩
def kp81:List (Nat × List Nat):=[(0,[0]),(1,[0])]
def fi82:Fi:=⟨9,[.cell 2 26]⟩
def kp82:List (Nat × List Nat):=[(0,[1,2]),(1,[2])]
def fi89:Fi:=⟨39,[.cell 4 26]⟩
def kp89:List (Nat × List Nat):=[(0,[2,3,4]),(1,[2,3,4,14]),(2,[2,3,4]),(3,[2,3,4,5]),(4,[3,4,5,6]),(5,[4,6,9]),(6,[4])]
def fi131:Fi:=⟨21,[.cell 2 24,.tmp 3]⟩
def kp131:List (Nat × List Nat):=[(0,[1,2]),(1,[1,2,4,5]),(2,[2,3])]
def rUnit_at  (Q:AV->Heap->Prop):Prop:=Wp M1 (.run fi81 (atC (cd Tryz.f81) []) [] []) Q
def rOf_at (fa fb:Bool) (a b:Int) (Q:AV->Heap->Prop):Prop:=Wp M1 (.run fi89 (atC (cd Tryz.f89) []) [(0,bigA fa a),(1,bigA fb b)] []) Q
def rRSign_at (fa ga:Bool) (p q:Int) (Q:AV->Heap->Prop):Prop:=Wp M1 (.run fi20 (atC (cd Tryz.f20) []) [(0,.agg [.bool (J.Zaa p),.vec fa 1 ((J.Zab p).map (.int .u32)),.bool (J.Zaa q),.vec ga 1 ((J.Zab q).map (.int .u32))])] []) Q
def rRNeg_at (fa ga:Bool) (p q:Int) (Q:AV->Heap->Prop):Prop:=Wp M1 (.run fi82 (atC (cd Tryz.f82) []) [(0,.agg [.bool (J.Zaa p),.vec fa 1 ((J.Zab p).map (.int .u32)),.bool (J.Zaa q),.vec ga 1 ((J.Zab q).map (.int .u32))])] []) Q
def rPerf_at (fa:Bool) (a:Int) (Q:AV->Heap->Prop):Prop:=Wp M1 (.run fi131 (atC (cd Tryz.f131) []) [(0,bigA fa a)] []) Q
theorem call20 {args:List AV} {d:AV} (h:wc M1 fi20 Tryz.f20 args d):Ev M1 (.pure 20 args) d []:=pcl _ _ (by kernel_rfl) h
theorem call81 {args:List AV} {d:AV} (h:wc M1 fi81 Tryz.f81 args d):Ev M1 (.pure 81 args) d []:=pcl _ _ (by kernel_rfl) h
theorem call82 {args:List AV} {d:AV} (h:wc M1 fi82 Tryz.f82 args d):Ev M1 (.pure 82 args) d []:=pcl _ _ (by kernel_rfl) h
theorem call89 {args:List AV} {d:AV} (h:wc M1 fi89 Tryz.f89 args d):Ev M1 (.pure 89 args) d []:=pcl _ _ (by kernel_rfl) h
theorem call131 {args:List AV} {d:AV} (h:wc M1 fi131 Tryz.f131 args d):Ev M1 (.pure 131 args) d []:=pcl _ _ (by kernel_rfl) h
theorem rUnit   (dq:AV) (H :
  (J.inI 1) /\
  Weak (ag [vb false,vf (us (J.Zab 1))]) dq) :
 rUnit_at  (Zag dq):=by
 unfold rUnit_at
 obtain ⟨k1,H⟩:=H
 exact Zah (G:=Zad kp81 [(1,0,.call (ag [vb false,vf (us (J.Zab 1))]) none)] []) 1000 [] (ag [vb false,vf (us (J.Zab 1))]) (by kernel_rfl) (bc rfl b0) q0 (ce (@ev121 1 k1) c0) H
theorem rOf (fa fb:Bool) (a b:Int)  (dq:AV) (H :
  ((J.sgnI b<0)->(J.ok a) /\
   (J.ok b) /\
   (J.cnt (-a).natAbs<=399000/\J.cnt (-b).natAbs<=399000) /\
   (J.cnt (-a).natAbs<=399000/\J.cnt (↑((-a).gcd (-b)):Int).natAbs<=399000/\(↑((-a).gcd (-b)):Int) ≠ 0) /\
   (J.cnt (-b).natAbs<=399000/\J.cnt (↑((-a).gcd (-b)):Int).natAbs<=399000/\(↑((-a).gcd (-b)):Int) ≠ 0) /\
   Weak (ag [vb (J.Zaa (J.flo (-a) (↑((-a).gcd (-b)):Int))),vf (us (J.Zab (J.flo (-a) (↑((-a).gcd (-b)):Int)))),vb (J.Zaa (J.flo (-b) (↑((-a).gcd (-b)):Int))),vf (us (J.Zab (J.flo (-b) (↑((-a).gcd (-b)):Int))))]) dq) /\
  (¬(J.sgnI b<0)->(J.cnt a.natAbs<=399000/\J.cnt b.natAbs<=399000) /\
   (J.cnt a.natAbs<=399000/\J.cnt (↑(a.gcd b):Int).natAbs<=399000/\(↑(a.gcd b):Int) ≠ 0) /\
   (J.cnt b.natAbs<=399000/\J.cnt (↑(a.gcd b):Int).natAbs<=399000/\(↑(a.gcd b):Int) ≠ 0) /\
   Weak (ag [vb (J.Zaa (J.flo a (↑(a.gcd b):Int))),vf (us (J.Zab (J.flo a (↑(a.gcd b):Int)))),vb (J.Zaa (J.flo b (↑(a.gcd b):Int))),vf (us (J.Zab (J.flo b (↑(a.gcd b):Int))))]) dq)) :
 rOf_at fa fb a b (Zag dq):=by
 unfold rOf_at
 refine Zae (G:=Zad kp89 [(1,1,.call (vi (J.sgnI b)) none)] []) 5 [] ⟨(atC (cd Tryz.f89) [1,0,1]),[(2,AV.ptr 0 0 0 0),(3,AV.ptr 1 0 0 0),(4,AV.ptr 2 0 0 0),(14,vb (decide (J.sgnI b<0)))],[⟨[bigA fa a],2,0,false,false⟩,⟨[bigA fb b],2,0,false,false⟩,⟨[ag [vb false,AV.vnil,vb false,AV.vnil]],4,0,false,false⟩],_,[],_⟩ (by kernel_rfl) (bc rfl b0) q0 (ce (@ev71 fb b) c0) ?_
 rcases xq H with ⟨d2,H⟩|⟨d2,H⟩
 ·obtain ⟨k3,k4,k5,k6,k7,H⟩:=H
  exact Zah (G:=Zad kp89 [(2,1,.call (bigA false (-a)) none),(2,3,.call (bigA false (-b)) none),(3,2,.call (bigA false (↑((-a).gcd (-b)):Int)) none),(4,2,.call (tu [bigA false (J.flo (-a) (↑((-a).gcd (-b)):Int)),bigA false (J.flr (-a) (↑((-a).gcd (-b)):Int)),vi 0]) none),(5,2,.call (tu [bigA false (J.flo (-b) (↑((-a).gcd (-b)):Int)),bigA false (J.flr (-b) (↑((-a).gcd (-b)):Int)),vi 0]) none)] []) 1000 [true] (ag [vb (J.Zaa (J.flo (-a) (↑((-a).gcd (-b)):Int))),vf (us (J.Zab (J.flo (-a) (↑((-a).gcd (-b)):Int)))),vb (J.Zaa (J.flo (-b) (↑((-a).gcd (-b)):Int))),vf (us (J.Zab (J.flo (-b) (↑((-a).gcd (-b)):Int))))]) (by kernel_rfl) (bc (Zaq (Zac.2 d2)) (bc rfl (bc rfl (bc rfl (bc rfl (bc rfl (bc rfl (bc rfl (bc rfl (bc rfl (bc rfl (bc rfl (bc rfl (bc rfl (bc rfl (bc rfl (bc rfl (bc rfl (bc rfl b0))))))))))))))))))) q0 (ce (@ev122 fa a k3) (ce (@ev122 fb b k4) (ce (@ev80 false false (-a) (-b) k5) (ce (@ev128 false false (-a) ((↑((-a).gcd (-b)):Int)) k6) (ce (@ev128 false false (-b) ((↑((-a).gcd (-b)):Int)) k7) c0))))) H
 ·obtain ⟨k8,k9,k10,H⟩:=H
  exact Zah (G:=Zad kp89 [(3,2,.call (bigA false (↑(a.gcd b):Int)) none),(4,2,.call (tu [bigA false (J.flo a (↑(a.gcd b):Int)),bigA false (J.flr a (↑(a.gcd b):Int)),vi 0]) none),(5,2,.call (tu [bigA false (J.flo b (↑(a.gcd b):Int)),bigA false (J.flr b (↑(a.gcd b):Int)),vi 0]) none)] []) 1000 [false] (ag [vb (J.Zaa (J.flo a (↑(a.gcd b):Int))),vf (us (J.Zab (J.flo a (↑(a.gcd b):Int)))),vb (J.Zaa (J.flo b (↑(a.gcd b):Int))),vf (us (J.Zab (J.flo b (↑(a.gcd b):Int))))]) (by kernel_rfl) (bc (Zam (fun h=>d2 (Zac.1 h))) (bc rfl (bc rfl (bc rfl (bc rfl (bc rfl (bc rfl (bc rfl (bc rfl (bc rfl (bc rfl (bc rfl (bc rfl (bc rfl (bc rfl b0))))))))))))))) q0 (ce (@ev80 fa fb a b k8) (ce (@ev128 fa false a ((↑(a.gcd b):Int)) k9) (ce (@ev128 fb false b ((↑(a.gcd b):Int)) k10) c0))) H
theorem rRSign (fa ga:Bool) (p q:Int)  (dq:AV) (H :
  vi (J.sgnI p)=dq) :
 rRSign_at fa ga p q (Zag dq):=by
 unfold rRSign_at
 exact Zao (G:=Zad kp20 [(1,2,.call (vi (J.sgnI p)) none)] []) 1000 [] (vi (J.sgnI p)) (by kernel_rfl) (bc rfl b0) q0 (ce (@ev71 fa p) c0) H
theorem rRNeg (fa ga:Bool) (p q:Int)  (dq:AV) (H :
  (J.ok p) /\
  Weak (ag [vb (J.Zaa (-p)),vf (us (J.Zab (-p))),vb (J.Zaa q),AV.vec ga 1 (us (J.Zab q))]) dq) :
 rRNeg_at fa ga p q (Zag dq):=by
 unfold rRNeg_at
 obtain ⟨k1,H⟩:=H
 exact Zah (G:=Zad kp82 [(1,2,.call (bigA false (-p)) none)] []) 1000 [] (ag [vb (J.Zaa (-p)),vf (us (J.Zab (-p))),vb (J.Zaa q),AV.vec ga 1 (us (J.Zab q))]) (by kernel_rfl) (bc rfl (bc rfl (bc rfl b0))) q0 (ce (@ev122 fa p k1) c0) H
theorem rPerf (fa:Bool) (a:Int)  (dq:AV) (H :
  (J.okS a) /\
  ((J.sqe a=0)->(J.okB (J.sq a)/\J.okB (J.sq a))) /\
  ((J.sqe a=0)->(J.ok (J.sq a*J.sq a)/\J.ok a)) /\
  Weak (tu [bigA false (J.sq a),vb (bif J.sqe a==0 then decide (J.sq a*J.sq a=a) else false)]) dq) :
 rPerf_at fa a (Zag dq):=by
 unfold rPerf_at
 obtain ⟨k1,k3,k5,H⟩:=H
 exact Zah (G:=Zad kp131 [(1,1,.call (tu [bigA false (J.sq a),vi (J.sqe a)]) none),(2,6,.call (bigA false (J.sq a*J.sq a)) none),(2,8,.call (vb (decide (J.sq a*J.sq a=a))) none)] []) 1000 [] (asm:=[true,true,true,!((J.sqe a==0)==true&&true)||true,!((J.sqe a==0)==true&&true)||true,!((J.sqe a==0)==true&&true)||true,true]) (calls:=[⟨true,false,158,[bigA fa a],[],tu [bigA false (J.sq a),vi (J.sqe a)],[]⟩,⟨(J.sqe a==0)==true&&true&&true,false,88,[bigA false (J.sq a),bigA false (J.sq a)],[],bigA false (J.sq a*J.sq a),[]⟩,⟨(J.sqe a==0)==true&&true&&true,false,79,[bigA false (J.sq a*J.sq a),bigA fa a],[],vb (decide (J.sq a*J.sq a=a)),[]⟩]) (tu [bigA false (J.sq a),vb (bif J.sqe a==0 then decide (J.sq a*J.sq a=a) else false)]) (by kernel_rfl) (bc rfl (bc rfl (bc rfl (bc (Bool.or_true _) (bc (Bool.or_true _) (bc (Bool.or_true _) (bc rfl b0))))))) q0 (cc (fun _=>(@ev158 fa a k1)) (cc (fun hc=>((@ev88 false false (J.sq a) (J.sq a) (k3 ((i_at (i_at (i_bt i_eq))).1 hc))):Ev M1 (Conf.pure 88 [bigA false (J.sq a),bigA false (J.sq a)]) (bigA false (J.sq a*J.sq a)) [])) (cc (fun hc=>((@ev79 false fa (J.sq a*J.sq a) a (k5 ((i_at (i_at (i_bt i_eq))).1 hc))):Ev M1 (Conf.pure 79 [bigA false (J.sq a*J.sq a),bigA fa a]) (vb (decide (J.sq a*J.sq a=a))) [])) c0))) H
end Go.Av

namespace Go.Av
open Go.Proofs
set_option maxRecDepth 100000
def fi168:Fi:=⟨6,[.tmp 2]⟩
def kp168:List (Nat × List Nat):=[(0,[0]),(1,[2])]
def vIsNaN_at (x:Int) (Q:AV->Heap->Prop):Prop:=Wp M1 (.run fi168 (atC (cd Tryz.f168) []) [(0,.int .i64 x)] []) Q
theorem call168 {args:List AV} {d:AV} (h:wc M1 fi168 Tryz.f168 args d):Ev M1 (.pure 168 args) d []:=pcl _ _ (by kernel_rfl) h
theorem vIsNaN (x:Int)  (dq:AV) (H :
  (vb (x != x))=dq) :
 vIsNaN_at x (Zag dq):=by
 unfold vIsNaN_at
 exact Zao (G:=Zad kp168 [] []) 1000 [] (vb (x != x)) (by kernel_rfl) b0 q0 c0 H
end Go.Av

namespace Go.Av
open Go.Proofs
theorem ev168 (x:Int):Ev M1 (.pure 168 [.int .i64 x]) (.bool false) []:=
 call168 (vIsNaN _ _ (by simp))
theorem ev99 (fa ga fb gb:Bool) (r s:Rat) (h:J.okR r/\J.okR s/\s.num ≠ 0):Ev M1 (.pure 99 [ratA fa ga r,ratA fb gb s]) (.tup [ratF (r / s),.int .i64 0]) []:=by
 obtain ⟨hr,hs,h0⟩:=h
 obtain ⟨r1,r2⟩:=ZeJ hr
 obtain ⟨s1,s2⟩:=ZeJ hs
 obtain ⟨cr1,cr2⟩:=hr
 obtain ⟨cs1,cs2⟩:=hs
 have m1:=ZaZ cr1 (Za7 cs2)
 have m3:=ZaZ (Za7 cr2) cs1
 refine call99 (vRDiv _ _ _ _ _ _ _ ⟨fun k=>absurd (ZbK.1 k) h0,fun _=>⟨⟨r1,s2⟩,⟨r2,s1⟩,⟨by unfold J.okB;omega,by unfold J.okB;omega,Int.mul_ne_zero (Zb0 r) h0⟩,?_⟩⟩)
 rw [rat_div];exact .refl _
end Go.Av

namespace Go.Av
open Go.Proofs
set_option maxRecDepth 100000
def fi94:Fi:=⟨9,[.cell 4 26]⟩
def kp94:List (Nat × List Nat):=[(0,[2,3,4]),(1,[4])]
def fi148:Fi:=⟨20,[.tmp 4]⟩
def kp148:List (Nat × List Nat):=[(0,[0,1]),(1,[0,1,5]),(2,[0,1,5,6]),(3,[0,1,6,11]),(4,[12]),(5,[4]),(6,[4]),(7,[0,1,13]),(8,[4]),(9,[0,1,16]),(10,[4]),(11,[19]),(12,[4]),(13,[4])]
def ZhP (x y:Int) (Q:AV->Heap->Prop):Prop:=Wp M1 (.run fi148 (atC (cd Tryz.f148) []) [(0,.int .i64 x),(1,.int .i64 y)] []) Q
def vRSub_at (fa ga fb gb:Bool) (r s:Rat) (Q:AV->Heap->Prop):Prop:=Wp M1 (.run fi94 (atC (cd Tryz.f94) []) [(0,ratA fa ga r),(1,ratA fb gb s)] []) Q
theorem call94 {args:List AV} {d:AV} (h:wc M1 fi94 Tryz.f94 args d):Ev M1 (.pure 94 args) d []:=pcl _ _ (by kernel_rfl) h
theorem call148 {args:List AV} {d:AV} (h:wc M1 fi148 Tryz.f148 args d):Ev M1 (.pure 148 args) d []:=pcl _ _ (by kernel_rfl) h
theorem vCmpInt (x y:Int)  (dq:AV) (H :
  ((x<y)->vi (-1)=dq) /\
  (¬(x<y)->((x>y)->vi 1=dq) /\
   (¬(x>y)->vi 0=dq))) :
 ZhP x y (Zag dq):=by
 unfold ZhP
 refine Zae (G:=Zad kp148 [(1,1,.call (vb false) none),(2,1,.call (vb false) none)] []) 19 [false,false] ⟨(atC (cd Tryz.f148) [1,1,1,1,1,0,1]),[(0,vi x),(1,vi y),(16,vb (decide (x<y)))],[],_,[],_⟩ (by kernel_rfl) (bc rfl (bc rfl b0)) q0 (ce (@ev168 x) (ce (@ev168 y) c0)) ?_
 rcases xq H with ⟨d2,H⟩|⟨d2,H⟩
 ·exact Zao (G:=Zad kp148 [] []) 1000 [true] (vi (-1)) (by kernel_rfl) (bc (Zaq (Zac.2 d2)) b0) q0 c0 H
 ·rcases xq H with ⟨d4,H⟩|⟨d4,H⟩
  ·exact Zao (G:=Zad kp148 [] []) 1000 [false,true] (vi 1) (by kernel_rfl) (bc (Zam (fun h=>d2 (Zac.1 h))) (bc (Zaq (Zac.2 d4)) b0)) q0 c0 H
  ·exact Zao (G:=Zad kp148 [] []) 1000 [false,false] (vi 0) (by kernel_rfl) (bc (Zam (fun h=>d2 (Zac.1 h))) (bc (Zam (fun h=>d4 (Zac.1 h))) b0)) q0 c0 H
theorem vRSub (fa ga fb gb:Bool) (r s:Rat)  (dq:AV) (H :
  (J.okB s.num) /\
  (J.okR r/\J.okR (-s)) /\
  Weak (ratF (r + -s)) dq) :
 vRSub_at fa ga fb gb r s (Zag dq):=by
 unfold vRSub_at
 obtain ⟨k1,k2,H⟩:=H
 exact Zah (G:=Zad kp94 [(1,2,.call (ratF (-s)) none),(1,3,.call (ratF (r + -s)) none)] []) 1000 [] (ratF (r + -s)) (by kernel_rfl) (bc rfl (bc rfl (bc rfl b0))) q0 (ce (@ev65 fb gb s k1) (ce (@ev114 fa ga false false r (-s) k2) c0)) H
end Go.Av

namespace Go.Av
open Go.Proofs
theorem ev148 (x y:Int):Ev M1 (.pure 148 [.int .i64 x,.int .i64 y]) (.int .i64 (J.sgnI (x-y))) []:=by
 refine call148 (vCmpInt _ _ _ ⟨fun h => ?_,fun h=>⟨fun k => ?_,fun k => ?_⟩⟩)
 ·unfold J.sgnI;rw [if_pos (by omega)]
 ·unfold J.sgnI;rw [if_neg (by omega),if_pos (by omega)]
 ·unfold J.sgnI;rw [if_neg (by omega),if_neg (by omega)]
theorem okR_neg {s:Rat} (h:J.okR s):J.okR (-s):=by
 unfold J.okR at *
 rw [Rat.neg_num,Rat.neg_den,Int.natAbs_neg];exact h
theorem ev94 (fa ga fb gb:Bool) (r s:Rat) (h:J.okR r/\J.okR s):Ev M1 (.pure 94 [ratA fa ga r,ratA fb gb s]) (ratF (r-s)) []:=by
 refine call94 (vRSub _ _ _ _ _ _ _ ⟨(ZeJ h.2).1,⟨h.1,okR_neg h.2⟩,?_⟩)
 rw [<- Rat.sub_eq_add_neg];exact .refl _
theorem sgn_mul (a:Int) {d:Int} (h:0<d):(a<0->a*d<0)/\(a=0->a*d=0)/\(0<a->0<a*d):=
 ⟨fun k=>Int.mul_neg_of_neg_of_pos k h,fun k=>by rw [k,Int.zero_mul],fun k=>Int.mul_pos k h⟩
theorem ev110 (fa ga fb gb:Bool) (r s:Rat) (h:J.okR r/\J.okR s):Ev M1 (.pure 110 [ratA fa ga r,ratA fb gb s]) (.int .i64 (J.sgnI (r.num*(s.den:Int)-s.num*(r.den:Int)))) []:=by
 obtain ⟨hr,hs⟩:=h
 obtain ⟨r1,r2⟩:=ZeJ hr
 obtain ⟨s1,s2⟩:=ZeJ hs
 obtain ⟨cr1,cr2⟩:=hr
 obtain ⟨cs1,cs2⟩:=hs
 have m1:=ZaZ cr1 (Za7 cs2)
 have m2:=ZaZ cs1 (Za7 cr2)
 refine call110 (vRCmp _ _ _ _ _ _ _ ⟨_,ev148 _ _,fun k => ?_,fun _=>⟨⟨r1,s2⟩,⟨s1,r2⟩,⟨by unfold J.okB;omega,by unfold J.okB;omega⟩,rfl⟩⟩)
 obtain ⟨a1,a2,a3⟩:=sgn_mul r.num (d:=(s.den:Int)) (by have:=s.den_pos;omega)
 obtain ⟨b1,b2,b3⟩:=sgn_mul s.num (d:=(r.den:Int)) (by have:=r.den_pos;omega)
 congr 1
 generalize r.num*(s.den:Int)=A at a1 a2 a3 ⊢
 generalize s.num*(r.den:Int)=B at b1 b2 b3 ⊢
 unfold J.sgnI at k ⊢
 (repeat' split at k) <;> (repeat' split) <;> omega
end Go.Av
