/- PART 5 of the texts of a claim, joined by a program: what each part shows stands at its head. -/
import Derived.Test.YtabdlpimphgfiaaPart5273e87dd3

namespace Go.Av
open Go.Proofs
set_option maxRecDepth 100000
def fi36:Fi:=⟨6,[.cell 2 30]⟩
def kp36:List (Nat × List Nat):=[(0,[0,2]),(1,[2])]
def fi39:Fi:=⟨16,[.cell 4 30]⟩
def kp39:List (Nat × List Nat):=[(0,[2,3,4]),(1,[4])]
def fi41:Fi:=⟨25,[.tmp 4]⟩
def kp41:List (Nat × List Nat):=[(0,[2,3]),(1,[2,3,5]),(2,[2,3,5,12]),(3,[4]),(4,[4])]
def fi76:Fi:=⟨36,[.cell 4 30]⟩
def kp76:List (Nat × List Nat):=[(0,[2,3,4]),(1,[2,3,4,10]),(2,[4]),(3,[4])]
def vRAdd_at (fa ga fb gb:Bool) (r s:Rat) (Q:AV->Heap->Prop):Prop:=Wp M1 (.run fi76 (atC (cd Try.f76) []) [(0,ratA fa ga r),(1,ratA fb gb s)] []) Q
def vRMul_at (fa ga fb gb:Bool) (r s:Rat) (Q:AV->Heap->Prop):Prop:=Wp M1 (.run fi39 (atC (cd Try.f39) []) [(0,ratA fa ga r),(1,ratA fb gb s)] []) Q
def vRCmp_at (fa ga fb gb:Bool) (r s:Rat) (Q:AV->Heap->Prop):Prop:=Wp M1 (.run fi41 (atC (cd Try.f41) []) [(0,ratA fa ga r),(1,ratA fb gb s)] []) Q
def vRFrom_at (n:Int) (Q:AV->Heap->Prop):Prop:=Wp M1 (.run fi36 (atC (cd Try.f36) []) [(0,.int .i64 n)] []) Q
theorem call36 {args:List AV} {d:AV} (h:wc M1 fi36 Try.f36 args d):Ev M1 (.pure 36 args) d []:=pcl _ _ (by kernel_rfl) h
theorem call39 {args:List AV} {d:AV} (h:wc M1 fi39 Try.f39 args d):Ev M1 (.pure 39 args) d []:=pcl _ _ (by kernel_rfl) h
theorem call41 {args:List AV} {d:AV} (h:wc M1 fi41 Try.f41 args d):Ev M1 (.pure 41 args) d []:=pcl _ _ (by kernel_rfl) h
theorem call76 {args:List AV} {d:AV} (h:wc M1 fi76 Try.f76 args d):Ev M1 (.pure 76 args) d []:=pcl _ _ (by kernel_rfl) h
theorem vRAdd (fa ga fb gb:Bool) (r s:Rat)  (dq:AV) (H :
  (Sp.okB (↑r.den:Int) /\ Sp.okB (↑s.den:Int)) /\
  ((Sp.sgnI ((↑r.den:Int) - (↑s.den:Int)) = 0) -> (Sp.okB r.num /\ Sp.okB s.num) /\
   (Sp.okB (r.num + s.num) /\ Sp.okB (↑r.den:Int) /\ (↑r.den:Int) ≠ 0) /\
   Weak (ratF (Rat.divInt (r.num + s.num) (↑r.den:Int))) dq) /\
  (¬(Sp.sgnI ((↑r.den:Int) - (↑s.den:Int)) = 0) -> (Sp.okB r.num /\ Sp.okB (↑s.den:Int)) /\
   (Sp.okB s.num /\ Sp.okB (↑r.den:Int)) /\
   (Sp.okB (r.num * (↑s.den:Int)) /\ Sp.okB (s.num * (↑r.den:Int))) /\
   (Sp.okB (r.num * (↑s.den:Int) + s.num * (↑r.den:Int)) /\ Sp.okB ((↑r.den:Int) * (↑s.den:Int)) /\ (↑r.den:Int) * (↑s.den:Int) ≠ 0) /\
   Weak (ratF (Rat.divInt (r.num * (↑s.den:Int) + s.num * (↑r.den:Int)) ((↑r.den:Int) * (↑s.den:Int)))) dq)) :
 vRAdd_at fa ga fb gb r s (Zae dq):=by
 unfold vRAdd_at
 obtain ⟨k1,H⟩:=H
 refine Zac (G:=Zab kp76 [(1,4,.call (vi (Sp.sgnI ((↑r.den:Int) - (↑s.den:Int)))) none)] []) 5 [] ⟨(atC (cd Try.f76) [1,0,1]),[(2,AV.ptr 0 0 0 0),(3,AV.ptr 1 0 0 0),(4,AV.ptr 2 0 0 0),(10,vb (Sp.sgnI ((↑r.den:Int) - (↑s.den:Int)) == 0))],[⟨[ratA fa ga r],4,0,false,false⟩,⟨[ratA fb gb s],4,0,false,false⟩,⟨[ag [vb false,AV.vnil,vb false,AV.vnil]],4,0,false,false⟩],_,[],_⟩ (by kernel_rfl) (bc rfl (bc rfl b0)) q0 (ce (@ev47 (ga) (gb) ((↑r.den:Int)) ((↑s.den:Int)) k1) c0) ?_
 rcases xq H with ⟨d3,H⟩|⟨d3,H⟩
 ·obtain ⟨k4,k5,H⟩:=H
  exact Zao (G:=Zab kp76 [(2,4,.call (bigA false (r.num + s.num)) none),(2,7,.call (ratF (Rat.divInt (r.num + s.num) (↑r.den:Int))) none)] []) 1000 [true] (ratF (Rat.divInt (r.num + s.num) (↑r.den:Int))) (by kernel_rfl) (bc (Zak (i_eq.2 d3)) (bc rfl (bc rfl (bc rfl (bc rfl b0))))) q0 (ce (@ev83 (fa) (fb) (r.num) (s.num) k4) (ce (@ev77 (false) (ga) (r.num + s.num) ((↑r.den:Int)) k5) c0)) H
 ·obtain ⟨k6,k7,k8,k9,H⟩:=H
  exact Zao (G:=Zab kp76 [(3,4,.call (bigA false (r.num * (↑s.den:Int))) none),(3,9,.call (bigA false (s.num * (↑r.den:Int))) none),(3,10,.call (bigA false (r.num * (↑s.den:Int) + s.num * (↑r.den:Int))) none),(3,15,.call (bigA false ((↑r.den:Int) * (↑s.den:Int))) none),(3,16,.call (ratF (Rat.divInt (r.num * (↑s.den:Int) + s.num * (↑r.den:Int)) ((↑r.den:Int) * (↑s.den:Int)))) none)] []) 1000 [false] (ratF (Rat.divInt (r.num * (↑s.den:Int) + s.num * (↑r.den:Int)) ((↑r.den:Int) * (↑s.den:Int)))) (by kernel_rfl) (bc (Zaj (fun h => d3 (i_eq.1 h))) (bc rfl (bc rfl (bc rfl (bc rfl (bc rfl (bc rfl (bc rfl b0)))))))) q0 (ce (@ev78 (fa) (gb) (r.num) ((↑s.den:Int)) k6) (ce (@ev78 (fb) (ga) (s.num) ((↑r.den:Int)) k7) (ce (@ev83 (false) (false) (r.num * (↑s.den:Int)) (s.num * (↑r.den:Int)) k8) (ce (@ev78 (ga) (gb) ((↑r.den:Int)) ((↑s.den:Int)) k1) (ce (@ev77 (false) (false) (r.num * (↑s.den:Int) + s.num * (↑r.den:Int)) ((↑r.den:Int) * (↑s.den:Int)) k9) c0))))) H
theorem vRMul (fa ga fb gb:Bool) (r s:Rat)  (dq:AV) (H :
  (Sp.okB r.num /\ Sp.okB s.num) /\
  (Sp.okB (↑r.den:Int) /\ Sp.okB (↑s.den:Int)) /\
  (Sp.okB (r.num * s.num) /\ Sp.okB ((↑r.den:Int) * (↑s.den:Int)) /\ (↑r.den:Int) * (↑s.den:Int) ≠ 0) /\
  Weak (ratF (Rat.divInt (r.num * s.num) ((↑r.den:Int) * (↑s.den:Int)))) dq) :
 vRMul_at fa ga fb gb r s (Zae dq):=by
 unfold vRMul_at
 obtain ⟨k1,k2,k3,H⟩:=H
 exact Zao (G:=Zab kp39 [(1,4,.call (bigA false (r.num * s.num)) none),(1,9,.call (bigA false ((↑r.den:Int) * (↑s.den:Int))) none),(1,10,.call (ratF (Rat.divInt (r.num * s.num) ((↑r.den:Int) * (↑s.den:Int)))) none)] []) 1000 [] (ratF (Rat.divInt (r.num * s.num) ((↑r.den:Int) * (↑s.den:Int)))) (by kernel_rfl) (bc rfl (bc rfl (bc rfl (bc rfl (bc rfl b0))))) q0 (ce (@ev78 (fa) (fb) (r.num) (s.num) k1) (ce (@ev78 (ga) (gb) ((↑r.den:Int)) ((↑s.den:Int)) k2) (ce (@ev77 (false) (false) (r.num * s.num) ((↑r.den:Int) * (↑s.den:Int)) k3) c0))) H
theorem vRCmp (fa ga fb gb:Bool) (r s:Rat)  (dq:AV) (H :
  ∃ (n1:Int),
  (Ev M1 (Conf.pure 79 [vi (Sp.sgnI r.num),vi (Sp.sgnI s.num)]) (vi n1) []) /\
  ((¬n1 = 0) -> vi n1 = dq) /\
  (¬(¬n1 = 0) -> (Sp.okB r.num /\ Sp.okB (↑s.den:Int)) /\
   (Sp.okB s.num /\ Sp.okB (↑r.den:Int)) /\
   (Sp.okB (r.num * (↑s.den:Int)) /\ Sp.okB (s.num * (↑r.den:Int))) /\
   vi (Sp.sgnI (r.num * (↑s.den:Int) - s.num * (↑r.den:Int))) = dq)) :
 vRCmp_at fa ga fb gb r s (Zae dq):=by
 unfold vRCmp_at
 obtain ⟨n1,k1,H⟩:=H
 refine Zac (G:=Zab kp41 [(1,1,.call (vi (Sp.sgnI r.num)) none),(1,3,.call (vi (Sp.sgnI s.num)) none),(1,4,.call (vi n1) none)] []) 7 [] ⟨(atC (cd Try.f41) [1,0,1,1]),[(2,AV.ptr 0 0 0 0),(3,AV.ptr 1 0 0 0),(5,vi n1),(12,vb (n1 != 0))],[⟨[ratA fa ga r],4,0,false,false⟩,⟨[ratA fb gb s],4,0,false,false⟩],_,[],_⟩ (by kernel_rfl) (bc rfl (bc rfl b0)) q0 (ce (@ev80 (fa) (ga) (r.num) ((↑r.den:Int))) (ce (@ev80 (fb) (gb) (s.num) ((↑s.den:Int))) (ce k1 c0))) ?_
 rcases xq H with ⟨d3,H⟩|⟨d3,H⟩
 ·exact Zag (G:=Zab kp41 [] []) 1000 [true] (vi n1) (by kernel_rfl) (bc (Zak (i_ne.2 d3)) b0) q0 c0 H
 ·obtain ⟨k4,k5,k6,H⟩:=H
  exact Zag (G:=Zab kp41 [(4,4,.call (bigA false (r.num * (↑s.den:Int))) none),(4,9,.call (bigA false (s.num * (↑r.den:Int))) none),(4,10,.call (vi (Sp.sgnI (r.num * (↑s.den:Int) - s.num * (↑r.den:Int)))) none)] []) 1000 [false] (vi (Sp.sgnI (r.num * (↑s.den:Int) - s.num * (↑r.den:Int)))) (by kernel_rfl) (bc (Zaj (fun h => d3 (i_ne.1 h))) (bc rfl (bc rfl (bc rfl (bc rfl b0))))) q0 (ce (@ev78 (fa) (gb) (r.num) ((↑s.den:Int)) k4) (ce (@ev78 (fb) (ga) (s.num) ((↑r.den:Int)) k5) (ce (@ev47 (false) (false) (r.num * (↑s.den:Int)) (s.num * (↑r.den:Int)) k6) c0))) H
theorem vRFrom (n:Int)  (dq:AV) (H :
  (Sp.inI n) /\
  Weak (ratF (↑n:Rat)) dq) :
 vRFrom_at n (Zae dq):=by
 unfold vRFrom_at
 obtain ⟨k1,H⟩:=H
 exact Zao (G:=Zab kp36 [(1,1,.call (bigA false n) none),(1,2,.call (ratF (↑n:Rat)) none)] []) 1000 [] (ratF (↑n:Rat)) (by kernel_rfl) (bc rfl b0) q0 (ce (@ev46 (n) k1) (ce (@ev75 (false) (n)) c0)) H
end Go.Av

namespace Go.Av
open Go.Proofs
def Sp.okR (r:Rat):Prop:=Sp.cnt r.num.natAbs<=90000/\Sp.cnt r.den<=90000
theorem ZdD {r:Rat} (h:Sp.okR r):Sp.okB r.num /\ Sp.okB (r.den:Int):=by
 unfold Sp.okR at h
 unfold Sp.okB
 rw [Int.natAbs_natCast];omega
theorem Zbs {a b:Int} {n m:Nat} (ha:Sp.cnt a.natAbs <= n) (hb:Sp.cnt b.natAbs <= m):Sp.cnt (a * b).natAbs <= n + m:=by
 rw [Int.natAbs_mul]
 exact Zas.1 (ZcH (Zas.2 ha) (Zas.2 hb))
theorem cnt_addI {a b:Int} {n:Nat} (ha:Sp.cnt a.natAbs <= n) (hb:Sp.cnt b.natAbs <= n):Sp.cnt (a + b).natAbs <= n + 1:=by
 have h:=Zas.1 (Zd9 (Zas.2 ha) (Zas.2 hb))
 exact Nat.le_trans (ZaI (Int.natAbs_add_le a b)) h
theorem ZbD {r:Rat} {n:Nat} (h:Sp.cnt r.den<=n):Sp.cnt ((r.den:Int)).natAbs<=n:=by rwa [Int.natAbs_natCast]
theorem ZcX (r:Rat):(r.den:Int) ≠ 0:=by have:=r.den_pos;omega
theorem rat_add (r s:Rat):Rat.divInt (r.num * (s.den:Int) + s.num * (r.den:Int)) ((r.den:Int) * (s.den:Int)) = r + s:=by
 rw [<- Rat.divInt_add_divInt _ _ (ZcX r) (ZcX s),Rat.num_divInt_den,Rat.num_divInt_den]
theorem rat_add_same {r s:Rat} (h:(r.den:Int) = (s.den:Int)):Rat.divInt (r.num + s.num) (r.den:Int) = r + s:=by
 rw [<- rat_add,<- h,<- Int.add_mul,Rat.divInt_mul_right (ZcX r)]
theorem rat_mul (r s:Rat):Rat.divInt (r.num * s.num) ((r.den:Int) * (s.den:Int)) = r * s:=by
 rw [<- Rat.divInt_mul_divInt,Rat.num_divInt_den,Rat.num_divInt_den]
theorem ev76 (fa ga fb gb:Bool) (r s:Rat) (h:Sp.okR r /\ Sp.okR s):Ev M1 (.pure 76 [ratA fa ga r,ratA fb gb s]) (ratF (r + s)) []:=by
 obtain ⟨hr,hs⟩:=h
 obtain ⟨r1,r2⟩:=ZdD hr
 obtain ⟨s1,s2⟩:=ZdD hs
 obtain ⟨cr1,cr2⟩:=hr
 obtain ⟨cs1,cs2⟩:=hs
 have m1:=Zbs cr1 (ZbD cs2)
 have m2:=Zbs cs1 (ZbD cr2)
 have m3:=Zbs (ZbD cr2) (ZbD cs2)
 have a1:=cnt_addI m1 m2
 have a2:=cnt_addI cr1 cs1
 refine call76 (vRAdd _ _ _ _ _ _ _ ⟨⟨r2,s2⟩,fun k => ⟨⟨r1,s1⟩,⟨by unfold Sp.okB;omega,r2,ZcX r⟩,?_⟩,fun k => ⟨⟨r1,s2⟩,⟨s1,r2⟩,⟨by unfold Sp.okB;omega,by unfold Sp.okB;omega⟩,⟨by unfold Sp.okB;omega,by unfold Sp.okB;omega,Int.mul_ne_zero (ZcX r) (ZcX s)⟩,?_⟩⟩)
 ·have k:=Zff.1 k
  rw [rat_add_same (by omega)];exact .refl _
 ·rw [rat_add];exact .refl _
theorem ev39 (fa ga fb gb:Bool) (r s:Rat) (h:Sp.okR r /\ Sp.okR s):Ev M1 (.pure 39 [ratA fa ga r,ratA fb gb s]) (ratF (r * s)) []:=by
 obtain ⟨hr,hs⟩:=h
 obtain ⟨r1,r2⟩:=ZdD hr
 obtain ⟨s1,s2⟩:=ZdD hs
 obtain ⟨cr1,cr2⟩:=hr
 obtain ⟨cs1,cs2⟩:=hs
 have m1:=Zbs cr1 cs1
 have m3:=Zbs (ZbD cr2) (ZbD cs2)
 refine call39 (vRMul _ _ _ _ _ _ _ ⟨⟨r1,s1⟩,⟨r2,s2⟩,⟨by unfold Sp.okB;omega,by unfold Sp.okB;omega,Int.mul_ne_zero (ZcX r) (ZcX s)⟩,?_⟩)
 rw [rat_mul];exact .refl _
theorem hid_ex (r:Rat):∃ s:Rat,s=r:=⟨r,rfl⟩
noncomputable def Sp.hid (r:Rat):Rat:=Classical.choose (hid_ex r)
theorem hid_eq (r:Rat):Sp.hid r=r:=Classical.choose_spec (hid_ex r)
noncomputable def Sp.qi (n:Int):Rat:=Sp.hid n
theorem ZbI (n:Int):Sp.qi n=(n:Rat):=hid_eq _
theorem ev36 (n:Int) (h:Sp.inI n):Ev M1 (.pure 36 [.int .i64 n]) (ratF (Sp.qi n)) []:=by
 rw [ZbI]
 exact call36 (vRFrom _ _ ⟨h,.refl _⟩)
end Go.Av

namespace Go.Av
open Go.Proofs
namespace Sp
end Sp
end Go.Av

namespace Go.Av
open Go.Proofs
end Go.Av

namespace Go.Av
open Go.Proofs
set_option maxRecDepth 100000
def fi61:Fi:=⟨2,[.cell 0 28]⟩
def kp61:List (Nat × List Nat):=[(0,[0]),(1,[0])]
def fi72:Fi:=⟨39,[.cell 4 30]⟩
def kp72:List (Nat × List Nat):=[(0,[2,3,4]),(1,[2,3,4,14]),(2,[2,3,4]),(3,[2,3,4,5]),(4,[3,4,5,6]),(5,[4,6,9]),(6,[4])]
def rUnit_at  (Q:AV->Heap->Prop):Prop:=Wp M1 (.run fi61 (atC (cd Try.f61) []) [] []) Q
def rOf_at (fa fb:Bool) (a b:Int) (Q:AV->Heap->Prop):Prop:=Wp M1 (.run fi72 (atC (cd Try.f72) []) [(0,bigA fa a),(1,bigA fb b)] []) Q
theorem call61 {args:List AV} {d:AV} (h:wc M1 fi61 Try.f61 args d):Ev M1 (.pure 61 args) d []:=pcl _ _ (by kernel_rfl) h
theorem call72 {args:List AV} {d:AV} (h:wc M1 fi72 Try.f72 args d):Ev M1 (.pure 72 args) d []:=pcl _ _ (by kernel_rfl) h
theorem rUnit   (dq:AV) (H :
  (Sp.inI 1) /\
  Weak (ag [vb false,vf (us (Sp.Zar 1))]) dq) :
 rUnit_at  (Zae dq):=by
 unfold rUnit_at
 obtain ⟨k1,H⟩:=H
 exact Zao (G:=Zab kp61 [(1,0,.call (ag [vb false,vf (us (Sp.Zar 1))]) none)] []) 1000 [] (ag [vb false,vf (us (Sp.Zar 1))]) (by kernel_rfl) (bc rfl b0) q0 (ce (@ev60 (1) k1) c0) H
theorem rOf (fa fb:Bool) (a b:Int)  (dq:AV) (H :
  ((Sp.sgnI b < 0) -> (Sp.ok a) /\
   (Sp.ok b) /\
   (Sp.cnt (-a).natAbs <= 399000 /\ Sp.cnt (-b).natAbs <= 399000) /\
   (Sp.cnt (-a).natAbs <= 399000 /\ Sp.cnt (↑((-a).gcd (-b)):Int).natAbs <= 399000 /\ (↑((-a).gcd (-b)):Int) ≠ 0) /\
   (Sp.cnt (-b).natAbs <= 399000 /\ Sp.cnt (↑((-a).gcd (-b)):Int).natAbs <= 399000 /\ (↑((-a).gcd (-b)):Int) ≠ 0) /\
   Weak (ag [vb (Sp.Zad (Sp.flo (-a) (↑((-a).gcd (-b)):Int))),vf (us (Sp.Zar (Sp.flo (-a) (↑((-a).gcd (-b)):Int)))),vb (Sp.Zad (Sp.flo (-b) (↑((-a).gcd (-b)):Int))),vf (us (Sp.Zar (Sp.flo (-b) (↑((-a).gcd (-b)):Int))))]) dq) /\
  (¬(Sp.sgnI b < 0) -> (Sp.cnt a.natAbs <= 399000 /\ Sp.cnt b.natAbs <= 399000) /\
   (Sp.cnt a.natAbs <= 399000 /\ Sp.cnt (↑(a.gcd b):Int).natAbs <= 399000 /\ (↑(a.gcd b):Int) ≠ 0) /\
   (Sp.cnt b.natAbs <= 399000 /\ Sp.cnt (↑(a.gcd b):Int).natAbs <= 399000 /\ (↑(a.gcd b):Int) ≠ 0) /\
   Weak (ag [vb (Sp.Zad (Sp.flo a (↑(a.gcd b):Int))),vf (us (Sp.Zar (Sp.flo a (↑(a.gcd b):Int)))),vb (Sp.Zad (Sp.flo b (↑(a.gcd b):Int))),vf (us (Sp.Zar (Sp.flo b (↑(a.gcd b):Int))))]) dq)) :
 rOf_at fa fb a b (Zae dq):=by
 unfold rOf_at
 refine Zac (G:=Zab kp72 [(1,1,.call (vi (Sp.sgnI b)) none)] []) 5 [] ⟨(atC (cd Try.f72) [1,0,1]),[(2,AV.ptr 0 0 0 0),(3,AV.ptr 1 0 0 0),(4,AV.ptr 2 0 0 0),(14,vb (decide (Sp.sgnI b < 0)))],[⟨[bigA fa a],2,0,false,false⟩,⟨[bigA fb b],2,0,false,false⟩,⟨[ag [vb false,AV.vnil,vb false,AV.vnil]],4,0,false,false⟩],_,[],_⟩ (by kernel_rfl) (bc rfl b0) q0 (ce (@ev65 (fb) (b)) c0) ?_
 rcases xq H with ⟨d2,H⟩|⟨d2,H⟩
 ·obtain ⟨k3,k4,k5,k6,k7,H⟩:=H
  exact Zao (G:=Zab kp72 [(2,1,.call (bigA false (-a)) none),(2,3,.call (bigA false (-b)) none),(3,2,.call (bigA false (↑((-a).gcd (-b)):Int)) none),(4,2,.call (tu [bigA false (Sp.flo (-a) (↑((-a).gcd (-b)):Int)),bigA false (Sp.flr (-a) (↑((-a).gcd (-b)):Int)),vi 0]) none),(5,2,.call (tu [bigA false (Sp.flo (-b) (↑((-a).gcd (-b)):Int)),bigA false (Sp.flr (-b) (↑((-a).gcd (-b)):Int)),vi 0]) none)] []) 1000 [true] (ag [vb (Sp.Zad (Sp.flo (-a) (↑((-a).gcd (-b)):Int))),vf (us (Sp.Zar (Sp.flo (-a) (↑((-a).gcd (-b)):Int)))),vb (Sp.Zad (Sp.flo (-b) (↑((-a).gcd (-b)):Int))),vf (us (Sp.Zar (Sp.flo (-b) (↑((-a).gcd (-b)):Int))))]) (by kernel_rfl) (bc (Zak (Zaa.2 d2)) (bc rfl (bc rfl (bc rfl (bc rfl (bc rfl (bc rfl (bc rfl (bc rfl (bc rfl (bc rfl (bc rfl (bc rfl (bc rfl (bc rfl (bc rfl (bc rfl (bc rfl (bc rfl b0))))))))))))))))))) q0 (ce (@ev54 (fa) (a) k3) (ce (@ev54 (fb) (b) k4) (ce (@ev74 (false) (false) (-a) (-b) k5) (ce (@ev88 (false) (false) (-a) ((↑((-a).gcd (-b)):Int)) k6) (ce (@ev88 (false) (false) (-b) ((↑((-a).gcd (-b)):Int)) k7) c0))))) H
 ·obtain ⟨k8,k9,k10,H⟩:=H
  exact Zao (G:=Zab kp72 [(3,2,.call (bigA false (↑(a.gcd b):Int)) none),(4,2,.call (tu [bigA false (Sp.flo a (↑(a.gcd b):Int)),bigA false (Sp.flr a (↑(a.gcd b):Int)),vi 0]) none),(5,2,.call (tu [bigA false (Sp.flo b (↑(a.gcd b):Int)),bigA false (Sp.flr b (↑(a.gcd b):Int)),vi 0]) none)] []) 1000 [false] (ag [vb (Sp.Zad (Sp.flo a (↑(a.gcd b):Int))),vf (us (Sp.Zar (Sp.flo a (↑(a.gcd b):Int)))),vb (Sp.Zad (Sp.flo b (↑(a.gcd b):Int))),vf (us (Sp.Zar (Sp.flo b (↑(a.gcd b):Int))))]) (by kernel_rfl) (bc (Zaj (fun h => d2 (Zaa.1 h))) (bc rfl (bc rfl (bc rfl (bc rfl (bc rfl (bc rfl (bc rfl (bc rfl (bc rfl (bc rfl (bc rfl (bc rfl (bc rfl (bc rfl b0))))))))))))))) q0 (ce (@ev74 (fa) (fb) (a) (b) k8) (ce (@ev88 (fa) (false) (a) ((↑(a.gcd b):Int)) k9) (ce (@ev88 (fb) (false) (b) ((↑(a.gcd b):Int)) k10) c0))) H
end Go.Av

namespace Go.Av
open Go.Proofs
set_option maxRecDepth 100000
def fi106:Fi:=⟨6,[.tmp 2]⟩
def kp106:List (Nat × List Nat):=[(0,[0]),(1,[2])]
def vIsNaN_at (x:Int) (Q:AV->Heap->Prop):Prop:=Wp M1 (.run fi106 (atC (cd Try.f106) []) [(0,.int .i64 x)] []) Q
theorem call106 {args:List AV} {d:AV} (h:wc M1 fi106 Try.f106 args d):Ev M1 (.pure 106 args) d []:=pcl _ _ (by kernel_rfl) h
theorem vIsNaN (x:Int)  (dq:AV) (H :
  (vb (x != x)) = dq) :
 vIsNaN_at x (Zae dq):=by
 unfold vIsNaN_at
 exact Zag (G:=Zab kp106 [] []) 1000 [] (vb (x != x)) (by kernel_rfl) b0 q0 c0 H
end Go.Av

namespace Go.Av
open Go.Proofs
theorem ev106 (x:Int):Ev M1 (.pure 106 [.int .i64 x]) (.bool false) []:=
 call106 (vIsNaN _ _ (by simp))
end Go.Av

namespace Go.Av
open Go.Proofs
set_option maxRecDepth 100000
def fi38:Fi:=⟨9,[.cell 4 30]⟩
def kp38:List (Nat × List Nat):=[(0,[2,3,4]),(1,[4])]
def fi79:Fi:=⟨20,[.tmp 4]⟩
def kp79:List (Nat × List Nat):=[(0,[0,1]),(1,[0,1,5]),(2,[0,1,5,6]),(3,[0,1,6,11]),(4,[12]),(5,[4]),(6,[4]),(7,[0,1,13]),(8,[4]),(9,[0,1,16]),(10,[4]),(11,[19]),(12,[4]),(13,[4])]
def Zgi (x y:Int) (Q:AV->Heap->Prop):Prop:=Wp M1 (.run fi79 (atC (cd Try.f79) []) [(0,.int .i64 x),(1,.int .i64 y)] []) Q
def vRSub_at (fa ga fb gb:Bool) (r s:Rat) (Q:AV->Heap->Prop):Prop:=Wp M1 (.run fi38 (atC (cd Try.f38) []) [(0,ratA fa ga r),(1,ratA fb gb s)] []) Q
theorem call38 {args:List AV} {d:AV} (h:wc M1 fi38 Try.f38 args d):Ev M1 (.pure 38 args) d []:=pcl _ _ (by kernel_rfl) h
theorem call79 {args:List AV} {d:AV} (h:wc M1 fi79 Try.f79 args d):Ev M1 (.pure 79 args) d []:=pcl _ _ (by kernel_rfl) h
theorem vCmpInt (x y:Int)  (dq:AV) (H :
  ((x < y) -> vi (-1) = dq) /\
  (¬(x < y) -> ((x > y) -> vi 1 = dq) /\
   (¬(x > y) -> vi 0 = dq))) :
 Zgi x y (Zae dq):=by
 unfold Zgi
 refine Zac (G:=Zab kp79 [(1,1,.call (vb false) none),(2,1,.call (vb false) none)] []) 19 [false,false] ⟨(atC (cd Try.f79) [1,1,1,1,1,0,1]),[(0,vi x),(1,vi y),(16,vb (decide (x < y)))],[],_,[],_⟩ (by kernel_rfl) (bc rfl (bc rfl b0)) q0 (ce (@ev106 (x)) (ce (@ev106 (y)) c0)) ?_
 rcases xq H with ⟨d2,H⟩|⟨d2,H⟩
 ·exact Zag (G:=Zab kp79 [] []) 1000 [true] (vi (-1)) (by kernel_rfl) (bc (Zak (Zaa.2 d2)) b0) q0 c0 H
 ·rcases xq H with ⟨d4,H⟩|⟨d4,H⟩
  ·exact Zag (G:=Zab kp79 [] []) 1000 [false,true] (vi 1) (by kernel_rfl) (bc (Zaj (fun h => d2 (Zaa.1 h))) (bc (Zak (Zaa.2 d4)) b0)) q0 c0 H
  ·exact Zag (G:=Zab kp79 [] []) 1000 [false,false] (vi 0) (by kernel_rfl) (bc (Zaj (fun h => d2 (Zaa.1 h))) (bc (Zaj (fun h => d4 (Zaa.1 h))) b0)) q0 c0 H
theorem vRSub (fa ga fb gb:Bool) (r s:Rat)  (dq:AV) (H :
  (Sp.okB s.num) /\
  (Sp.okR r /\ Sp.okR (-s)) /\
  Weak (ratF (r + -s)) dq) :
 vRSub_at fa ga fb gb r s (Zae dq):=by
 unfold vRSub_at
 obtain ⟨k1,k2,H⟩:=H
 exact Zao (G:=Zab kp38 [(1,2,.call (ratF (-s)) none),(1,3,.call (ratF (r + -s)) none)] []) 1000 [] (ratF (r + -s)) (by kernel_rfl) (bc rfl (bc rfl (bc rfl b0))) q0 (ce (@ev44 (fb) (gb) (s) k1) (ce (@ev76 (fa) (ga) (false) (false) (r) (-s) k2) c0)) H
end Go.Av

namespace Go.Av
open Go.Proofs
theorem ev79 (x y:Int):Ev M1 (.pure 79 [.int .i64 x,.int .i64 y]) (.int .i64 (Sp.sgnI (x - y))) []:=by
 refine call79 (vCmpInt _ _ _ ⟨fun h => ?_,fun h => ⟨fun k => ?_,fun k => ?_⟩⟩)
 ·unfold Sp.sgnI;rw [if_pos (by omega)]
 ·unfold Sp.sgnI;rw [if_neg (by omega),if_pos (by omega)]
 ·unfold Sp.sgnI;rw [if_neg (by omega),if_neg (by omega)]
theorem okR_neg {s:Rat} (h:Sp.okR s):Sp.okR (-s):=by
 unfold Sp.okR at *
 rw [Rat.neg_num,Rat.neg_den,Int.natAbs_neg];exact h
theorem ev38 (fa ga fb gb:Bool) (r s:Rat) (h:Sp.okR r /\ Sp.okR s):Ev M1 (.pure 38 [ratA fa ga r,ratA fb gb s]) (ratF (r - s)) []:=by
 refine call38 (vRSub _ _ _ _ _ _ _ ⟨(ZdD h.2).1,⟨h.1,okR_neg h.2⟩,?_⟩)
 rw [<- Rat.sub_eq_add_neg];exact .refl _
theorem sgn_mul (a:Int) {d:Int} (h:0 < d):(a < 0 -> a * d < 0) /\ (a = 0 -> a * d = 0) /\ (0 < a -> 0 < a * d):=
 ⟨fun k => Int.mul_neg_of_neg_of_pos k h,fun k => by rw [k,Int.zero_mul],fun k => Int.mul_pos k h⟩
theorem ev41 (fa ga fb gb:Bool) (r s:Rat) (h:Sp.okR r /\ Sp.okR s):Ev M1 (.pure 41 [ratA fa ga r,ratA fb gb s]) (.int .i64 (Sp.sgnI (r.num * (s.den:Int) - s.num * (r.den:Int)))) []:=by
 obtain ⟨hr,hs⟩:=h
 obtain ⟨r1,r2⟩:=ZdD hr
 obtain ⟨s1,s2⟩:=ZdD hs
 obtain ⟨cr1,cr2⟩:=hr
 obtain ⟨cs1,cs2⟩:=hs
 have m1:=Zbs cr1 (ZbD cs2)
 have m2:=Zbs cs1 (ZbD cr2)
 refine call41 (vRCmp _ _ _ _ _ _ _ ⟨_,ev79 _ _,fun k => ?_,fun _ => ⟨⟨r1,s2⟩,⟨s1,r2⟩,⟨by unfold Sp.okB;omega,by unfold Sp.okB;omega⟩,rfl⟩⟩)
 obtain ⟨a1,a2,a3⟩:=sgn_mul r.num (d:=(s.den:Int)) (by have:=s.den_pos;omega)
 obtain ⟨b1,b2,b3⟩:=sgn_mul s.num (d:=(r.den:Int)) (by have:=r.den_pos;omega)
 congr 1
 generalize r.num * (s.den:Int) = A at a1 a2 a3 ⊢
 generalize s.num * (r.den:Int) = B at b1 b2 b3 ⊢
 unfold Sp.sgnI at k ⊢
 (repeat' split at k) <;> (repeat' split) <;> omega
end Go.Av

namespace Go.Av
open Go.Proofs
end Go.Av

namespace Go.Av
open Go.Proofs
theorem gcd_cnt {a b:Int} (hb:b ≠ 0) (h:Sp.cnt b.natAbs <= 399000):Sp.cnt ((a.gcd b:Nat):Int).natAbs <= 399000 /\ ((a.gcd b:Nat):Int) ≠ 0:=by
 have h1:0 < a.gcd b:=Int.gcd_pos_of_ne_zero_right _ hb
 have h2:a.gcd b <= b.natAbs:=Nat.le_of_dvd (by omega) (Int.gcd_dvd_natAbs_right a b)
 have:=ZaI h2
 rw [Int.natAbs_natCast]
 omega
theorem ev61:Ev M1 (.pure 61 []) (.agg [.bool false,.vec false 1 ((Sp.Zar 1).map (.int .u32))]) []:=
 call61 (rUnit _ ⟨by unfold Sp.inI;omega,.refl _⟩)
theorem ev72 (fa fb:Bool) (a b:Int) (h:Sp.cnt a.natAbs <= 399000 /\ Sp.cnt b.natAbs <= 399000 /\ b ≠ 0):Ev M1 (.pure 72 [bigA fa a,bigA fb b]) (ratF (Rat.divInt a b)) []:=by
 obtain ⟨ha,hb,h0⟩:=h
 have hna:Sp.cnt (-a).natAbs <= 399000:=by rwa [Int.natAbs_neg]
 have hnb:Sp.cnt (-b).natAbs <= 399000:=by rwa [Int.natAbs_neg]
 refine call72 (rOf _ _ _ _ _ ⟨fun k => ?_,fun k => ?_⟩)
 ·rw [Zbt] at k
  obtain ⟨g1,g2⟩:=gcd_cnt (a:=-a) (b:=-b) (by omega) hnb
  obtain ⟨r1,r2⟩:=rat_neg (a:=a) k
  refine ⟨by unfold Sp.ok;omega,by unfold Sp.ok;omega,⟨hna,hnb⟩,⟨hna,g1,g2⟩,⟨hnb,g1,g2⟩,?_⟩
  show Weak _ (AV.agg [.bool (Sp.Zad (Rat.divInt a b).num),.vec false 1 ((Sp.Zar (Rat.divInt a b).num).map (.int .u32)),.bool (Sp.Zad ((Rat.divInt a b).den:Int)),.vec false 1 ((Sp.Zar ((Rat.divInt a b).den:Int)).map (.int .u32))])
  rw [r1,r2,ZcR g2,ZcR g2];exact .refl _
 ·rw [Zbt] at k
  obtain ⟨g1,g2⟩:=gcd_cnt (a:=a) (b:=b) h0 hb
  obtain ⟨r1,r2⟩:=rat_pos (a:=a) (show 0 < b by omega)
  refine ⟨⟨ha,hb⟩,⟨ha,g1,g2⟩,⟨hb,g1,g2⟩,?_⟩
  show Weak _ (AV.agg [.bool (Sp.Zad (Rat.divInt a b).num),.vec false 1 ((Sp.Zar (Rat.divInt a b).num).map (.int .u32)),.bool (Sp.Zad ((Rat.divInt a b).den:Int)),.vec false 1 ((Sp.Zar ((Rat.divInt a b).den:Int)).map (.int .u32))])
  rw [r1,r2,ZcR g2,ZcR g2];exact .refl _
end Go.Av

namespace Go.Av
open Go.Proofs
set_option maxRecDepth 100000
def fi14:Fi:=⟨7,[.cell 2 30]⟩
def kp14:List (Nat × List Nat):=[(0,[0,2]),(1,[2])]
def fi32:Fi:=⟨12,[.cell 4 30]⟩
def kp32:List (Nat × List Nat):=[(0,[0,1,4]),(1,[0,1,4,6]),(2,[0,1,4]),(3,[4])]
def rRFrom_at (n:Int) (Q:AV->Heap->Prop):Prop:=Wp M1 (.run fi14 (atC (cd Try.f14) []) [(0,.int .i64 n)] []) Q
def rRFrac_at (n d:Int) (Q:AV->Heap->Prop):Prop:=Wp M1 (.run fi32 (atC (cd Try.f32) []) [(0,.int .i64 n),(1,.int .i64 d)] []) Q
theorem call14 {args:List AV} {d:AV} (h:wc M1 fi14 Try.f14 args d):Ev M1 (.pure 14 args) d []:=pcl _ _ (by kernel_rfl) h
theorem call32 {args:List AV} {d:AV} (h:wc M1 fi32 Try.f32 args d):Ev M1 (.pure 32 args) d []:=pcl _ _ (by kernel_rfl) h
theorem rRFrom (n:Int)  (dq:AV) (H :
  (Sp.inI n) /\
  Weak (ag [vb (Sp.Zad n),vf (us (Sp.Zar n)),vb false,vf (us (Sp.Zar 1))]) dq) :
 rRFrom_at n (Zae dq):=by
 unfold rRFrom_at
 obtain ⟨k1,H⟩:=H
 exact Zao (G:=Zab kp14 [(1,1,.call (bigA false n) none),(1,2,.call (ag [vb false,vf (us (Sp.Zar 1))]) none)] []) 1000 [] (ag [vb (Sp.Zad n),vf (us (Sp.Zar n)),vb false,vf (us (Sp.Zar 1))]) (by kernel_rfl) (bc rfl b0) q0 (ce (@ev60 (n) k1) (ce (@ev61 ) c0)) H
theorem rRFrac (n d:Int)  (dq:AV) (H :
  ((d = 0) -> (Sp.inI 0) /\
   (Sp.inI 1) /\
   ∃ (b1:Bool) (l1:List (Int)) (b2:Bool) (l2:List (Int)),
   (Ev M1 (Conf.pure 72 [ag [vb false,vf (us (Sp.Zar 0))],ag [vb false,vf (us (Sp.Zar 1))]]) (ag [vb b1,vf (us l1),vb b2,vf (us l2)]) []) /\
   Weak (ag [vb b1,vf (us l1),vb b2,vf (us l2)]) dq) /\
  (¬(d = 0) -> (Sp.inI n) /\
   (Sp.inI d) /\
   (Sp.cnt n.natAbs <= 399000 /\ Sp.cnt d.natAbs <= 399000 /\ d ≠ 0) /\
   Weak (ratF (Rat.divInt n d)) dq)) :
 rRFrac_at n d (Zae dq):=by
 unfold rRFrac_at
 rcases xq H with ⟨d2,H⟩|⟨d2,H⟩
 ·obtain ⟨k3,k4,b1,l1,b2,l2,k5,H⟩:=H
  exact Zao (G:=Zab kp32 [(3,1,.call (ag [vb false,vf (us (Sp.Zar 0))]) none),(3,3,.call (ag [vb false,vf (us (Sp.Zar 1))]) none),(3,4,.call (ag [vb b1,vf (us l1),vb b2,vf (us l2)]) none)] []) 1000 [true] (ag [vb b1,vf (us l1),vb b2,vf (us l2)]) (by kernel_rfl) (bc (Zak (i_eq.2 d2)) (bc rfl b0)) q0 (ce (@ev60 (0) k3) (ce (@ev60 (1) k4) (ce k5 c0))) H
 ·obtain ⟨k6,k7,k8,H⟩:=H
  exact Zao (G:=Zab kp32 [(3,1,.call (bigA false n) none),(3,3,.call (bigA false d) none),(3,4,.call (ratF (Rat.divInt n d)) none)] []) 1000 [false] (ratF (Rat.divInt n d)) (by kernel_rfl) (bc (Zaj (fun h => d2 (i_eq.1 h))) (bc rfl b0)) q0 (ce (@ev60 (n) k6) (ce (@ev60 (d) k7) (ce (@ev72 (false) (false) (n) (d) k8) c0))) H
end Go.Av

namespace Go.Av
open Go.Proofs
set_option maxRecDepth 100000
end Go.Av

namespace Go.Av
open Go.Proofs
def Sp.okA (a b:List Int):Prop:=(a.length<=90000 /\ ∀ x ∈ a,0<=x)/\(b.length<=90000 /\ ∀ x ∈ b,0<=x)
end Go.Av

namespace Go.Av
open Go.Proofs
theorem ev14 (n:Int) (h:Sp.inI n):Ev M1 (.pure 14 [.int .i64 n]) (ratF (Sp.qi n)) []:=by
 rw [ZbI]
 refine call14 (rRFrom _ _ ⟨h,?_⟩)
 show Weak _ (AV.agg [.bool (Sp.Zad (n:Rat).num),.vec false 1 ((Sp.Zar (n:Rat).num).map (.int .u32)),.bool (Sp.Zad ((n:Rat).den:Int)),.vec false 1 ((Sp.Zar ((n:Rat).den:Int)).map (.int .u32))])
 rw [Rat.num_intCast,Rat.den_intCast]
 exact .refl _
def Sp.okF (n d:Int):Prop:=Sp.inI n/\Sp.inI d/\d ≠ 0
noncomputable def Sp.qf (n d:Int):Rat:=Sp.hid (Rat.divInt n d)
theorem qf_eq (n d:Int):Sp.qf n d=Rat.divInt n d:=hid_eq _
theorem inI_cnt {n:Int} (h:Sp.inI n):Sp.cnt n.natAbs <= 3:=by
 unfold Sp.inI at h
 exact cnt_u64 (by omega)
theorem ev32 (n d:Int) (h:Sp.okF n d):Ev M1 (.pure 32 [.int .i64 n,.int .i64 d]) (ratF (Sp.qf n d)) []:=by
 obtain ⟨h1,h2,h3⟩:=h
 have c1:=inI_cnt h1
 have c2:=inI_cnt h2
 rw [qf_eq]
 exact call32 (rRFrac _ _ _ ⟨fun k => absurd k h3,fun _ => ⟨h1,h2,⟨by omega,by omega,h3⟩,.refl _⟩⟩)
end Go.Av

namespace Go.Av
open Go.Proofs
end Go.Av

namespace Go.Av
open Go.Proofs
set_option maxRecDepth 100000
end Go.Av

namespace Go.Av
open Go.Proofs
end Go.Av

namespace Go.Av
open Go.Proofs
set_option maxRecDepth 100000
end Go.Av

namespace Go.Av
open Go.Proofs
def Sp.okT (k:Nat) (r:Rat):Prop:=Sp.cnt r.num.natAbs<=k/\Sp.cnt r.den<=k
theorem ZbK {k:Nat} {r:Rat} (h:Sp.okT k r) (hk:k<=90000):Sp.okR r:=⟨Nat.le_trans h.1 hk,Nat.le_trans h.2 hk⟩
theorem okT_le {k m:Nat} {r:Rat} (h:Sp.okT k r) (hk:k<=m):Sp.okT m r:=⟨Nat.le_trans h.1 hk,Nat.le_trans h.2 hk⟩
theorem divInt_le {p q:Int} (hq:q ≠ 0):(Rat.divInt p q).num.natAbs <= p.natAbs /\ (Rat.divInt p q).den <= q.natAbs:=by
 by_cases h:0 < q
 ·obtain ⟨e1,e2⟩:=rat_pos (a:=p) h
  have e3:(Rat.divInt p q).den = ((q / ((p.gcd q:Nat):Int))).natAbs:=by omega
  rw [e1,e3]
  refine ⟨?_,?_⟩
  ·rw [Int.natAbs_ediv_of_dvd (Int.gcd_dvd_left ..)];exact Nat.div_le_self _ _
  ·rw [Int.natAbs_ediv_of_dvd (Int.gcd_dvd_right ..)];exact Nat.div_le_self _ _
 ·obtain ⟨e1,e2⟩:=rat_neg (a:=p) (b:=q) (by omega)
  have e3:(Rat.divInt p q).den = ((-q / (((-p).gcd (-q):Nat):Int))).natAbs:=by omega
  rw [e1,e3]
  refine ⟨?_,?_⟩
  ·rw [Int.natAbs_ediv_of_dvd (Int.gcd_dvd_left ..),Int.natAbs_neg];exact Nat.div_le_self _ _
  ·rw [Int.natAbs_ediv_of_dvd (Int.gcd_dvd_right ..),Int.natAbs_neg];exact Nat.div_le_self _ _
theorem Zel {k m:Nat} {r s:Rat} (h:Sp.okT k r) (h2:Sp.okT m s):Sp.okT (k + m) (r * s):=by
 have e:=divInt_le (p:=r.num * s.num) (q:=(r.den:Int) * (s.den:Int)) (Int.mul_ne_zero (ZcX r) (ZcX s))
 rw [rat_mul] at e
 refine ⟨Nat.le_trans (ZaI e.1) (Zbs h.1 h2.1),Nat.le_trans (ZaI e.2) (Zbs (ZbD h.2) (ZbD h2.2))⟩
theorem okT_add {k m:Nat} {r s:Rat} (h:Sp.okT k r) (h2:Sp.okT m s):Sp.okT (k + m + 1) (r + s):=by
 have e:=divInt_le (p:=r.num * (s.den:Int) + s.num * (r.den:Int)) (q:=(r.den:Int) * (s.den:Int)) (Int.mul_ne_zero (ZcX r) (ZcX s))
 rw [rat_add] at e
 have m1:=Zbs h.1 (ZbD h2.2)
 have m2:=Zbs h2.1 (ZbD h.2)
 have m3:=Zbs (ZbD h.2) (ZbD h2.2)
 have:=cnt_addI m1 (Nat.le_trans m2 (by omega))
 exact ⟨Nat.le_trans (ZaI e.1) this,Nat.le_trans (ZaI e.2) (Nat.le_trans m3 (by omega))⟩
theorem Zft {k:Nat} {r:Rat} (h:Sp.okT k r):Sp.okT k (-r):=by
 unfold Sp.okT
 rw [Rat.neg_num,Rat.neg_den,Int.natAbs_neg];exact h
theorem Zfs {k m:Nat} {r s:Rat} (h:Sp.okT k r) (h2:Sp.okT m s):Sp.okT (k + m + 1) (r - s):=by
 rw [Rat.sub_eq_add_neg];exact okT_add h (Zft h2)
theorem Za6 {n:Int} (h:Sp.inI n):Sp.okT 3 (Sp.qi n):=by
 rw [ZbI]
 unfold Sp.okT
 rw [Rat.num_intCast,Rat.den_intCast]
 exact ⟨inI_cnt h,by have:=cnt_small (n:=1) (by decide);omega⟩
def Sp.isCom (b c y z:Rat):Prop:=b=0\/y=0\/c=z
instance (b c y z:Rat):Decidable (Sp.isCom b c y z):=inferInstanceAs (Decidable (_\/_))
end Go.Av

namespace Go.Av
open Go.Proofs
end Go.Av

namespace Go.Av
open Go.Proofs
set_option maxRecDepth 100000
def fi48:Fi:=⟨39,[.tmp 2,.tmp 3]⟩
def kp48:List (Nat × List Nat):=[(0,[1]),(1,[1,15]),(2,[2,3]),(3,[1,4]),(4,[1,4,5]),(5,[1,4,5,21]),(6,[1,4,5]),(7,[1,4,5]),(8,[4,34]),(9,[4]),(10,[2,3])]
def pI64_at (fa:Bool) (a:Int) (Q:AV->Heap->Prop):Prop:=Wp M1 (.run fi48 (atC (cd Try.f48) []) [(0,bigA fa a)] []) Q
def Zds (fa:Bool) (a u i:Int) (Q:AV->Heap->Prop):Prop:=Wp M1 (.run fi48 (atC (cd Try.f48) [1,1,1,0,1,0,0]) [(1,.ptr 0 0 0 0),(4,.int .u64 u),(5,.int .i64 i)] [⟨[bigA fa a],2,0,false,false⟩]) Q
def pI64N_at (fa:Bool) (a u i:Int) (Q:AV->Heap->Prop):Prop:=Wp M1 (.run fi48 (atC (cd Try.f48) [1,1,1,0,1,0,0]) [(1,.ptr 0 0 0 0),(4,.int .u64 u),(5,.int .i64 i)] [⟨[bigA fa a],2,0,false,false⟩]) Q
theorem call48 {args:List AV} {d:AV} (h:wc M1 fi48 Try.f48 args d):Ev M1 (.pure 48 args) d []:=pcl _ _ (by kernel_rfl) h
noncomputable abbrev zNpE1:=ag [vb false,vf (us (Sp.Zar 9223372036854775807))]
noncomputable abbrev zNpE2:=ag [vb true,vf (us (Sp.Zar (-9223372036854775808)))]
theorem pI64 (fa:Bool) (a:Int)  (dq:AV) (H :
  (Sp.inI (-9223372036854775808)) /\
  ∃ (n1:Int),
  (Ev M1 (Conf.pure 47 [bigA fa a,ag [vb true,vf (us (Sp.Zar (-9223372036854775808)))]]) (vi n1) []) /\
  ((¬(n1 < 0)) -> (Sp.inI 9223372036854775807)) /\
  ∃ (n2:Int),
  ((¬(n1 < 0)) -> (Ev M1 (Conf.pure 47 [bigA fa a,ag [vb false,vf (us (Sp.Zar 9223372036854775807))]]) (vi n2) [])) /\
  (((n1 < 0) \/ (n2 > 0)) -> tu [vi 0,vb false] = dq) /\
  (¬((n1 < 0) \/ (n2 > 0)) -> (-9223372036854775808 <= (↑(Sp.Zar a).length:Int) - 1 /\ (↑(Sp.Zar a).length:Int) - 1 <= 9223372036854775807) /\
   Zds (fa) (a) (0) ((↑(Sp.Zar a).length:Int) - 1) (Zae dq))) :
 pI64_at fa a (Zae dq):=by
 unfold pI64_at
 obtain ⟨k1,n1,k2,k4,n2,k6,H⟩:=H
 refine Zac (G:=Zab kp48 [(1,1,.call (zNpE2) none),(1,2,.call (vi n1) none),(1,6,.call (zNpE1) none),(1,7,.call (vi n2) none)] []) 5 [] ⟨(atC (cd Try.f48) [1,0,1]),[(1,AV.ptr 0 0 0 0),(15,vb (bif decide (n1 < 0) then true else decide (n2 > 0)))],[⟨[bigA fa a],2,0,false,false⟩],[true,!(decide (n1 < 0) == false && true) || true],[],[⟨true,false,46,[vi (-9223372036854775808)],[],zNpE2,[]⟩,⟨true,false,47,[bigA fa a,zNpE2],[],vi n1,[]⟩,⟨decide (n1 < 0) == false && true && true,false,46,[vi 9223372036854775807],[],zNpE1,[]⟩,⟨decide (n1 < 0) == false && true && true,false,47,[bigA fa a,zNpE1],[],vi n2,[]⟩]⟩ (by kernel_rfl) (bc rfl (bc (Bool.or_true _) b0)) q0 (cc (fun _ => (@ev46 (-9223372036854775808) k1)) (cc (fun _ => k2) (cc (fun hc => ((@ev46 (9223372036854775807) (k4 ((i_at (i_at (i_bf Zaa))).1 hc))):Ev M1 (Conf.pure 46 [vi 9223372036854775807]) (zNpE1) [])) (cc (fun hc => ((k6 ((i_at (i_at (i_bf Zaa))).1 hc)):Ev M1 (Conf.pure 47 [bigA fa a,zNpE1]) (vi n2) [])) c0)))) ?_
 rcases xq H with ⟨d8,H⟩|⟨d8,H⟩
 ·exact Zag (G:=Zab kp48 [] []) 1000 [true] (tu [vi 0,vb false]) (by kernel_rfl) (bc (Zak ((ZaX Zaa Zaa).2 d8)) b0) q0 c0 H
 ·have w9:(us (Sp.Zar a)).length = (Sp.Zar a).length:=List.length_map ..
  obtain ⟨k10,H⟩:=H
  have w11:wi ((↑(Sp.Zar a).length:Int) - 1) = (↑(Sp.Zar a).length:Int) - 1:=wI64 k10
  exact Zac (G:=Zab kp48 [] []) 1000 [false] ⟨(atC (cd Try.f48) [1,1,1,0,1,0,0]),[(1,AV.ptr 0 0 0 0),(4,vw 0),(5,vi (wi ((↑(us (Sp.Zar a)).length:Int) - 1)))],[⟨[bigA fa a],2,0,false,false⟩],_,[],_⟩ (by kernel_rfl) (bc (Zaj (fun h => d8 ((ZaX Zaa Zaa).1 h))) (bc rfl b0)) q0 c0 (by (try rw [w9]);(try rw [w11]);all_goals exact H)
theorem pI64H (fa:Bool) (a u i:Int)  (dq:AV) (H :
  ((i >= 0) -> (0 <= i) /\
   (i.toNat < (Sp.Zar a).length) /\
   (0 <= u * 1000000000 /\ u * 1000000000 <= 18446744073709551615) /\
   (0 <= (Sp.Zar a).getD i.toNat default /\ (Sp.Zar a).getD i.toNat default <= 18446744073709551615) /\
   (0 <= u * 1000000000 + (Sp.Zar a).getD i.toNat default /\ u * 1000000000 + (Sp.Zar a).getD i.toNat default <= 18446744073709551615) /\
   (-9223372036854775808 <= i - 1 /\ i - 1 <= 9223372036854775807) /\
   Zds (fa) (a) (u * 1000000000 + (Sp.Zar a).getD i.toNat default) (i - 1) (Zae dq)) /\
  (¬(i >= 0) -> ((Sp.Zad a = true) -> (0 <= 0 - u /\ 0 - u <= 18446744073709551615) /\
    (-9223372036854775808 <= 0 - u /\ 0 - u <= 9223372036854775807) /\
    tu [vi (0 - u),vb true] = dq) /\
   (¬(Sp.Zad a = true) -> (-9223372036854775808 <= u /\ u <= 9223372036854775807) /\
    tu [vi u,vb true] = dq))) :
 Zds fa a u i (Zae dq):=by
 unfold Zds
 rcases xq H with ⟨d2,H⟩|⟨d2,H⟩
 ·obtain ⟨k4,H⟩:=H
  have w5:(us (Sp.Zar a)).length = (Sp.Zar a).length:=List.length_map ..
  have i6:(decide (i.toNat < (us (Sp.Zar a)).length)) = true ↔ (i.toNat < (Sp.Zar a).length):=(by (try rw [w5]);all_goals exact Zaa)
  obtain ⟨k7,k8,H⟩:=H
  have w9:wu (u * 1000000000) = u * 1000000000:=wU64 k8
  obtain ⟨k10,H⟩:=H
  have w11:wu ((Sp.Zar a).getD i.toNat default) = (Sp.Zar a).getD i.toNat default:=wU64 k10
  obtain ⟨k12,H⟩:=H
  have w13:wu (u * 1000000000 + (Sp.Zar a).getD i.toNat default) = u * 1000000000 + (Sp.Zar a).getD i.toNat default:=wU64 k12
  obtain ⟨k14,H⟩:=H
  have w15:wi (i - 1) = i - 1:=wI64 k14
  exact Zac (G:=Zab kp48 [(7,6,.elem (vu ((Sp.Zar a).getD i.toNat default)))] []) 1000 [true] ⟨(atC (cd Try.f48) [1,1,1,0,1,0,0]),[(1,AV.ptr 0 0 0 0),(4,vw (wu (wu (u * 1000000000) + wu ((Sp.Zar a).getD i.toNat default)))),(5,vi (wi (i - 1)))],[⟨[bigA fa a],2,0,false,false⟩],_,[((us (Sp.Zar a)).get?Internal i.toNat = some (vu ((Sp.Zar a).getD i.toNat default)))],_⟩ (by kernel_rfl) (bc (Zak (Zaa.2 d2)) (bc rfl (bc (Zaa.2 k4) (bc (i6.2 k7) b0)))) (qc (Zap k7) q0) c0 (by (try rw [w9]);(try rw [w11]);(try rw [w13]);(try rw [w15]);all_goals exact H)
 ·rcases xq H with ⟨d17,H⟩|⟨d17,H⟩
  ·obtain ⟨k18,H⟩:=H
   have w19:wu (0 - u) = 0 - u:=wU64 k18
   obtain ⟨k20,H⟩:=H
   have w21:wi (0 - u) = 0 - u:=wI64 k20
   exact Zag (G:=Zab kp48 [] []) 1000 [false,true] (asm:=[(decide (i >= 0)) == false,0 == 0,(Sp.Zad a) == true]) (tu [vi (wi (wu (0 - u))),vb true]) (by kernel_rfl) (bc (Zaj (fun h => d2 (Zaa.1 h))) (bc (beq_self_eq_true _) (bc (Zak ((Zdg _).2 d17)) b0))) q0 c0 (by (try rw [w19]);(try rw [w21]);all_goals exact H)
  ·obtain ⟨k22,H⟩:=H
   have w23:wi u = u:=wI64 k22
   exact Zag (G:=Zab kp48 [] []) 1000 [false,false] (asm:=[(decide (i >= 0)) == false,0 == 0,(Sp.Zad a) == false]) (tu [vi (wi u),vb true]) (by kernel_rfl) (bc (Zaj (fun h => d2 (Zaa.1 h))) (bc (beq_self_eq_true _) (bc (Zaj (fun h => d17 ((Zdg _).1 h))) b0))) q0 c0 (by (try rw [w23]);all_goals exact H)
theorem pI64N (fa:Bool) (a u i:Int)  (dq:AV) (H :
  ((i >= 0) -> (0 <= i) /\
   (i.toNat < (us (Sp.Zar a)).length) /\
   (i.toNat < (Sp.Zar a).length) /\
   Zds (fa) (a) (IntKind.u64.wrap (IntKind.u64.wrap (u * 1000000000) + IntKind.u64.wrap ((Sp.Zar a).getD i.toNat default))) (IntKind.i64.wrap (i - 1)) (Zae dq)) /\
  (¬(i >= 0) -> ((Sp.Zad a = true) -> tu [vi (IntKind.i64.wrap (IntKind.u64.wrap (0 - u))),vb true] = dq) /\
   (¬(Sp.Zad a = true) -> tu [vi (IntKind.i64.wrap u),vb true] = dq))) :
 pI64N_at fa a u i (Zae dq):=by
 unfold pI64N_at
 rcases xq H with ⟨d2,H⟩|⟨d2,H⟩
 ·obtain ⟨k4,k6,k7,H⟩:=H
  exact Zac (G:=Zab kp48 [(7,6,.elem (vu ((Sp.Zar a).getD i.toNat default)))] []) 1000 [true] ⟨(atC (cd Try.f48) [1,1,1,0,1,0,0]),[(1,AV.ptr 0 0 0 0),(4,vw (wu (wu (u * 1000000000) + wu ((Sp.Zar a).getD i.toNat default)))),(5,vi (wi (i - 1)))],[⟨[bigA fa a],2,0,false,false⟩],_,[((us (Sp.Zar a)).get?Internal i.toNat = some (vu ((Sp.Zar a).getD i.toNat default)))],_⟩ (by kernel_rfl) (bc (Zak (Zaa.2 d2)) (bc rfl (bc (Zaa.2 k4) (bc (Zaa.2 k6) b0)))) (qc (Zap k7) q0) c0 (H)
 ·rcases xq H with ⟨d9,H⟩|⟨d9,H⟩
  ·exact Zag (G:=Zab kp48 [] []) 1000 [false,true] (asm:=[(decide (i >= 0)) == false,0 == 0,(Sp.Zad a) == true]) (tu [vi (wi (wu (0 - u))),vb true]) (by kernel_rfl) (bc (Zaj (fun h => d2 (Zaa.1 h))) (bc (beq_self_eq_true _) (bc (Zak ((Zdg _).2 d9)) b0))) q0 c0 H
  ·exact Zag (G:=Zab kp48 [] []) 1000 [false,false] (asm:=[(decide (i >= 0)) == false,0 == 0,(Sp.Zad a) == false]) (tu [vi (wi u),vb true]) (by kernel_rfl) (bc (Zaj (fun h => d2 (Zaa.1 h))) (bc (beq_self_eq_true _) (bc (Zaj (fun h => d9 ((Zdg _).1 h))) b0))) q0 c0 H
end Go.Av

namespace Go.Av
open Go.Proofs
theorem cnt3 {a:Int} (h:a.natAbs<1000000000000000000000000000):Sp.cnt a.natAbs<=3:=Zas.1 (by unfold Sp.fits;omega)
theorem okB3 {a:Int} (h:a.natAbs<1000000000000000000000000000):Sp.okB a:=by have:=cnt3 h;unfold Sp.okB;omega
theorem wneg {v:Int} (h:0 < v) (k:v <= 9000000000000000000):IntKind.i64.wrap (IntKind.u64.wrap (0 - v)) = -v:=by
 have e0:(2:Int) ^ IntKind.u64.bits = 18446744073709551616:=rfl
 have e1:(2:Int) ^ IntKind.i64.bits = 18446744073709551616:=rfl
 have e2:(2:Int) ^ (IntKind.i64.bits - 1) = 9223372036854775808:=rfl
 have e3:IntKind.i64.signed = true:=rfl
 have e4:IntKind.u64.signed = false:=rfl
 simp only [IntKind.wrap,e0,e1,e2,e3,e4,Bool.true_and,Bool.false_and,decide_eq_true_eq,Bool.false_eq_true,if_false]
 split <;> omega
theorem no_end {a n1 n2:Int} (h:-2000000000000000000 <= a /\ a <= 2000000000000000000) (e1:n1 = Sp.sgnI (a - -9223372036854775808)) (e2:n2 = Sp.sgnI (a - 9223372036854775807)):¬(n1 < 0 \/ n2 > 0):=by
 subst e1 e2
 rintro (b | b)
 ·rw [Zbt] at b;omega
 ·unfold Sp.sgnI at b
  rw [if_pos (by omega)] at b;omega
theorem bigL {K:Nat} {x v:AV} {c:Int} {b:Bool} (h:Ev M1 (.pure K [x,bigA false c]) v []) (e:Sp.Zad c = b):Ev M1 (.pure K [x,.agg [.bool b,.vec false 1 ((Sp.Zar c).map (.int .u32))]]) v []:=by
 subst e;exact h
theorem ev48 (fa:Bool) (a:Int) (h:-2000000000000000000 <= a /\ a <= 2000000000000000000):Ev M1 (.pure 48 [bigA fa a]) (.tup [.int .i64 a,.bool true]) []:=by
 have hc:=cnt3 (a:=a) (by omega)
 have len:(Sp.Zar a).length = Sp.cnt a.natAbs:=ZaB _
 refine call48 (pI64 fa a _ ⟨by unfold Sp.inI;omega,_,bigL (ev47 fa false a (-9223372036854775808) ⟨okB3 (by omega),okB3 (by decide)⟩) rfl,fun _ => by unfold Sp.inI;omega,_,fun _ => ev47 fa false a 9223372036854775807 ⟨okB3 (by omega),okB3 (by decide)⟩,fun bad => absurd bad (no_end h rfl rfl),fun _ => ⟨by rw [len];omega,?_⟩⟩)
 have loop:∀ k,k <= Sp.cnt a.natAbs -> Zds fa a ((a.natAbs / 1000000000 ^ k:Nat):Int) ((k:Int) - 1) (Zae (.tup [.int .i64 a,.bool true])):=by
  intro k
  induction k with
  | zero =>
   intro _
   rw [Nat.pow_zero,Nat.div_one]
   by_cases hn:Sp.Zad a = true
   ·have hneg:a < 0:=by simpa [Sp.Zad] using hn
    show pI64N_at fa a ((a.natAbs:Nat):Int) (((0:Nat):Int) - 1) _
    refine pI64N _ _ _ _ _ ⟨fun x => absurd x (by omega),fun _ => ⟨fun _ => ?_,fun x => absurd hn x⟩⟩
    rw [wneg (v:=((a.natAbs:Nat):Int)) (by omega) (by omega),show -((a.natAbs:Nat):Int) = a by omega]
   ·have hp:¬a < 0:=by simpa [Sp.Zad] using hn
    refine pI64H _ _ _ _ _ ⟨fun x => absurd x (by omega),fun _ => ⟨fun x => absurd x hn,fun _ => ⟨by omega,?_⟩⟩⟩
    rw [show ((a.natAbs:Nat):Int) = a by omega]
  | succ k ih =>
   intro hk
   have e1:(((k + 1:Nat):Int) - 1) = (k:Nat):=by omega
   have g:(Sp.Zar a).getD k default = ((a.natAbs / 1000000000 ^ k % 1000000000:Nat):Int):=Zat _ (show k < Sp.cnt a.natAbs by omega)
   have hs:=ZaH a.natAbs k
   have hb:a.natAbs / 1000000000 ^ k <= a.natAbs:=Nat.div_le_self _ _
   refine pI64H _ _ _ _ _ ⟨fun _ => ?_,fun x => absurd x (by omega)⟩
   rw [e1,Int.toNat_natCast,g,len]
   have e2:((a.natAbs / 1000000000 ^ (k + 1):Nat):Int) * 1000000000 + ((a.natAbs / 1000000000 ^ k % 1000000000:Nat):Int) = ((a.natAbs / 1000000000 ^ k:Nat):Int):=by omega
   rw [e2]
   exact ⟨by omega,by omega,by omega,by omega,by omega,by omega,ih (by omega)⟩
 have l:=loop (Sp.cnt a.natAbs) (Nat.le_refl _)
 rw [ZaA (Zaf _) (Nat.le_refl _)] at l
 rw [len];exact l
namespace Sp
noncomputable def dsA (x y z a s:Int) (q:Rat):Rat:=if s<0 then -(q-qi (alg x y z a)) else q-qi (alg x y z a)
noncomputable def dst (x y z a s r:Int) (q:Rat):Rat:=if a<2 then dsA x y z a s q-qi r else dsA x y z a s q
end Sp
theorem inI_M {n:Int} (h:Sp.pM n):Sp.inI n:=by unfold Sp.pM at h;unfold Sp.inI;omega
theorem okT_dsA {x y z a s:Int} {q:Rat} (hq:Sp.okT 2 q) (hp:Sp.pP x y z):Sp.okT 6 (Sp.dsA x y z a s q):=by
 have t:=Zfs hq (Za6 (inI_M (alg_in hp a)))
 unfold Sp.dsA
 split
 ·exact Zft t
 ·exact t
theorem okT_dst {x y z a s r:Int} {q:Rat} (hq:Sp.okT 2 q) (hp:Sp.pP x y z) (hr:Sp.inI r):Sp.okT 10 (Sp.dst x y z a s r q):=by
 have t:=okT_dsA (a:=a) (s:=s) hq hp
 unfold Sp.dst
 split
 ·exact Zfs t (Za6 hr)
 ·exact okT_le t (by omega)
theorem inI_W {a s r:Int} (h:Sp.pW a s r):Sp.inI r:=by have:=h.2.2;unfold Sp.inI;omega
end Go.Av

namespace Go.Av
open Go.Proofs
set_option maxRecDepth 100000
def fi10:Fi:=⟨94,[.cell 12 23,.tmp 13]⟩
def kp10:List (Nat × List Nat):=[(0,[1,2,4,5,6,9,12]),(1,[1,2,4,5,6,9,12,14]),(2,[1,2,4,5,6,9,12,32]),(3,[12,13]),(4,[1,2,4,5,6,9,12,36]),(5,[12,13]),(6,[1,2,4,5,6,9,12,15]),(7,[1,2,4,5,6,9,12,15,16]),(8,[1,2,4,5,6,9,12,15,16,17]),(9,[2,5,6,12,16,17,18]),(10,[2,5,6,12,16,17,18,59]),(11,[12,13]),(12,[2,5,6,12,16,17,19]),(13,[2,5,6,12,16,19,20]),(14,[2,6,12,16,19,73]),(15,[12,13]),(16,[2,6,12,16,21,22]),(17,[2,6,12,16,21,86]),(18,[12,13]),(19,[6,12]),(20,[12,13])]
def Zgv (f g:Bool) (q:Rat) (x y z a s r m:Int) (Q:AV->Heap->Prop):Prop:=Wp M1 (.run fi10 (atC (cd Try.f10) []) [(0,.agg [.int .i64 x,.int .i64 y,.int .i64 z]),(1,.int .i64 a),(2,.int .i64 s),(3,ratA f g q),(4,.int .i64 r),(5,.int .i64 m)] []) Q
def Zek (f g:Bool) (q:Rat) (x y z s r m:Int) (Q:AV->Heap->Prop):Prop:=Wp M1 (.run fi10 (atC (cd Try.f10) []) [(0,.agg [.int .i64 x,.int .i64 y,.int .i64 z]),(1,.int .i64 0),(2,.int .i64 s),(3,ratA f g q),(4,.int .i64 r),(5,.int .i64 m)] []) Q
def Zej (f g:Bool) (q:Rat) (x y z s r m:Int) (Q:AV->Heap->Prop):Prop:=Wp M1 (.run fi10 (atC (cd Try.f10) []) [(0,.agg [.int .i64 x,.int .i64 y,.int .i64 z]),(1,.int .i64 1),(2,.int .i64 s),(3,ratA f g q),(4,.int .i64 r),(5,.int .i64 m)] []) Q
def Zei (f g:Bool) (q:Rat) (x y z s r m:Int) (Q:AV->Heap->Prop):Prop:=Wp M1 (.run fi10 (atC (cd Try.f10) []) [(0,.agg [.int .i64 x,.int .i64 y,.int .i64 z]),(1,.int .i64 2),(2,.int .i64 s),(3,ratA f g q),(4,.int .i64 r),(5,.int .i64 m)] []) Q
theorem call10 {args:List AV} {d:AV} (h:wc M1 fi10 Try.f10 args d):Ev M1 (.pure 10 args) d []:=pcl _ _ (by kernel_rfl) h
noncomputable abbrev zNpF1:=ag [vi 0,vi 0,vi 0]
theorem pTouchX (f g:Bool) (q:Rat) (x y z a s r m:Int)  (dq:AV) (H :
  (((¬Sp.chk a s r = 0) \/ (m < 0)) -> tu [ag [vi 0,vi 0,vi 0],vi 1] = dq) /\
  (¬((¬Sp.chk a s r = 0) \/ (m < 0)) -> ((¬(Sp.pP x y z)) -> tu [ag [vi 0,vi 0,vi 0],vi 11] = dq) /\
   (¬(¬(Sp.pP x y z)) -> False))) :
 Zgv f g q x y z a s r m (Zae dq):=by
 unfold Zgv
 refine Zac (G:=Zab kp10 [(1,3,.call (vi (Sp.chk a s r)) none)] []) 7 [] ⟨(atC (cd Try.f10) [1,0,1,1]),[(1,vi a),(2,vi s),(4,vi r),(5,vi m),(6,AV.ptr 0 0 0 0),(9,AV.ptr 1 0 0 0),(12,AV.ptr 2 0 0 0),(32,vb (bif Sp.chk a s r != 0 then true else decide (m < 0)))],[⟨[ag [vi x,vi y,vi z]],3,0,false,false⟩,⟨[ratA f g q],4,0,false,false⟩,⟨[zNpF1],3,0,false,false⟩],_,[],_⟩ (by kernel_rfl) b0 q0 (ce (@ev34 (a) (s) (r)) c0) ?_
 rcases xq H with ⟨d2,H⟩|⟨d2,H⟩
 ·exact Zag (G:=Zab kp10 [] []) 1000 [true] (tu [zNpF1,vi 1]) (by kernel_rfl) (bc (Zak ((ZaX i_ne Zaa).2 d2)) (bc rfl b0)) q0 c0 H
 ·refine Zac (G:=Zab kp10 [(4,1,.call (vb (decide (Sp.pP x y z))) none)] []) 5 [false] ⟨(atC (cd Try.f10) [1,1,0,1]),[(1,vi a),(2,vi s),(4,vi r),(5,vi m),(6,AV.ptr 0 0 0 0),(9,AV.ptr 1 0 0 0),(12,AV.ptr 2 0 0 0),(36,vb !decide (Sp.pP x y z))],[⟨[ag [vi x,vi y,vi z]],3,0,false,false⟩,⟨[ratA f g q],4,0,false,false⟩,⟨[zNpF1],3,0,false,false⟩],_,[],_⟩ (by kernel_rfl) (bc (Zaj (fun h => d2 ((ZaX i_ne Zaa).1 h))) (bc rfl b0)) q0 (ce (@ev35 (x) (y) (z)) c0) ?_
  rcases xq H with ⟨d4,H⟩|⟨d4,H⟩
  ·exact Zag (G:=Zab kp10 [] []) 1000 [true] (tu [zNpF1,vi 11]) (by kernel_rfl) (bc (Zak ((ZaQ Zaa).2 d4)) (bc rfl b0)) q0 c0 H
  ·exact False.elim H
noncomputable abbrev zNpF2:=ag [vi 0,vi 0,vi 0]
noncomputable abbrev zNpF3 (s:Int) (q:Rat) (r:Int):=Sp.pM (-Sp.flo (-(Sp.qi s*q-Sp.qi (Sp.rea 0 r))).num (↑(-(Sp.qi s*q-Sp.qi (Sp.rea 0 r))).den:Int))
noncomputable abbrev zNpF4 (x:Int) (y:Int) (z:Int):=ag [vi x,vi y,vi z]
noncomputable abbrev zNpF5 (s:Int) (q:Rat) (r:Int):=Sp.flo (-(Sp.qi s*q-Sp.qi (Sp.rea 0 r))).num (↑(-(Sp.qi s*q-Sp.qi (Sp.rea 0 r))).den:Int)
noncomputable abbrev zNpF6 (s:Int) (x:Int) (q:Rat) (r:Int):=Sp.sgnI ((Sp.qi (s*x)).num*(↑(Sp.qi s*q-Sp.qi (Sp.rea 0 r)).den:Int)-(Sp.qi s*q-Sp.qi (Sp.rea 0 r)).num*(↑(Sp.qi (s*x)).den:Int))>=0
noncomputable abbrev zNpF7 (s:Int) (q:Rat) (r:Int):=tu [vi (-Sp.flo (-(Sp.qi s*q-Sp.qi (Sp.rea 0 r))).num (↑(-(Sp.qi s*q-Sp.qi (Sp.rea 0 r))).den:Int)),vb true]
noncomputable abbrev zNpF8 (s:Int) (x:Int) (q:Rat) (r:Int):=Sp.sgnI ((Sp.qi (s*x)).num*(↑(Sp.qi s*q-Sp.qi (Sp.rea 0 r)).den:Int)-(Sp.qi s*q-Sp.qi (Sp.rea 0 r)).num*(↑(Sp.qi (s*x)).den:Int))
theorem pTouch0 (f g:Bool) (q:Rat) (x y z s r m:Int)  (dq:AV) (H :
  (((¬Sp.chk 0 s r = 0) \/ (m < 0)) -> tu [ag [vi 0,vi 0,vi 0],vi 1] = dq) /\
  (¬((¬Sp.chk 0 s r = 0) \/ (m < 0)) -> ((¬(Sp.pP x y z)) -> tu [ag [vi 0,vi 0,vi 0],vi 11] = dq) /\
   (¬(¬(Sp.pP x y z)) -> (Sp.inI s) /\
    (-9223372036854775808 <= s * x /\ s * x <= 9223372036854775807) /\
    (Sp.okR (Sp.qi s) /\ Sp.okR q) /\
    (Sp.inI (Sp.rea 0 r)) /\
    (Sp.okR (Sp.qi s * q) /\ Sp.okR (Sp.qi (Sp.rea 0 r))) /\
    (Sp.inI (s * x)) /\
    (Sp.okR (Sp.qi (s * x)) /\ Sp.okR (Sp.qi s * q - Sp.qi (Sp.rea 0 r))) /\
    ((Sp.sgnI ((Sp.qi (s * x)).num * (↑(Sp.qi s * q - Sp.qi (Sp.rea 0 r)).den:Int) - (Sp.qi s * q - Sp.qi (Sp.rea 0 r)).num * (↑(Sp.qi (s * x)).den:Int)) >= 0) -> tu [ag [vi x,vi y,vi z],vi 0] = dq) /\
    (¬(Sp.sgnI ((Sp.qi (s * x)).num * (↑(Sp.qi s * q - Sp.qi (Sp.rea 0 r)).den:Int) - (Sp.qi s * q - Sp.qi (Sp.rea 0 r)).num * (↑(Sp.qi (s * x)).den:Int)) >= 0) -> (Sp.okB (Sp.qi s * q - Sp.qi (Sp.rea 0 r)).num) /\
     (Sp.okB (-(Sp.qi s * q - Sp.qi (Sp.rea 0 r))).num /\ Sp.okB (↑(-(Sp.qi s * q - Sp.qi (Sp.rea 0 r))).den:Int)) /\
     (Sp.okB (Sp.flo (-(Sp.qi s * q - Sp.qi (Sp.rea 0 r))).num (↑(-(Sp.qi s * q - Sp.qi (Sp.rea 0 r))).den:Int))) /\
     (Sp.okB (-Sp.flo (-(Sp.qi s * q - Sp.qi (Sp.rea 0 r))).num (↑(-(Sp.qi s * q - Sp.qi (Sp.rea 0 r))).den:Int)) /\ Sp.okB (s * x)) /\
     (Sp.inI m) /\
     (Sp.okB (-Sp.flo (-(Sp.qi s * q - Sp.qi (Sp.rea 0 r))).num (↑(-(Sp.qi s * q - Sp.qi (Sp.rea 0 r))).den:Int) - s * x) /\ Sp.okB m) /\
     ((Sp.sgnI (-Sp.flo (-(Sp.qi s * q - Sp.qi (Sp.rea 0 r))).num (↑(-(Sp.qi s * q - Sp.qi (Sp.rea 0 r))).den:Int) - s * x - m) > 0) -> tu [ag [vi 0,vi 0,vi 0],vi 4] = dq) /\
     (¬(Sp.sgnI (-Sp.flo (-(Sp.qi s * q - Sp.qi (Sp.rea 0 r))).num (↑(-(Sp.qi s * q - Sp.qi (Sp.rea 0 r))).den:Int) - s * x - m) > 0) -> (-2000000000000000000 <= -Sp.flo (-(Sp.qi s * q - Sp.qi (Sp.rea 0 r))).num (↑(-(Sp.qi s * q - Sp.qi (Sp.rea 0 r))).den:Int) /\ -Sp.flo (-(Sp.qi s * q - Sp.qi (Sp.rea 0 r))).num (↑(-(Sp.qi s * q - Sp.qi (Sp.rea 0 r))).den:Int) <= 2000000000000000000) /\
      ((¬(Sp.pM (-Sp.flo (-(Sp.qi s * q - Sp.qi (Sp.rea 0 r))).num (↑(-(Sp.qi s * q - Sp.qi (Sp.rea 0 r))).den:Int)))) -> tu [ag [vi 0,vi 0,vi 0],vi 11] = dq) /\
      (¬(¬(Sp.pM (-Sp.flo (-(Sp.qi s * q - Sp.qi (Sp.rea 0 r))).num (↑(-(Sp.qi s * q - Sp.qi (Sp.rea 0 r))).den:Int)))) -> (-9223372036854775808 <= s * -Sp.flo (-(Sp.qi s * q - Sp.qi (Sp.rea 0 r))).num (↑(-(Sp.qi s * q - Sp.qi (Sp.rea 0 r))).den:Int) /\ s * -Sp.flo (-(Sp.qi s * q - Sp.qi (Sp.rea 0 r))).num (↑(-(Sp.qi s * q - Sp.qi (Sp.rea 0 r))).den:Int) <= 9223372036854775807) /\
       tu [ag [vi (s * -Sp.flo (-(Sp.qi s * q - Sp.qi (Sp.rea 0 r))).num (↑(-(Sp.qi s * q - Sp.qi (Sp.rea 0 r))).den:Int)),vi y,vi z],vi 0] = dq)))))) :
 Zek f g q x y z s r m (Zae dq):=by
 unfold Zek
 refine Zac (G:=Zab kp10 [(1,3,.call (vi (Sp.chk 0 s r)) none)] []) 7 [] ⟨(atC (cd Try.f10) [1,0,1,1]),[(1,vi 0),(2,vi s),(4,vi r),(5,vi m),(6,AV.ptr 0 0 0 0),(9,AV.ptr 1 0 0 0),(12,AV.ptr 2 0 0 0),(32,vb (bif Sp.chk 0 s r != 0 then true else decide (m < 0)))],[⟨[(zNpF4 x y z)],3,0,false,false⟩,⟨[ratA f g q],4,0,false,false⟩,⟨[zNpF2],3,0,false,false⟩],_,[],_⟩ (by kernel_rfl) b0 q0 (ce (@ev34 (0) (s) (r)) c0) ?_
 rcases xq H with ⟨d2,H⟩|⟨d2,H⟩
 ·exact Zag (G:=Zab kp10 [] []) 1000 [true] (tu [zNpF2,vi 1]) (by kernel_rfl) (bc (Zak ((ZaX i_ne Zaa).2 d2)) (bc rfl b0)) q0 c0 H
 ·refine Zac (G:=Zab kp10 [(4,1,.call (vb (decide (Sp.pP x y z))) none)] []) 5 [false] ⟨(atC (cd Try.f10) [1,1,0,1]),[(1,vi 0),(2,vi s),(4,vi r),(5,vi m),(6,AV.ptr 0 0 0 0),(9,AV.ptr 1 0 0 0),(12,AV.ptr 2 0 0 0),(36,vb !decide (Sp.pP x y z))],[⟨[(zNpF4 x y z)],3,0,false,false⟩,⟨[ratA f g q],4,0,false,false⟩,⟨[zNpF2],3,0,false,false⟩],_,[],_⟩ (by kernel_rfl) (bc (Zaj (fun h => d2 ((ZaX i_ne Zaa).1 h))) (bc rfl b0)) q0 (ce (@ev35 (x) (y) (z)) c0) ?_
  rcases xq H with ⟨d4,H⟩|⟨d4,H⟩
  ·exact Zag (G:=Zab kp10 [] []) 1000 [true] (tu [zNpF2,vi 11]) (by kernel_rfl) (bc (Zak ((ZaQ Zaa).2 d4)) (bc rfl b0)) q0 c0 H
  ·obtain ⟨k5,k6,H⟩:=H
   have w7:wi (s * x) = s * x:=wI64 k6
   obtain ⟨k8,k9,k10,k11,k12,H⟩:=H
   refine Zac (G:=Zab kp10 [(6,1,.call (ratF (Sp.qi s)) none),(7,1,.call (AV.ptr 0 0 0 0) none),(9,2,.call (ratF (Sp.qi s * q)) none),(9,5,.call (vi (Sp.rea 0 r)) none),(9,6,.call (ratF (Sp.qi (Sp.rea 0 r))) none),(9,7,.call (ratF (Sp.qi s * q - Sp.qi (Sp.rea 0 r))) none),(10,1,.call (ratF (Sp.qi (s * x))) none),(10,3,.call (vi (zNpF8 s x q r)) none)] []) 13 [false] ⟨(atC (cd Try.f10) [1,1,1,1,1,1,1,0,1]),[(2,vi s),(5,vi m),(6,AV.ptr 0 0 0 0),(12,AV.ptr 2 0 0 0),(16,AV.ptr 0 0 0 0),(17,vi (wi (s * x))),(18,AV.ptr 4 0 0 0),(59,vb (decide (zNpF6 s x q r)))],[⟨[(zNpF4 x y z)],3,0,false,false⟩,⟨[ratA f g q],4,0,false,false⟩,⟨[zNpF2],3,0,false,false⟩,⟨[ratF (Sp.qi s)],4,0,false,false⟩,⟨[ratF (Sp.qi s * q - Sp.qi (Sp.rea 0 r))],4,0,false,false⟩],_,[],[⟨true,false,36,[vi s],[],ratF (Sp.qi s),[]⟩,⟨true,true,37,[AV.ptr 0 0 0 0,vi 0],[⟨[(zNpF4 x y z)],3,0,false,false⟩],AV.ptr 0 0 0 0,[⟨[(zNpF4 x y z)],3,0,false,false⟩]⟩,⟨true,false,39,[ratF (Sp.qi s),ratA f g q],[],ratF (Sp.qi s * q),[]⟩,⟨true,false,40,[vi 0,vi r],[],vi (Sp.rea 0 r),[]⟩,⟨true,false,36,[vi (Sp.rea 0 r)],[],ratF (Sp.qi (Sp.rea 0 r)),[]⟩,⟨true,false,38,[ratF (Sp.qi s * q),ratF (Sp.qi (Sp.rea 0 r))],[],ratF (Sp.qi s * q - Sp.qi (Sp.rea 0 r)),[]⟩,⟨true,false,36,[vi (wi (s * x))],[],ratF (Sp.qi (s * x)),[]⟩,⟨true,false,41,[ratF (Sp.qi (s * x)),ratF (Sp.qi s * q - Sp.qi (Sp.rea 0 r))],[],vi (zNpF8 s x q r),[]⟩]⟩ (by kernel_rfl) (bc (Zaj (fun h => d4 ((ZaQ Zaa).1 h))) (bc rfl (bc rfl (bc rfl (bc rfl (bc rfl (bc rfl b0))))))) q0 (cc (fun _ => (@ev36 (s) k5)) (cc (fun _ => (@evo37_a (x) (y) (z))) (cc (fun _ => (@ev39 (false) (false) (f) (g) (Sp.qi s) (q) k8)) (cc (fun _ => (@ev40 (0) (r))) (cc (fun _ => (@ev36 (Sp.rea 0 r) k9)) (cc (fun _ => (@ev38 (false) (false) (false) (false) (Sp.qi s * q) (Sp.qi (Sp.rea 0 r)) k10)) (cc (fun _ => (by (try rw [w7]);all_goals exact (@ev36 (s * x) k11))) (cc (fun _ => (@ev41 (false) (false) (false) (false) (Sp.qi (s * x)) (Sp.qi s * q - Sp.qi (Sp.rea 0 r)) k12)) c0)))))))) ?_
   rcases xq H with ⟨d14,H⟩|⟨d14,H⟩
   ·exact Zag (G:=Zab kp10 [] []) 1000 [true] (tu [(zNpF4 x y z),vi 0]) (by kernel_rfl) (bc (Zak (Zaa.2 d14)) (bc rfl (bc rfl b0))) q0 c0 H
   ·obtain ⟨k15,k16,k17,k18,k19,k20,H⟩:=H
    refine Zac (G:=Zab kp10 [(12,1,.call (ratF (-(Sp.qi s * q - Sp.qi (Sp.rea 0 r)))) none),(12,2,.call (bigA false (zNpF5 s q r)) none),(12,3,.call (bigA false (-Sp.flo (-(Sp.qi s * q - Sp.qi (Sp.rea 0 r))).num (↑(-(Sp.qi s * q - Sp.qi (Sp.rea 0 r))).den:Int))) none),(13,2,.call (bigA false (s * x)) none),(13,3,.call (bigA false (-Sp.flo (-(Sp.qi s * q - Sp.qi (Sp.rea 0 r))).num (↑(-(Sp.qi s * q - Sp.qi (Sp.rea 0 r))).den:Int) - s * x)) none),(14,2,.call (bigA false m) none),(14,3,.call (vi (Sp.sgnI (-Sp.flo (-(Sp.qi s * q - Sp.qi (Sp.rea 0 r))).num (↑(-(Sp.qi s * q - Sp.qi (Sp.rea 0 r))).den:Int) - s * x - m))) none)] []) 9 [false] ⟨(atC (cd Try.f10) [1,1,1,1,1,1,1,1,1,1,0,1]),[(2,vi s),(6,AV.ptr 0 0 0 0),(12,AV.ptr 2 0 0 0),(16,AV.ptr 0 0 0 0),(19,AV.ptr 5 0 0 0),(73,vb (decide (Sp.sgnI (-Sp.flo (-(Sp.qi s * q - Sp.qi (Sp.rea 0 r))).num (↑(-(Sp.qi s * q - Sp.qi (Sp.rea 0 r))).den:Int) - s * x - m) > 0)))],[⟨[(zNpF4 x y z)],3,0,false,false⟩,⟨[ratA f g q],4,0,false,false⟩,⟨[zNpF2],3,0,false,false⟩,⟨[ratF (Sp.qi s)],4,0,false,false⟩,⟨[ratF (Sp.qi s * q - Sp.qi (Sp.rea 0 r))],4,0,false,false⟩,⟨[bigA false (-Sp.flo (-(Sp.qi s * q - Sp.qi (Sp.rea 0 r))).num (↑(-(Sp.qi s * q - Sp.qi (Sp.rea 0 r))).den:Int))],2,0,false,false⟩,⟨[bigA false (-Sp.flo (-(Sp.qi s * q - Sp.qi (Sp.rea 0 r))).num (↑(-(Sp.qi s * q - Sp.qi (Sp.rea 0 r))).den:Int) - s * x)],2,0,false,false⟩],_,[],[pc 44 [ratF (Sp.qi s * q - Sp.qi (Sp.rea 0 r))] (ratF (-(Sp.qi s * q - Sp.qi (Sp.rea 0 r)))),pc 43 [ratF (-(Sp.qi s * q - Sp.qi (Sp.rea 0 r)))] (bigA false (zNpF5 s q r)),pc 42 [bigA false (zNpF5 s q r)] (bigA false (-Sp.flo (-(Sp.qi s * q - Sp.qi (Sp.rea 0 r))).num (↑(-(Sp.qi s * q - Sp.qi (Sp.rea 0 r))).den:Int))),pc 46 [vi (wi (s * x))] (bigA false (s * x)),pc 45 [bigA false (-Sp.flo (-(Sp.qi s * q - Sp.qi (Sp.rea 0 r))).num (↑(-(Sp.qi s * q - Sp.qi (Sp.rea 0 r))).den:Int)),bigA false (s * x)] (bigA false (-Sp.flo (-(Sp.qi s * q - Sp.qi (Sp.rea 0 r))).num (↑(-(Sp.qi s * q - Sp.qi (Sp.rea 0 r))).den:Int) - s * x)),pc 46 [vi m] (bigA false m),pc 47 [bigA false (-Sp.flo (-(Sp.qi s * q - Sp.qi (Sp.rea 0 r))).num (↑(-(Sp.qi s * q - Sp.qi (Sp.rea 0 r))).den:Int) - s * x),bigA false m] (vi (Sp.sgnI (-Sp.flo (-(Sp.qi s * q - Sp.qi (Sp.rea 0 r))).num (↑(-(Sp.qi s * q - Sp.qi (Sp.rea 0 r))).den:Int) - s * x - m)))]⟩ (by kernel_rfl) (bc (Zaj (fun h => d14 (Zaa.1 h))) (bc rfl (bc rfl (bc rfl (bc rfl (bc rfl b0)))))) q0 (ce (@ev44 (false) (false) (Sp.qi s * q - Sp.qi (Sp.rea 0 r)) k15) (ce (@ev43 (false) (false) (-(Sp.qi s * q - Sp.qi (Sp.rea 0 r))) k16) (ce (@ev42 (false) (zNpF5 s q r) k17) (ce (by (try rw [w7]);all_goals exact (@ev46 (s * x) k11)) (ce (@ev45 (false) (false) (-Sp.flo (-(Sp.qi s * q - Sp.qi (Sp.rea 0 r))).num (↑(-(Sp.qi s * q - Sp.qi (Sp.rea 0 r))).den:Int)) (s * x) k18) (ce (@ev46 (m) k19) (ce (@ev47 (false) (false) (-Sp.flo (-(Sp.qi s * q - Sp.qi (Sp.rea 0 r))).num (↑(-(Sp.qi s * q - Sp.qi (Sp.rea 0 r))).den:Int) - s * x) (m) k20) c0))))))) ?_
    rcases xq H with ⟨d22,H⟩|⟨d22,H⟩
    ·exact Zag (G:=Zab kp10 [] []) 1000 [true] (tu [zNpF2,vi 4]) (by kernel_rfl) (bc (Zak (Zaa.2 d22)) (bc rfl b0)) q0 c0 H
    ·obtain ⟨k23,H⟩:=H
     refine Zac (G:=Zab kp10 [(16,1,.call ((zNpF7 s q r)) none),(17,4,.call (vb (decide (zNpF3 s q r))) none)] []) 7 [false] ⟨(atC (cd Try.f10) [1,1,1,1,1,1,1,1,1,1,1,1,0,1]),[(2,vi s),(6,AV.ptr 0 0 0 0),(12,AV.ptr 2 0 0 0),(16,AV.ptr 0 0 0 0),(21,vi (-Sp.flo (-(Sp.qi s * q - Sp.qi (Sp.rea 0 r))).num (↑(-(Sp.qi s * q - Sp.qi (Sp.rea 0 r))).den:Int))),(86,vb !decide (zNpF3 s q r))],[⟨[(zNpF4 x y z)],3,0,false,false⟩,⟨[ratA f g q],4,0,false,false⟩,⟨[zNpF2],3,0,false,false⟩,⟨[ratF (Sp.qi s)],4,0,false,false⟩,⟨[ratF (Sp.qi s * q - Sp.qi (Sp.rea 0 r))],4,0,false,false⟩,⟨[bigA false (-Sp.flo (-(Sp.qi s * q - Sp.qi (Sp.rea 0 r))).num (↑(-(Sp.qi s * q - Sp.qi (Sp.rea 0 r))).den:Int))],2,0,false,false⟩,⟨[bigA false (-Sp.flo (-(Sp.qi s * q - Sp.qi (Sp.rea 0 r))).num (↑(-(Sp.qi s * q - Sp.qi (Sp.rea 0 r))).den:Int) - s * x)],2,0,false,false⟩],_,[],[⟨true,false,48,[bigA false (-Sp.flo (-(Sp.qi s * q - Sp.qi (Sp.rea 0 r))).num (↑(-(Sp.qi s * q - Sp.qi (Sp.rea 0 r))).den:Int))],[],(zNpF7 s q r),[]⟩,⟨false == false && true && true,false,49,[vi (-Sp.flo (-(Sp.qi s * q - Sp.qi (Sp.rea 0 r))).num (↑(-(Sp.qi s * q - Sp.qi (Sp.rea 0 r))).den:Int))],[],vb (decide (zNpF3 s q r)),[]⟩]⟩ (by kernel_rfl) (bc (Zaj (fun h => d22 (Zaa.1 h))) (bc rfl b0)) q0 (cc (fun _ => (@ev48 (false) (-Sp.flo (-(Sp.qi s * q - Sp.qi (Sp.rea 0 r))).num (↑(-(Sp.qi s * q - Sp.qi (Sp.rea 0 r))).den:Int)) k23)) (cc (fun hc => ((@ev49 (-Sp.flo (-(Sp.qi s * q - Sp.qi (Sp.rea 0 r))).num (↑(-(Sp.qi s * q - Sp.qi (Sp.rea 0 r))).den:Int))):Ev M1 (Conf.pure 49 [vi (-Sp.flo (-(Sp.qi s * q - Sp.qi (Sp.rea 0 r))).num (↑(-(Sp.qi s * q - Sp.qi (Sp.rea 0 r))).den:Int))]) (vb (decide (zNpF3 s q r))) [])) c0)) ?_
     rcases xq H with ⟨d26,H⟩|⟨d26,H⟩
     ·exact Zag (G:=Zab kp10 [] []) 1000 [true] (tu [zNpF2,vi 11]) (by kernel_rfl) (bc (Zak ((ZaQ Zaa).2 d26)) (bc rfl b0)) q0 c0 H
     ·obtain ⟨k27,H⟩:=H
      have w28:wi (s * -Sp.flo (-(Sp.qi s * q - Sp.qi (Sp.rea 0 r))).num (↑(-(Sp.qi s * q - Sp.qi (Sp.rea 0 r))).den:Int)) = s * -Sp.flo (-(Sp.qi s * q - Sp.qi (Sp.rea 0 r))).num (↑(-(Sp.qi s * q - Sp.qi (Sp.rea 0 r))).den:Int):=wI64 k27
      exact Zag (G:=Zab kp10 [] []) 1000 [false] (asm:=[(!decide (zNpF3 s q r)) == false,0 == 0,true,true]) (tu [ag [vi (wi (s * -Sp.flo (-(Sp.qi s * q - Sp.qi (Sp.rea 0 r))).num (↑(-(Sp.qi s * q - Sp.qi (Sp.rea 0 r))).den:Int))),vi y,vi z],vi 0]) (by kernel_rfl) (bc (Zaj (fun h => d26 ((ZaQ Zaa).1 h))) (bc (beq_self_eq_true _) (bc rfl (bc rfl b0)))) q0 c0 (by (try rw [w28]);all_goals exact H)
noncomputable abbrev zNpF9:=ag [vi 0,vi 0,vi 0]
noncomputable abbrev zNpF10 (s:Int) (q:Rat) (r:Int):=Sp.pM (-Sp.flo (-(Sp.qi s*q-Sp.qi (Sp.rea 1 r))).num (↑(-(Sp.qi s*q-Sp.qi (Sp.rea 1 r))).den:Int))
noncomputable abbrev Zez (x:Int) (y:Int) (z:Int):=ag [vi x,vi y,vi z]
noncomputable abbrev zNpF12 (s:Int) (q:Rat) (r:Int):=Sp.flo (-(Sp.qi s*q-Sp.qi (Sp.rea 1 r))).num (↑(-(Sp.qi s*q-Sp.qi (Sp.rea 1 r))).den:Int)
noncomputable abbrev zNpF13 (s:Int) (y:Int) (q:Rat) (r:Int):=Sp.sgnI ((Sp.qi (s*y)).num*(↑(Sp.qi s*q-Sp.qi (Sp.rea 1 r)).den:Int)-(Sp.qi s*q-Sp.qi (Sp.rea 1 r)).num*(↑(Sp.qi (s*y)).den:Int))>=0
noncomputable abbrev zNpF14 (s:Int) (q:Rat) (r:Int):=tu [vi (-Sp.flo (-(Sp.qi s*q-Sp.qi (Sp.rea 1 r))).num (↑(-(Sp.qi s*q-Sp.qi (Sp.rea 1 r))).den:Int)),vb true]
noncomputable abbrev zNpF15 (s:Int) (y:Int) (q:Rat) (r:Int):=Sp.sgnI ((Sp.qi (s*y)).num*(↑(Sp.qi s*q-Sp.qi (Sp.rea 1 r)).den:Int)-(Sp.qi s*q-Sp.qi (Sp.rea 1 r)).num*(↑(Sp.qi (s*y)).den:Int))
theorem pTouch1 (f g:Bool) (q:Rat) (x y z s r m:Int)  (dq:AV) (H :
  (((¬Sp.chk 1 s r = 0) \/ (m < 0)) -> tu [ag [vi 0,vi 0,vi 0],vi 1] = dq) /\
  (¬((¬Sp.chk 1 s r = 0) \/ (m < 0)) -> ((¬(Sp.pP x y z)) -> tu [ag [vi 0,vi 0,vi 0],vi 11] = dq) /\
   (¬(¬(Sp.pP x y z)) -> (Sp.inI s) /\
    (-9223372036854775808 <= s * y /\ s * y <= 9223372036854775807) /\
    (Sp.okR (Sp.qi s) /\ Sp.okR q) /\
    (Sp.inI (Sp.rea 1 r)) /\
    (Sp.okR (Sp.qi s * q) /\ Sp.okR (Sp.qi (Sp.rea 1 r))) /\
    (Sp.inI (s * y)) /\
    (Sp.okR (Sp.qi (s * y)) /\ Sp.okR (Sp.qi s * q - Sp.qi (Sp.rea 1 r))) /\
    ((Sp.sgnI ((Sp.qi (s * y)).num * (↑(Sp.qi s * q - Sp.qi (Sp.rea 1 r)).den:Int) - (Sp.qi s * q - Sp.qi (Sp.rea 1 r)).num * (↑(Sp.qi (s * y)).den:Int)) >= 0) -> tu [ag [vi x,vi y,vi z],vi 0] = dq) /\
    (¬(Sp.sgnI ((Sp.qi (s * y)).num * (↑(Sp.qi s * q - Sp.qi (Sp.rea 1 r)).den:Int) - (Sp.qi s * q - Sp.qi (Sp.rea 1 r)).num * (↑(Sp.qi (s * y)).den:Int)) >= 0) -> (Sp.okB (Sp.qi s * q - Sp.qi (Sp.rea 1 r)).num) /\
     (Sp.okB (-(Sp.qi s * q - Sp.qi (Sp.rea 1 r))).num /\ Sp.okB (↑(-(Sp.qi s * q - Sp.qi (Sp.rea 1 r))).den:Int)) /\
     (Sp.okB (Sp.flo (-(Sp.qi s * q - Sp.qi (Sp.rea 1 r))).num (↑(-(Sp.qi s * q - Sp.qi (Sp.rea 1 r))).den:Int))) /\
     (Sp.okB (-Sp.flo (-(Sp.qi s * q - Sp.qi (Sp.rea 1 r))).num (↑(-(Sp.qi s * q - Sp.qi (Sp.rea 1 r))).den:Int)) /\ Sp.okB (s * y)) /\
     (Sp.inI m) /\
     (Sp.okB (-Sp.flo (-(Sp.qi s * q - Sp.qi (Sp.rea 1 r))).num (↑(-(Sp.qi s * q - Sp.qi (Sp.rea 1 r))).den:Int) - s * y) /\ Sp.okB m) /\
     ((Sp.sgnI (-Sp.flo (-(Sp.qi s * q - Sp.qi (Sp.rea 1 r))).num (↑(-(Sp.qi s * q - Sp.qi (Sp.rea 1 r))).den:Int) - s * y - m) > 0) -> tu [ag [vi 0,vi 0,vi 0],vi 4] = dq) /\
     (¬(Sp.sgnI (-Sp.flo (-(Sp.qi s * q - Sp.qi (Sp.rea 1 r))).num (↑(-(Sp.qi s * q - Sp.qi (Sp.rea 1 r))).den:Int) - s * y - m) > 0) -> (-2000000000000000000 <= -Sp.flo (-(Sp.qi s * q - Sp.qi (Sp.rea 1 r))).num (↑(-(Sp.qi s * q - Sp.qi (Sp.rea 1 r))).den:Int) /\ -Sp.flo (-(Sp.qi s * q - Sp.qi (Sp.rea 1 r))).num (↑(-(Sp.qi s * q - Sp.qi (Sp.rea 1 r))).den:Int) <= 2000000000000000000) /\
      ((¬(Sp.pM (-Sp.flo (-(Sp.qi s * q - Sp.qi (Sp.rea 1 r))).num (↑(-(Sp.qi s * q - Sp.qi (Sp.rea 1 r))).den:Int)))) -> tu [ag [vi 0,vi 0,vi 0],vi 11] = dq) /\
      (¬(¬(Sp.pM (-Sp.flo (-(Sp.qi s * q - Sp.qi (Sp.rea 1 r))).num (↑(-(Sp.qi s * q - Sp.qi (Sp.rea 1 r))).den:Int)))) -> (-9223372036854775808 <= s * -Sp.flo (-(Sp.qi s * q - Sp.qi (Sp.rea 1 r))).num (↑(-(Sp.qi s * q - Sp.qi (Sp.rea 1 r))).den:Int) /\ s * -Sp.flo (-(Sp.qi s * q - Sp.qi (Sp.rea 1 r))).num (↑(-(Sp.qi s * q - Sp.qi (Sp.rea 1 r))).den:Int) <= 9223372036854775807) /\
       tu [ag [vi x,vi (s * -Sp.flo (-(Sp.qi s * q - Sp.qi (Sp.rea 1 r))).num (↑(-(Sp.qi s * q - Sp.qi (Sp.rea 1 r))).den:Int)),vi z],vi 0] = dq)))))) :
 Zej f g q x y z s r m (Zae dq):=by
 unfold Zej
 refine Zac (G:=Zab kp10 [(1,3,.call (vi (Sp.chk 1 s r)) none)] []) 7 [] ⟨(atC (cd Try.f10) [1,0,1,1]),[(1,vi 1),(2,vi s),(4,vi r),(5,vi m),(6,AV.ptr 0 0 0 0),(9,AV.ptr 1 0 0 0),(12,AV.ptr 2 0 0 0),(32,vb (bif Sp.chk 1 s r != 0 then true else decide (m < 0)))],[⟨[(Zez x y z)],3,0,false,false⟩,⟨[ratA f g q],4,0,false,false⟩,⟨[zNpF9],3,0,false,false⟩],_,[],_⟩ (by kernel_rfl) b0 q0 (ce (@ev34 (1) (s) (r)) c0) ?_
 rcases xq H with ⟨d2,H⟩|⟨d2,H⟩
 ·exact Zag (G:=Zab kp10 [] []) 1000 [true] (tu [zNpF9,vi 1]) (by kernel_rfl) (bc (Zak ((ZaX i_ne Zaa).2 d2)) (bc rfl b0)) q0 c0 H
 ·refine Zac (G:=Zab kp10 [(4,1,.call (vb (decide (Sp.pP x y z))) none)] []) 5 [false] ⟨(atC (cd Try.f10) [1,1,0,1]),[(1,vi 1),(2,vi s),(4,vi r),(5,vi m),(6,AV.ptr 0 0 0 0),(9,AV.ptr 1 0 0 0),(12,AV.ptr 2 0 0 0),(36,vb !decide (Sp.pP x y z))],[⟨[(Zez x y z)],3,0,false,false⟩,⟨[ratA f g q],4,0,false,false⟩,⟨[zNpF9],3,0,false,false⟩],_,[],_⟩ (by kernel_rfl) (bc (Zaj (fun h => d2 ((ZaX i_ne Zaa).1 h))) (bc rfl b0)) q0 (ce (@ev35 (x) (y) (z)) c0) ?_
  rcases xq H with ⟨d4,H⟩|⟨d4,H⟩
  ·exact Zag (G:=Zab kp10 [] []) 1000 [true] (tu [zNpF9,vi 11]) (by kernel_rfl) (bc (Zak ((ZaQ Zaa).2 d4)) (bc rfl b0)) q0 c0 H
  ·obtain ⟨k5,k6,H⟩:=H
   have w7:wi (s * y) = s * y:=wI64 k6
   obtain ⟨k8,k9,k10,k11,k12,H⟩:=H
   refine Zac (G:=Zab kp10 [(6,1,.call (ratF (Sp.qi s)) none),(7,1,.call (AV.ptr 0 0 0 1) none),(9,2,.call (ratF (Sp.qi s * q)) none),(9,5,.call (vi (Sp.rea 1 r)) none),(9,6,.call (ratF (Sp.qi (Sp.rea 1 r))) none),(9,7,.call (ratF (Sp.qi s * q - Sp.qi (Sp.rea 1 r))) none),(10,1,.call (ratF (Sp.qi (s * y))) none),(10,3,.call (vi (zNpF15 s y q r)) none)] []) 13 [false] ⟨(atC (cd Try.f10) [1,1,1,1,1,1,1,0,1]),[(2,vi s),(5,vi m),(6,AV.ptr 0 0 0 0),(12,AV.ptr 2 0 0 0),(16,AV.ptr 0 0 0 1),(17,vi (wi (s * y))),(18,AV.ptr 4 0 0 0),(59,vb (decide (zNpF13 s y q r)))],[⟨[(Zez x y z)],3,0,false,false⟩,⟨[ratA f g q],4,0,false,false⟩,⟨[zNpF9],3,0,false,false⟩,⟨[ratF (Sp.qi s)],4,0,false,false⟩,⟨[ratF (Sp.qi s * q - Sp.qi (Sp.rea 1 r))],4,0,false,false⟩],_,[],[⟨true,false,36,[vi s],[],ratF (Sp.qi s),[]⟩,⟨true,true,37,[AV.ptr 0 0 0 0,vi 1],[⟨[(Zez x y z)],3,0,false,false⟩],AV.ptr 0 0 0 1,[⟨[(Zez x y z)],3,0,false,false⟩]⟩,⟨true,false,39,[ratF (Sp.qi s),ratA f g q],[],ratF (Sp.qi s * q),[]⟩,⟨true,false,40,[vi 1,vi r],[],vi (Sp.rea 1 r),[]⟩,⟨true,false,36,[vi (Sp.rea 1 r)],[],ratF (Sp.qi (Sp.rea 1 r)),[]⟩,⟨true,false,38,[ratF (Sp.qi s * q),ratF (Sp.qi (Sp.rea 1 r))],[],ratF (Sp.qi s * q - Sp.qi (Sp.rea 1 r)),[]⟩,⟨true,false,36,[vi (wi (s * y))],[],ratF (Sp.qi (s * y)),[]⟩,⟨true,false,41,[ratF (Sp.qi (s * y)),ratF (Sp.qi s * q - Sp.qi (Sp.rea 1 r))],[],vi (zNpF15 s y q r),[]⟩]⟩ (by kernel_rfl) (bc (Zaj (fun h => d4 ((ZaQ Zaa).1 h))) (bc rfl (bc rfl (bc rfl (bc rfl (bc rfl (bc rfl b0))))))) q0 (cc (fun _ => (@ev36 (s) k5)) (cc (fun _ => (@evo37_b (x) (y) (z))) (cc (fun _ => (@ev39 (false) (false) (f) (g) (Sp.qi s) (q) k8)) (cc (fun _ => (@ev40 (1) (r))) (cc (fun _ => (@ev36 (Sp.rea 1 r) k9)) (cc (fun _ => (@ev38 (false) (false) (false) (false) (Sp.qi s * q) (Sp.qi (Sp.rea 1 r)) k10)) (cc (fun _ => (by (try rw [w7]);all_goals exact (@ev36 (s * y) k11))) (cc (fun _ => (@ev41 (false) (false) (false) (false) (Sp.qi (s * y)) (Sp.qi s * q - Sp.qi (Sp.rea 1 r)) k12)) c0)))))))) ?_
   rcases xq H with ⟨d14,H⟩|⟨d14,H⟩
   ·exact Zag (G:=Zab kp10 [] []) 1000 [true] (tu [(Zez x y z),vi 0]) (by kernel_rfl) (bc (Zak (Zaa.2 d14)) (bc rfl (bc rfl b0))) q0 c0 H
   ·obtain ⟨k15,k16,k17,k18,k19,k20,H⟩:=H
    refine Zac (G:=Zab kp10 [(12,1,.call (ratF (-(Sp.qi s * q - Sp.qi (Sp.rea 1 r)))) none),(12,2,.call (bigA false (zNpF12 s q r)) none),(12,3,.call (bigA false (-Sp.flo (-(Sp.qi s * q - Sp.qi (Sp.rea 1 r))).num (↑(-(Sp.qi s * q - Sp.qi (Sp.rea 1 r))).den:Int))) none),(13,2,.call (bigA false (s * y)) none),(13,3,.call (bigA false (-Sp.flo (-(Sp.qi s * q - Sp.qi (Sp.rea 1 r))).num (↑(-(Sp.qi s * q - Sp.qi (Sp.rea 1 r))).den:Int) - s * y)) none),(14,2,.call (bigA false m) none),(14,3,.call (vi (Sp.sgnI (-Sp.flo (-(Sp.qi s * q - Sp.qi (Sp.rea 1 r))).num (↑(-(Sp.qi s * q - Sp.qi (Sp.rea 1 r))).den:Int) - s * y - m))) none)] []) 9 [false] ⟨(atC (cd Try.f10) [1,1,1,1,1,1,1,1,1,1,0,1]),[(2,vi s),(6,AV.ptr 0 0 0 0),(12,AV.ptr 2 0 0 0),(16,AV.ptr 0 0 0 1),(19,AV.ptr 5 0 0 0),(73,vb (decide (Sp.sgnI (-Sp.flo (-(Sp.qi s * q - Sp.qi (Sp.rea 1 r))).num (↑(-(Sp.qi s * q - Sp.qi (Sp.rea 1 r))).den:Int) - s * y - m) > 0)))],[⟨[(Zez x y z)],3,0,false,false⟩,⟨[ratA f g q],4,0,false,false⟩,⟨[zNpF9],3,0,false,false⟩,⟨[ratF (Sp.qi s)],4,0,false,false⟩,⟨[ratF (Sp.qi s * q - Sp.qi (Sp.rea 1 r))],4,0,false,false⟩,⟨[bigA false (-Sp.flo (-(Sp.qi s * q - Sp.qi (Sp.rea 1 r))).num (↑(-(Sp.qi s * q - Sp.qi (Sp.rea 1 r))).den:Int))],2,0,false,false⟩,⟨[bigA false (-Sp.flo (-(Sp.qi s * q - Sp.qi (Sp.rea 1 r))).num (↑(-(Sp.qi s * q - Sp.qi (Sp.rea 1 r))).den:Int) - s * y)],2,0,false,false⟩],_,[],[pc 44 [ratF (Sp.qi s * q - Sp.qi (Sp.rea 1 r))] (ratF (-(Sp.qi s * q - Sp.qi (Sp.rea 1 r)))),pc 43 [ratF (-(Sp.qi s * q - Sp.qi (Sp.rea 1 r)))] (bigA false (zNpF12 s q r)),pc 42 [bigA false (zNpF12 s q r)] (bigA false (-Sp.flo (-(Sp.qi s * q - Sp.qi (Sp.rea 1 r))).num (↑(-(Sp.qi s * q - Sp.qi (Sp.rea 1 r))).den:Int))),pc 46 [vi (wi (s * y))] (bigA false (s * y)),pc 45 [bigA false (-Sp.flo (-(Sp.qi s * q - Sp.qi (Sp.rea 1 r))).num (↑(-(Sp.qi s * q - Sp.qi (Sp.rea 1 r))).den:Int)),bigA false (s * y)] (bigA false (-Sp.flo (-(Sp.qi s * q - Sp.qi (Sp.rea 1 r))).num (↑(-(Sp.qi s * q - Sp.qi (Sp.rea 1 r))).den:Int) - s * y)),pc 46 [vi m] (bigA false m),pc 47 [bigA false (-Sp.flo (-(Sp.qi s * q - Sp.qi (Sp.rea 1 r))).num (↑(-(Sp.qi s * q - Sp.qi (Sp.rea 1 r))).den:Int) - s * y),bigA false m] (vi (Sp.sgnI (-Sp.flo (-(Sp.qi s * q - Sp.qi (Sp.rea 1 r))).num (↑(-(Sp.qi s * q - Sp.qi (Sp.rea 1 r))).den:Int) - s * y - m)))]⟩ (by kernel_rfl) (bc (Zaj (fun h => d14 (Zaa.1 h))) (bc rfl (bc rfl (bc rfl (bc rfl (bc rfl b0)))))) q0 (ce (@ev44 (false) (false) (Sp.qi s * q - Sp.qi (Sp.rea 1 r)) k15) (ce (@ev43 (false) (false) (-(Sp.qi s * q - Sp.qi (Sp.rea 1 r))) k16) (ce (@ev42 (false) (zNpF12 s q r) k17) (ce (by (try rw [w7]);all_goals exact (@ev46 (s * y) k11)) (ce (@ev45 (false) (false) (-Sp.flo (-(Sp.qi s * q - Sp.qi (Sp.rea 1 r))).num (↑(-(Sp.qi s * q - Sp.qi (Sp.rea 1 r))).den:Int)) (s * y) k18) (ce (@ev46 (m) k19) (ce (@ev47 (false) (false) (-Sp.flo (-(Sp.qi s * q - Sp.qi (Sp.rea 1 r))).num (↑(-(Sp.qi s * q - Sp.qi (Sp.rea 1 r))).den:Int) - s * y) (m) k20) c0))))))) ?_
    rcases xq H with ⟨d22,H⟩|⟨d22,H⟩
    ·exact Zag (G:=Zab kp10 [] []) 1000 [true] (tu [zNpF9,vi 4]) (by kernel_rfl) (bc (Zak (Zaa.2 d22)) (bc rfl b0)) q0 c0 H
    ·obtain ⟨k23,H⟩:=H
     refine Zac (G:=Zab kp10 [(16,1,.call ((zNpF14 s q r)) none),(17,4,.call (vb (decide (zNpF10 s q r))) none)] []) 7 [false] ⟨(atC (cd Try.f10) [1,1,1,1,1,1,1,1,1,1,1,1,0,1]),[(2,vi s),(6,AV.ptr 0 0 0 0),(12,AV.ptr 2 0 0 0),(16,AV.ptr 0 0 0 1),(21,vi (-Sp.flo (-(Sp.qi s * q - Sp.qi (Sp.rea 1 r))).num (↑(-(Sp.qi s * q - Sp.qi (Sp.rea 1 r))).den:Int))),(86,vb !decide (zNpF10 s q r))],[⟨[(Zez x y z)],3,0,false,false⟩,⟨[ratA f g q],4,0,false,false⟩,⟨[zNpF9],3,0,false,false⟩,⟨[ratF (Sp.qi s)],4,0,false,false⟩,⟨[ratF (Sp.qi s * q - Sp.qi (Sp.rea 1 r))],4,0,false,false⟩,⟨[bigA false (-Sp.flo (-(Sp.qi s * q - Sp.qi (Sp.rea 1 r))).num (↑(-(Sp.qi s * q - Sp.qi (Sp.rea 1 r))).den:Int))],2,0,false,false⟩,⟨[bigA false (-Sp.flo (-(Sp.qi s * q - Sp.qi (Sp.rea 1 r))).num (↑(-(Sp.qi s * q - Sp.qi (Sp.rea 1 r))).den:Int) - s * y)],2,0,false,false⟩],_,[],[⟨true,false,48,[bigA false (-Sp.flo (-(Sp.qi s * q - Sp.qi (Sp.rea 1 r))).num (↑(-(Sp.qi s * q - Sp.qi (Sp.rea 1 r))).den:Int))],[],(zNpF14 s q r),[]⟩,⟨false == false && true && true,false,49,[vi (-Sp.flo (-(Sp.qi s * q - Sp.qi (Sp.rea 1 r))).num (↑(-(Sp.qi s * q - Sp.qi (Sp.rea 1 r))).den:Int))],[],vb (decide (zNpF10 s q r)),[]⟩]⟩ (by kernel_rfl) (bc (Zaj (fun h => d22 (Zaa.1 h))) (bc rfl b0)) q0 (cc (fun _ => (@ev48 (false) (-Sp.flo (-(Sp.qi s * q - Sp.qi (Sp.rea 1 r))).num (↑(-(Sp.qi s * q - Sp.qi (Sp.rea 1 r))).den:Int)) k23)) (cc (fun hc => ((@ev49 (-Sp.flo (-(Sp.qi s * q - Sp.qi (Sp.rea 1 r))).num (↑(-(Sp.qi s * q - Sp.qi (Sp.rea 1 r))).den:Int))):Ev M1 (Conf.pure 49 [vi (-Sp.flo (-(Sp.qi s * q - Sp.qi (Sp.rea 1 r))).num (↑(-(Sp.qi s * q - Sp.qi (Sp.rea 1 r))).den:Int))]) (vb (decide (zNpF10 s q r))) [])) c0)) ?_
     rcases xq H with ⟨d26,H⟩|⟨d26,H⟩
     ·exact Zag (G:=Zab kp10 [] []) 1000 [true] (tu [zNpF9,vi 11]) (by kernel_rfl) (bc (Zak ((ZaQ Zaa).2 d26)) (bc rfl b0)) q0 c0 H
     ·obtain ⟨k27,H⟩:=H
      have w28:wi (s * -Sp.flo (-(Sp.qi s * q - Sp.qi (Sp.rea 1 r))).num (↑(-(Sp.qi s * q - Sp.qi (Sp.rea 1 r))).den:Int)) = s * -Sp.flo (-(Sp.qi s * q - Sp.qi (Sp.rea 1 r))).num (↑(-(Sp.qi s * q - Sp.qi (Sp.rea 1 r))).den:Int):=wI64 k27
      exact Zag (G:=Zab kp10 [] []) 1000 [false] (asm:=[(!decide (zNpF10 s q r)) == false,0 == 0,true,true]) (tu [ag [vi x,vi (wi (s * -Sp.flo (-(Sp.qi s * q - Sp.qi (Sp.rea 1 r))).num (↑(-(Sp.qi s * q - Sp.qi (Sp.rea 1 r))).den:Int))),vi z],vi 0]) (by kernel_rfl) (bc (Zaj (fun h => d26 ((ZaQ Zaa).1 h))) (bc (beq_self_eq_true _) (bc rfl (bc rfl b0)))) q0 c0 (by (try rw [w28]);all_goals exact H)
noncomputable abbrev ZdP:=ag [vi 0,vi 0,vi 0]
noncomputable abbrev zNpF17 (s:Int) (q:Rat) (r:Int):=Sp.pM (-Sp.flo (-(Sp.qi s*q-Sp.qi (Sp.rea 2 r))).num (↑(-(Sp.qi s*q-Sp.qi (Sp.rea 2 r))).den:Int))
noncomputable abbrev Zey (x:Int) (y:Int) (z:Int):=ag [vi x,vi y,vi z]
noncomputable abbrev zNpF19 (s:Int) (q:Rat) (r:Int):=Sp.flo (-(Sp.qi s*q-Sp.qi (Sp.rea 2 r))).num (↑(-(Sp.qi s*q-Sp.qi (Sp.rea 2 r))).den:Int)
noncomputable abbrev zNpF20 (s:Int) (z:Int) (q:Rat) (r:Int):=Sp.sgnI ((Sp.qi (s*z)).num*(↑(Sp.qi s*q-Sp.qi (Sp.rea 2 r)).den:Int)-(Sp.qi s*q-Sp.qi (Sp.rea 2 r)).num*(↑(Sp.qi (s*z)).den:Int))>=0
noncomputable abbrev zNpF21 (s:Int) (q:Rat) (r:Int):=tu [vi (-Sp.flo (-(Sp.qi s*q-Sp.qi (Sp.rea 2 r))).num (↑(-(Sp.qi s*q-Sp.qi (Sp.rea 2 r))).den:Int)),vb true]
noncomputable abbrev zNpF22 (s:Int) (z:Int) (q:Rat) (r:Int):=Sp.sgnI ((Sp.qi (s*z)).num*(↑(Sp.qi s*q-Sp.qi (Sp.rea 2 r)).den:Int)-(Sp.qi s*q-Sp.qi (Sp.rea 2 r)).num*(↑(Sp.qi (s*z)).den:Int))
theorem pTouch2 (f g:Bool) (q:Rat) (x y z s r m:Int)  (dq:AV) (H :
  (((¬Sp.chk 2 s r = 0) \/ (m < 0)) -> tu [ag [vi 0,vi 0,vi 0],vi 1] = dq) /\
  (¬((¬Sp.chk 2 s r = 0) \/ (m < 0)) -> ((¬(Sp.pP x y z)) -> tu [ag [vi 0,vi 0,vi 0],vi 11] = dq) /\
   (¬(¬(Sp.pP x y z)) -> (Sp.inI s) /\
    (-9223372036854775808 <= s * z /\ s * z <= 9223372036854775807) /\
    (Sp.okR (Sp.qi s) /\ Sp.okR q) /\
    (Sp.inI (Sp.rea 2 r)) /\
    (Sp.okR (Sp.qi s * q) /\ Sp.okR (Sp.qi (Sp.rea 2 r))) /\
    (Sp.inI (s * z)) /\
    (Sp.okR (Sp.qi (s * z)) /\ Sp.okR (Sp.qi s * q - Sp.qi (Sp.rea 2 r))) /\
    ((Sp.sgnI ((Sp.qi (s * z)).num * (↑(Sp.qi s * q - Sp.qi (Sp.rea 2 r)).den:Int) - (Sp.qi s * q - Sp.qi (Sp.rea 2 r)).num * (↑(Sp.qi (s * z)).den:Int)) >= 0) -> tu [ag [vi x,vi y,vi z],vi 0] = dq) /\
    (¬(Sp.sgnI ((Sp.qi (s * z)).num * (↑(Sp.qi s * q - Sp.qi (Sp.rea 2 r)).den:Int) - (Sp.qi s * q - Sp.qi (Sp.rea 2 r)).num * (↑(Sp.qi (s * z)).den:Int)) >= 0) -> (Sp.okB (Sp.qi s * q - Sp.qi (Sp.rea 2 r)).num) /\
     (Sp.okB (-(Sp.qi s * q - Sp.qi (Sp.rea 2 r))).num /\ Sp.okB (↑(-(Sp.qi s * q - Sp.qi (Sp.rea 2 r))).den:Int)) /\
     (Sp.okB (Sp.flo (-(Sp.qi s * q - Sp.qi (Sp.rea 2 r))).num (↑(-(Sp.qi s * q - Sp.qi (Sp.rea 2 r))).den:Int))) /\
     (Sp.okB (-Sp.flo (-(Sp.qi s * q - Sp.qi (Sp.rea 2 r))).num (↑(-(Sp.qi s * q - Sp.qi (Sp.rea 2 r))).den:Int)) /\ Sp.okB (s * z)) /\
     (Sp.inI m) /\
     (Sp.okB (-Sp.flo (-(Sp.qi s * q - Sp.qi (Sp.rea 2 r))).num (↑(-(Sp.qi s * q - Sp.qi (Sp.rea 2 r))).den:Int) - s * z) /\ Sp.okB m) /\
     ((Sp.sgnI (-Sp.flo (-(Sp.qi s * q - Sp.qi (Sp.rea 2 r))).num (↑(-(Sp.qi s * q - Sp.qi (Sp.rea 2 r))).den:Int) - s * z - m) > 0) -> tu [ag [vi 0,vi 0,vi 0],vi 4] = dq) /\
     (¬(Sp.sgnI (-Sp.flo (-(Sp.qi s * q - Sp.qi (Sp.rea 2 r))).num (↑(-(Sp.qi s * q - Sp.qi (Sp.rea 2 r))).den:Int) - s * z - m) > 0) -> (-2000000000000000000 <= -Sp.flo (-(Sp.qi s * q - Sp.qi (Sp.rea 2 r))).num (↑(-(Sp.qi s * q - Sp.qi (Sp.rea 2 r))).den:Int) /\ -Sp.flo (-(Sp.qi s * q - Sp.qi (Sp.rea 2 r))).num (↑(-(Sp.qi s * q - Sp.qi (Sp.rea 2 r))).den:Int) <= 2000000000000000000) /\
      ((¬(Sp.pM (-Sp.flo (-(Sp.qi s * q - Sp.qi (Sp.rea 2 r))).num (↑(-(Sp.qi s * q - Sp.qi (Sp.rea 2 r))).den:Int)))) -> tu [ag [vi 0,vi 0,vi 0],vi 11] = dq) /\
      (¬(¬(Sp.pM (-Sp.flo (-(Sp.qi s * q - Sp.qi (Sp.rea 2 r))).num (↑(-(Sp.qi s * q - Sp.qi (Sp.rea 2 r))).den:Int)))) -> (-9223372036854775808 <= s * -Sp.flo (-(Sp.qi s * q - Sp.qi (Sp.rea 2 r))).num (↑(-(Sp.qi s * q - Sp.qi (Sp.rea 2 r))).den:Int) /\ s * -Sp.flo (-(Sp.qi s * q - Sp.qi (Sp.rea 2 r))).num (↑(-(Sp.qi s * q - Sp.qi (Sp.rea 2 r))).den:Int) <= 9223372036854775807) /\
       tu [ag [vi x,vi y,vi (s * -Sp.flo (-(Sp.qi s * q - Sp.qi (Sp.rea 2 r))).num (↑(-(Sp.qi s * q - Sp.qi (Sp.rea 2 r))).den:Int))],vi 0] = dq)))))) :
 Zei f g q x y z s r m (Zae dq):=by
 unfold Zei
 refine Zac (G:=Zab kp10 [(1,3,.call (vi (Sp.chk 2 s r)) none)] []) 7 [] ⟨(atC (cd Try.f10) [1,0,1,1]),[(1,vi 2),(2,vi s),(4,vi r),(5,vi m),(6,AV.ptr 0 0 0 0),(9,AV.ptr 1 0 0 0),(12,AV.ptr 2 0 0 0),(32,vb (bif Sp.chk 2 s r != 0 then true else decide (m < 0)))],[⟨[(Zey x y z)],3,0,false,false⟩,⟨[ratA f g q],4,0,false,false⟩,⟨[ZdP],3,0,false,false⟩],_,[],_⟩ (by kernel_rfl) b0 q0 (ce (@ev34 (2) (s) (r)) c0) ?_
 rcases xq H with ⟨d2,H⟩|⟨d2,H⟩
 ·exact Zag (G:=Zab kp10 [] []) 1000 [true] (tu [ZdP,vi 1]) (by kernel_rfl) (bc (Zak ((ZaX i_ne Zaa).2 d2)) (bc rfl b0)) q0 c0 H
 ·refine Zac (G:=Zab kp10 [(4,1,.call (vb (decide (Sp.pP x y z))) none)] []) 5 [false] ⟨(atC (cd Try.f10) [1,1,0,1]),[(1,vi 2),(2,vi s),(4,vi r),(5,vi m),(6,AV.ptr 0 0 0 0),(9,AV.ptr 1 0 0 0),(12,AV.ptr 2 0 0 0),(36,vb !decide (Sp.pP x y z))],[⟨[(Zey x y z)],3,0,false,false⟩,⟨[ratA f g q],4,0,false,false⟩,⟨[ZdP],3,0,false,false⟩],_,[],_⟩ (by kernel_rfl) (bc (Zaj (fun h => d2 ((ZaX i_ne Zaa).1 h))) (bc rfl b0)) q0 (ce (@ev35 (x) (y) (z)) c0) ?_
  rcases xq H with ⟨d4,H⟩|⟨d4,H⟩
  ·exact Zag (G:=Zab kp10 [] []) 1000 [true] (tu [ZdP,vi 11]) (by kernel_rfl) (bc (Zak ((ZaQ Zaa).2 d4)) (bc rfl b0)) q0 c0 H
  ·obtain ⟨k5,k6,H⟩:=H
   have w7:wi (s * z) = s * z:=wI64 k6
   obtain ⟨k8,k9,k10,k11,k12,H⟩:=H
   refine Zac (G:=Zab kp10 [(6,1,.call (ratF (Sp.qi s)) none),(7,1,.call (AV.ptr 0 0 0 2) none),(9,2,.call (ratF (Sp.qi s * q)) none),(9,5,.call (vi (Sp.rea 2 r)) none),(9,6,.call (ratF (Sp.qi (Sp.rea 2 r))) none),(9,7,.call (ratF (Sp.qi s * q - Sp.qi (Sp.rea 2 r))) none),(10,1,.call (ratF (Sp.qi (s * z))) none),(10,3,.call (vi (zNpF22 s z q r)) none)] []) 13 [false] ⟨(atC (cd Try.f10) [1,1,1,1,1,1,1,0,1]),[(2,vi s),(5,vi m),(6,AV.ptr 0 0 0 0),(12,AV.ptr 2 0 0 0),(16,AV.ptr 0 0 0 2),(17,vi (wi (s * z))),(18,AV.ptr 4 0 0 0),(59,vb (decide (zNpF20 s z q r)))],[⟨[(Zey x y z)],3,0,false,false⟩,⟨[ratA f g q],4,0,false,false⟩,⟨[ZdP],3,0,false,false⟩,⟨[ratF (Sp.qi s)],4,0,false,false⟩,⟨[ratF (Sp.qi s * q - Sp.qi (Sp.rea 2 r))],4,0,false,false⟩],_,[],[⟨true,false,36,[vi s],[],ratF (Sp.qi s),[]⟩,⟨true,true,37,[AV.ptr 0 0 0 0,vi 2],[⟨[(Zey x y z)],3,0,false,false⟩],AV.ptr 0 0 0 2,[⟨[(Zey x y z)],3,0,false,false⟩]⟩,⟨true,false,39,[ratF (Sp.qi s),ratA f g q],[],ratF (Sp.qi s * q),[]⟩,⟨true,false,40,[vi 2,vi r],[],vi (Sp.rea 2 r),[]⟩,⟨true,false,36,[vi (Sp.rea 2 r)],[],ratF (Sp.qi (Sp.rea 2 r)),[]⟩,⟨true,false,38,[ratF (Sp.qi s * q),ratF (Sp.qi (Sp.rea 2 r))],[],ratF (Sp.qi s * q - Sp.qi (Sp.rea 2 r)),[]⟩,⟨true,false,36,[vi (wi (s * z))],[],ratF (Sp.qi (s * z)),[]⟩,⟨true,false,41,[ratF (Sp.qi (s * z)),ratF (Sp.qi s * q - Sp.qi (Sp.rea 2 r))],[],vi (zNpF22 s z q r),[]⟩]⟩ (by kernel_rfl) (bc (Zaj (fun h => d4 ((ZaQ Zaa).1 h))) (bc rfl (bc rfl (bc rfl (bc rfl (bc rfl (bc rfl b0))))))) q0 (cc (fun _ => (@ev36 (s) k5)) (cc (fun _ => (@evo37_c (x) (y) (z))) (cc (fun _ => (@ev39 (false) (false) (f) (g) (Sp.qi s) (q) k8)) (cc (fun _ => (@ev40 (2) (r))) (cc (fun _ => (@ev36 (Sp.rea 2 r) k9)) (cc (fun _ => (@ev38 (false) (false) (false) (false) (Sp.qi s * q) (Sp.qi (Sp.rea 2 r)) k10)) (cc (fun _ => (by (try rw [w7]);all_goals exact (@ev36 (s * z) k11))) (cc (fun _ => (@ev41 (false) (false) (false) (false) (Sp.qi (s * z)) (Sp.qi s * q - Sp.qi (Sp.rea 2 r)) k12)) c0)))))))) ?_
   rcases xq H with ⟨d14,H⟩|⟨d14,H⟩
   ·exact Zag (G:=Zab kp10 [] []) 1000 [true] (tu [(Zey x y z),vi 0]) (by kernel_rfl) (bc (Zak (Zaa.2 d14)) (bc rfl (bc rfl b0))) q0 c0 H
   ·obtain ⟨k15,k16,k17,k18,k19,k20,H⟩:=H
    refine Zac (G:=Zab kp10 [(12,1,.call (ratF (-(Sp.qi s * q - Sp.qi (Sp.rea 2 r)))) none),(12,2,.call (bigA false (zNpF19 s q r)) none),(12,3,.call (bigA false (-Sp.flo (-(Sp.qi s * q - Sp.qi (Sp.rea 2 r))).num (↑(-(Sp.qi s * q - Sp.qi (Sp.rea 2 r))).den:Int))) none),(13,2,.call (bigA false (s * z)) none),(13,3,.call (bigA false (-Sp.flo (-(Sp.qi s * q - Sp.qi (Sp.rea 2 r))).num (↑(-(Sp.qi s * q - Sp.qi (Sp.rea 2 r))).den:Int) - s * z)) none),(14,2,.call (bigA false m) none),(14,3,.call (vi (Sp.sgnI (-Sp.flo (-(Sp.qi s * q - Sp.qi (Sp.rea 2 r))).num (↑(-(Sp.qi s * q - Sp.qi (Sp.rea 2 r))).den:Int) - s * z - m))) none)] []) 9 [false] ⟨(atC (cd Try.f10) [1,1,1,1,1,1,1,1,1,1,0,1]),[(2,vi s),(6,AV.ptr 0 0 0 0),(12,AV.ptr 2 0 0 0),(16,AV.ptr 0 0 0 2),(19,AV.ptr 5 0 0 0),(73,vb (decide (Sp.sgnI (-Sp.flo (-(Sp.qi s * q - Sp.qi (Sp.rea 2 r))).num (↑(-(Sp.qi s * q - Sp.qi (Sp.rea 2 r))).den:Int) - s * z - m) > 0)))],[⟨[(Zey x y z)],3,0,false,false⟩,⟨[ratA f g q],4,0,false,false⟩,⟨[ZdP],3,0,false,false⟩,⟨[ratF (Sp.qi s)],4,0,false,false⟩,⟨[ratF (Sp.qi s * q - Sp.qi (Sp.rea 2 r))],4,0,false,false⟩,⟨[bigA false (-Sp.flo (-(Sp.qi s * q - Sp.qi (Sp.rea 2 r))).num (↑(-(Sp.qi s * q - Sp.qi (Sp.rea 2 r))).den:Int))],2,0,false,false⟩,⟨[bigA false (-Sp.flo (-(Sp.qi s * q - Sp.qi (Sp.rea 2 r))).num (↑(-(Sp.qi s * q - Sp.qi (Sp.rea 2 r))).den:Int) - s * z)],2,0,false,false⟩],_,[],[pc 44 [ratF (Sp.qi s * q - Sp.qi (Sp.rea 2 r))] (ratF (-(Sp.qi s * q - Sp.qi (Sp.rea 2 r)))),pc 43 [ratF (-(Sp.qi s * q - Sp.qi (Sp.rea 2 r)))] (bigA false (zNpF19 s q r)),pc 42 [bigA false (zNpF19 s q r)] (bigA false (-Sp.flo (-(Sp.qi s * q - Sp.qi (Sp.rea 2 r))).num (↑(-(Sp.qi s * q - Sp.qi (Sp.rea 2 r))).den:Int))),pc 46 [vi (wi (s * z))] (bigA false (s * z)),pc 45 [bigA false (-Sp.flo (-(Sp.qi s * q - Sp.qi (Sp.rea 2 r))).num (↑(-(Sp.qi s * q - Sp.qi (Sp.rea 2 r))).den:Int)),bigA false (s * z)] (bigA false (-Sp.flo (-(Sp.qi s * q - Sp.qi (Sp.rea 2 r))).num (↑(-(Sp.qi s * q - Sp.qi (Sp.rea 2 r))).den:Int) - s * z)),pc 46 [vi m] (bigA false m),pc 47 [bigA false (-Sp.flo (-(Sp.qi s * q - Sp.qi (Sp.rea 2 r))).num (↑(-(Sp.qi s * q - Sp.qi (Sp.rea 2 r))).den:Int) - s * z),bigA false m] (vi (Sp.sgnI (-Sp.flo (-(Sp.qi s * q - Sp.qi (Sp.rea 2 r))).num (↑(-(Sp.qi s * q - Sp.qi (Sp.rea 2 r))).den:Int) - s * z - m)))]⟩ (by kernel_rfl) (bc (Zaj (fun h => d14 (Zaa.1 h))) (bc rfl (bc rfl (bc rfl (bc rfl (bc rfl b0)))))) q0 (ce (@ev44 (false) (false) (Sp.qi s * q - Sp.qi (Sp.rea 2 r)) k15) (ce (@ev43 (false) (false) (-(Sp.qi s * q - Sp.qi (Sp.rea 2 r))) k16) (ce (@ev42 (false) (zNpF19 s q r) k17) (ce (by (try rw [w7]);all_goals exact (@ev46 (s * z) k11)) (ce (@ev45 (false) (false) (-Sp.flo (-(Sp.qi s * q - Sp.qi (Sp.rea 2 r))).num (↑(-(Sp.qi s * q - Sp.qi (Sp.rea 2 r))).den:Int)) (s * z) k18) (ce (@ev46 (m) k19) (ce (@ev47 (false) (false) (-Sp.flo (-(Sp.qi s * q - Sp.qi (Sp.rea 2 r))).num (↑(-(Sp.qi s * q - Sp.qi (Sp.rea 2 r))).den:Int) - s * z) (m) k20) c0))))))) ?_
    rcases xq H with ⟨d22,H⟩|⟨d22,H⟩
    ·exact Zag (G:=Zab kp10 [] []) 1000 [true] (tu [ZdP,vi 4]) (by kernel_rfl) (bc (Zak (Zaa.2 d22)) (bc rfl b0)) q0 c0 H
    ·obtain ⟨k23,H⟩:=H
     refine Zac (G:=Zab kp10 [(16,1,.call ((zNpF21 s q r)) none),(17,4,.call (vb (decide (zNpF17 s q r))) none)] []) 7 [false] ⟨(atC (cd Try.f10) [1,1,1,1,1,1,1,1,1,1,1,1,0,1]),[(2,vi s),(6,AV.ptr 0 0 0 0),(12,AV.ptr 2 0 0 0),(16,AV.ptr 0 0 0 2),(21,vi (-Sp.flo (-(Sp.qi s * q - Sp.qi (Sp.rea 2 r))).num (↑(-(Sp.qi s * q - Sp.qi (Sp.rea 2 r))).den:Int))),(86,vb !decide (zNpF17 s q r))],[⟨[(Zey x y z)],3,0,false,false⟩,⟨[ratA f g q],4,0,false,false⟩,⟨[ZdP],3,0,false,false⟩,⟨[ratF (Sp.qi s)],4,0,false,false⟩,⟨[ratF (Sp.qi s * q - Sp.qi (Sp.rea 2 r))],4,0,false,false⟩,⟨[bigA false (-Sp.flo (-(Sp.qi s * q - Sp.qi (Sp.rea 2 r))).num (↑(-(Sp.qi s * q - Sp.qi (Sp.rea 2 r))).den:Int))],2,0,false,false⟩,⟨[bigA false (-Sp.flo (-(Sp.qi s * q - Sp.qi (Sp.rea 2 r))).num (↑(-(Sp.qi s * q - Sp.qi (Sp.rea 2 r))).den:Int) - s * z)],2,0,false,false⟩],_,[],[⟨true,false,48,[bigA false (-Sp.flo (-(Sp.qi s * q - Sp.qi (Sp.rea 2 r))).num (↑(-(Sp.qi s * q - Sp.qi (Sp.rea 2 r))).den:Int))],[],(zNpF21 s q r),[]⟩,⟨false == false && true && true,false,49,[vi (-Sp.flo (-(Sp.qi s * q - Sp.qi (Sp.rea 2 r))).num (↑(-(Sp.qi s * q - Sp.qi (Sp.rea 2 r))).den:Int))],[],vb (decide (zNpF17 s q r)),[]⟩]⟩ (by kernel_rfl) (bc (Zaj (fun h => d22 (Zaa.1 h))) (bc rfl b0)) q0 (cc (fun _ => (@ev48 (false) (-Sp.flo (-(Sp.qi s * q - Sp.qi (Sp.rea 2 r))).num (↑(-(Sp.qi s * q - Sp.qi (Sp.rea 2 r))).den:Int)) k23)) (cc (fun hc => ((@ev49 (-Sp.flo (-(Sp.qi s * q - Sp.qi (Sp.rea 2 r))).num (↑(-(Sp.qi s * q - Sp.qi (Sp.rea 2 r))).den:Int))):Ev M1 (Conf.pure 49 [vi (-Sp.flo (-(Sp.qi s * q - Sp.qi (Sp.rea 2 r))).num (↑(-(Sp.qi s * q - Sp.qi (Sp.rea 2 r))).den:Int))]) (vb (decide (zNpF17 s q r))) [])) c0)) ?_
     rcases xq H with ⟨d26,H⟩|⟨d26,H⟩
     ·exact Zag (G:=Zab kp10 [] []) 1000 [true] (tu [ZdP,vi 11]) (by kernel_rfl) (bc (Zak ((ZaQ Zaa).2 d26)) (bc rfl b0)) q0 c0 H
     ·obtain ⟨k27,H⟩:=H
      have w28:wi (s * -Sp.flo (-(Sp.qi s * q - Sp.qi (Sp.rea 2 r))).num (↑(-(Sp.qi s * q - Sp.qi (Sp.rea 2 r))).den:Int)) = s * -Sp.flo (-(Sp.qi s * q - Sp.qi (Sp.rea 2 r))).num (↑(-(Sp.qi s * q - Sp.qi (Sp.rea 2 r))).den:Int):=wI64 k27
      exact Zag (G:=Zab kp10 [] []) 1000 [false] (asm:=[(!decide (zNpF17 s q r)) == false,0 == 0,true,true]) (tu [ag [vi x,vi y,vi (wi (s * -Sp.flo (-(Sp.qi s * q - Sp.qi (Sp.rea 2 r))).num (↑(-(Sp.qi s * q - Sp.qi (Sp.rea 2 r))).den:Int)))],vi 0]) (by kernel_rfl) (bc (Zaj (fun h => d26 ((ZaQ Zaa).1 h))) (bc (beq_self_eq_true _) (bc rfl (bc rfl b0)))) q0 c0 (by (try rw [w28]);all_goals exact H)
end Go.Av

namespace Go.Av
open Go.Proofs
theorem pcmp_ge {r s:Rat}:Sp.sgnI (r.num * (s.den:Int) - s.num * (r.den:Int)) >= 0 ↔ s <= r:=by
 rw [Rat.le_iff]
 generalize r.num * (s.den:Int) = u
 generalize s.num * (r.den:Int) = v
 unfold Sp.sgnI
 split
 ·omega
 ·split <;> omega
theorem sgn_gt {n:Int}:Sp.sgnI n > 0 ↔ 0 < n:=by
 unfold Sp.sgnI
 split
 ·omega
 ·split <;> omega
theorem cl_eq (r:Rat):-Sp.flo (-r).num ((-r).den:Int) = r.ceil:=by
 rw [ZcR (by have:=(-r).den_pos;omega),Rat.ceil_eq_neg_floor_neg,Rat.floor_def]
theorem ceil_add (r:Rat) (n:Int):(r + Sp.qi n).ceil = r.ceil + n:=by
 rw [ZbI,Rat.ceil_eq_neg_floor_neg,Rat.ceil_eq_neg_floor_neg,show -(r + (n:Rat)) = -r + ((-n:Int):Rat) by rw [Rat.intCast_neg];grind,Rat.floor_add_intCast]
 omega
theorem ceil_bd {d:Rat} {B:Int} (h1:(((-B):Int):Rat) <= d) (h2:d <= ((B:Int):Rat)):-B <= d.ceil /\ d.ceil <= B:=by
 rw [Rat.ceil_eq_neg_floor_neg]
 have e1:-B <= (-d).floor:=Rat.le_floor_iff.2 (by rw [Rat.intCast_neg] at *;grind)
 have e2:(-d).floor <= B:=by
  have m:=Rat.floor_monotone (a:=-d) (b:=((B:Int):Rat)) (by rw [Rat.intCast_neg] at h1;grind)
  rwa [Rat.floor_intCast] at m
 omega
theorem okT2_bd {q:Rat} (h:Sp.okT 2 q):(((-1000000000000000000:Int)):Rat) <= q /\ q <= (((1000000000000000000:Int)):Rat):=by
 have f:q.num.natAbs < 1000000000000000000:=by
  have:=Zas.2 h.1
  unfold Sp.fits at this;simpa using this
 have p:=q.den_pos
 rw [Rat.le_iff,Rat.le_iff,Rat.num_intCast,Rat.den_intCast,Rat.num_intCast,Rat.den_intCast]
 constructor <;> omega
theorem qi_le {a b:Int} (h:a<=b):Sp.qi a<=Sp.qi b:=by rw [ZbI,ZbI];exact Rat.intCast_le_intCast.2 h
theorem Zfl (a:Int):-Sp.qi a=Sp.qi (-a):=by rw [ZbI,ZbI,Rat.intCast_neg]
theorem qi_add' (a b:Int):Sp.qi a+Sp.qi b=Sp.qi (a+b):=by rw [ZbI,ZbI,ZbI,Rat.intCast_add]
theorem dst_bd {x y z a s r:Int} {q:Rat} (hq:Sp.okT 2 q) (hp:Sp.pP x y z) (hw:Sp.pW a s r):-1100000000000000000 <= (Sp.dst x y z a s r q).ceil /\ (Sp.dst x y z a s r q).ceil <= 1100000000000000000:=by
 have b:=okT2_bd hq
 rw [<- ZbI,<- ZbI] at b
 have al:=alg_in hp a
 unfold Sp.pM at al
 have a1:=qi_le al.1
 have a2:=qi_le al.2
 have r1:=qi_le hw.2.2.1
 have r2:=qi_le hw.2.2.2
 have e1:Sp.qi 1 = 1:=by rw [ZbI];rfl
 have s1:Sp.qi 1000000000000000000 + Sp.qi 10000000 + Sp.qi 10000000 <= Sp.qi 1100000000000000000:=by rw [qi_add',qi_add'];exact qi_le (by omega)
 have n1:=Zfl 1000000000000000000
 have n2:=Zfl 10000000
 have n3:=Zfl 1100000000000000000
 have n4:=qi_le (show (0:Int) <= 10000000 by omega)
 have e0:Sp.qi 0 = 0:=by rw [ZbI];rfl
 refine ceil_bd ?_ ?_ <;> rw [<- ZbI] <;> unfold Sp.dst Sp.dsA <;> split <;> split <;> grind
namespace Sp
noncomputable def tcC (x y z a s r:Int) (q:Rat):Int:=(dst x y z a s r q).ceil
noncomputable def tcP (x y z a s r:Int) (q:Rat):Int:=alg x y z a+s*tcC x y z a s r q
noncomputable def Zcy (x y z a s r m:Int) (q:Rat):Int:=if pW a s r/\0<=m then (if pP x y z then (if dst x y z a s r q<=0 then 0 else if m<tcC x y z a s r q then 4 else if pM (tcP x y z a s r q) then 0 else 11) else 11) else 1
noncomputable def ZcJ (x y z a s r m:Int) (q:Rat):Int:=if Zcy x y z a s r m q=0 then (if dst x y z a s r q<=0 then x else putX x a (tcP x y z a s r q)) else 0
noncomputable def ZcZ (x y z a s r m:Int) (q:Rat):Int:=if Zcy x y z a s r m q=0 then (if dst x y z a s r q<=0 then y else putY y a (tcP x y z a s r q)) else 0
noncomputable def ZcY (x y z a s r m:Int) (q:Rat):Int:=if Zcy x y z a s r m q=0 then (if dst x y z a s r q<=0 then z else putZ z a (tcP x y z a s r q)) else 0
end Sp
noncomputable abbrev tchR (x y z a s r m:Int) (q:Rat):AV:=.tup [.agg [.int .i64 (Sp.ZcJ x y z a s r m q),.int .i64 (Sp.ZcZ x y z a s r m q),.int .i64 (Sp.ZcY x y z a s r m q)],.int .i64 (Sp.Zcy x y z a s r m q)]
theorem Zcx {x y z a s r m k:Int} {q:Rat} (h:Sp.Zcy x y z a s r m q = k) (hk:k ≠ 0):AV.tup [.agg [.int .i64 0,.int .i64 0,.int .i64 0],.int .i64 k] = tchR x y z a s r m q:=by
 have n:¬Sp.Zcy x y z a s r m q = 0:=by rw [h];exact hk
 show _ = AV.tup _
 unfold Sp.ZcJ Sp.ZcZ Sp.ZcY
 rw [if_neg n,if_neg n,if_neg n,h]
theorem tch_1 {x y z a s r m:Int} {q:Rat} (h:(¬Sp.pW a s r) \/ m < 0):Sp.Zcy x y z a s r m q = 1:=by
 unfold Sp.Zcy;rw [if_neg fun k => h.elim (fun j => j k.1) fun j => by omega]
theorem tch_11 {x y z a s r m:Int} {q:Rat} (h:Sp.pW a s r /\ 0 <= m) (k:¬Sp.pP x y z):Sp.Zcy x y z a s r m q = 11:=by
 unfold Sp.Zcy;rw [if_pos h,if_neg k]
theorem tch_at {x y z a s r m:Int} {q:Rat} (h:Sp.pW a s r /\ 0 <= m) (k:Sp.pP x y z) (d:Sp.dst x y z a s r q <= 0):AV.tup [.agg [.int .i64 x,.int .i64 y,.int .i64 z],.int .i64 0] = tchR x y z a s r m q:=by
 have e:Sp.Zcy x y z a s r m q = 0:=by unfold Sp.Zcy;rw [if_pos h,if_pos k,if_pos d]
 show _ = AV.tup _
 unfold Sp.ZcJ Sp.ZcZ Sp.ZcY
 rw [e,if_pos rfl,if_pos rfl,if_pos rfl,if_pos d,if_pos d,if_pos d]
theorem tch_4 {x y z a s r m:Int} {q:Rat} (h:Sp.pW a s r /\ 0 <= m) (k:Sp.pP x y z) (d:¬Sp.dst x y z a s r q <= 0) (c:m < Sp.tcC x y z a s r q):Sp.Zcy x y z a s r m q = 4:=by
 unfold Sp.Zcy;rw [if_pos h,if_pos k,if_neg d,if_pos c]
theorem tch_out {x y z a s r m:Int} {q:Rat} (h:Sp.pW a s r /\ 0 <= m) (k:Sp.pP x y z) (d:¬Sp.dst x y z a s r q <= 0) (c:¬m < Sp.tcC x y z a s r q) (p:¬Sp.pM (Sp.tcP x y z a s r q)):Sp.Zcy x y z a s r m q = 11:=by
 unfold Sp.Zcy;rw [if_pos h,if_pos k,if_neg d,if_neg c,if_neg p]
theorem tch_mv {x y z a s r m:Int} {q:Rat} (h:Sp.pW a s r /\ 0 <= m) (k:Sp.pP x y z) (d:¬Sp.dst x y z a s r q <= 0) (c:¬m < Sp.tcC x y z a s r q) (p:Sp.pM (Sp.tcP x y z a s r q)):AV.tup [.agg [.int .i64 (Sp.putX x a (Sp.tcP x y z a s r q)),.int .i64 (Sp.putY y a (Sp.tcP x y z a s r q)),.int .i64 (Sp.putZ z a (Sp.tcP x y z a s r q))],.int .i64 0] = tchR x y z a s r m q:=by
 have e:Sp.Zcy x y z a s r m q = 0:=by unfold Sp.Zcy;rw [if_pos h,if_pos k,if_neg d,if_neg c,if_pos p]
 show _ = AV.tup _
 unfold Sp.ZcJ Sp.ZcZ Sp.ZcY
 rw [e,if_pos rfl,if_pos rfl,if_pos rfl,if_neg d,if_neg d,if_neg d]
theorem wm_of {a s r m:Int} (h:¬((¬Sp.chk a s r=0)\/m<0)):Sp.pW a s r/\0<=m:=⟨Classical.not_not.1 fun k=>h (.inl fun j=>k (ZgH.1 j)),by omega⟩
theorem edge_d {x y z a s r:Int} {q:Rat} (hw:Sp.pW a s r):Sp.qi s * q - Sp.qi (Sp.rea a r) = Sp.dst x y z a s r q + Sp.qi (s * Sp.alg x y z a):=by
 have e1:Sp.qi 1 = 1:=by rw [ZbI];rfl
 have e2:Sp.qi (-1) = -1:=by rw [ZbI];rfl
 have e0:Sp.qi 0 = 0:=by rw [ZbI];rfl
 have n:=Zfl (Sp.alg x y z a)
 have hr:Sp.qi (Sp.rea a r) = if a < 2 then Sp.qi r else 0:=by
  unfold Sp.rea
  by_cases k:a = 2
  ·rw [if_pos k,if_neg (by omega),e0]
  ·rw [if_neg k,if_pos (by have:=hw.1;omega)]
 rw [hr]
 unfold Sp.dst Sp.dsA
 rcases hw.2.1 with rfl | rfl
 ·rw [if_neg (show ¬(1:Int) < 0 by decide),Int.one_mul,e1]
  split <;> grind
 ·rw [if_pos (show (-1:Int) < 0 by decide),show (-1:Int) * Sp.alg x y z a = -Sp.alg x y z a by omega,<- n,e2]
  split <;> grind
theorem s_sq {a s r:Int} (hw:Sp.pW a s r) (t:Int):s * (s * t) = t /\ (Sp.pM (s * t) ↔ Sp.pM t):=by
 rcases hw.2.1 with rfl | rfl
 ·rw [Int.one_mul,Int.one_mul];exact ⟨rfl,Iff.rfl⟩
 ·refine ⟨by omega,?_⟩
  unfold Sp.pM;omega
theorem tch_prog {x y z a s r m:Int} {q:Rat} (hq:Sp.okT 2 q) (hp:Sp.pP x y z) (hw:Sp.pW a s r) (hm:0 <= m) (hi:m <= 9223372036854775807) {u v w:Int} {X:Int} (hX:X = s * Sp.alg x y z a) :
  ((Sp.sgnI ((Sp.qi X).num * (↑(Sp.qi s * q - Sp.qi (Sp.rea a r)).den:Int) - (Sp.qi s * q - Sp.qi (Sp.rea a r)).num * (↑(Sp.qi X).den:Int)) >= 0) ↔ Sp.dst x y z a s r q <= 0) /\
  -Sp.flo (-(Sp.qi s * q - Sp.qi (Sp.rea a r))).num (↑(-(Sp.qi s * q - Sp.qi (Sp.rea a r))).den:Int) = Sp.tcC x y z a s r q + X /\
  s * (Sp.tcC x y z a s r q + X) = Sp.tcP x y z a s r q:=by
 have e:=edge_d (x:=x) (y:=y) (z:=z) (q:=q) hw
 rw [pcmp_ge,cl_eq,e,hX]
 refine ⟨?_,ceil_add _ _,?_⟩
 ·constructor <;> intro h <;> grind
 ·unfold Sp.tcP
  rw [Int.mul_add,(s_sq hw _).1];omega
theorem touch0 (f g:Bool) (q:Rat) (x y z s r m:Int) (h:Sp.okT 2 q) (hw:Sp.pW 0 s r) (hm:m <= 9223372036854775807):Zek f g q x y z s r m (Zae (tchR x y z 0 s r m q)):=by
 refine pTouch0 _ _ _ _ _ _ _ _ _ _ ⟨fun k => Zcx (tch_1 (k.imp (fun j i => j (ZgH.2 i)) id)) (by decide),fun k => ⟨fun j => Zcx (tch_11 (wm_of k) j) (by decide),fun j => ?_⟩⟩
 have hm0:=wm_of k
 have hp:=Classical.not_not.1 j
 have tp:=tch_prog (m:=m) (X:=s * x) h hp hw hm0.2 hm (u:=0) (v:=0) (w:=0) rfl
 have bd:=dst_bd h hp hw
 have td:=okT_dst (a:=0) (s:=s) h hp (inI_W hw)
 have cc:(Sp.dst x y z 0 s r q).ceil = Sp.tcC x y z 0 s r q:=rfl
 rw [cc] at bd
 obtain ⟨t1,t2,t3⟩:=tp
 have hx:-10000000 <= x /\ x <= 10000000:=hp.1
 have sx:s * x = x \/ s * x = -x:=by
  rcases hw.2.1 with rfl | rfl
  ·left;omega
  ·right;omega
 have hs:Sp.inI s:=by have:=hw.2.1;unfold Sp.inI;omega
 have ri:Sp.inI (Sp.rea 0 r):=by have:=hw.2.2;unfold Sp.rea Sp.inI;split <;> omega
 have xi:Sp.inI (s * x):=by unfold Sp.inI;omega
 have te:=Zfs (Zel (Za6 hs) h) (Za6 ri)
 have fb:Sp.flo (-(Sp.qi s * q - Sp.qi (Sp.rea 0 r))).num (↑(-(Sp.qi s * q - Sp.qi (Sp.rea 0 r))).den:Int) = -(Sp.tcC x y z 0 s r q + s * x):=by omega
 rw [t1,t2,fb]
 rw [show Sp.tcC x y z 0 s r q + s * x - s * x = Sp.tcC x y z 0 s r q by omega,sgn_gt,t3]
 have nt:=Zft te
 have B {n:Int} (h:n.natAbs < 1000000000000000000000000000):Sp.okB n:=okB3 h
 have pq:Sp.pM (Sp.tcC x y z 0 s r q + s * x) ↔ Sp.pM (Sp.tcP x y z 0 s r q):=by rw [<- t3,(s_sq hw _).2]
 have tcb:-3000000000000000000 <= Sp.tcP x y z 0 s r q /\ Sp.tcP x y z 0 s r q <= 3000000000000000000:=by
  rw [<- t3]
  rcases hw.2.1 with rfl | rfl <;> omega
 refine ⟨hs,by omega,⟨ZbK (Za6 hs) (by omega),ZbK h (by omega)⟩,ri,⟨ZbK (Zel (Za6 hs) h) (by omega),ZbK (Za6 ri) (by omega)⟩,xi,⟨ZbK (Za6 xi) (by omega),ZbK te (by omega)⟩,fun d => tch_at hm0 hp d,fun d => ⟨?_,⟨?_,?_⟩,B (by omega),⟨B (by omega),B (by omega)⟩,by unfold Sp.inI;omega,⟨B (by omega),B (by omega)⟩,fun c => Zcx (tch_4 hm0 hp d (by omega)) (by decide),fun c => ⟨by omega,fun p => Zcx (tch_out hm0 hp d (by omega) (fun i => p (pq.2 i))) (by decide),fun p => ⟨by omega,tch_mv hm0 hp d (by omega) (pq.1 (Classical.not_not.1 p))⟩⟩⟩⟩
 ·exact (ZdD (ZbK te (by omega))).1
 ·exact (ZdD (ZbK nt (by omega))).1
 ·exact (ZdD (ZbK nt (by omega))).2
theorem touch1 (f g:Bool) (q:Rat) (x y z s r m:Int) (h:Sp.okT 2 q) (hw:Sp.pW 1 s r) (hm:m <= 9223372036854775807):Zej f g q x y z s r m (Zae (tchR x y z 1 s r m q)):=by
 refine pTouch1 _ _ _ _ _ _ _ _ _ _ ⟨fun k => Zcx (tch_1 (k.imp (fun j i => j (ZgH.2 i)) id)) (by decide),fun k => ⟨fun j => Zcx (tch_11 (wm_of k) j) (by decide),fun j => ?_⟩⟩
 have hm0:=wm_of k
 have hp:=Classical.not_not.1 j
 have tp:=tch_prog (m:=m) (X:=s * y) h hp hw hm0.2 hm (u:=0) (v:=0) (w:=0) rfl
 have bd:=dst_bd h hp hw
 have td:=okT_dst (a:=1) (s:=s) h hp (inI_W hw)
 have cc:(Sp.dst x y z 1 s r q).ceil = Sp.tcC x y z 1 s r q:=rfl
 rw [cc] at bd
 obtain ⟨t1,t2,t3⟩:=tp
 have hx:-10000000 <= y /\ y <= 10000000:=hp.2.1
 have sx:s * y = y \/ s * y = -y:=by
  rcases hw.2.1 with rfl | rfl
  ·left;omega
  ·right;omega
 have hs:Sp.inI s:=by have:=hw.2.1;unfold Sp.inI;omega
 have ri:Sp.inI (Sp.rea 1 r):=by have:=hw.2.2;unfold Sp.rea Sp.inI;split <;> omega
 have xi:Sp.inI (s * y):=by unfold Sp.inI;omega
 have te:=Zfs (Zel (Za6 hs) h) (Za6 ri)
 have fb:Sp.flo (-(Sp.qi s * q - Sp.qi (Sp.rea 1 r))).num (↑(-(Sp.qi s * q - Sp.qi (Sp.rea 1 r))).den:Int) = -(Sp.tcC x y z 1 s r q + s * y):=by omega
 rw [t1,t2,fb]
 rw [show Sp.tcC x y z 1 s r q + s * y - s * y = Sp.tcC x y z 1 s r q by omega,sgn_gt,t3]
 have nt:=Zft te
 have B {n:Int} (h:n.natAbs < 1000000000000000000000000000):Sp.okB n:=okB3 h
 have pq:Sp.pM (Sp.tcC x y z 1 s r q + s * y) ↔ Sp.pM (Sp.tcP x y z 1 s r q):=by rw [<- t3,(s_sq hw _).2]
 have tcb:-3000000000000000000 <= Sp.tcP x y z 1 s r q /\ Sp.tcP x y z 1 s r q <= 3000000000000000000:=by
  rw [<- t3]
  rcases hw.2.1 with rfl | rfl <;> omega
 refine ⟨hs,by omega,⟨ZbK (Za6 hs) (by omega),ZbK h (by omega)⟩,ri,⟨ZbK (Zel (Za6 hs) h) (by omega),ZbK (Za6 ri) (by omega)⟩,xi,⟨ZbK (Za6 xi) (by omega),ZbK te (by omega)⟩,fun d => tch_at hm0 hp d,fun d => ⟨?_,⟨?_,?_⟩,B (by omega),⟨B (by omega),B (by omega)⟩,by unfold Sp.inI;omega,⟨B (by omega),B (by omega)⟩,fun c => Zcx (tch_4 hm0 hp d (by omega)) (by decide),fun c => ⟨by omega,fun p => Zcx (tch_out hm0 hp d (by omega) (fun i => p (pq.2 i))) (by decide),fun p => ⟨by omega,tch_mv hm0 hp d (by omega) (pq.1 (Classical.not_not.1 p))⟩⟩⟩⟩
 ·exact (ZdD (ZbK te (by omega))).1
 ·exact (ZdD (ZbK nt (by omega))).1
 ·exact (ZdD (ZbK nt (by omega))).2
theorem touch2 (f g:Bool) (q:Rat) (x y z s r m:Int) (h:Sp.okT 2 q) (hw:Sp.pW 2 s r) (hm:m <= 9223372036854775807):Zei f g q x y z s r m (Zae (tchR x y z 2 s r m q)):=by
 refine pTouch2 _ _ _ _ _ _ _ _ _ _ ⟨fun k => Zcx (tch_1 (k.imp (fun j i => j (ZgH.2 i)) id)) (by decide),fun k => ⟨fun j => Zcx (tch_11 (wm_of k) j) (by decide),fun j => ?_⟩⟩
 have hm0:=wm_of k
 have hp:=Classical.not_not.1 j
 have tp:=tch_prog (m:=m) (X:=s * z) h hp hw hm0.2 hm (u:=0) (v:=0) (w:=0) rfl
 have bd:=dst_bd h hp hw
 have td:=okT_dst (a:=2) (s:=s) h hp (inI_W hw)
 have cc:(Sp.dst x y z 2 s r q).ceil = Sp.tcC x y z 2 s r q:=rfl
 rw [cc] at bd
 obtain ⟨t1,t2,t3⟩:=tp
 have hx:-10000000 <= z /\ z <= 10000000:=hp.2.2
 have sx:s * z = z \/ s * z = -z:=by
  rcases hw.2.1 with rfl | rfl
  ·left;omega
  ·right;omega
 have hs:Sp.inI s:=by have:=hw.2.1;unfold Sp.inI;omega
 have ri:Sp.inI (Sp.rea 2 r):=by have:=hw.2.2;unfold Sp.rea Sp.inI;split <;> omega
 have xi:Sp.inI (s * z):=by unfold Sp.inI;omega
 have te:=Zfs (Zel (Za6 hs) h) (Za6 ri)
 have fb:Sp.flo (-(Sp.qi s * q - Sp.qi (Sp.rea 2 r))).num (↑(-(Sp.qi s * q - Sp.qi (Sp.rea 2 r))).den:Int) = -(Sp.tcC x y z 2 s r q + s * z):=by omega
 rw [t1,t2,fb]
 rw [show Sp.tcC x y z 2 s r q + s * z - s * z = Sp.tcC x y z 2 s r q by omega,sgn_gt,t3]
 have nt:=Zft te
 have B {n:Int} (h:n.natAbs < 1000000000000000000000000000):Sp.okB n:=okB3 h
 have pq:Sp.pM (Sp.tcC x y z 2 s r q + s * z) ↔ Sp.pM (Sp.tcP x y z 2 s r q):=by rw [<- t3,(s_sq hw _).2]
 have tcb:-3000000000000000000 <= Sp.tcP x y z 2 s r q /\ Sp.tcP x y z 2 s r q <= 3000000000000000000:=by
  rw [<- t3]
  rcases hw.2.1 with rfl | rfl <;> omega
 refine ⟨hs,by omega,⟨ZbK (Za6 hs) (by omega),ZbK h (by omega)⟩,ri,⟨ZbK (Zel (Za6 hs) h) (by omega),ZbK (Za6 ri) (by omega)⟩,xi,⟨ZbK (Za6 xi) (by omega),ZbK te (by omega)⟩,fun d => tch_at hm0 hp d,fun d => ⟨?_,⟨?_,?_⟩,B (by omega),⟨B (by omega),B (by omega)⟩,by unfold Sp.inI;omega,⟨B (by omega),B (by omega)⟩,fun c => Zcx (tch_4 hm0 hp d (by omega)) (by decide),fun c => ⟨by omega,fun p => Zcx (tch_out hm0 hp d (by omega) (fun i => p (pq.2 i))) (by decide),fun p => ⟨by omega,tch_mv hm0 hp d (by omega) (pq.1 (Classical.not_not.1 p))⟩⟩⟩⟩
 ·exact (ZdD (ZbK te (by omega))).1
 ·exact (ZdD (ZbK nt (by omega))).1
 ·exact (ZdD (ZbK nt (by omega))).2
theorem ev10 (f g:Bool) (q:Rat) (x y z a s r m:Int) (h:Sp.okT 2 q /\ Sp.inI m):Ev M1 (.pure 10 [.agg [.int .i64 x,.int .i64 y,.int .i64 z],.int .i64 a,.int .i64 s,ratA f g q,.int .i64 r,.int .i64 m]) (.tup [.agg [.int .i64 (Sp.ZcJ x y z a s r m q),.int .i64 (Sp.ZcZ x y z a s r m q),.int .i64 (Sp.ZcY x y z a s r m q)],.int .i64 (Sp.Zcy x y z a s r m q)]) []:=by
 by_cases hw:Sp.pW a s r
 ·have ha:a = 0 \/ a = 1 \/ a = 2:=by have:=hw.1;omega
  rcases ha with rfl | rfl | rfl
  ·exact call10 (touch0 _ _ _ _ _ _ _ _ _ h.1 hw h.2.2)
  ·exact call10 (touch1 _ _ _ _ _ _ _ _ _ h.1 hw h.2.2)
  ·exact call10 (touch2 _ _ _ _ _ _ _ _ _ h.1 hw h.2.2)
 ·exact call10 (pTouchX _ _ _ _ _ _ _ _ _ _ _ ⟨fun _ => Zcx (tch_1 (.inl hw)) (by decide),fun k => absurd (wm_of k).1 hw⟩)
end Go.Av

namespace Go.Av
open Go.Proofs
set_option maxRecDepth 100000
def fi8:Fi:=⟨80,[.tmp 0]⟩
def kp8:List (Nat × List Nat):=[(0,[]),(1,[1,2]),(2,[1,2,3,4]),(3,[1,2,3,4,5,6]),(4,[1,2,3,4,5,6,7,8]),(5,[1,2,3,4,5,6,7,8,9,10]),(6,[0])]
def fi21:Fi:=⟨15,[.cell 5 23]⟩
def kp21:List (Nat × List Nat):=[(0,[0,1,2,5]),(1,[5])]
def pAwake_at  (Q:AV->Heap->Prop):Prop:=Wp M1 (.run fi8 (atC (cd Try.f8) []) [] []) Q
def pHoleC_at (x y u v:Int) (Q:AV->Heap->Prop):Prop:=Wp M1 (.run fi21 (atC (cd Try.f21) []) [(0,.int .i64 x),(1,.int .i64 y),(2,.eptr 2 [.agg [.int .i64 u,.int .i64 v]] 0 0)] []) Q
theorem call8 {args:List AV} {d:AV} (h:wc M1 fi8 Try.f8 args d):Ev M1 (.pure 8 args) d []:=pcl _ _ (by kernel_rfl) h
theorem call21 {args:List AV} {d:AV} (h:wc M1 fi21 Try.f21 args d):Ev M1 (.pure 21 args) d []:=pcl _ _ (by kernel_rfl) h
noncomputable abbrev zNpG1:=Sp.ZcZ 0 0 0 0 1 2000 20000 (Sp.qi 10000)==0&&(Sp.ZcY 0 0 0 0 1 2000 20000 (Sp.qi 10000)==0&&true)
noncomputable abbrev zNpG2:=Sp.ZcZ 0 0 0 0 1 2000 20000 (Sp.qf 20001 2)==0&&(Sp.ZcY 0 0 0 0 1 2000 20000 (Sp.qf 20001 2)==0&&true)
theorem pAwake   (dq:AV) (H :
  (Sp.inI 10000) /\
  (Sp.okT 2 (Sp.qi 10000) /\ Sp.inI 20000) /\
  (Sp.okF 20001 2) /\
  (Sp.okT 2 (Sp.qf 20001 2) /\ Sp.inI 20000) /\
  (Sp.inI 100) /\
  (Sp.okT 2 (Sp.qi 100) /\ Sp.inI 20000) /\
  vb (bif bif bif bif bif bif bif bif bif Sp.Zcy 0 0 0 0 1 2000 20000 (Sp.qi 10000) == 0 then Sp.Zcy 0 0 0 0 1 2000 20000 (Sp.qf 20001 2) == 0 else false then Sp.Zcy 0 0 5000 2 (-1) 2000 20000 (Sp.qi 100) == 0 else false then Sp.Zb3 (Sp.ZcJ 0 0 0 0 1 2000 20000 (Sp.qi 10000)) (Sp.ZcZ 0 0 0 0 1 2000 20000 (Sp.qi 10000)) (Sp.ZcY 0 0 0 0 1 2000 20000 (Sp.qi 10000)) 0 1 2000 == 0 else false then Sp.Zb3 (Sp.ZcJ 0 0 0 0 1 2000 20000 (Sp.qf 20001 2)) (Sp.ZcZ 0 0 0 0 1 2000 20000 (Sp.qf 20001 2)) (Sp.ZcY 0 0 0 0 1 2000 20000 (Sp.qf 20001 2)) 0 1 2000 == 0 else false then Sp.ZcJ 0 0 0 0 1 2000 20000 (Sp.qi 10000) == 8000 && (Sp.ZcZ 0 0 0 0 1 2000 20000 (Sp.qi 10000) == 0 && (Sp.ZcY 0 0 0 0 1 2000 20000 (Sp.qi 10000) == 0 && true)) else false then Sp.ZcJ 0 0 0 0 1 2000 20000 (Sp.qf 20001 2) == 8001 && (Sp.ZcZ 0 0 0 0 1 2000 20000 (Sp.qf 20001 2) == 0 && (Sp.ZcY 0 0 0 0 1 2000 20000 (Sp.qf 20001 2) == 0 && true)) else false then Sp.ZcJ 0 0 5000 2 (-1) 2000 20000 (Sp.qi 100) == 0 && (Sp.ZcZ 0 0 5000 2 (-1) 2000 20000 (Sp.qi 100) == 0 && (Sp.ZcY 0 0 5000 2 (-1) 2000 20000 (Sp.qi 100) == 100 && true)) else false then Sp.ZdF (Sp.ZcJ 0 0 0 0 1 2000 20000 (Sp.qi 10000)) (Sp.ZcZ 0 0 0 0 1 2000 20000 (Sp.qi 10000)) (Sp.ZcY 0 0 0 0 1 2000 20000 (Sp.qi 10000)) 0 1 2000 == 10000 else false then Sp.ZdF (Sp.ZcJ 0 0 0 0 1 2000 20000 (Sp.qf 20001 2)) (Sp.ZcZ 0 0 0 0 1 2000 20000 (Sp.qf 20001 2)) (Sp.ZcY 0 0 0 0 1 2000 20000 (Sp.qf 20001 2)) 0 1 2000 == 10001 else false) = dq) :
 pAwake_at  (Zae dq):=by
 unfold pAwake_at
 obtain ⟨k1,k2,k3,k4,k5,k6,H⟩:=H
 exact Zag (G:=Zab kp8 [(1,1,.call (ratF (Sp.qi 10000)) none),(1,2,.call (tu [ag [vi (Sp.ZcJ 0 0 0 0 1 2000 20000 (Sp.qi 10000)),vi (Sp.ZcZ 0 0 0 0 1 2000 20000 (Sp.qi 10000)),vi (Sp.ZcY 0 0 0 0 1 2000 20000 (Sp.qi 10000))],vi (Sp.Zcy 0 0 0 0 1 2000 20000 (Sp.qi 10000))]) none),(2,1,.call (ratF (Sp.qf 20001 2)) none),(2,2,.call (tu [ag [vi (Sp.ZcJ 0 0 0 0 1 2000 20000 (Sp.qf 20001 2)),vi (Sp.ZcZ 0 0 0 0 1 2000 20000 (Sp.qf 20001 2)),vi (Sp.ZcY 0 0 0 0 1 2000 20000 (Sp.qf 20001 2))],vi (Sp.Zcy 0 0 0 0 1 2000 20000 (Sp.qf 20001 2))]) none),(3,1,.call (ratF (Sp.qi 100)) none),(3,2,.call (tu [ag [vi (Sp.ZcJ 0 0 5000 2 (-1) 2000 20000 (Sp.qi 100)),vi (Sp.ZcZ 0 0 5000 2 (-1) 2000 20000 (Sp.qi 100)),vi (Sp.ZcY 0 0 5000 2 (-1) 2000 20000 (Sp.qi 100))],vi (Sp.Zcy 0 0 5000 2 (-1) 2000 20000 (Sp.qi 100))]) none),(4,1,.call (tu [vi (Sp.ZdF (Sp.ZcJ 0 0 0 0 1 2000 20000 (Sp.qi 10000)) (Sp.ZcZ 0 0 0 0 1 2000 20000 (Sp.qi 10000)) (Sp.ZcY 0 0 0 0 1 2000 20000 (Sp.qi 10000)) 0 1 2000),vi (Sp.Zb3 (Sp.ZcJ 0 0 0 0 1 2000 20000 (Sp.qi 10000)) (Sp.ZcZ 0 0 0 0 1 2000 20000 (Sp.qi 10000)) (Sp.ZcY 0 0 0 0 1 2000 20000 (Sp.qi 10000)) 0 1 2000)]) none),(5,1,.call (tu [vi (Sp.ZdF (Sp.ZcJ 0 0 0 0 1 2000 20000 (Sp.qf 20001 2)) (Sp.ZcZ 0 0 0 0 1 2000 20000 (Sp.qf 20001 2)) (Sp.ZcY 0 0 0 0 1 2000 20000 (Sp.qf 20001 2)) 0 1 2000),vi (Sp.Zb3 (Sp.ZcJ 0 0 0 0 1 2000 20000 (Sp.qf 20001 2)) (Sp.ZcZ 0 0 0 0 1 2000 20000 (Sp.qf 20001 2)) (Sp.ZcY 0 0 0 0 1 2000 20000 (Sp.qf 20001 2)) 0 1 2000)]) none)] []) 1000 [] (asm:=[true,true,true,true,true,!((bif bif bif bif Sp.Zcy 0 0 0 0 1 2000 20000 (Sp.qi 10000) == 0 then Sp.Zcy 0 0 0 0 1 2000 20000 (Sp.qf 20001 2) == 0 else false then Sp.Zcy 0 0 5000 2 (-1) 2000 20000 (Sp.qi 100) == 0 else false then Sp.Zb3 (Sp.ZcJ 0 0 0 0 1 2000 20000 (Sp.qi 10000)) (Sp.ZcZ 0 0 0 0 1 2000 20000 (Sp.qi 10000)) (Sp.ZcY 0 0 0 0 1 2000 20000 (Sp.qi 10000)) 0 1 2000 == 0 else false then Sp.Zb3 (Sp.ZcJ 0 0 0 0 1 2000 20000 (Sp.qf 20001 2)) (Sp.ZcZ 0 0 0 0 1 2000 20000 (Sp.qf 20001 2)) (Sp.ZcY 0 0 0 0 1 2000 20000 (Sp.qf 20001 2)) 0 1 2000 == 0 else false) == true && true) || true,!((bif bif bif bif bif Sp.Zcy 0 0 0 0 1 2000 20000 (Sp.qi 10000) == 0 then Sp.Zcy 0 0 0 0 1 2000 20000 (Sp.qf 20001 2) == 0 else false then Sp.Zcy 0 0 5000 2 (-1) 2000 20000 (Sp.qi 100) == 0 else false then Sp.Zb3 (Sp.ZcJ 0 0 0 0 1 2000 20000 (Sp.qi 10000)) (Sp.ZcZ 0 0 0 0 1 2000 20000 (Sp.qi 10000)) (Sp.ZcY 0 0 0 0 1 2000 20000 (Sp.qi 10000)) 0 1 2000 == 0 else false then Sp.Zb3 (Sp.ZcJ 0 0 0 0 1 2000 20000 (Sp.qf 20001 2)) (Sp.ZcZ 0 0 0 0 1 2000 20000 (Sp.qf 20001 2)) (Sp.ZcY 0 0 0 0 1 2000 20000 (Sp.qf 20001 2)) 0 1 2000 == 0 else false then Sp.ZcJ 0 0 0 0 1 2000 20000 (Sp.qi 10000) == 8000 && zNpG1 else false) == true && true) || true,!((bif bif bif bif bif bif Sp.Zcy 0 0 0 0 1 2000 20000 (Sp.qi 10000) == 0 then Sp.Zcy 0 0 0 0 1 2000 20000 (Sp.qf 20001 2) == 0 else false then Sp.Zcy 0 0 5000 2 (-1) 2000 20000 (Sp.qi 100) == 0 else false then Sp.Zb3 (Sp.ZcJ 0 0 0 0 1 2000 20000 (Sp.qi 10000)) (Sp.ZcZ 0 0 0 0 1 2000 20000 (Sp.qi 10000)) (Sp.ZcY 0 0 0 0 1 2000 20000 (Sp.qi 10000)) 0 1 2000 == 0 else false then Sp.Zb3 (Sp.ZcJ 0 0 0 0 1 2000 20000 (Sp.qf 20001 2)) (Sp.ZcZ 0 0 0 0 1 2000 20000 (Sp.qf 20001 2)) (Sp.ZcY 0 0 0 0 1 2000 20000 (Sp.qf 20001 2)) 0 1 2000 == 0 else false then Sp.ZcJ 0 0 0 0 1 2000 20000 (Sp.qi 10000) == 8000 && zNpG1 else false then Sp.ZcJ 0 0 0 0 1 2000 20000 (Sp.qf 20001 2) == 8001 && zNpG2 else false) == true && true) || true]) (vb (bif bif bif bif bif bif bif bif bif Sp.Zcy 0 0 0 0 1 2000 20000 (Sp.qi 10000) == 0 then Sp.Zcy 0 0 0 0 1 2000 20000 (Sp.qf 20001 2) == 0 else false then Sp.Zcy 0 0 5000 2 (-1) 2000 20000 (Sp.qi 100) == 0 else false then Sp.Zb3 (Sp.ZcJ 0 0 0 0 1 2000 20000 (Sp.qi 10000)) (Sp.ZcZ 0 0 0 0 1 2000 20000 (Sp.qi 10000)) (Sp.ZcY 0 0 0 0 1 2000 20000 (Sp.qi 10000)) 0 1 2000 == 0 else false then Sp.Zb3 (Sp.ZcJ 0 0 0 0 1 2000 20000 (Sp.qf 20001 2)) (Sp.ZcZ 0 0 0 0 1 2000 20000 (Sp.qf 20001 2)) (Sp.ZcY 0 0 0 0 1 2000 20000 (Sp.qf 20001 2)) 0 1 2000 == 0 else false then Sp.ZcJ 0 0 0 0 1 2000 20000 (Sp.qi 10000) == 8000 && zNpG1 else false then Sp.ZcJ 0 0 0 0 1 2000 20000 (Sp.qf 20001 2) == 8001 && zNpG2 else false then Sp.ZcJ 0 0 5000 2 (-1) 2000 20000 (Sp.qi 100) == 0 && (Sp.ZcZ 0 0 5000 2 (-1) 2000 20000 (Sp.qi 100) == 0 && (Sp.ZcY 0 0 5000 2 (-1) 2000 20000 (Sp.qi 100) == 100 && true)) else false then Sp.ZdF (Sp.ZcJ 0 0 0 0 1 2000 20000 (Sp.qi 10000)) (Sp.ZcZ 0 0 0 0 1 2000 20000 (Sp.qi 10000)) (Sp.ZcY 0 0 0 0 1 2000 20000 (Sp.qi 10000)) 0 1 2000 == 10000 else false then Sp.ZdF (Sp.ZcJ 0 0 0 0 1 2000 20000 (Sp.qf 20001 2)) (Sp.ZcZ 0 0 0 0 1 2000 20000 (Sp.qf 20001 2)) (Sp.ZcY 0 0 0 0 1 2000 20000 (Sp.qf 20001 2)) 0 1 2000 == 10001 else false)) (by kernel_rfl) (bc rfl (bc rfl (bc rfl (bc rfl (bc rfl (bc (Bool.or_true _) (bc (Bool.or_true _) (bc (Bool.or_true _) b0)))))))) q0 (ce (@ev14 (10000) k1) (ce (@ev10 (false) (false) (Sp.qi 10000) (0) (0) (0) (0) (1) (2000) (20000) k2) (ce (@ev32 (20001) (2) k3) (ce (@ev10 (false) (false) (Sp.qf 20001 2) (0) (0) (0) (0) (1) (2000) (20000) k4) (ce (@ev14 (100) k5) (ce (@ev10 (false) (false) (Sp.qi 100) (0) (0) (5000) (2) (-1) (2000) (20000) k6) (ce (@ev12 (Sp.ZcJ 0 0 0 0 1 2000 20000 (Sp.qi 10000)) (Sp.ZcZ 0 0 0 0 1 2000 20000 (Sp.qi 10000)) (Sp.ZcY 0 0 0 0 1 2000 20000 (Sp.qi 10000)) (0) (1) (2000)) (ce (@ev12 (Sp.ZcJ 0 0 0 0 1 2000 20000 (Sp.qf 20001 2)) (Sp.ZcZ 0 0 0 0 1 2000 20000 (Sp.qf 20001 2)) (Sp.ZcY 0 0 0 0 1 2000 20000 (Sp.qf 20001 2)) (0) (1) (2000)) c0)))))))) H
theorem pHoleC (x y u v:Int)  (dq:AV) (H :
  (-9223372036854775808 <= u + x /\ u + x <= 9223372036854775807) /\
  (-9223372036854775808 <= v + y /\ v + y <= 9223372036854775807) /\
  ag [vi (u + x),vi (v + y),vi 0] = dq) :
 pHoleC_at x y u v (Zae dq):=by
 unfold pHoleC_at
 obtain ⟨k1,H⟩:=H
 have w2:wi (u + x) = u + x:=wI64 k1
 obtain ⟨k3,H⟩:=H
 have w4:wi (v + y) = v + y:=wI64 k3
 exact Zag (G:=Zab kp21 [] []) 1000 [] (ag [vi (wi (u + x)),vi (wi (v + y)),vi 0]) (by kernel_rfl) (bc rfl b0) q0 c0 (by (try rw [w2]);(try rw [w4]);all_goals exact H)
end Go.Av

namespace Go.Av
open Go.Proofs
theorem tch_mv4 {x y z a s r m:Int} {q:Rat} (h:Sp.pW a s r /\ 0 <= m) (k:Sp.pP x y z) (d:¬Sp.dst x y z a s r q <= 0) (c:¬m < Sp.tcC x y z a s r q) (p:Sp.pM (Sp.tcP x y z a s r q)):Sp.ZcJ x y z a s r m q = Sp.putX x a (Sp.tcP x y z a s r q) /\ Sp.ZcZ x y z a s r m q = Sp.putY y a (Sp.tcP x y z a s r q) /\ Sp.ZcY x y z a s r m q = Sp.putZ z a (Sp.tcP x y z a s r q) /\ Sp.Zcy x y z a s r m q = 0:=by
 have e:Sp.Zcy x y z a s r m q = 0:=by unfold Sp.Zcy;rw [if_pos h,if_pos k,if_neg d,if_neg c,if_pos p]
 refine ⟨?_,?_,?_,e⟩
 ·unfold Sp.ZcJ;rw [e,if_pos rfl,if_neg d]
 ·unfold Sp.ZcZ;rw [e,if_pos rfl,if_neg d]
 ·unfold Sp.ZcY;rw [e,if_pos rfl,if_neg d]
theorem tch_val {x y z a s r m c t:Int} {q:Rat} (h:Sp.pW a s r) (hm:0 <= m) (k:Sp.pP x y z) (hc:(Sp.dst x y z a s r q).ceil = c) (h0:0 < c) (h1:c <= m) (ht:Sp.alg x y z a + s * c = t) (p:Sp.pM t):Sp.ZcJ x y z a s r m q = Sp.putX x a t /\ Sp.ZcZ x y z a s r m q = Sp.putY y a t /\ Sp.ZcY x y z a s r m q = Sp.putZ z a t /\ Sp.Zcy x y z a s r m q = 0:=by
 have e1:Sp.tcC x y z a s r q = c:=hc
 have e2:Sp.tcP x y z a s r q = t:=by unfold Sp.tcP;rw [e1,ht]
 rw [<- e2] at p ⊢
 refine tch_mv4 ⟨h,hm⟩ k (fun d => ?_) (by omega) p
 rw [Rat.ceil_eq_neg_floor_neg] at hc
 have:0 <= (-Sp.dst x y z a s r q).floor:=Rat.le_floor_iff.2 (by show ((0:Int):Rat) <= _;have e:((0:Int):Rat) = 0:=rfl;rw [e];grind)
 omega
theorem ceil_int (n:Int):(Sp.qi n).ceil = n:=by
 rw [ZbI,Rat.ceil_eq_neg_floor_neg,<- Rat.intCast_neg,Rat.floor_intCast];omega
theorem qi_sub' (a b:Int):Sp.qi a-Sp.qi b=Sp.qi (a-b):=by rw [ZbI,ZbI,ZbI,Rat.intCast_sub]
theorem okT_1 {n:Int} (h:n.natAbs < 1000000000):Sp.okT 2 (Sp.qi n):=by
 have f:Sp.cnt n.natAbs <= 1:=Zas.1 (by unfold Sp.fits;omega)
 rw [ZbI]
 refine ⟨by rw [Rat.num_intCast];omega,?_⟩
 rw [Rat.den_intCast]
 exact Nat.le_trans (Zas.1 (by unfold Sp.fits;omega:Sp.fits 1 1)) (by omega)
theorem ev8:Ev M1 (.pure 8 []) (.bool true) []:=by
 have e0:Sp.qi 0 = 0:=by rw [ZbI];rfl
 have f0:Sp.okF 20001 2:=by unfold Sp.okF Sp.inI;omega
 have qf:Sp.qf 20001 2 = 20001 / 2:=by rw [qf_eq,Rat.divInt_eq_div];rfl
 have t2:Sp.okT 2 (Sp.qf 20001 2):=by
  rw [qf]
  refine ⟨?_,?_⟩
  ·rw [show ((20001:Rat) / 2).num = 20001 by decide +kernel]
   exact Nat.le_trans (Zas.1 (by unfold Sp.fits;decide:Sp.fits 1 _)) (by omega)
  ·rw [show ((20001:Rat) / 2).den = 2 by decide +kernel]
   exact Nat.le_trans (Zas.1 (by unfold Sp.fits;decide:Sp.fits 1 _)) (by omega)
 have a1:=tch_val (x:=0) (y:=0) (z:=0) (a:=0) (s:=1) (r:=2000) (m:=20000) (c:=8000) (t:=8000) (q:=Sp.qi 10000) (by unfold Sp.pW;omega) (by omega) (by unfold Sp.pP Sp.pM;omega) (by
  unfold Sp.dst Sp.dsA Sp.alg
  rw [if_pos (by omega),if_neg (by omega),if_pos rfl,qi_sub',qi_sub',ceil_int];rfl) (by omega) (by omega) (by decide) (by unfold Sp.pM;omega)
 have a2:=tch_val (x:=0) (y:=0) (z:=0) (a:=0) (s:=1) (r:=2000) (m:=20000) (c:=8001) (t:=8001) (q:=Sp.qf 20001 2) (by unfold Sp.pW;omega) (by omega) (by unfold Sp.pP Sp.pM;omega) (by
  unfold Sp.dst Sp.dsA Sp.alg
  rw [if_pos (by omega),if_neg (by omega),if_pos rfl,qf,ZbI,ZbI];decide +kernel) (by omega) (by omega) (by decide) (by unfold Sp.pM;omega)
 have a3:=tch_val (x:=0) (y:=0) (z:=5000) (a:=2) (s:=-1) (r:=2000) (m:=20000) (c:=4900) (t:=100) (q:=Sp.qi 100) (by unfold Sp.pW;omega) (by omega) (by unfold Sp.pP Sp.pM;omega) (by
  unfold Sp.dst Sp.dsA Sp.alg
  rw [if_neg (by omega),if_pos (by omega),if_neg (by omega),if_neg (by omega),qi_sub',Zfl,ceil_int];rfl) (by omega) (by omega) (by decide) (by unfold Sp.pM;omega)
 refine call8 (pAwake _ ⟨by unfold Sp.inI;omega,⟨okT_1 (by decide),by unfold Sp.inI;omega⟩,f0,⟨t2,by unfold Sp.inI;omega⟩,by unfold Sp.inI;omega,⟨okT_1 (by decide),by unfold Sp.inI;omega⟩,?_⟩)
 rw [a1.1,a1.2.1,a1.2.2.1,a1.2.2.2,a2.1,a2.2.1,a2.2.2.1,a2.2.2.2,a3.1,a3.2.1,a3.2.2.1,a3.2.2.2]
 refine congrArg AV.bool ?_
 decide +kernel
def Sp.hb (n:Int):Prop:=-2000000<=n/\n<=2000000
theorem ev21 (x y u v:Int) (h:Sp.hb x /\ Sp.hb y /\ Sp.hb u /\ Sp.hb v):Ev M1 (.pure 21 [.int .i64 x,.int .i64 y,.eptr 2 [.agg [.int .i64 u,.int .i64 v]] 0 0]) (.agg [.int .i64 (u + x),.int .i64 (v + y),.int .i64 0]) []:=
 call21 (pHoleC _ _ _ _ _ ⟨by unfold Sp.hb at h;omega,by unfold Sp.hb at h;omega,rfl⟩)
end Go.Av

namespace Go.Av
open Go.Proofs
set_option maxRecDepth 100000
def fi5:Fi:=⟨93,[.tmp 6]⟩
def kp5:List (Nat × List Nat):=[(0,[2,3,4]),(1,[2,3,4,14]),(2,[6]),(3,[2,3,4,7,8]),(4,[2,4,7,8,9,10]),(5,[2,4,7,46]),(6,[6]),(7,[2,4,7,64]),(8,[6]),(9,[4,7,11]),(10,[4,7,11,12]),(11,[4,7,8]),(12,[6])]
def lwHol_at (x1 x2 x3 x4 x5 x6 x7 x8 x9 x10 x11 x12 u v n:Int) (Q:AV->Heap->Prop):Prop:=Wp M1 (.run fi5 (atC (cd Try.f5) []) [(0,.agg [.int .i64 x1,.int .i64 x2,.int .i64 x3,.int .i64 x4,.int .i64 x5,.int .i64 x6,.int .i64 x7,.int .i64 x8,.int .i64 x9,.int .i64 x10,.int .i64 x11,.int .i64 x12]),(1,.agg [.int .i64 u,.int .i64 v]),(2,.int .u16 n)] []) Q
theorem call5 {args:List AV} {d:AV} (h:wc M1 fi5 Try.f5 args d):Ev M1 (.pure 5 args) d []:=pcl _ _ (by kernel_rfl) h
noncomputable abbrev zNpH11 (x1:Int) (x2:Int) (x3:Int) (x4:Int) (x5:Int) (x6:Int) (x7:Int) (x8:Int) (x9:Int) (x10:Int) (x11:Int) (x12:Int):=bif !(Sp.holX x1 x2 x3 x4 x5 x6 x7 x8 x9 x10 x11 x12==Sp.holX x1 x2 x3 x4 x5 x6 x7 x8 x9 x10 x11 x12&&(Sp.holY x1 x2 x3 x4 x5 x6 x7 x8 x9 x10 x11 x12==Sp.holY x1 x2 x3 x4 x5 x6 x7 x8 x9 x10 x11 x12&&true)) then true else Sp.ZfF x1 x2 x3 x4 x5 x6 x7 x8 x9 x10 x11 x12 != Sp.ZfF x1 x2 x3 x4 x5 x6 x7 x8 x9 x10 x11 x12
noncomputable abbrev zNpH12 (u:Int) (n:Int) (v:Int):=tu [ag [vi (Sp.holX (u+(0-n)) (v+0) 0 (u+n) (v+0) 0 (u+0) (v+(0-n)) 0 (u+0) (v+n) 0),vi (Sp.holY (u+(0-n)) (v+0) 0 (u+n) (v+0) 0 (u+0) (v+(0-n)) 0 (u+0) (v+n) 0)],vi (Sp.ZfF (u+(0-n)) (v+0) 0 (u+n) (v+0) 0 (u+0) (v+(0-n)) 0 (u+0) (v+n) 0)]
noncomputable abbrev zNpH13 (u:Int) (v:Int):=ag [vi u,vi v]
noncomputable abbrev zNpH14 (x1:Int) (x2:Int) (x3:Int) (x4:Int) (x5:Int) (x6:Int) (x7:Int) (x8:Int) (x9:Int) (x10:Int) (x11:Int) (x12:Int):=ag [vi (Sp.holX x1 x2 x3 x4 x5 x6 x7 x8 x9 x10 x11 x12),vi (Sp.holY x1 x2 x3 x4 x5 x6 x7 x8 x9 x10 x11 x12)]
noncomputable abbrev zNpH15 (u:Int) (n:Int) (v:Int):=ag [vi (u+(0-n)),vi (v+0),vi 0]
noncomputable abbrev zNpH16 (u:Int) (v:Int) (n:Int):=ag [vi (u+0),vi (v+(0-n)),vi 0]
noncomputable abbrev zNpH17 (u:Int) (v:Int):=bif bif bif decide (u>1000000) then true else decide (u < -1000000) then true else decide (v>1000000) then true else decide (v < -1000000)
noncomputable abbrev zNpH18 (u:Int) (n:Int) (v:Int):=ag [vi (u+n),vi (v+0),vi 0]
noncomputable abbrev zNpH19 (u:Int) (v:Int) (n:Int):=ag [vi (u+0),vi (v+n),vi 0]
theorem lwHol (x1 x2 x3 x4 x5 x6 x7 x8 x9 x10 x11 x12 u v n:Int)  (dq:AV) (H :
  (((¬((Sp.holX x1 x2 x3 x4 x5 x6 x7 x8 x9 x10 x11 x12 = Sp.holX x1 x2 x3 x4 x5 x6 x7 x8 x9 x10 x11 x12) /\ (Sp.holY x1 x2 x3 x4 x5 x6 x7 x8 x9 x10 x11 x12 = Sp.holY x1 x2 x3 x4 x5 x6 x7 x8 x9 x10 x11 x12))) \/ (¬Sp.ZfF x1 x2 x3 x4 x5 x6 x7 x8 x9 x10 x11 x12 = Sp.ZfF x1 x2 x3 x4 x5 x6 x7 x8 x9 x10 x11 x12)) -> vb false = dq) /\
  (¬((¬((Sp.holX x1 x2 x3 x4 x5 x6 x7 x8 x9 x10 x11 x12 = Sp.holX x1 x2 x3 x4 x5 x6 x7 x8 x9 x10 x11 x12) /\ (Sp.holY x1 x2 x3 x4 x5 x6 x7 x8 x9 x10 x11 x12 = Sp.holY x1 x2 x3 x4 x5 x6 x7 x8 x9 x10 x11 x12))) \/ (¬Sp.ZfF x1 x2 x3 x4 x5 x6 x7 x8 x9 x10 x11 x12 = Sp.ZfF x1 x2 x3 x4 x5 x6 x7 x8 x9 x10 x11 x12)) -> (((((u > 1000000) \/ (u < -1000000)) \/ (v > 1000000)) \/ (v < -1000000)) -> vb true = dq) /\
   (¬((((u > 1000000) \/ (u < -1000000)) \/ (v > 1000000)) \/ (v < -1000000)) -> (-9223372036854775808 <= n /\ n <= 9223372036854775807) /\
    (-9223372036854775808 <= 0 - n /\ 0 - n <= 9223372036854775807) /\
    (Sp.hb (0 - n) /\ Sp.hb 0 /\ Sp.hb u /\ Sp.hb v) /\
    (Sp.hb n /\ Sp.hb 0 /\ Sp.hb u /\ Sp.hb v) /\
    (Sp.hb 0 /\ Sp.hb (0 - n) /\ Sp.hb u /\ Sp.hb v) /\
    (Sp.hb 0 /\ Sp.hb n /\ Sp.hb u /\ Sp.hb v) /\
    vb (bif Sp.ZfF (u + (0 - n)) (v + 0) 0 (u + n) (v + 0) 0 (u + 0) (v + (0 - n)) 0 (u + 0) (v + n) 0 == 0 then Sp.holX (u + (0 - n)) (v + 0) 0 (u + n) (v + 0) 0 (u + 0) (v + (0 - n)) 0 (u + 0) (v + n) 0 == u && (Sp.holY (u + (0 - n)) (v + 0) 0 (u + n) (v + 0) 0 (u + 0) (v + (0 - n)) 0 (u + 0) (v + n) 0 == v && true) else false) = dq))) :
 lwHol_at x1 x2 x3 x4 x5 x6 x7 x8 x9 x10 x11 x12 u v n (Zae dq):=by
 unfold lwHol_at
 refine Zac (G:=Zab kp5 [(1,0,.call (vb true) none),(3,8,.call (tu [(zNpH14 x1 x2 x3 x4 x5 x6 x7 x8 x9 x10 x11 x12),vi (Sp.ZfF x1 x2 x3 x4 x5 x6 x7 x8 x9 x10 x11 x12)]) none),(4,8,.call (tu [(zNpH14 x1 x2 x3 x4 x5 x6 x7 x8 x9 x10 x11 x12),vi (Sp.ZfF x1 x2 x3 x4 x5 x6 x7 x8 x9 x10 x11 x12)]) none)] []) 14 [false] ⟨(atC (cd Try.f5) [1,1,1,1,0,1]),[(2,AV.int IntKind.u16 n),(4,AV.ptr 1 0 0 0),(7,AV.ptr 2 0 0 0),(46,vb (zNpH11 x1 x2 x3 x4 x5 x6 x7 x8 x9 x10 x11 x12))],[⟨[ag [vi x1,vi x2,vi x3,vi x4,vi x5,vi x6,vi x7,vi x8,vi x9,vi x10,vi x11,vi x12]],12,0,false,false⟩,⟨[(zNpH13 u v)],2,0,false,false⟩,⟨[(zNpH14 x1 x2 x3 x4 x5 x6 x7 x8 x9 x10 x11 x12)],2,0,false,false⟩,⟨[(zNpH14 x1 x2 x3 x4 x5 x6 x7 x8 x9 x10 x11 x12)],2,0,false,false⟩],_,[],_⟩ (by kernel_rfl) (bc rfl (bc rfl (bc rfl (bc rfl (bc rfl (bc rfl (bc rfl (bc rfl (bc rfl (bc rfl (bc rfl (bc rfl (bc rfl (bc rfl (bc rfl (bc rfl (bc rfl (bc rfl (bc rfl (bc rfl (bc rfl (bc rfl (bc rfl (bc rfl (bc rfl (bc rfl (bc rfl (bc rfl (bc rfl b0))))))))))))))))))))))))))))) q0 (ce (@ev8 ) (ce (@ev19 (x1) (x2) (x3) (x4) (x5) (x6) (x7) (x8) (x9) (x10) (x11) (x12)) (ce (@ev20 (x1) (x2) (x3) (x4) (x5) (x6) (x7) (x8) (x9) (x10) (x11) (x12)) c0))) ?_
 rcases xq H with ⟨d2,H⟩|⟨d2,H⟩
 ·exact Zag (G:=Zab kp5 [] []) 1000 [true] (vb false) (by kernel_rfl) (bc (Zak ((ZaX (ZaQ (i_and i_eq (i_at i_eq))) i_ne).2 d2)) b0) q0 c0 H
 ·rcases xq H with ⟨d4,H⟩|⟨d4,H⟩
  ·exact Zag (G:=Zab kp5 [] []) 1000 [false,true] (asm:=[(zNpH11 x1 x2 x3 x4 x5 x6 x7 x8 x9 x10 x11 x12) == false,true,!(decide (u > 1000000) == false && true) || true,!((bif decide (u > 1000000) then true else decide (u < -1000000)) == false && true) || true,!((bif bif decide (u > 1000000) then true else decide (u < -1000000) then true else decide (v > 1000000)) == false && true) || true,(zNpH17 u v) == true]) (vb true) (by kernel_rfl) (bc (Zaj (fun h => d2 ((ZaX (ZaQ (i_and i_eq (i_at i_eq))) i_ne).1 h))) (bc rfl (bc (Bool.or_true _) (bc (Bool.or_true _) (bc (Bool.or_true _) (bc (Zak ((ZaX (ZaX (ZaX Zaa Zaa) Zaa) Zaa).2 d4)) b0)))))) q0 c0 H
  ·obtain ⟨k5,H⟩:=H
   have w6:wi n = n:=wI64 k5
   obtain ⟨k7,H⟩:=H
   have w8:wi (0 - n) = 0 - n:=wI64 k7
   obtain ⟨k9,k10,k11,k12,H⟩:=H
   exact Zag (G:=Zab kp5 [(11,3,.call ((zNpH15 u n v)) none),(11,6,.call ((zNpH18 u n v)) none),(11,10,.call ((zNpH16 u v n)) none),(11,13,.call ((zNpH19 u v n)) none),(11,14,.call (zNpH12 u n v) none)] []) 1000 [false,false] (asm:=[(zNpH11 x1 x2 x3 x4 x5 x6 x7 x8 x9 x10 x11 x12) == false,true,!(decide (u > 1000000) == false && true) || true,!((bif decide (u > 1000000) then true else decide (u < -1000000)) == false && true) || true,!((bif bif decide (u > 1000000) then true else decide (u < -1000000) then true else decide (v > 1000000)) == false && true) || true,(zNpH17 u v) == false,true,true,true,true,true,!((Sp.ZfF (u + (0 - n)) (v + 0) 0 (u + n) (v + 0) 0 (u + 0) (v + (0 - n)) 0 (u + 0) (v + n) 0 == 0) == true && true) || true,!((Sp.ZfF (u + (0 - n)) (v + 0) 0 (u + n) (v + 0) 0 (u + 0) (v + (0 - n)) 0 (u + 0) (v + n) 0 == 0) == true && true) || true]) (calls:=[pc 21 [vi (wi (0 - wi n)),vi 0,AV.eptr 2 [(zNpH13 u v)] 0 0] ((zNpH15 u n v)),pc 21 [vi (wi n),vi 0,AV.eptr 2 [(zNpH13 u v)] 0 0] ((zNpH18 u n v)),pc 21 [vi 0,vi (wi (0 - wi n)),AV.eptr 2 [(zNpH13 u v)] 0 0] ((zNpH16 u v n)),pc 21 [vi 0,vi (wi n),AV.eptr 2 [(zNpH13 u v)] 0 0] ((zNpH19 u v n)),pc 19 [(zNpH15 u n v),(zNpH18 u n v),(zNpH16 u v n),(zNpH19 u v n)] (zNpH12 u n v)]) (vb (bif Sp.ZfF (u + (0 - n)) (v + 0) 0 (u + n) (v + 0) 0 (u + 0) (v + (0 - n)) 0 (u + 0) (v + n) 0 == 0 then Sp.holX (u + (0 - n)) (v + 0) 0 (u + n) (v + 0) 0 (u + 0) (v + (0 - n)) 0 (u + 0) (v + n) 0 == u && (Sp.holY (u + (0 - n)) (v + 0) 0 (u + n) (v + 0) 0 (u + 0) (v + (0 - n)) 0 (u + 0) (v + n) 0 == v && true) else false)) (by kernel_rfl) (bc (Zaj (fun h => d2 ((ZaX (ZaQ (i_and i_eq (i_at i_eq))) i_ne).1 h))) (bc rfl (bc (Bool.or_true _) (bc (Bool.or_true _) (bc (Bool.or_true _) (bc (Zaj (fun h => d4 ((ZaX (ZaX (ZaX Zaa Zaa) Zaa) Zaa).1 h))) (bc rfl (bc rfl (bc rfl (bc rfl (bc rfl (bc (Bool.or_true _) (bc (Bool.or_true _) b0))))))))))))) q0 (ce (by (try rw [w6]);(try rw [w8]);all_goals exact (@ev21 (0 - n) (0) (u) (v) k9)) (ce (by (try rw [w6]);all_goals exact (@ev21 (n) (0) (u) (v) k10)) (ce (by (try rw [w6]);(try rw [w8]);all_goals exact (@ev21 (0) (0 - n) (u) (v) k11)) (ce (by (try rw [w6]);all_goals exact (@ev21 (0) (n) (u) (v) k12)) (ce (@ev19 (u + (0 - n)) (v + 0) (0) (u + n) (v + 0) (0) (u + 0) (v + (0 - n)) (0) (u + 0) (v + n) (0)) c0))))) H
end Go.Av

namespace Go.Av
open Go.Proofs
theorem ev5 (x1 x2 x3 x4 x5 x6 x7 x8 x9 x10 x11 x12 u v n:Int) (hn:0 <= n /\ n <= 65535):Ev M1 (.pure 5 [.agg [.int .i64 x1,.int .i64 x2,.int .i64 x3,.int .i64 x4,.int .i64 x5,.int .i64 x6,.int .i64 x7,.int .i64 x8,.int .i64 x9,.int .i64 x10,.int .i64 x11,.int .i64 x12],.agg [.int .i64 u,.int .i64 v],.int .u16 n]) (.bool true) []:=by
 refine call5 (lwHol _ _ _ _ _ _ _ _ _ _ _ _ _ _ _ _ ⟨fun j => ?_,fun _ => ⟨fun _ => rfl,fun k => ⟨by omega,by omega,?_,?_,?_,?_,congrArg AV.bool ?_⟩⟩⟩)
 ·rcases j with j | j
  ·exact absurd ⟨rfl,rfl⟩ j
  ·exact absurd rfl j
 ·unfold Sp.hb;omega
 ·unfold Sp.hb;omega
 ·unfold Sp.hb;omega
 ·unfold Sp.hb;omega
 ·have m1:Sp.Zc0 (u + (0 - n)) (v + 0) 0 (u + n) (v + 0) 0 0 = 0:=by
   unfold Sp.Zc0;rw [if_pos (by omega),if_pos (by unfold Sp.pP Sp.pM;omega)]
  have m2:Sp.Zc0 (u + 0) (v + (0 - n)) 0 (u + 0) (v + n) 0 1 = 0:=by
   unfold Sp.Zc0;rw [if_pos (by omega),if_pos (by unfold Sp.pP Sp.pM;omega)]
  have e:Sp.ZfF (u + (0 - n)) (v + 0) 0 (u + n) (v + 0) 0 (u + 0) (v + (0 - n)) 0 (u + 0) (v + n) 0 = 0:=by
   unfold Sp.ZfF;rw [if_pos ⟨m1,m2⟩]
  have ex:Sp.holX (u + (0 - n)) (v + 0) 0 (u + n) (v + 0) 0 (u + 0) (v + (0 - n)) 0 (u + 0) (v + n) 0 = u:=by
   unfold Sp.holX;rw [if_pos e]
   unfold Sp.ZdO;rw [if_pos m1]
   unfold Sp.alg;rw [if_pos rfl,if_pos rfl];omega
  have ey:Sp.holY (u + (0 - n)) (v + 0) 0 (u + n) (v + 0) 0 (u + 0) (v + (0 - n)) 0 (u + 0) (v + n) 0 = v:=by
   unfold Sp.holY;rw [if_pos e]
   unfold Sp.ZdO;rw [if_pos m2]
   unfold Sp.alg;rw [if_neg (by omega),if_pos rfl,if_neg (by omega),if_pos rfl];omega
  rw [e,ex,ey,beq_self_eq_true,beq_self_eq_true,beq_self_eq_true];rfl
end Go.Av
