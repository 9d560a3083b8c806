/- PART 5 of the texts of a claim, joined by a program: what each part shows stands at its head. -/
import Derived.Test.YtnalglhidkknbaaGreatParta0673f9a4d

namespace Go.Av
open Go.Proofs
set_option maxRecDepth 100000
def fi75:Fi:=⟨6,[.cell 2 26]⟩
def kp75:List (Nat × List Nat):=[(0,[0,2]),(1,[2])]
def fi95:Fi:=⟨16,[.cell 4 26]⟩
def kp95:List (Nat × List Nat):=[(0,[2,3,4]),(1,[4])]
def fi99:Fi:=⟨21,[.cell 4 26,.tmp 5]⟩
def kp99:List (Nat × List Nat):=[(0,[2,3,4]),(1,[2,3,4,8]),(2,[4,5]),(3,[4,5])]
def fi110:Fi:=⟨25,[.tmp 4]⟩
def kp110:List (Nat × List Nat):=[(0,[2,3]),(1,[2,3,5]),(2,[2,3,5,12]),(3,[4]),(4,[4])]
def fi114:Fi:=⟨36,[.cell 4 26]⟩
def kp114:List (Nat × List Nat):=[(0,[2,3,4]),(1,[2,3,4,10]),(2,[4]),(3,[4])]
def fi141:Fi:=⟨26,[.cell 2 26,.tmp 3]⟩
def kp141:List (Nat × List Nat):=[(0,[1,2]),(1,[1,2,4,5]),(2,[1,2,4,14]),(3,[2,4,6,7]),(4,[2,4,6,21]),(5,[2,3]),(6,[2,3])]
def vRAdd_at (fa ga fb gb:Bool) (r s:Rat) (Q:AV->Heap->Prop):Prop:=Wp M1 (.run fi114 (atC (cd Tryz.f114) []) [(0,ratA fa ga r),(1,ratA fb gb s)] []) Q
def vRMul_at (fa ga fb gb:Bool) (r s:Rat) (Q:AV->Heap->Prop):Prop:=Wp M1 (.run fi95 (atC (cd Tryz.f95) []) [(0,ratA fa ga r),(1,ratA fb gb s)] []) Q
def vRDiv_at (fa ga fb gb:Bool) (r s:Rat) (Q:AV->Heap->Prop):Prop:=Wp M1 (.run fi99 (atC (cd Tryz.f99) []) [(0,ratA fa ga r),(1,ratA fb gb s)] []) Q
def vRCmp_at (fa ga fb gb:Bool) (r s:Rat) (Q:AV->Heap->Prop):Prop:=Wp M1 (.run fi110 (atC (cd Tryz.f110) []) [(0,ratA fa ga r),(1,ratA fb gb s)] []) Q
def vRFrom_at (n:Int) (Q:AV->Heap->Prop):Prop:=Wp M1 (.run fi75 (atC (cd Tryz.f75) []) [(0,.int .i64 n)] []) Q
def vRSqrt_at (fa ga:Bool) (r:Rat) (Q:AV->Heap->Prop):Prop:=Wp M1 (.run fi141 (atC (cd Tryz.f141) []) [(0,ratA fa ga r)] []) Q
theorem call75 {args:List AV} {d:AV} (h:wc M1 fi75 Tryz.f75 args d):Ev M1 (.pure 75 args) d []:=pcl _ _ (by kernel_rfl) h
theorem call95 {args:List AV} {d:AV} (h:wc M1 fi95 Tryz.f95 args d):Ev M1 (.pure 95 args) d []:=pcl _ _ (by kernel_rfl) h
theorem call99 {args:List AV} {d:AV} (h:wc M1 fi99 Tryz.f99 args d):Ev M1 (.pure 99 args) d []:=pcl _ _ (by kernel_rfl) h
theorem call110 {args:List AV} {d:AV} (h:wc M1 fi110 Tryz.f110 args d):Ev M1 (.pure 110 args) d []:=pcl _ _ (by kernel_rfl) h
theorem call114 {args:List AV} {d:AV} (h:wc M1 fi114 Tryz.f114 args d):Ev M1 (.pure 114 args) d []:=pcl _ _ (by kernel_rfl) h
theorem call141 {args:List AV} {d:AV} (h:wc M1 fi141 Tryz.f141 args d):Ev M1 (.pure 141 args) d []:=pcl _ _ (by kernel_rfl) h
theorem vRAdd (fa ga fb gb:Bool) (r s:Rat)  (dq:AV) (H :
  (Sp.okB (↑r.den:Int) /\ Sp.okB (↑s.den:Int)) /\
  ((Sp.sgnI ((↑r.den:Int) - (↑s.den:Int)) = 0) -> (Sp.okB r.num /\ Sp.okB s.num) /\
   (Sp.okB (r.num + s.num) /\ Sp.okB (↑r.den:Int) /\ (↑r.den:Int) ≠ 0) /\
   Weak (ratF (Rat.divInt (r.num + s.num) (↑r.den:Int))) dq) /\
  (¬(Sp.sgnI ((↑r.den:Int) - (↑s.den:Int)) = 0) -> (Sp.okB r.num /\ Sp.okB (↑s.den:Int)) /\
   (Sp.okB s.num /\ Sp.okB (↑r.den:Int)) /\
   (Sp.okB (r.num * (↑s.den:Int)) /\ Sp.okB (s.num * (↑r.den:Int))) /\
   (Sp.okB (r.num * (↑s.den:Int) + s.num * (↑r.den:Int)) /\ Sp.okB ((↑r.den:Int) * (↑s.den:Int)) /\ (↑r.den:Int) * (↑s.den:Int) ≠ 0) /\
   Weak (ratF (Rat.divInt (r.num * (↑s.den:Int) + s.num * (↑r.den:Int)) ((↑r.den:Int) * (↑s.den:Int)))) dq)) :
 vRAdd_at fa ga fb gb r s (Zaf dq):=by
 unfold vRAdd_at
 obtain ⟨k1,H⟩:=H
 refine Zae (G:=Zac kp114 [(1,4,.call (vi (Sp.sgnI ((↑r.den:Int) - (↑s.den:Int)))) none)] []) 5 [] ⟨(atC (cd Tryz.f114) [1,0,1]),[(2,AV.ptr 0 0 0 0),(3,AV.ptr 1 0 0 0),(4,AV.ptr 2 0 0 0),(10,vb (Sp.sgnI ((↑r.den:Int) - (↑s.den:Int)) == 0))],[⟨[ratA fa ga r],4,0,false,false⟩,⟨[ratA fb gb s],4,0,false,false⟩,⟨[ag [vb false,AV.vnil,vb false,AV.vnil]],4,0,false,false⟩],_,[],_⟩ (by kernel_rfl) (bc rfl (bc rfl b0)) q0 (ce (@ev149 (ga) (gb) ((↑r.den:Int)) ((↑s.den:Int)) k1) c0) ?_
 rcases xq H with ⟨d3,H⟩|⟨d3,H⟩
 ·obtain ⟨k4,k5,H⟩:=H
  exact Zah (G:=Zac kp114 [(2,4,.call (bigA false (r.num + s.num)) none),(2,7,.call (ratF (Rat.divInt (r.num + s.num) (↑r.den:Int))) none)] []) 1000 [true] (ratF (Rat.divInt (r.num + s.num) (↑r.den:Int))) (by kernel_rfl) (bc (Zar (i_eq.2 d3)) (bc rfl (bc rfl (bc rfl (bc rfl b0))))) q0 (ce (@ev152 (fa) (fb) (r.num) (s.num) k4) (ce (@ev134 (false) (ga) (r.num + s.num) ((↑r.den:Int)) k5) c0)) H
 ·obtain ⟨k6,k7,k8,k9,H⟩:=H
  exact Zah (G:=Zac kp114 [(3,4,.call (bigA false (r.num * (↑s.den:Int))) none),(3,9,.call (bigA false (s.num * (↑r.den:Int))) none),(3,10,.call (bigA false (r.num * (↑s.den:Int) + s.num * (↑r.den:Int))) none),(3,15,.call (bigA false ((↑r.den:Int) * (↑s.den:Int))) none),(3,16,.call (ratF (Rat.divInt (r.num * (↑s.den:Int) + s.num * (↑r.den:Int)) ((↑r.den:Int) * (↑s.den:Int)))) none)] []) 1000 [false] (ratF (Rat.divInt (r.num * (↑s.den:Int) + s.num * (↑r.den:Int)) ((↑r.den:Int) * (↑s.den:Int)))) (by kernel_rfl) (bc (Zao (fun h => d3 (i_eq.1 h))) (bc rfl (bc rfl (bc rfl (bc rfl (bc rfl (bc rfl (bc rfl b0)))))))) q0 (ce (@Zhg (fa) (gb) (r.num) ((↑s.den:Int)) k6) (ce (@Zhg (fb) (ga) (s.num) ((↑r.den:Int)) k7) (ce (@ev152 (false) (false) (r.num * (↑s.den:Int)) (s.num * (↑r.den:Int)) k8) (ce (@Zhg (ga) (gb) ((↑r.den:Int)) ((↑s.den:Int)) k1) (ce (@ev134 (false) (false) (r.num * (↑s.den:Int) + s.num * (↑r.den:Int)) ((↑r.den:Int) * (↑s.den:Int)) k9) c0))))) H
theorem vRMul (fa ga fb gb:Bool) (r s:Rat)  (dq:AV) (H :
  (Sp.okB r.num /\ Sp.okB s.num) /\
  (Sp.okB (↑r.den:Int) /\ Sp.okB (↑s.den:Int)) /\
  (Sp.okB (r.num * s.num) /\ Sp.okB ((↑r.den:Int) * (↑s.den:Int)) /\ (↑r.den:Int) * (↑s.den:Int) ≠ 0) /\
  Weak (ratF (Rat.divInt (r.num * s.num) ((↑r.den:Int) * (↑s.den:Int)))) dq) :
 vRMul_at fa ga fb gb r s (Zaf dq):=by
 unfold vRMul_at
 obtain ⟨k1,k2,k3,H⟩:=H
 exact Zah (G:=Zac kp95 [(1,4,.call (bigA false (r.num * s.num)) none),(1,9,.call (bigA false ((↑r.den:Int) * (↑s.den:Int))) none),(1,10,.call (ratF (Rat.divInt (r.num * s.num) ((↑r.den:Int) * (↑s.den:Int)))) none)] []) 1000 [] (ratF (Rat.divInt (r.num * s.num) ((↑r.den:Int) * (↑s.den:Int)))) (by kernel_rfl) (bc rfl (bc rfl (bc rfl (bc rfl (bc rfl b0))))) q0 (ce (@Zhg (fa) (fb) (r.num) (s.num) k1) (ce (@Zhg (ga) (gb) ((↑r.den:Int)) ((↑s.den:Int)) k2) (ce (@ev134 (false) (false) (r.num * s.num) ((↑r.den:Int) * (↑s.den:Int)) k3) c0))) H
theorem vRDiv (fa ga fb gb:Bool) (r s:Rat)  (dq:AV) (H :
  ((Sp.sgnI s.num = 0) -> Weak (tu [ag [vb false,AV.vnil,vb false,AV.vnil],vi 6]) dq) /\
  (¬(Sp.sgnI s.num = 0) -> (Sp.okB r.num /\ Sp.okB (↑s.den:Int)) /\
   (Sp.okB (↑r.den:Int) /\ Sp.okB s.num) /\
   (Sp.okB (r.num * (↑s.den:Int)) /\ Sp.okB ((↑r.den:Int) * s.num) /\ (↑r.den:Int) * s.num ≠ 0) /\
   Weak (tu [ratF (Rat.divInt (r.num * (↑s.den:Int)) ((↑r.den:Int) * s.num)),vi 0]) dq)) :
 vRDiv_at fa ga fb gb r s (Zaf dq):=by
 unfold vRDiv_at
 refine Zae (G:=Zac kp99 [(1,1,.call (vi (Sp.sgnI s.num)) none)] []) 5 [] ⟨(atC (cd Tryz.f99) [1,0,1]),[(2,AV.ptr 0 0 0 0),(3,AV.ptr 1 0 0 0),(4,AV.ptr 2 0 0 0),(8,vb (Sp.sgnI s.num == 0))],[⟨[ratA fa ga r],4,0,false,false⟩,⟨[ratA fb gb s],4,0,false,false⟩,⟨[ag [vb false,AV.vnil,vb false,AV.vnil]],4,0,false,false⟩],_,[],_⟩ (by kernel_rfl) (bc rfl b0) q0 (ce (@ev54 (fb) (gb) (s.num) ((↑s.den:Int))) c0) ?_
 rcases xq H with ⟨d2,H⟩|⟨d2,H⟩
 ·exact Zah (G:=Zac kp99 [] []) 1000 [true] (tu [ag [vb false,AV.vnil,vb false,AV.vnil],vi 6]) (by kernel_rfl) (bc (Zar (i_eq.2 d2)) (bc rfl b0)) q0 c0 H
 ·obtain ⟨k3,k4,k5,H⟩:=H
  exact Zah (G:=Zac kp99 [(3,4,.call (bigA false (r.num * (↑s.den:Int))) none),(3,9,.call (bigA false ((↑r.den:Int) * s.num)) none),(3,10,.call (ratF (Rat.divInt (r.num * (↑s.den:Int)) ((↑r.den:Int) * s.num))) none)] []) 1000 [false] (tu [ratF (Rat.divInt (r.num * (↑s.den:Int)) ((↑r.den:Int) * s.num)),vi 0]) (by kernel_rfl) (bc (Zao (fun h => d2 (i_eq.1 h))) (bc rfl (bc rfl (bc rfl (bc rfl (bc rfl b0)))))) q0 (ce (@Zhg (fa) (gb) (r.num) ((↑s.den:Int)) k3) (ce (@Zhg (ga) (fb) ((↑r.den:Int)) (s.num) k4) (ce (@ev134 (false) (false) (r.num * (↑s.den:Int)) ((↑r.den:Int) * s.num) k5) c0))) H
theorem vRCmp (fa ga fb gb:Bool) (r s:Rat)  (dq:AV) (H :
  ∃ (n1:Int),
  (Ev M1 (Conf.pure 148 [vi (Sp.sgnI r.num),vi (Sp.sgnI s.num)]) (vi n1) []) /\
  ((¬n1 = 0) -> vi n1 = dq) /\
  (¬(¬n1 = 0) -> (Sp.okB r.num /\ Sp.okB (↑s.den:Int)) /\
   (Sp.okB s.num /\ Sp.okB (↑r.den:Int)) /\
   (Sp.okB (r.num * (↑s.den:Int)) /\ Sp.okB (s.num * (↑r.den:Int))) /\
   vi (Sp.sgnI (r.num * (↑s.den:Int) - s.num * (↑r.den:Int))) = dq)) :
 vRCmp_at fa ga fb gb r s (Zaf dq):=by
 unfold vRCmp_at
 obtain ⟨n1,k1,H⟩:=H
 refine Zae (G:=Zac kp110 [(1,1,.call (vi (Sp.sgnI r.num)) none),(1,3,.call (vi (Sp.sgnI s.num)) none),(1,4,.call (vi n1) none)] []) 7 [] ⟨(atC (cd Tryz.f110) [1,0,1,1]),[(2,AV.ptr 0 0 0 0),(3,AV.ptr 1 0 0 0),(5,vi n1),(12,vb (n1 != 0))],[⟨[ratA fa ga r],4,0,false,false⟩,⟨[ratA fb gb s],4,0,false,false⟩],_,[],_⟩ (by kernel_rfl) (bc rfl (bc rfl b0)) q0 (ce (@ev54 (fa) (ga) (r.num) ((↑r.den:Int))) (ce (@ev54 (fb) (gb) (s.num) ((↑s.den:Int))) (ce k1 c0))) ?_
 rcases xq H with ⟨d3,H⟩|⟨d3,H⟩
 ·exact Zaq (G:=Zac kp110 [] []) 1000 [true] (vi n1) (by kernel_rfl) (bc (Zar (i_ne.2 d3)) b0) q0 c0 H
 ·obtain ⟨k4,k5,k6,H⟩:=H
  exact Zaq (G:=Zac kp110 [(4,4,.call (bigA false (r.num * (↑s.den:Int))) none),(4,9,.call (bigA false (s.num * (↑r.den:Int))) none),(4,10,.call (vi (Sp.sgnI (r.num * (↑s.den:Int) - s.num * (↑r.den:Int)))) none)] []) 1000 [false] (vi (Sp.sgnI (r.num * (↑s.den:Int) - s.num * (↑r.den:Int)))) (by kernel_rfl) (bc (Zao (fun h => d3 (i_ne.1 h))) (bc rfl (bc rfl (bc rfl (bc rfl b0))))) q0 (ce (@Zhg (fa) (gb) (r.num) ((↑s.den:Int)) k4) (ce (@Zhg (fb) (ga) (s.num) ((↑r.den:Int)) k5) (ce (@ev149 (false) (false) (r.num * (↑s.den:Int)) (s.num * (↑r.den:Int)) k6) c0))) H
theorem vRFrom (n:Int)  (dq:AV) (H :
  (Sp.inI n) /\
  Weak (ratF (↑n:Rat)) dq) :
 vRFrom_at n (Zaf dq):=by
 unfold vRFrom_at
 obtain ⟨k1,H⟩:=H
 exact Zah (G:=Zac kp75 [(1,1,.call (bigA false n) none),(1,2,.call (ratF (↑n:Rat)) none)] []) 1000 [] (ratF (↑n:Rat)) (by kernel_rfl) (bc rfl b0) q0 (ce (@ev113 (n) k1) (ce (@ev112 (false) (n)) c0)) H
noncomputable abbrev zNvK1:=ag [vb false,AV.vnil,vb false,AV.vnil]
theorem vRSqrt (fa ga:Bool) (r:Rat)  (dq:AV) (H :
  (Sp.okS r.num) /\
  ((Sp.ZeV r.num = true) -> (Sp.okS (↑r.den:Int)) /\
   ((Sp.ZeV (↑r.den:Int) = true) -> Weak (tu [ag [vb (Sp.Zaa (Sp.sq r.num)),vf (us (Sp.Zad (Sp.sq r.num))),vb (Sp.Zaa (Sp.sq (↑r.den:Int))),vf (us (Sp.Zad (Sp.sq (↑r.den:Int))))],vb true]) dq) /\
   (¬(Sp.ZeV (↑r.den:Int) = true) -> Weak (tu [ag [vb false,AV.vnil,vb false,AV.vnil],vb false]) dq)) /\
  (¬(Sp.ZeV r.num = true) -> Weak (tu [ag [vb false,AV.vnil,vb false,AV.vnil],vb false]) dq)) :
 vRSqrt_at fa ga r (Zaf dq):=by
 unfold vRSqrt_at
 obtain ⟨k1,H⟩:=H
 refine Zae (G:=Zac kp141 [(1,2,.call (tu [bigA false (Sp.sq r.num),vb (Sp.ZeV r.num)]) none)] []) 7 [] ⟨(atC (cd Tryz.f141) [1,0,1,1]),[(1,AV.ptr 0 0 0 0),(2,AV.ptr 1 0 0 0),(4,AV.ptr 2 0 0 0),(14,vb (Sp.ZeV r.num))],[⟨[ratA fa ga r],4,0,false,false⟩,⟨[zNvK1],4,0,false,false⟩,⟨[bigA false (Sp.sq r.num)],2,0,false,false⟩],_,[],_⟩ (by kernel_rfl) (bc rfl (bc rfl b0)) q0 (ce (@ev165 (fa) (r.num) k1) c0) ?_
 rcases xq H with ⟨d3,H⟩|⟨d3,H⟩
 ·obtain ⟨k4,H⟩:=H
  refine Zae (G:=Zac kp141 [(3,2,.call (tu [bigA false (Sp.sq (↑r.den:Int)),vb (Sp.ZeV (↑r.den:Int))]) none)] []) 5 [true] ⟨(atC (cd Tryz.f141) [1,0,1,1,0,1,1]),[(2,AV.ptr 1 0 0 0),(4,AV.ptr 2 0 0 0),(6,AV.ptr 3 0 0 0),(21,vb (Sp.ZeV (↑r.den:Int)))],[⟨[ratA fa ga r],4,0,false,false⟩,⟨[zNvK1],4,0,false,false⟩,⟨[bigA false (Sp.sq r.num)],2,0,false,false⟩,⟨[bigA false (Sp.sq (↑r.den:Int))],2,0,false,false⟩],[(Sp.ZeV r.num) == true,true,true],[],_⟩ (by kernel_rfl) (bc (Zar ((ZaE _).2 d3)) (bc rfl (bc rfl b0))) q0 (ce (@ev165 (ga) ((↑r.den:Int)) k4) c0) ?_
  rcases xq H with ⟨d6,H⟩|⟨d6,H⟩
  ·exact Zah (G:=Zac kp141 [] []) 1000 [true] (asm:=[(Sp.ZeV (↑r.den:Int)) == true,true,true,true]) (tu [ag [vb (Sp.Zaa (Sp.sq r.num)),vf (us (Sp.Zad (Sp.sq r.num))),vb (Sp.Zaa (Sp.sq (↑r.den:Int))),vf (us (Sp.Zad (Sp.sq (↑r.den:Int))))],vb true]) (by kernel_rfl) (bc (Zar ((ZaE _).2 d6)) (bc rfl (bc rfl (bc rfl b0)))) q0 c0 H
  ·exact Zah (G:=Zac kp141 [] []) 1000 [false] (asm:=[(Sp.ZeV (↑r.den:Int)) == false,true]) (tu [zNvK1,vb false]) (by kernel_rfl) (bc (Zao (fun h => d6 ((ZaE _).1 h))) (bc rfl b0)) q0 c0 H
 ·exact Zah (G:=Zac kp141 [] []) 1000 [false] (asm:=[(Sp.ZeV r.num) == false,true]) (tu [zNvK1,vb false]) (by kernel_rfl) (bc (Zao (fun h => d3 ((ZaE _).1 h))) (bc rfl b0)) q0 c0 H
end Go.Av

namespace Go.Av
open Go.Proofs
def Sp.okR (r:Rat):Prop:=Sp.cnt r.num.natAbs<=90000/\Sp.cnt r.den<=90000
theorem ZdN {r:Rat} (h:Sp.okR r):Sp.okB r.num /\ Sp.okB (r.den:Int):=by
 unfold Sp.okR at h
 unfold Sp.okB
 rw [Int.natAbs_natCast];omega
theorem ZaR {a b:Int} {n m:Nat} (ha:Sp.cnt a.natAbs <= n) (hb:Sp.cnt b.natAbs <= m):Sp.cnt (a * b).natAbs <= n + m:=by
 rw [Int.natAbs_mul]
 exact Zaw.1 (ZcV (Zaw.2 ha) (Zaw.2 hb))
theorem ZfY {a b:Int} {n:Nat} (ha:Sp.cnt a.natAbs <= n) (hb:Sp.cnt b.natAbs <= n):Sp.cnt (a + b).natAbs <= n + 1:=by
 have h:=Zaw.1 (Zc4 (Zaw.2 ha) (Zaw.2 hb))
 exact Nat.le_trans (ZaJ (Int.natAbs_add_le a b)) h
theorem Za0 {r:Rat} {n:Nat} (h:Sp.cnt r.den<=n):Sp.cnt ((r.den:Int)).natAbs<=n:=by rwa [Int.natAbs_natCast]
theorem ZbP (r:Rat):(r.den:Int) ≠ 0:=by have:=r.den_pos;omega
theorem rat_add (r s:Rat):Rat.divInt (r.num * (s.den:Int) + s.num * (r.den:Int)) ((r.den:Int) * (s.den:Int)) = r + s:=by
 rw [<- Rat.divInt_add_divInt _ _ (ZbP r) (ZbP s),Rat.num_divInt_den,Rat.num_divInt_den]
theorem rat_add_same {r s:Rat} (h:(r.den:Int) = (s.den:Int)):Rat.divInt (r.num + s.num) (r.den:Int) = r + s:=by
 rw [<- rat_add,<- h,<- Int.add_mul,Rat.divInt_mul_right (ZbP r)]
theorem Zgj (r s:Rat):Rat.divInt (r.num * s.num) ((r.den:Int) * (s.den:Int)) = r * s:=by
 rw [<- Rat.divInt_mul_divInt,Rat.num_divInt_den,Rat.num_divInt_den]
theorem rat_div (r s:Rat):Rat.divInt (r.num * (s.den:Int)) ((r.den:Int) * s.num) = r / s:=by
 rw [<- Rat.divInt_mul_divInt,Rat.num_divInt_den,<- Rat.inv_divInt,Rat.num_divInt_den,Rat.div_def]
theorem ev114 (fa ga fb gb:Bool) (r s:Rat) (h:Sp.okR r /\ Sp.okR s):Ev M1 (.pure 114 [ratA fa ga r,ratA fb gb s]) (ratF (r + s)) []:=by
 obtain ⟨hr,hs⟩:=h
 obtain ⟨r1,r2⟩:=ZdN hr
 obtain ⟨s1,s2⟩:=ZdN hs
 obtain ⟨cr1,cr2⟩:=hr
 obtain ⟨cs1,cs2⟩:=hs
 have m1:=ZaR cr1 (Za0 cs2)
 have m2:=ZaR cs1 (Za0 cr2)
 have m3:=ZaR (Za0 cr2) (Za0 cs2)
 have a1:=ZfY m1 m2
 have a2:=ZfY cr1 cs1
 refine call114 (vRAdd _ _ _ _ _ _ _ ⟨⟨r2,s2⟩,fun k => ⟨⟨r1,s1⟩,⟨by unfold Sp.okB;omega,r2,ZbP r⟩,?_⟩,fun k => ⟨⟨r1,s2⟩,⟨s1,r2⟩,⟨by unfold Sp.okB;omega,by unfold Sp.okB;omega⟩,⟨by unfold Sp.okB;omega,by unfold Sp.okB;omega,Int.mul_ne_zero (ZbP r) (ZbP s)⟩,?_⟩⟩)
 ·have k:=ZbL.1 k
  rw [rat_add_same (by omega)];exact .refl _
 ·rw [rat_add];exact .refl _
theorem ev95 (fa ga fb gb:Bool) (r s:Rat) (h:Sp.okR r /\ Sp.okR s):Ev M1 (.pure 95 [ratA fa ga r,ratA fb gb s]) (ratF (r * s)) []:=by
 obtain ⟨hr,hs⟩:=h
 obtain ⟨r1,r2⟩:=ZdN hr
 obtain ⟨s1,s2⟩:=ZdN hs
 obtain ⟨cr1,cr2⟩:=hr
 obtain ⟨cs1,cs2⟩:=hs
 have m1:=ZaR cr1 cs1
 have m3:=ZaR (Za0 cr2) (Za0 cs2)
 refine call95 (vRMul _ _ _ _ _ _ _ ⟨⟨r1,s1⟩,⟨r2,s2⟩,⟨by unfold Sp.okB;omega,by unfold Sp.okB;omega,Int.mul_ne_zero (ZbP r) (ZbP s)⟩,?_⟩)
 rw [Zgj];exact .refl _
theorem hid_ex (r:Rat):∃ s:Rat,s=r:=⟨r,rfl⟩
noncomputable def Sp.hid (r:Rat):Rat:=Classical.choose (hid_ex r)
theorem hid_eq (r:Rat):Sp.hid r=r:=Classical.choose_spec (hid_ex r)
noncomputable def Sp.qi (n:Int):Rat:=Sp.hid n
theorem ZfC (n:Int):Sp.qi n=(n:Rat):=hid_eq _
theorem ev75 (n:Int) (h:Sp.inI n):Ev M1 (.pure 75 [.int .i64 n]) (ratF (Sp.qi n)) []:=by
 rw [ZfC]
 exact call75 (vRFrom _ _ ⟨h,.refl _⟩)
end Go.Av

namespace Go.Av
open Go.Proofs
theorem Zc2 (a:Int):Sp.ZeV a = true ↔ 0 <= a /\ Sp.sq a * Sp.sq a = a:=by
 unfold Sp.ZeV Sp.sqe
 by_cases h:a < 0
 ·rw [if_pos h];simp;omega
 ·rw [if_neg h]
  have:=@ZbL (Sp.sq a * Sp.sq a - a)
  simp only [beq_self_eq_true,cond_true,beq_iff_eq,this]
  omega
theorem sq_nonneg (a:Int):0 <= Sp.sq a:=by
 unfold Sp.sq;split <;> omega
theorem sq_nat (n:Nat):Sp.sq ((n * n:Nat):Int) = n:=by
 unfold Sp.sq
 rw [if_neg (by omega),Int.natAbs_natCast,ZfU ⟨Nat.le_refl _,Nat.mul_lt_mul'' (Nat.lt_succ_self n) (Nat.lt_succ_self n)⟩]
theorem isSq_nat (n:Nat):Sp.ZeV ((n * n:Nat):Int) = true:=by
 rw [Zc2,sq_nat];omega
namespace Sp
def rsq (r:Rat):Prop:=ZeV r.num=true/\ZeV (r.den:Int)=true
noncomputable def rt (r:Rat):Rat:=Rat.divInt (sq r.num) (sq (r.den:Int))
end Sp
theorem dvd_one {g:Nat} (h:g ∣ 1):g=1:=Nat.dvd_one.1 h
theorem gcd_sq {r:Rat} (h:Sp.rsq r):Int.gcd (Sp.sq r.num) (Sp.sq (r.den:Int)) = 1:=by
 obtain ⟨h1,h2⟩:=h
 obtain ⟨_,h1⟩:=(Zc2 _).1 h1
 obtain ⟨_,h2⟩:=(Zc2 _).1 h2
 have c:Nat.gcd r.num.natAbs r.den = 1:=r.reduced
 generalize Sp.sq r.num = x at *
 generalize Sp.sq (r.den:Int) = y at *
 have e1:x.natAbs ∣ r.num.natAbs:=by rw [<- h1,Int.natAbs_mul];exact Nat.dvd_mul_right _ _
 have e2:y.natAbs ∣ r.den:=by
  have:r.den = (r.den:Int).natAbs:=rfl
  rw [this,<- h2,Int.natAbs_mul];exact Nat.dvd_mul_right _ _
 apply Nat.dvd_one.1
 rw [<- c]
 exact Nat.dvd_gcd (Nat.dvd_trans (Nat.gcd_dvd_left _ _) e1) (Nat.dvd_trans (Nat.gcd_dvd_right _ _) e2)
theorem sq_den_pos {r:Rat} (h:Sp.rsq r):0 < Sp.sq (r.den:Int):=by
 obtain ⟨_,h2⟩:=(Zc2 _).1 h.2
 have:=sq_nonneg (r.den:Int)
 have hd:=r.den_pos
 by_cases e:Sp.sq (r.den:Int) = 0
 ·rw [e] at h2;omega
 ·omega
theorem rt_num {r:Rat} (h:Sp.rsq r):(Sp.rt r).num = Sp.sq r.num /\ ((Sp.rt r).den:Int) = Sp.sq (r.den:Int):=by
 obtain ⟨e1,e2⟩:=Ze9 (a:=Sp.sq r.num) (sq_den_pos h)
 unfold Sp.rt
 rw [e1,e2,gcd_sq h];simp
theorem Zhv {r:Rat} (h:Sp.rsq r):Sp.rt r * Sp.rt r = r:=by
 obtain ⟨e1,e2⟩:=rt_num h
 rw [<- Zgj,e1,e2,((Zc2 _).1 h.1).2,((Zc2 _).1 h.2).2,Rat.num_divInt_den]
theorem mul_self (s:Rat):(s * s).num = s.num * s.num /\ ((s * s).den:Int) = (s.den:Int) * (s.den:Int):=by
 have hd:=s.den_pos
 have c:Nat.gcd s.num.natAbs s.den = 1:=s.reduced
 have g:Int.gcd (s.num * s.num) ((s.den:Int) * (s.den:Int)) = 1:=by
  rw [Int.gcd,Int.natAbs_mul,Int.natAbs_mul,Int.natAbs_natCast]
  exact Nat.Coprime.mul_left (Nat.Coprime.mul_right c c) (Nat.Coprime.mul_right c c)
 obtain ⟨e1,e2⟩:=Ze9 (a:=s.num * s.num) (b:=(s.den:Int) * (s.den:Int)) (Int.mul_pos (by omega) (by omega))
 rw [Zgj,g] at e1 e2
 rw [e1,e2];simp
theorem rsq_of {r s:Rat} (h:s * s = r):Sp.rsq r:=by
 obtain ⟨e1,e2⟩:=mul_self s
 rw [h] at e1 e2
 unfold Sp.rsq
 rw [e1,e2]
 refine ⟨?_,isSq_nat s.den⟩
 rw [<- Int.natAbs_mul_self]
 exact isSq_nat _
end Go.Av

namespace Go.Av
open Go.Proofs
theorem rsqrtH (fa:Bool) (a:Nat) (ha:Sp.cnt a <= 300000) (h0:a ≠ 0) (n:Nat):∀ x:Nat,x <= n -> 0 < x -> a < (x + 1) * (x + 1) -> Sp.fits 300001 x ->
  ZdJ fa a x (Zaf (.tup [bigA false (Sp.Zhd a:Nat),.int .i64 0])):=by
 induction n with
 | zero => intro x h1 h2;omega
 | succ n ih =>
  intro x h1 h2 h3 h4
  have hfa:Sp.fits 300001 a:=ZaQ (Zaj a) (by omega)
  have hfq:Sp.fits 300001 (a / x):=Zbv hfa (Nat.div_le_self _ _)
  have hfs:Sp.fits 300002 (x + a / x):=Zc4 h4 hfq
  have hfy:Sp.fits 300002 ((x + a / x) / 2):=Zbv hfs (Nat.div_le_self _ _)
  have e2:(x:Int) + ((a / x:Nat):Int) = ((x + a / x:Nat):Int):=by omega
  refine rSqrtH fa _ _ _ ?_
  rw [flo_nat h2,e2,flo_two]
  have c1:=Zaw.1 hfa
  have c2:=Zaw.1 h4
  have c3:=Zaw.1 hfs
  refine ⟨⟨by rw [Int.natAbs_natCast];omega,by rw [Int.natAbs_natCast];omega,by omega⟩,⟨ZbN h4 (by omega),ZbN hfq (by omega)⟩,by rw [Int.natAbs_natCast];omega,⟨ZbN hfy (by omega),ZbN h4 (by omega)⟩,fun k => ?_,fun k => ?_⟩
  ·have k:¬(Sp.sgnI (((x + a / x) / 2:Nat) - (x:Int)) < 0):=by omega
   rw [Zbp] at k
   rw [Zes h2 h3 (by omega)]
   exact .refl _
  ·have k:Sp.sgnI (((x + a / x) / 2:Nat) - (x:Int)) < 0:=by omega
   rw [Zbp] at k
   have hn:=ZdP (a:=a) h2
   refine ih _ (by omega) ?_ hn (Zbv h4 (by omega))
   apply Nat.pos_of_ne_zero
   intro e
   rw [e] at hn
   omega
theorem ev158 (fa:Bool) (v:Int) (h:Sp.okS v):Ev M1 (.pure 158 [bigA fa v]) (.tup [bigA false (Sp.sq v),.int .i64 (Sp.sqe v)]) []:=by
 have hl:=ZaY v
 have e1:Sp.Zad (0:Int) = []:=ZbR
 have e2:Sp.Zaa (0:Int) = false:=rfl
 have w0:∀ e:Int,Weak (.tup [.agg [.bool false,.vnil],.int .i64 e]) (.tup [bigA false 0,.int .i64 e]):=by
  intro e
  show Weak _ (.tup [.agg [.bool (Sp.Zaa 0),.vec false 1 ((Sp.Zad 0).map (.int .u32))],.int .i64 e])
  rw [e1,e2]
  exact Zcj (Zda false) (.refl _)
 unfold Sp.okS at h
 by_cases hneg:v < 0
 ·unfold Sp.sq Sp.sqe
  rw [if_pos hneg,if_pos hneg]
  exact call158 (rSqrt _ _ _ ⟨fun _ => w0 7,fun k => absurd (Zal.2 hneg) k⟩)
 ·unfold Sp.sq Sp.sqe
  rw [if_neg hneg,if_neg hneg]
  refine call158 (rSqrt _ _ _ ⟨fun k => absurd (Zal.1 k) hneg,fun _ => ⟨fun k => ?_,fun k => ?_⟩⟩)
  ·have hz:v.natAbs = 0:=ZaC.1 (by omega)
   have:Sp.Zhd v.natAbs = 0:=by rw [hz];exact ZfU ⟨by omega,by omega⟩
   rw [this];exact w0 0
  ·have hz:Sp.cnt v.natAbs ≠ 0:=by omega
   have hz':v.natAbs ≠ 0:=fun e => hz (by rw [e];exact Zbs)
   have ek:(((Sp.Zad v).length:Int) + 1).tdiv 2 = (((Sp.cnt v.natAbs + 1) / 2:Nat):Int):=by
    rw [hl]
    have:((Sp.cnt v.natAbs:Nat):Int) + 1 = ((Sp.cnt v.natAbs + 1:Nat):Int):=by omega
    rw [this]
    exact (Int.ofNat_tdiv (Sp.cnt v.natAbs + 1) 2).symm
   rw [ek,Int.toNat_natCast,List.length_replicate]
   generalize hk:(Sp.cnt v.natAbs + 1) / 2 = k
   have hv:((v.natAbs:Nat):Int) = v:=by omega
   have big:v.natAbs < (1000000000 ^ k + 1) * (1000000000 ^ k + 1):=by
    have h1:=Zaj v.natAbs
    unfold Sp.fits at h1
    have h2:1000000000 ^ Sp.cnt v.natAbs <= 1000000000 ^ (k + k):=Nat.pow_le_pow_right (by omega) (by omega)
    rw [Nat.pow_add] at h2
    have h3:=Nat.mul_le_mul (Nat.le_succ (1000000000 ^ k)) (Nat.le_succ (1000000000 ^ k))
    exact Nat.lt_of_lt_of_le h1 (Nat.le_trans h2 h3)
   have hp:0 < 1000000000 ^ k:=Nat.pow_pos (by omega)
   have hf:Sp.fits 300001 (1000000000 ^ k):=fits_pow (by omega)
   refine ⟨by omega,by omega,by omega,by omega,by omega,by omega,by unfold Sp.inI;omega,?_⟩
   rw [<- hv,Int.natAbs_natCast]
   generalize v.natAbs = a at *
   have hkk:Sp.okK k:=by unfold Sp.okK;omega
   have hfa:Sp.fits 300001 a:=ZaQ (Zaj a) (by omega)
   have hfq:Sp.fits 300001 (a / 1000000000 ^ k):=Zbv hfa (Nat.div_le_self _ _)
   have hfs:Sp.fits 300002 (1000000000 ^ k + a / 1000000000 ^ k):=Zc4 hf hfq
   have hfy:Sp.fits 300002 ((1000000000 ^ k + a / 1000000000 ^ k) / 2):=Zbv hfs (Nat.div_le_self _ _)
   refine rSqrtF fa _ _ _ ?_
   have hu:=unit_bk k
   rw [show (ag [vb false,vf (us (List.replicate k (0:Int) ++ [1]))]) = bigA false (Sp.bk k:Int) from hu]
   rw [show Sp.bk k = 1000000000 ^ k from rfl]
   generalize 1000000000 ^ k = x at *
   have e2:(x:Int) + ((a / x:Nat):Int) = ((x + a / x:Nat):Int):=by omega
   rw [flo_nat hp,e2,flo_two]
   have c1:=Zaw.1 hfa
   have c3:=Zaw.1 hfs
   refine ⟨⟨by rw [Int.natAbs_natCast];omega,hkk⟩,⟨hkk,ZbN hfq (by omega)⟩,by rw [Int.natAbs_natCast];omega,⟨ZbN hfy (by omega),hkk⟩,fun k => ?_,fun k => ?_⟩
   ·have k:¬(Sp.sgnI (((x + a / x) / 2:Nat) - (x:Int)) < 0):=by omega
    rw [Zbp] at k
    rw [Zes hp big (by omega)]
    exact .refl _
   ·have k:Sp.sgnI (((x + a / x) / 2:Nat) - (x:Int)) < 0:=by omega
    rw [Zbp] at k
    have hn:=ZdP (a:=a) hp
    refine rsqrtH fa a h hz' _ _ (Nat.le_refl _) ?_ hn (Zbv hf (by omega))
    apply Nat.pos_of_ne_zero
    intro e
    rw [e] at hn
    omega
end Go.Av

namespace Go.Av
open Go.Proofs
set_option maxRecDepth 100000
def fi20:Fi:=⟨6,[.tmp 2]⟩
def kp20:List (Nat × List Nat):=[(0,[1]),(1,[2])]
def fi81:Fi:=⟨2,[.cell 0 24]⟩
def kp81:List (Nat × List Nat):=[(0,[0]),(1,[0])]
def fi82:Fi:=⟨9,[.cell 2 26]⟩
def kp82:List (Nat × List Nat):=[(0,[1,2]),(1,[2])]
def fi89:Fi:=⟨39,[.cell 4 26]⟩
def kp89:List (Nat × List Nat):=[(0,[2,3,4]),(1,[2,3,4,14]),(2,[2,3,4]),(3,[2,3,4,5]),(4,[3,4,5,6]),(5,[4,6,9]),(6,[4])]
def fi131:Fi:=⟨21,[.cell 2 24,.tmp 3]⟩
def kp131:List (Nat × List Nat):=[(0,[1,2]),(1,[1,2,4,5]),(2,[2,3])]
def rUnit_at  (Q:AV->Heap->Prop):Prop:=Wp M1 (.run fi81 (atC (cd Tryz.f81) []) [] []) Q
def rOf_at (fa fb:Bool) (a b:Int) (Q:AV->Heap->Prop):Prop:=Wp M1 (.run fi89 (atC (cd Tryz.f89) []) [(0,bigA fa a),(1,bigA fb b)] []) Q
def rRSign_at (fa ga:Bool) (p q:Int) (Q:AV->Heap->Prop):Prop:=Wp M1 (.run fi20 (atC (cd Tryz.f20) []) [(0,.agg [.bool (Sp.Zaa p),.vec fa 1 ((Sp.Zad p).map (.int .u32)),.bool (Sp.Zaa q),.vec ga 1 ((Sp.Zad q).map (.int .u32))])] []) Q
def rRNeg_at (fa ga:Bool) (p q:Int) (Q:AV->Heap->Prop):Prop:=Wp M1 (.run fi82 (atC (cd Tryz.f82) []) [(0,.agg [.bool (Sp.Zaa p),.vec fa 1 ((Sp.Zad p).map (.int .u32)),.bool (Sp.Zaa q),.vec ga 1 ((Sp.Zad q).map (.int .u32))])] []) Q
def rPerf_at (fa:Bool) (a:Int) (Q:AV->Heap->Prop):Prop:=Wp M1 (.run fi131 (atC (cd Tryz.f131) []) [(0,bigA fa a)] []) Q
theorem call20 {args:List AV} {d:AV} (h:wc M1 fi20 Tryz.f20 args d):Ev M1 (.pure 20 args) d []:=pcl _ _ (by kernel_rfl) h
theorem call81 {args:List AV} {d:AV} (h:wc M1 fi81 Tryz.f81 args d):Ev M1 (.pure 81 args) d []:=pcl _ _ (by kernel_rfl) h
theorem call82 {args:List AV} {d:AV} (h:wc M1 fi82 Tryz.f82 args d):Ev M1 (.pure 82 args) d []:=pcl _ _ (by kernel_rfl) h
theorem call89 {args:List AV} {d:AV} (h:wc M1 fi89 Tryz.f89 args d):Ev M1 (.pure 89 args) d []:=pcl _ _ (by kernel_rfl) h
theorem call131 {args:List AV} {d:AV} (h:wc M1 fi131 Tryz.f131 args d):Ev M1 (.pure 131 args) d []:=pcl _ _ (by kernel_rfl) h
theorem rUnit   (dq:AV) (H :
  (Sp.inI 1) /\
  Weak (ag [vb false,vf (us (Sp.Zad 1))]) dq) :
 rUnit_at  (Zaf dq):=by
 unfold rUnit_at
 obtain ⟨k1,H⟩:=H
 exact Zah (G:=Zac kp81 [(1,0,.call (ag [vb false,vf (us (Sp.Zad 1))]) none)] []) 1000 [] (ag [vb false,vf (us (Sp.Zad 1))]) (by kernel_rfl) (bc rfl b0) q0 (ce (@ev121 (1) k1) c0) H
theorem rOf (fa fb:Bool) (a b:Int)  (dq:AV) (H :
  ((Sp.sgnI b < 0) -> (Sp.ok a) /\
   (Sp.ok b) /\
   (Sp.cnt (-a).natAbs <= 399000 /\ Sp.cnt (-b).natAbs <= 399000) /\
   (Sp.cnt (-a).natAbs <= 399000 /\ Sp.cnt (↑((-a).gcd (-b)):Int).natAbs <= 399000 /\ (↑((-a).gcd (-b)):Int) ≠ 0) /\
   (Sp.cnt (-b).natAbs <= 399000 /\ Sp.cnt (↑((-a).gcd (-b)):Int).natAbs <= 399000 /\ (↑((-a).gcd (-b)):Int) ≠ 0) /\
   Weak (ag [vb (Sp.Zaa (Sp.flo (-a) (↑((-a).gcd (-b)):Int))),vf (us (Sp.Zad (Sp.flo (-a) (↑((-a).gcd (-b)):Int)))),vb (Sp.Zaa (Sp.flo (-b) (↑((-a).gcd (-b)):Int))),vf (us (Sp.Zad (Sp.flo (-b) (↑((-a).gcd (-b)):Int))))]) dq) /\
  (¬(Sp.sgnI b < 0) -> (Sp.cnt a.natAbs <= 399000 /\ Sp.cnt b.natAbs <= 399000) /\
   (Sp.cnt a.natAbs <= 399000 /\ Sp.cnt (↑(a.gcd b):Int).natAbs <= 399000 /\ (↑(a.gcd b):Int) ≠ 0) /\
   (Sp.cnt b.natAbs <= 399000 /\ Sp.cnt (↑(a.gcd b):Int).natAbs <= 399000 /\ (↑(a.gcd b):Int) ≠ 0) /\
   Weak (ag [vb (Sp.Zaa (Sp.flo a (↑(a.gcd b):Int))),vf (us (Sp.Zad (Sp.flo a (↑(a.gcd b):Int)))),vb (Sp.Zaa (Sp.flo b (↑(a.gcd b):Int))),vf (us (Sp.Zad (Sp.flo b (↑(a.gcd b):Int))))]) dq)) :
 rOf_at fa fb a b (Zaf dq):=by
 unfold rOf_at
 refine Zae (G:=Zac kp89 [(1,1,.call (vi (Sp.sgnI b)) none)] []) 5 [] ⟨(atC (cd Tryz.f89) [1,0,1]),[(2,AV.ptr 0 0 0 0),(3,AV.ptr 1 0 0 0),(4,AV.ptr 2 0 0 0),(14,vb (decide (Sp.sgnI b < 0)))],[⟨[bigA fa a],2,0,false,false⟩,⟨[bigA fb b],2,0,false,false⟩,⟨[ag [vb false,AV.vnil,vb false,AV.vnil]],4,0,false,false⟩],_,[],_⟩ (by kernel_rfl) (bc rfl b0) q0 (ce (@ev71 (fb) (b)) c0) ?_
 rcases xq H with ⟨d2,H⟩|⟨d2,H⟩
 ·obtain ⟨k3,k4,k5,k6,k7,H⟩:=H
  exact Zah (G:=Zac kp89 [(2,1,.call (bigA false (-a)) none),(2,3,.call (bigA false (-b)) none),(3,2,.call (bigA false (↑((-a).gcd (-b)):Int)) none),(4,2,.call (tu [bigA false (Sp.flo (-a) (↑((-a).gcd (-b)):Int)),bigA false (Sp.flr (-a) (↑((-a).gcd (-b)):Int)),vi 0]) none),(5,2,.call (tu [bigA false (Sp.flo (-b) (↑((-a).gcd (-b)):Int)),bigA false (Sp.flr (-b) (↑((-a).gcd (-b)):Int)),vi 0]) none)] []) 1000 [true] (ag [vb (Sp.Zaa (Sp.flo (-a) (↑((-a).gcd (-b)):Int))),vf (us (Sp.Zad (Sp.flo (-a) (↑((-a).gcd (-b)):Int)))),vb (Sp.Zaa (Sp.flo (-b) (↑((-a).gcd (-b)):Int))),vf (us (Sp.Zad (Sp.flo (-b) (↑((-a).gcd (-b)):Int))))]) (by kernel_rfl) (bc (Zar (Zab.2 d2)) (bc rfl (bc rfl (bc rfl (bc rfl (bc rfl (bc rfl (bc rfl (bc rfl (bc rfl (bc rfl (bc rfl (bc rfl (bc rfl (bc rfl (bc rfl (bc rfl (bc rfl (bc rfl b0))))))))))))))))))) q0 (ce (@ev122 (fa) (a) k3) (ce (@ev122 (fb) (b) k4) (ce (@ev80 (false) (false) (-a) (-b) k5) (ce (@ev128 (false) (false) (-a) ((↑((-a).gcd (-b)):Int)) k6) (ce (@ev128 (false) (false) (-b) ((↑((-a).gcd (-b)):Int)) k7) c0))))) H
 ·obtain ⟨k8,k9,k10,H⟩:=H
  exact Zah (G:=Zac kp89 [(3,2,.call (bigA false (↑(a.gcd b):Int)) none),(4,2,.call (tu [bigA false (Sp.flo a (↑(a.gcd b):Int)),bigA false (Sp.flr a (↑(a.gcd b):Int)),vi 0]) none),(5,2,.call (tu [bigA false (Sp.flo b (↑(a.gcd b):Int)),bigA false (Sp.flr b (↑(a.gcd b):Int)),vi 0]) none)] []) 1000 [false] (ag [vb (Sp.Zaa (Sp.flo a (↑(a.gcd b):Int))),vf (us (Sp.Zad (Sp.flo a (↑(a.gcd b):Int)))),vb (Sp.Zaa (Sp.flo b (↑(a.gcd b):Int))),vf (us (Sp.Zad (Sp.flo b (↑(a.gcd b):Int))))]) (by kernel_rfl) (bc (Zao (fun h => d2 (Zab.1 h))) (bc rfl (bc rfl (bc rfl (bc rfl (bc rfl (bc rfl (bc rfl (bc rfl (bc rfl (bc rfl (bc rfl (bc rfl (bc rfl (bc rfl b0))))))))))))))) q0 (ce (@ev80 (fa) (fb) (a) (b) k8) (ce (@ev128 (fa) (false) (a) ((↑(a.gcd b):Int)) k9) (ce (@ev128 (fb) (false) (b) ((↑(a.gcd b):Int)) k10) c0))) H
theorem rRSign (fa ga:Bool) (p q:Int)  (dq:AV) (H :
  vi (Sp.sgnI p) = dq) :
 rRSign_at fa ga p q (Zaf dq):=by
 unfold rRSign_at
 exact Zaq (G:=Zac kp20 [(1,2,.call (vi (Sp.sgnI p)) none)] []) 1000 [] (vi (Sp.sgnI p)) (by kernel_rfl) (bc rfl b0) q0 (ce (@ev71 (fa) (p)) c0) H
theorem rRNeg (fa ga:Bool) (p q:Int)  (dq:AV) (H :
  (Sp.ok p) /\
  Weak (ag [vb (Sp.Zaa (-p)),vf (us (Sp.Zad (-p))),vb (Sp.Zaa q),AV.vec ga 1 (us (Sp.Zad q))]) dq) :
 rRNeg_at fa ga p q (Zaf dq):=by
 unfold rRNeg_at
 obtain ⟨k1,H⟩:=H
 exact Zah (G:=Zac kp82 [(1,2,.call (bigA false (-p)) none)] []) 1000 [] (ag [vb (Sp.Zaa (-p)),vf (us (Sp.Zad (-p))),vb (Sp.Zaa q),AV.vec ga 1 (us (Sp.Zad q))]) (by kernel_rfl) (bc rfl (bc rfl (bc rfl b0))) q0 (ce (@ev122 (fa) (p) k1) c0) H
theorem rPerf (fa:Bool) (a:Int)  (dq:AV) (H :
  (Sp.okS a) /\
  ((Sp.sqe a = 0) -> (Sp.okB (Sp.sq a) /\ Sp.okB (Sp.sq a))) /\
  ((Sp.sqe a = 0) -> (Sp.ok (Sp.sq a * Sp.sq a) /\ Sp.ok a)) /\
  Weak (tu [bigA false (Sp.sq a),vb (bif Sp.sqe a == 0 then decide (Sp.sq a * Sp.sq a = a) else false)]) dq) :
 rPerf_at fa a (Zaf dq):=by
 unfold rPerf_at
 obtain ⟨k1,k3,k5,H⟩:=H
 exact Zah (G:=Zac kp131 [(1,1,.call (tu [bigA false (Sp.sq a),vi (Sp.sqe a)]) none),(2,6,.call (bigA false (Sp.sq a * Sp.sq a)) none),(2,8,.call (vb (decide (Sp.sq a * Sp.sq a = a))) none)] []) 1000 [] (asm:=[true,true,true,!((Sp.sqe a == 0) == true && true) || true,!((Sp.sqe a == 0) == true && true) || true,!((Sp.sqe a == 0) == true && true) || true,true]) (calls:=[⟨true,false,158,[bigA fa a],[],tu [bigA false (Sp.sq a),vi (Sp.sqe a)],[]⟩,⟨(Sp.sqe a == 0) == true && true && true,false,88,[bigA false (Sp.sq a),bigA false (Sp.sq a)],[],bigA false (Sp.sq a * Sp.sq a),[]⟩,⟨(Sp.sqe a == 0) == true && true && true,false,79,[bigA false (Sp.sq a * Sp.sq a),bigA fa a],[],vb (decide (Sp.sq a * Sp.sq a = a)),[]⟩]) (tu [bigA false (Sp.sq a),vb (bif Sp.sqe a == 0 then decide (Sp.sq a * Sp.sq a = a) else false)]) (by kernel_rfl) (bc rfl (bc rfl (bc rfl (bc (Bool.or_true _) (bc (Bool.or_true _) (bc (Bool.or_true _) (bc rfl b0))))))) q0 (cc (fun _ => (@ev158 (fa) (a) k1)) (cc (fun hc => ((@ev88 (false) (false) (Sp.sq a) (Sp.sq a) (k3 ((i_at (i_at (i_bt i_eq))).1 hc))):Ev M1 (Conf.pure 88 [bigA false (Sp.sq a),bigA false (Sp.sq a)]) (bigA false (Sp.sq a * Sp.sq a)) [])) (cc (fun hc => ((@ev79 (false) (fa) (Sp.sq a * Sp.sq a) (a) (k5 ((i_at (i_at (i_bt i_eq))).1 hc))):Ev M1 (Conf.pure 79 [bigA false (Sp.sq a * Sp.sq a),bigA fa a]) (vb (decide (Sp.sq a * Sp.sq a = a))) [])) c0))) H
end Go.Av

namespace Go.Av
open Go.Proofs
set_option maxRecDepth 100000
def fi168:Fi:=⟨6,[.tmp 2]⟩
def kp168:List (Nat × List Nat):=[(0,[0]),(1,[2])]
def vIsNaN_at (x:Int) (Q:AV->Heap->Prop):Prop:=Wp M1 (.run fi168 (atC (cd Tryz.f168) []) [(0,.int .i64 x)] []) Q
theorem call168 {args:List AV} {d:AV} (h:wc M1 fi168 Tryz.f168 args d):Ev M1 (.pure 168 args) d []:=pcl _ _ (by kernel_rfl) h
theorem vIsNaN (x:Int)  (dq:AV) (H :
  (vb (x != x)) = dq) :
 vIsNaN_at x (Zaf dq):=by
 unfold vIsNaN_at
 exact Zaq (G:=Zac kp168 [] []) 1000 [] (vb (x != x)) (by kernel_rfl) b0 q0 c0 H
end Go.Av

namespace Go.Av
open Go.Proofs
theorem ev168 (x:Int):Ev M1 (.pure 168 [.int .i64 x]) (.bool false) []:=
 call168 (vIsNaN _ _ (by simp))
theorem ev99 (fa ga fb gb:Bool) (r s:Rat) (h:Sp.okR r /\ Sp.okR s /\ s.num ≠ 0):Ev M1 (.pure 99 [ratA fa ga r,ratA fb gb s]) (.tup [ratF (r / s),.int .i64 0]) []:=by
 obtain ⟨hr,hs,h0⟩:=h
 obtain ⟨r1,r2⟩:=ZdN hr
 obtain ⟨s1,s2⟩:=ZdN hs
 obtain ⟨cr1,cr2⟩:=hr
 obtain ⟨cs1,cs2⟩:=hs
 have m1:=ZaR cr1 (Za0 cs2)
 have m3:=ZaR (Za0 cr2) cs1
 refine call99 (vRDiv _ _ _ _ _ _ _ ⟨fun k => absurd (ZbL.1 k) h0,fun _ => ⟨⟨r1,s2⟩,⟨r2,s1⟩,⟨by unfold Sp.okB;omega,by unfold Sp.okB;omega,Int.mul_ne_zero (ZbP r) h0⟩,?_⟩⟩)
 rw [rat_div];exact .refl _
end Go.Av

namespace Go.Av
open Go.Proofs
set_option maxRecDepth 100000
def fi94:Fi:=⟨9,[.cell 4 26]⟩
def kp94:List (Nat × List Nat):=[(0,[2,3,4]),(1,[4])]
def fi148:Fi:=⟨20,[.tmp 4]⟩
def kp148:List (Nat × List Nat):=[(0,[0,1]),(1,[0,1,5]),(2,[0,1,5,6]),(3,[0,1,6,11]),(4,[12]),(5,[4]),(6,[4]),(7,[0,1,13]),(8,[4]),(9,[0,1,16]),(10,[4]),(11,[19]),(12,[4]),(13,[4])]
def Zhn (x y:Int) (Q:AV->Heap->Prop):Prop:=Wp M1 (.run fi148 (atC (cd Tryz.f148) []) [(0,.int .i64 x),(1,.int .i64 y)] []) Q
def vRSub_at (fa ga fb gb:Bool) (r s:Rat) (Q:AV->Heap->Prop):Prop:=Wp M1 (.run fi94 (atC (cd Tryz.f94) []) [(0,ratA fa ga r),(1,ratA fb gb s)] []) Q
theorem call94 {args:List AV} {d:AV} (h:wc M1 fi94 Tryz.f94 args d):Ev M1 (.pure 94 args) d []:=pcl _ _ (by kernel_rfl) h
theorem call148 {args:List AV} {d:AV} (h:wc M1 fi148 Tryz.f148 args d):Ev M1 (.pure 148 args) d []:=pcl _ _ (by kernel_rfl) h
theorem vCmpInt (x y:Int)  (dq:AV) (H :
  ((x < y) -> vi (-1) = dq) /\
  (¬(x < y) -> ((x > y) -> vi 1 = dq) /\
   (¬(x > y) -> vi 0 = dq))) :
 Zhn x y (Zaf dq):=by
 unfold Zhn
 refine Zae (G:=Zac kp148 [(1,1,.call (vb false) none),(2,1,.call (vb false) none)] []) 19 [false,false] ⟨(atC (cd Tryz.f148) [1,1,1,1,1,0,1]),[(0,vi x),(1,vi y),(16,vb (decide (x < y)))],[],_,[],_⟩ (by kernel_rfl) (bc rfl (bc rfl b0)) q0 (ce (@ev168 (x)) (ce (@ev168 (y)) c0)) ?_
 rcases xq H with ⟨d2,H⟩|⟨d2,H⟩
 ·exact Zaq (G:=Zac kp148 [] []) 1000 [true] (vi (-1)) (by kernel_rfl) (bc (Zar (Zab.2 d2)) b0) q0 c0 H
 ·rcases xq H with ⟨d4,H⟩|⟨d4,H⟩
  ·exact Zaq (G:=Zac kp148 [] []) 1000 [false,true] (vi 1) (by kernel_rfl) (bc (Zao (fun h => d2 (Zab.1 h))) (bc (Zar (Zab.2 d4)) b0)) q0 c0 H
  ·exact Zaq (G:=Zac kp148 [] []) 1000 [false,false] (vi 0) (by kernel_rfl) (bc (Zao (fun h => d2 (Zab.1 h))) (bc (Zao (fun h => d4 (Zab.1 h))) b0)) q0 c0 H
theorem vRSub (fa ga fb gb:Bool) (r s:Rat)  (dq:AV) (H :
  (Sp.okB s.num) /\
  (Sp.okR r /\ Sp.okR (-s)) /\
  Weak (ratF (r + -s)) dq) :
 vRSub_at fa ga fb gb r s (Zaf dq):=by
 unfold vRSub_at
 obtain ⟨k1,k2,H⟩:=H
 exact Zah (G:=Zac kp94 [(1,2,.call (ratF (-s)) none),(1,3,.call (ratF (r + -s)) none)] []) 1000 [] (ratF (r + -s)) (by kernel_rfl) (bc rfl (bc rfl (bc rfl b0))) q0 (ce (@ev65 (fb) (gb) (s) k1) (ce (@ev114 (fa) (ga) (false) (false) (r) (-s) k2) c0)) H
end Go.Av

namespace Go.Av
open Go.Proofs
theorem ev148 (x y:Int):Ev M1 (.pure 148 [.int .i64 x,.int .i64 y]) (.int .i64 (Sp.sgnI (x - y))) []:=by
 refine call148 (vCmpInt _ _ _ ⟨fun h => ?_,fun h => ⟨fun k => ?_,fun k => ?_⟩⟩)
 ·unfold Sp.sgnI;rw [if_pos (by omega)]
 ·unfold Sp.sgnI;rw [if_neg (by omega),if_pos (by omega)]
 ·unfold Sp.sgnI;rw [if_neg (by omega),if_neg (by omega)]
theorem okR_neg {s:Rat} (h:Sp.okR s):Sp.okR (-s):=by
 unfold Sp.okR at *
 rw [Rat.neg_num,Rat.neg_den,Int.natAbs_neg];exact h
theorem ev94 (fa ga fb gb:Bool) (r s:Rat) (h:Sp.okR r /\ Sp.okR s):Ev M1 (.pure 94 [ratA fa ga r,ratA fb gb s]) (ratF (r - s)) []:=by
 refine call94 (vRSub _ _ _ _ _ _ _ ⟨(ZdN h.2).1,⟨h.1,okR_neg h.2⟩,?_⟩)
 rw [<- Rat.sub_eq_add_neg];exact .refl _
theorem sgn_mul (a:Int) {d:Int} (h:0 < d):(a < 0 -> a * d < 0) /\ (a = 0 -> a * d = 0) /\ (0 < a -> 0 < a * d):=
 ⟨fun k => Int.mul_neg_of_neg_of_pos k h,fun k => by rw [k,Int.zero_mul],fun k => Int.mul_pos k h⟩
theorem ev110 (fa ga fb gb:Bool) (r s:Rat) (h:Sp.okR r /\ Sp.okR s):Ev M1 (.pure 110 [ratA fa ga r,ratA fb gb s]) (.int .i64 (Sp.sgnI (r.num * (s.den:Int) - s.num * (r.den:Int)))) []:=by
 obtain ⟨hr,hs⟩:=h
 obtain ⟨r1,r2⟩:=ZdN hr
 obtain ⟨s1,s2⟩:=ZdN hs
 obtain ⟨cr1,cr2⟩:=hr
 obtain ⟨cs1,cs2⟩:=hs
 have m1:=ZaR cr1 (Za0 cs2)
 have m2:=ZaR cs1 (Za0 cr2)
 refine call110 (vRCmp _ _ _ _ _ _ _ ⟨_,ev148 _ _,fun k => ?_,fun _ => ⟨⟨r1,s2⟩,⟨s1,r2⟩,⟨by unfold Sp.okB;omega,by unfold Sp.okB;omega⟩,rfl⟩⟩)
 obtain ⟨a1,a2,a3⟩:=sgn_mul r.num (d:=(s.den:Int)) (by have:=s.den_pos;omega)
 obtain ⟨b1,b2,b3⟩:=sgn_mul s.num (d:=(r.den:Int)) (by have:=r.den_pos;omega)
 congr 1
 generalize r.num * (s.den:Int) = A at a1 a2 a3 ⊢
 generalize s.num * (r.den:Int) = B at b1 b2 b3 ⊢
 unfold Sp.sgnI at k ⊢
 (repeat' split at k) <;> (repeat' split) <;> omega
end Go.Av

namespace Go.Av
open Go.Proofs
abbrev fracA (f g:Bool) (p q:Int):AV:=.agg [.bool (Sp.Zaa p),.vec f 1 ((Sp.Zad p).map (.int .u32)),.bool (Sp.Zaa q),.vec g 1 ((Sp.Zad q).map (.int .u32))]
abbrev noR:AV:=.agg [.bool false,.vec false 1 [],.bool false,.vec false 1 []]
theorem weak_nr:Weak (.agg [.bool false,.vnil,.bool false,.vnil]) noR:=by
 have w:Weak .vnil (.vec false 1 []):=by
  have:=Zda false
  cases this with
  | agg xs ys hl h => exact h 1 _ _ rfl rfl
 refine .agg _ _ rfl fun i x y hx hy => ?_
 match i with
 | 0 => simp at hx hy;subst hx;subst hy;exact .refl _
 | 1 => simp at hx hy;subst hx;subst hy;exact w
 | 2 => simp at hx hy;subst hx;subst hy;exact .refl _
 | 3 => simp at hx hy;subst hx;subst hy;exact w
 | i + 4 => simp at hx
theorem okR_S {r:Rat} (h:Sp.okR r):Sp.okS r.num /\ Sp.okS (r.den:Int):=by
 unfold Sp.okR at h
 unfold Sp.okS
 rw [Int.natAbs_natCast];omega
theorem ev141_y (fa ga:Bool) (r:Rat) (h:Sp.okR r) (k:Sp.rsq r):Ev M1 (.pure 141 [ratA fa ga r]) (.tup [ratF (Sp.rt r),.bool true]) []:=by
 obtain ⟨h1,h2⟩:=okR_S h
 obtain ⟨e1,e2⟩:=rt_num k
 refine call141 (vRSqrt _ _ _ _ ⟨h1,fun _ => ⟨h2,fun _ => ?_,fun x => absurd k.2 x⟩,fun x => absurd k.1 x⟩)
 show Weak _ (AV.tup [AV.agg [.bool (Sp.Zaa (Sp.rt r).num),.vec false 1 ((Sp.Zad (Sp.rt r).num).map (.int .u32)),.bool (Sp.Zaa ((Sp.rt r).den:Int)),.vec false 1 ((Sp.Zad ((Sp.rt r).den:Int)).map (.int .u32))],.bool true])
 rw [e1,e2];exact .refl _
theorem ev141_n (fa ga:Bool) (r:Rat) (h:Sp.okR r) (k:¬(Sp.rsq r)):Ev M1 (.pure 141 [ratA fa ga r]) (.tup [noR,.bool false]) []:=by
 obtain ⟨h1,h2⟩:=okR_S h
 exact call141 (vRSqrt _ _ _ _ ⟨h1,fun x => ⟨h2,fun y => absurd ⟨x,y⟩ k,fun _ => Zcj weak_nr (.refl _)⟩,fun _ => Zcj weak_nr (.refl _)⟩)
theorem val_big {s:Bool} {a:List Int} (hx:∀ x ∈ a,0 <= x) (h:Sp.val s a = true):∃ v:Int,Sp.Zaa v = s /\ Sp.Zad v = a:=by
 unfold Sp.val at h
 rw [Bool.and_eq_true,List.all_eq_true] at h
 obtain ⟨h1,h2⟩:=h
 have ha:∀ x ∈ a,0 <= x /\ x < 1000000000:=fun x hm => ⟨hx x hm,by simpa using h1 x hm⟩
 obtain ⟨e,f⟩:=ZeR a ha
 by_cases hl:0 < a.length
 ·rw [show decide (0 < a.length) = true from decide_eq_true hl,cond_true] at h2
  have hn:¬Sp.fits (a.length - 1) (valL a):=by
   intro hf
   have hz:=Zcv.1 hf
   have hg:=Zax (n:=a.length) (valL a) (show a.length - 1 < a.length by omega)
   rw [<- e,hz] at hg
   rw [hg] at h2
   simp at h2
  have el:=lim_of f (.inr hn)
  rw [<- e] at el
  refine ⟨Sp.sg s (valL a),?_,by rw [sg_limI];exact el.symm⟩
  rw [sg_neg]
  have:valL a ≠ 0:=by
   intro hz
   apply hn
   rw [hz]
   exact Zcv.2 (Nat.zero_div _)
  cases s <;> simp [this]
 ·have:a = []:=List.eq_nil_of_length_eq_zero (by omega)
  subst this
  have hs:s = false:=by simpa using h2
  subst hs
  exact ⟨0,rfl,ZbR⟩
theorem big_inj {v w:Int} (h:Sp.Zad v = Sp.Zad w) (hs:Sp.Zaa v = Sp.Zaa w):v = w:=by
 have e:v.natAbs = w.natAbs:=by
  have a:=Zez _ _ (Zaj v.natAbs)
  have b:=Zez _ _ (Zaj w.natAbs)
  rw [<- a,<- b]
  exact congrArg valL h
 have a:=@Zal v
 have b:=@Zal w
 rw [hs] at a
 have c:=a.symm.trans b
 omega
def Sp.valR (s:Bool) (a:List Int) (t:Bool) (b:List Int):Prop:=∃ r:Rat,Sp.Zaa r.num=s/\Sp.Zad r.num=a/\Sp.Zaa (r.den:Int)=t/\Sp.Zad (r.den:Int)=b
theorem valR_pq (p q:Int):Sp.valR (Sp.Zaa p) (Sp.Zad p) (Sp.Zaa q) (Sp.Zad q) ↔ 0 < q /\ Int.gcd p q = 1:=by
 constructor
 ·rintro ⟨r,h1,h2,h3,h4⟩
  have e1:=big_inj h2 h1
  have e2:=big_inj h4 h3
  subst e1;subst e2
  have:=r.den_pos
  exact ⟨by omega,r.reduced⟩
 ·rintro ⟨h1,h2⟩
  obtain ⟨e1,e2⟩:=Ze9 (a:=p) h1
  rw [h2] at e1 e2
  refine ⟨Rat.divInt p q,?_⟩
  rw [e1,e2];simp
theorem valR_val {s t:Bool} {a b:List Int} (h:Sp.valR s a t b):Sp.val s a = true /\ Sp.val t b = true:=by
 obtain ⟨r,rfl,rfl,rfl,rfl⟩:=h
 exact ⟨val_true _,val_true _⟩
theorem valR_rat (r:Rat):Sp.valR (Sp.Zaa r.num) (Sp.Zad r.num) (Sp.Zaa (r.den:Int)) (Sp.Zad (r.den:Int)):=⟨r,rfl,rfl,rfl,rfl⟩
end Go.Av

namespace Go.Av
open Go.Proofs
theorem gcd_cnt {a b:Int} (hb:b ≠ 0) (h:Sp.cnt b.natAbs <= 399000):Sp.cnt ((a.gcd b:Nat):Int).natAbs <= 399000 /\ ((a.gcd b:Nat):Int) ≠ 0:=by
 have h1:0 < a.gcd b:=Int.gcd_pos_of_ne_zero_right _ hb
 have h2:a.gcd b <= b.natAbs:=Nat.le_of_dvd (by omega) (Int.gcd_dvd_natAbs_right a b)
 have:=ZaJ h2
 rw [Int.natAbs_natCast]
 omega
theorem ev81:Ev M1 (.pure 81 []) (.agg [.bool false,.vec false 1 ((Sp.Zad 1).map (.int .u32))]) []:=
 call81 (rUnit _ ⟨by unfold Sp.inI;omega,.refl _⟩)
theorem ev89 (fa fb:Bool) (a b:Int) (h:Sp.cnt a.natAbs <= 399000 /\ Sp.cnt b.natAbs <= 399000 /\ b ≠ 0):Ev M1 (.pure 89 [bigA fa a,bigA fb b]) (ratF (Rat.divInt a b)) []:=by
 obtain ⟨ha,hb,h0⟩:=h
 have hna:Sp.cnt (-a).natAbs <= 399000:=by rwa [Int.natAbs_neg]
 have hnb:Sp.cnt (-b).natAbs <= 399000:=by rwa [Int.natAbs_neg]
 refine call89 (rOf _ _ _ _ _ ⟨fun k => ?_,fun k => ?_⟩)
 ·rw [Zbp] at k
  obtain ⟨g1,g2⟩:=gcd_cnt (a:=-a) (b:=-b) (by omega) hnb
  obtain ⟨r1,r2⟩:=rat_neg (a:=a) k
  refine ⟨by unfold Sp.ok;omega,by unfold Sp.ok;omega,⟨hna,hnb⟩,⟨hna,g1,g2⟩,⟨hnb,g1,g2⟩,?_⟩
  show Weak _ (AV.agg [.bool (Sp.Zaa (Rat.divInt a b).num),.vec false 1 ((Sp.Zad (Rat.divInt a b).num).map (.int .u32)),.bool (Sp.Zaa ((Rat.divInt a b).den:Int)),.vec false 1 ((Sp.Zad ((Rat.divInt a b).den:Int)).map (.int .u32))])
  rw [r1,r2,ZdT g2,ZdT g2];exact .refl _
 ·rw [Zbp] at k
  obtain ⟨g1,g2⟩:=gcd_cnt (a:=a) (b:=b) h0 hb
  obtain ⟨r1,r2⟩:=Ze9 (a:=a) (show 0 < b by omega)
  refine ⟨⟨ha,hb⟩,⟨ha,g1,g2⟩,⟨hb,g1,g2⟩,?_⟩
  show Weak _ (AV.agg [.bool (Sp.Zaa (Rat.divInt a b).num),.vec false 1 ((Sp.Zad (Rat.divInt a b).num).map (.int .u32)),.bool (Sp.Zaa ((Rat.divInt a b).den:Int)),.vec false 1 ((Sp.Zad ((Rat.divInt a b).den:Int)).map (.int .u32))])
  rw [r1,r2,ZdT g2,ZdT g2];exact .refl _
theorem ev20 (fa ga:Bool) (p q:Int):Ev M1 (.pure 20 [fracA fa ga p q]) (.int .i64 (Sp.sgnI p)) []:=
 call20 (rRSign _ _ _ _ _ rfl)
theorem ev82 (fa ga:Bool) (r:Rat) (h:Sp.ok r.num):Ev M1 (.pure 82 [ratA fa ga r]) (ratF (-r)) []:=by
 refine call82 (rRNeg _ _ _ _ _ ⟨h,?_⟩)
 show Weak _ (AV.agg [.bool (Sp.Zaa (-r).num),.vec false 1 ((Sp.Zad (-r).num).map (.int .u32)),.bool (Sp.Zaa ((-r).den:Int)),.vec false 1 ((Sp.Zad ((-r).den:Int)).map (.int .u32))])
 rw [Rat.neg_num,Rat.neg_den]
 exact ZdY _ _ _ _ _ _
theorem isSqD (a:Int):(bif Sp.sqe a == 0 then decide (Sp.sq a * Sp.sq a = a) else false) = Sp.ZeV a:=by
 unfold Sp.ZeV
 congr 1
 have h:=@ZbL (Sp.sq a * Sp.sq a - a)
 by_cases e:Sp.sq a * Sp.sq a = a
 ·rw [decide_eq_true e,h.2 (by omega)];rfl
 ·rw [decide_eq_false e]
  exact (beq_eq_false_iff_ne.2 fun x => e (by have:=h.1 x;omega)).symm
theorem ev131 (fa:Bool) (a:Int) (h:Sp.okS a):Ev M1 (.pure 131 [bigA fa a]) (.tup [bigA false (Sp.sq a),.bool (Sp.ZeV a)]) []:=by
 have hk:Sp.sqe a = 0 -> 0 <= a:=by
  intro k
  unfold Sp.sqe at k
  split at k <;> omega
 have h':=h
 unfold Sp.okS at h'
 refine call131 (rPerf _ _ _ ⟨h,fun k => ?_,fun k => ⟨?_,?_⟩,?_⟩)
 ·have:=ZaJ (sq_le (hk k)).2
  unfold Sp.okB
  omega
 ·have:=ZaJ (sq_le (hk k)).1
  unfold Sp.ok
  rw [Int.natAbs_mul];omega
 ·unfold Sp.ok;omega
 ·rw [isSqD];exact .refl _
end Go.Av

namespace Go.Av
open Go.Proofs
set_option maxRecDepth 100000
def fi27:Fi:=⟨26,[.tmp 2]⟩
def kp27:List (Nat × List Nat):=[(0,[1]),(1,[1,18]),(2,[2]),(3,[2])]
def fi34:Fi:=⟨26,[.cell 4 26]⟩
def kp34:List (Nat × List Nat):=[(0,[2,3,4]),(1,[2,3,4,5]),(2,[2,3,4,5,6]),(3,[4])]
def fi35:Fi:=⟨16,[.cell 4 26]⟩
def kp35:List (Nat × List Nat):=[(0,[2,3,4]),(1,[4])]
def fi74:Fi:=⟨16,[.tmp 4]⟩
def kp74:List (Nat × List Nat):=[(0,[2,3]),(1,[4])]
def fi84:Fi:=⟨7,[.cell 2 26]⟩
def kp84:List (Nat × List Nat):=[(0,[0,2]),(1,[2])]
def fi91:Fi:=⟨30,[.cell 2 26,.tmp 3]⟩
def kp91:List (Nat × List Nat):=[(0,[1,2]),(1,[1,2,4,5]),(2,[2,4,5,6,7]),(3,[2,4,6,25]),(4,[2,3]),(5,[2,3])]
def fi136:Fi:=⟨13,[.cell 4 26,.tmp 5]⟩
def kp136:List (Nat × List Nat):=[(0,[2,3,4]),(1,[2,3,4,8]),(2,[4,5]),(3,[4,5])]
def rRFrom_at (n:Int) (Q:AV->Heap->Prop):Prop:=Wp M1 (.run fi84 (atC (cd Tryz.f84) []) [(0,.int .i64 n)] []) Q
def rRAdd_at (fa ga fb gb:Bool) (r s:Rat) (Q:AV->Heap->Prop):Prop:=Wp M1 (.run fi34 (atC (cd Tryz.f34) []) [(0,ratA fa ga r),(1,ratA fb gb s)] []) Q
def rRMul_at (fa ga fb gb:Bool) (r s:Rat) (Q:AV->Heap->Prop):Prop:=Wp M1 (.run fi35 (atC (cd Tryz.f35) []) [(0,ratA fa ga r),(1,ratA fb gb s)] []) Q
def rRCmp_at (fa ga fb gb:Bool) (r s:Rat) (Q:AV->Heap->Prop):Prop:=Wp M1 (.run fi74 (atC (cd Tryz.f74) []) [(0,ratA fa ga r),(1,ratA fb gb s)] []) Q
def rRMake_at (fa fb:Bool) (a b:Int) (Q:AV->Heap->Prop):Prop:=Wp M1 (.run fi136 (atC (cd Tryz.f136) []) [(0,bigA fa a),(1,bigA fb b)] []) Q
def Zhz (fa ga:Bool) (p q:Int) (Q:AV->Heap->Prop):Prop:=Wp M1 (.run fi27 (atC (cd Tryz.f27) []) [(0,.agg [.bool (Sp.Zaa p),.vec fa 1 ((Sp.Zad p).map (.int .u32)),.bool (Sp.Zaa q),.vec ga 1 ((Sp.Zad q).map (.int .u32))])] []) Q
def Zgl (s fa t ga:Bool) (a b:List Int) (Q:AV->Heap->Prop):Prop:=Wp M1 (.run fi27 (atC (cd Tryz.f27) []) [(0,.agg [.bool s,.vec fa 1 (a.map (.int .u32)),.bool t,.vec ga 1 (b.map (.int .u32))])] []) Q
def rRSqrt_at (fa ga:Bool) (r:Rat) (Q:AV->Heap->Prop):Prop:=Wp M1 (.run fi91 (atC (cd Tryz.f91) []) [(0,ratA fa ga r)] []) Q
theorem call27 {args:List AV} {d:AV} (h:wc M1 fi27 Tryz.f27 args d):Ev M1 (.pure 27 args) d []:=pcl _ _ (by kernel_rfl) h
theorem call34 {args:List AV} {d:AV} (h:wc M1 fi34 Tryz.f34 args d):Ev M1 (.pure 34 args) d []:=pcl _ _ (by kernel_rfl) h
theorem call35 {args:List AV} {d:AV} (h:wc M1 fi35 Tryz.f35 args d):Ev M1 (.pure 35 args) d []:=pcl _ _ (by kernel_rfl) h
theorem call74 {args:List AV} {d:AV} (h:wc M1 fi74 Tryz.f74 args d):Ev M1 (.pure 74 args) d []:=pcl _ _ (by kernel_rfl) h
theorem call84 {args:List AV} {d:AV} (h:wc M1 fi84 Tryz.f84 args d):Ev M1 (.pure 84 args) d []:=pcl _ _ (by kernel_rfl) h
theorem call91 {args:List AV} {d:AV} (h:wc M1 fi91 Tryz.f91 args d):Ev M1 (.pure 91 args) d []:=pcl _ _ (by kernel_rfl) h
theorem call136 {args:List AV} {d:AV} (h:wc M1 fi136 Tryz.f136 args d):Ev M1 (.pure 136 args) d []:=pcl _ _ (by kernel_rfl) h
theorem rRFrom (n:Int)  (dq:AV) (H :
  (Sp.inI n) /\
  Weak (ag [vb (Sp.Zaa n),vf (us (Sp.Zad n)),vb false,vf (us (Sp.Zad 1))]) dq) :
 rRFrom_at n (Zaf dq):=by
 unfold rRFrom_at
 obtain ⟨k1,H⟩:=H
 exact Zah (G:=Zac kp84 [(1,1,.call (bigA false n) none),(1,2,.call (ag [vb false,vf (us (Sp.Zad 1))]) none)] []) 1000 [] (ag [vb (Sp.Zaa n),vf (us (Sp.Zad n)),vb false,vf (us (Sp.Zad 1))]) (by kernel_rfl) (bc rfl b0) q0 (ce (@ev121 (n) k1) (ce (@ev81 ) c0)) H
theorem rRAdd (fa ga fb gb:Bool) (r s:Rat)  (dq:AV) (H :
  (Sp.okB r.num /\ Sp.okB (↑s.den:Int)) /\
  (Sp.okB s.num /\ Sp.okB (↑r.den:Int)) /\
  (Sp.okB (r.num * (↑s.den:Int)) /\ Sp.okB (s.num * (↑r.den:Int))) /\
  (Sp.okB (↑r.den:Int) /\ Sp.okB (↑s.den:Int)) /\
  (Sp.cnt (r.num * (↑s.den:Int) + s.num * (↑r.den:Int)).natAbs <= 399000 /\ Sp.cnt ((↑r.den:Int) * (↑s.den:Int)).natAbs <= 399000 /\ (↑r.den:Int) * (↑s.den:Int) ≠ 0) /\
  Weak (ratF (Rat.divInt (r.num * (↑s.den:Int) + s.num * (↑r.den:Int)) ((↑r.den:Int) * (↑s.den:Int)))) dq) :
 rRAdd_at fa ga fb gb r s (Zaf dq):=by
 unfold rRAdd_at
 obtain ⟨k1,k2,k3,k4,k5,H⟩:=H
 exact Zah (G:=Zac kp34 [(1,4,.call (bigA false (r.num * (↑s.den:Int))) none),(2,4,.call (bigA false (s.num * (↑r.den:Int))) none),(3,2,.call (bigA false (r.num * (↑s.den:Int) + s.num * (↑r.den:Int))) none),(3,7,.call (bigA false ((↑r.den:Int) * (↑s.den:Int))) none),(3,8,.call (ratF (Rat.divInt (r.num * (↑s.den:Int) + s.num * (↑r.den:Int)) ((↑r.den:Int) * (↑s.den:Int)))) none)] []) 1000 [] (ratF (Rat.divInt (r.num * (↑s.den:Int) + s.num * (↑r.den:Int)) ((↑r.den:Int) * (↑s.den:Int)))) (by kernel_rfl) (bc rfl (bc rfl (bc rfl (bc rfl (bc rfl (bc rfl (bc rfl (bc rfl (bc rfl (bc rfl (bc rfl b0))))))))))) q0 (ce (@ev88 (fa) (gb) (r.num) ((↑s.den:Int)) k1) (ce (@ev88 (fb) (ga) (s.num) ((↑r.den:Int)) k2) (ce (@ev90 (false) (false) (r.num * (↑s.den:Int)) (s.num * (↑r.den:Int)) k3) (ce (@ev88 (ga) (gb) ((↑r.den:Int)) ((↑s.den:Int)) k4) (ce (@ev89 (false) (false) (r.num * (↑s.den:Int) + s.num * (↑r.den:Int)) ((↑r.den:Int) * (↑s.den:Int)) k5) c0))))) H
theorem rRMul (fa ga fb gb:Bool) (r s:Rat)  (dq:AV) (H :
  (Sp.okB r.num /\ Sp.okB s.num) /\
  (Sp.okB (↑r.den:Int) /\ Sp.okB (↑s.den:Int)) /\
  (Sp.cnt (r.num * s.num).natAbs <= 399000 /\ Sp.cnt ((↑r.den:Int) * (↑s.den:Int)).natAbs <= 399000 /\ (↑r.den:Int) * (↑s.den:Int) ≠ 0) /\
  Weak (ratF (Rat.divInt (r.num * s.num) ((↑r.den:Int) * (↑s.den:Int)))) dq) :
 rRMul_at fa ga fb gb r s (Zaf dq):=by
 unfold rRMul_at
 obtain ⟨k1,k2,k3,H⟩:=H
 exact Zah (G:=Zac kp35 [(1,4,.call (bigA false (r.num * s.num)) none),(1,9,.call (bigA false ((↑r.den:Int) * (↑s.den:Int))) none),(1,10,.call (ratF (Rat.divInt (r.num * s.num) ((↑r.den:Int) * (↑s.den:Int)))) none)] []) 1000 [] (ratF (Rat.divInt (r.num * s.num) ((↑r.den:Int) * (↑s.den:Int)))) (by kernel_rfl) (bc rfl (bc rfl (bc rfl (bc rfl (bc rfl b0))))) q0 (ce (@ev88 (fa) (fb) (r.num) (s.num) k1) (ce (@ev88 (ga) (gb) ((↑r.den:Int)) ((↑s.den:Int)) k2) (ce (@ev89 (false) (false) (r.num * s.num) ((↑r.den:Int) * (↑s.den:Int)) k3) c0))) H
theorem rRCmp (fa ga fb gb:Bool) (r s:Rat)  (dq:AV) (H :
  (Sp.okB r.num /\ Sp.okB (↑s.den:Int)) /\
  (Sp.okB s.num /\ Sp.okB (↑r.den:Int)) /\
  (Sp.okB (r.num * (↑s.den:Int)) /\ Sp.okB (s.num * (↑r.den:Int))) /\
  vi (Sp.sgnI (r.num * (↑s.den:Int) - s.num * (↑r.den:Int))) = dq) :
 rRCmp_at fa ga fb gb r s (Zaf dq):=by
 unfold rRCmp_at
 obtain ⟨k1,k2,k3,H⟩:=H
 exact Zaq (G:=Zac kp74 [(1,4,.call (bigA false (r.num * (↑s.den:Int))) none),(1,9,.call (bigA false (s.num * (↑r.den:Int))) none),(1,10,.call (vi (Sp.sgnI (r.num * (↑s.den:Int) - s.num * (↑r.den:Int)))) none)] []) 1000 [] (vi (Sp.sgnI (r.num * (↑s.den:Int) - s.num * (↑r.den:Int)))) (by kernel_rfl) (bc rfl (bc rfl (bc rfl (bc rfl b0)))) q0 (ce (@ev88 (fa) (gb) (r.num) ((↑s.den:Int)) k1) (ce (@ev88 (fb) (ga) (s.num) ((↑r.den:Int)) k2) (ce (@ev111 (false) (false) (r.num * (↑s.den:Int)) (s.num * (↑r.den:Int)) k3) c0))) H
theorem rRMake (fa fb:Bool) (a b:Int)  (dq:AV) (H :
  ((Sp.sgnI b = 0) -> Weak (tu [ag [vb false,AV.vnil,vb false,AV.vnil],vi 6]) dq) /\
  (¬(Sp.sgnI b = 0) -> (Sp.cnt a.natAbs <= 399000 /\ Sp.cnt b.natAbs <= 399000 /\ b ≠ 0) /\
   Weak (tu [ratF (Rat.divInt a b),vi 0]) dq)) :
 rRMake_at fa fb a b (Zaf dq):=by
 unfold rRMake_at
 refine Zae (G:=Zac kp136 [(1,1,.call (vi (Sp.sgnI b)) none)] []) 5 [] ⟨(atC (cd Tryz.f136) [1,0,1]),[(2,AV.ptr 0 0 0 0),(3,AV.ptr 1 0 0 0),(4,AV.ptr 2 0 0 0),(8,vb (Sp.sgnI b == 0))],[⟨[bigA fa a],2,0,false,false⟩,⟨[bigA fb b],2,0,false,false⟩,⟨[ag [vb false,AV.vnil,vb false,AV.vnil]],4,0,false,false⟩],_,[],_⟩ (by kernel_rfl) (bc rfl b0) q0 (ce (@ev71 (fb) (b)) c0) ?_
 rcases xq H with ⟨d2,H⟩|⟨d2,H⟩
 ·exact Zah (G:=Zac kp136 [] []) 1000 [true] (tu [ag [vb false,AV.vnil,vb false,AV.vnil],vi 6]) (by kernel_rfl) (bc (Zar (i_eq.2 d2)) (bc rfl b0)) q0 c0 H
 ·obtain ⟨k3,H⟩:=H
  exact Zah (G:=Zac kp136 [(3,2,.call (ratF (Rat.divInt a b)) none)] []) 1000 [false] (tu [ratF (Rat.divInt a b),vi 0]) (by kernel_rfl) (bc (Zao (fun h => d2 (i_eq.1 h))) (bc rfl (bc rfl (bc rfl b0)))) q0 (ce (@ev89 (fa) (fb) (a) (b) k3) c0) H
theorem rRValid (fa ga:Bool) (p q:Int)  (dq:AV) (H :
  (Sp.ok p) /\
  (Sp.ok q) /\
  ((¬Sp.sgnI q = 1) -> vb false = dq) /\
  (¬(¬Sp.sgnI q = 1) -> (Sp.cnt p.natAbs <= 399000 /\ Sp.cnt q.natAbs <= 399000) /\
   ∃ (b1:Bool),
   (Ev M1 (Conf.pure 79 [bigA false (↑(p.gcd q):Int),ag [vb false,vf (us (Sp.Zad 1))]]) (vb b1) []) /\
   vb b1 = dq)) :
 Zhz fa ga p q (Zaf dq):=by
 unfold Zhz
 obtain ⟨k1,k2,H⟩:=H
 refine Zae (G:=Zac kp27 [(1,2,.call (vb true) none),(1,7,.call (vb true) none),(1,13,.call (vi (Sp.sgnI q)) none)] []) 5 [] ⟨(atC (cd Tryz.f27) [1,0,1]),[(1,AV.ptr 0 0 0 0),(18,vb (Sp.sgnI q != 1))],[⟨[ag [vb (Sp.Zaa p),AV.vec fa 1 (us (Sp.Zad p)),vb (Sp.Zaa q),AV.vec ga 1 (us (Sp.Zad q))]],4,0,false,false⟩],_,[],_⟩ (by kernel_rfl) (bc rfl (bc rfl (bc rfl b0))) q0 (ce (@ev78 (fa) (p) k1) (ce (@ev78 (ga) (q) k2) (ce (@ev71 (ga) (q)) c0))) ?_
 rcases xq H with ⟨d4,H⟩|⟨d4,H⟩
 ·exact Zaq (G:=Zac kp27 [] []) 1000 [true] (vb false) (by kernel_rfl) (bc (Zar (i_ne.2 d4)) b0) q0 c0 H
 ·obtain ⟨k5,b1,k6,H⟩:=H
  exact Zaq (G:=Zac kp27 [(3,4,.call (bigA false (↑(p.gcd q):Int)) none),(3,5,.call (ag [vb false,vf (us (Sp.Zad 1))]) none),(3,6,.call (vb b1) none)] []) 1000 [false] (vb b1) (by kernel_rfl) (bc (Zao (fun h => d4 (i_ne.1 h))) (bc rfl (bc rfl b0))) q0 (ce (@ev80 (fa) (ga) (p) (q) k5) (ce (@ev81 ) (ce k6 c0))) H
noncomputable abbrev zNwH1 (t:Bool) (ga:Bool) (b:List Int):=ag [vb t,AV.vec ga 1 (us b)]
theorem rRValidA (s fa t ga:Bool) (a b:List Int)  (dq:AV) (H :
  (Sp.Zay a.length) /\
  ((¬(¬(Sp.val s a = true))) -> (Sp.Zay b.length)) /\
  ∃ (n1:Int),
  ((¬((¬(Sp.val s a = true)) \/ (¬(Sp.val t b = true)))) -> (Ev M1 (Conf.pure 71 [ag [vb t,AV.vec ga 1 (us b)]]) (vi n1) [])) /\
  ((((¬(Sp.val s a = true)) \/ (¬(Sp.val t b = true))) \/ (¬n1 = 1)) -> vb false = dq) /\
  (¬(((¬(Sp.val s a = true)) \/ (¬(Sp.val t b = true))) \/ (¬n1 = 1)) -> ∃ (b1:Bool) (l1:List (Int)),
   (Ev M1 (Conf.pure 80 [ag [vb s,AV.vec fa 1 (us a)],ag [vb t,AV.vec ga 1 (us b)]]) (ag [vb b1,vf (us l1)]) []) /\
   ∃ (b2:Bool),
   (Ev M1 (Conf.pure 79 [ag [vb b1,vf (us l1)],ag [vb false,vf (us (Sp.Zad 1))]]) (vb b2) []) /\
   vb b2 = dq)) :
 Zgl s fa t ga a b (Zaf dq):=by
 unfold Zgl
 obtain ⟨k1,k3,n1,k5,H⟩:=H
 refine Zae (G:=Zac kp27 [(1,2,.call (vb (Sp.val s a)) none),(1,7,.call (vb (Sp.val t b)) none),(1,13,.call (vi n1) none)] []) 5 [] ⟨(atC (cd Tryz.f27) [1,0,1]),[(1,AV.ptr 0 0 0 0),(18,vb (bif bif !Sp.val s a then true else !Sp.val t b then true else n1 != 1))],[⟨[ag [vb s,AV.vec fa 1 (us a),vb t,AV.vec ga 1 (us b)]],4,0,false,false⟩],[true,!((!Sp.val s a) == false && true) || true,!((bif !Sp.val s a then true else !Sp.val t b) == false && true) || true],[],[⟨true,false,78,[ag [vb s,AV.vec fa 1 (us a)]],[],vb (Sp.val s a),[]⟩,⟨(!Sp.val s a) == false && true && true,false,78,[(zNwH1 t ga b)],[],vb (Sp.val t b),[]⟩,⟨(bif !Sp.val s a then true else !Sp.val t b) == false && true && true,false,71,[(zNwH1 t ga b)],[],vi n1,[]⟩]⟩ (by kernel_rfl) (bc rfl (bc (Bool.or_true _) (bc (Bool.or_true _) b0))) q0 (cc (fun _ => (@ev78_a (s) (fa) (a) k1)) (cc (fun hc => ((@ev78_a (t) (ga) (b) (k3 ((i_at (i_at (i_bf (Za3 (ZaE _))))).1 hc))):Ev M1 (Conf.pure 78 [(zNwH1 t ga b)]) (vb (Sp.val t b)) [])) (cc (fun hc => ((k5 ((i_at (i_at (i_bf (Zbm (Za3 (ZaE _)) (Za3 (ZaE _)))))).1 hc)):Ev M1 (Conf.pure 71 [(zNwH1 t ga b)]) (vi n1) [])) c0))) ?_
 rcases xq H with ⟨d7,H⟩|⟨d7,H⟩
 ·exact Zaq (G:=Zac kp27 [] []) 1000 [true] (asm:=[(bif bif !Sp.val s a then true else !Sp.val t b then true else n1 != 1) == true]) (vb false) (by kernel_rfl) (bc (Zar ((Zbm (Zbm (Za3 (ZaE _)) (Za3 (ZaE _))) i_ne).2 d7)) b0) q0 c0 H
 ·obtain ⟨b1,l1,k8,b2,k9,H⟩:=H
  exact Zaq (G:=Zac kp27 [(3,4,.call (ag [vb b1,vf (us l1)]) none),(3,5,.call (ag [vb false,vf (us (Sp.Zad 1))]) none),(3,6,.call (vb b2) none)] []) 1000 [false] (asm:=[(bif bif !Sp.val s a then true else !Sp.val t b then true else n1 != 1) == false,true,true]) (vb b2) (by kernel_rfl) (bc (Zao (fun h => d7 ((Zbm (Zbm (Za3 (ZaE _)) (Za3 (ZaE _))) i_ne).1 h))) (bc rfl (bc rfl b0))) q0 (ce k8 (ce (@ev81 ) (ce k9 c0))) H
noncomputable abbrev zNwH2 (r:Rat):=bif !Sp.ZeV r.num then true else !Sp.ZeV (↑r.den:Int)
theorem rRSqrt (fa ga:Bool) (r:Rat)  (dq:AV) (H :
  (Sp.okS r.num) /\
  (Sp.okS (↑r.den:Int)) /\
  (((¬(Sp.ZeV r.num = true)) \/ (¬(Sp.ZeV (↑r.den:Int) = true))) -> Weak (tu [ag [vb false,AV.vnil,vb false,AV.vnil],vb false]) dq) /\
  (¬((¬(Sp.ZeV r.num = true)) \/ (¬(Sp.ZeV (↑r.den:Int) = true))) -> Weak (tu [ag [vb (Sp.Zaa (Sp.sq r.num)),vf (us (Sp.Zad (Sp.sq r.num))),vb (Sp.Zaa (Sp.sq (↑r.den:Int))),vf (us (Sp.Zad (Sp.sq (↑r.den:Int))))],vb true]) dq)) :
 rRSqrt_at fa ga r (Zaf dq):=by
 unfold rRSqrt_at
 obtain ⟨k1,k2,H⟩:=H
 refine Zae (G:=Zac kp91 [(1,2,.call (tu [bigA false (Sp.sq r.num),vb (Sp.ZeV r.num)]) none),(2,2,.call (tu [bigA false (Sp.sq (↑r.den:Int)),vb (Sp.ZeV (↑r.den:Int))]) none)] []) 9 [] ⟨(atC (cd Tryz.f91) [1,1,1,0,1]),[(2,AV.ptr 1 0 0 0),(4,AV.ptr 2 0 0 0),(6,AV.ptr 3 0 0 0),(25,vb (zNwH2 r))],[⟨[ratA fa ga r],4,0,false,false⟩,⟨[ag [vb false,AV.vnil,vb false,AV.vnil]],4,0,false,false⟩,⟨[bigA false (Sp.sq r.num)],2,0,false,false⟩,⟨[bigA false (Sp.sq (↑r.den:Int))],2,0,false,false⟩],_,[],_⟩ (by kernel_rfl) (bc rfl (bc rfl (bc rfl (bc rfl b0)))) q0 (ce (@ev131 (fa) (r.num) k1) (ce (@ev131 (ga) ((↑r.den:Int)) k2) c0)) ?_
 rcases xq H with ⟨d4,H⟩|⟨d4,H⟩
 ·exact Zah (G:=Zac kp91 [] []) 1000 [true] (asm:=[(zNwH2 r) == true,true]) (tu [ag [vb false,AV.vnil,vb false,AV.vnil],vb false]) (by kernel_rfl) (bc (Zar ((Zbm (Za3 (ZaE _)) (Za3 (ZaE _))).2 d4)) (bc rfl b0)) q0 c0 H
 ·exact Zah (G:=Zac kp91 [] []) 1000 [false] (asm:=[(zNwH2 r) == false,true,true,true]) (tu [ag [vb (Sp.Zaa (Sp.sq r.num)),vf (us (Sp.Zad (Sp.sq r.num))),vb (Sp.Zaa (Sp.sq (↑r.den:Int))),vf (us (Sp.Zad (Sp.sq (↑r.den:Int))))],vb true]) (by kernel_rfl) (bc (Zao (fun h => d4 ((Zbm (Za3 (ZaE _)) (Za3 (ZaE _))).1 h))) (bc rfl (bc rfl (bc rfl b0)))) q0 c0 H
end Go.Av

namespace Go.Av
open Go.Proofs
set_option maxRecDepth 100000
end Go.Av

namespace Go.Av
open Go.Proofs
def Sp.okA (a b:List Int):Prop:=(a.length<=90000 /\ ∀ x ∈ a,0<=x)/\(b.length<=90000 /\ ∀ x ∈ b,0<=x)
noncomputable def Sp.Zb9 (s:Bool) (a:List Int) (t:Bool) (b:List Int):Bool:=@decide (Sp.valR s a t b) (Classical.propDecidable _)
theorem ZeA {s t:Bool} {a b:List Int}:Sp.Zb9 s a t b=true ↔ Sp.valR s a t b:=@decide_eq_true_iff _ (Classical.propDecidable _)
theorem Ze6 {s t:Bool} {a b:List Int} (h:¬Sp.valR s a t b):Sp.Zb9 s a t b=false:=@decide_eq_false _ (Classical.propDecidable _) h
theorem valB_eq {s t c:Bool} {a b:List Int} (h:c = true ↔ Sp.valR s a t b):Sp.Zb9 s a t b = c:=by
 cases c with
 | true => exact ZeA.2 (h.1 rfl)
 | false => exact Ze6 fun k => absurd (h.2 k) (by simp)
theorem okA_big {p q:Int} (h:Sp.okA (Sp.Zad p) (Sp.Zad q)):Sp.cnt p.natAbs <= 90000 /\ Sp.cnt q.natAbs <= 90000:=by
 obtain ⟨⟨h1,_⟩,⟨h2,_⟩⟩:=h
 rw [ZaY] at h1 h2
 exact ⟨h1,h2⟩
theorem cnt_gcd {p q:Int} (h:q ≠ 0):Sp.cnt ((p.gcd q:Nat):Int).natAbs <= Sp.cnt q.natAbs:=
 ZaJ (Nat.le_of_dvd (by omega) (Int.gcd_dvd_natAbs_right p q))
end Go.Av

namespace Go.Av
open Go.Proofs
theorem ev84 (n:Int) (h:Sp.inI n):Ev M1 (.pure 84 [.int .i64 n]) (ratF (Sp.qi n)) []:=by
 rw [ZfC]
 refine call84 (rRFrom _ _ ⟨h,?_⟩)
 show Weak _ (AV.agg [.bool (Sp.Zaa (n:Rat).num),.vec false 1 ((Sp.Zad (n:Rat).num).map (.int .u32)),.bool (Sp.Zaa ((n:Rat).den:Int)),.vec false 1 ((Sp.Zad ((n:Rat).den:Int)).map (.int .u32))])
 rw [Rat.num_intCast,Rat.den_intCast]
 exact .refl _
theorem ev34 (fa ga fb gb:Bool) (r s:Rat) (h:Sp.okR r /\ Sp.okR s):Ev M1 (.pure 34 [ratA fa ga r,ratA fb gb s]) (ratF (r + s)) []:=by
 obtain ⟨hr,hs⟩:=h
 obtain ⟨r1,r2⟩:=ZdN hr
 obtain ⟨s1,s2⟩:=ZdN hs
 obtain ⟨cr1,cr2⟩:=hr
 obtain ⟨cs1,cs2⟩:=hs
 have m1:=ZaR cr1 (Za0 cs2)
 have m2:=ZaR cs1 (Za0 cr2)
 have m3:=ZaR (Za0 cr2) (Za0 cs2)
 have a1:=ZfY m1 m2
 refine call34 (rRAdd _ _ _ _ _ _ _ ⟨⟨r1,s2⟩,⟨s1,r2⟩,⟨by unfold Sp.okB;omega,by unfold Sp.okB;omega⟩,⟨r2,s2⟩,⟨by omega,by omega,Int.mul_ne_zero (ZbP r) (ZbP s)⟩,?_⟩)
 rw [rat_add];exact .refl _
theorem ev35 (fa ga fb gb:Bool) (r s:Rat) (h:Sp.okR r /\ Sp.okR s):Ev M1 (.pure 35 [ratA fa ga r,ratA fb gb s]) (ratF (r * s)) []:=by
 obtain ⟨hr,hs⟩:=h
 obtain ⟨r1,r2⟩:=ZdN hr
 obtain ⟨s1,s2⟩:=ZdN hs
 obtain ⟨cr1,cr2⟩:=hr
 obtain ⟨cs1,cs2⟩:=hs
 have m1:=ZaR cr1 cs1
 have m3:=ZaR (Za0 cr2) (Za0 cs2)
 refine call35 (rRMul _ _ _ _ _ _ _ ⟨⟨r1,s1⟩,⟨r2,s2⟩,⟨by omega,by omega,Int.mul_ne_zero (ZbP r) (ZbP s)⟩,?_⟩)
 rw [Zgj];exact .refl _
theorem ev74 (fa ga fb gb:Bool) (r s:Rat) (h:Sp.okR r /\ Sp.okR s):Ev M1 (.pure 74 [ratA fa ga r,ratA fb gb s]) (.int .i64 (Sp.sgnI (r.num * (s.den:Int) - s.num * (r.den:Int)))) []:=by
 obtain ⟨hr,hs⟩:=h
 obtain ⟨r1,r2⟩:=ZdN hr
 obtain ⟨s1,s2⟩:=ZdN hs
 obtain ⟨cr1,cr2⟩:=hr
 obtain ⟨cs1,cs2⟩:=hs
 have m1:=ZaR cr1 (Za0 cs2)
 have m2:=ZaR cs1 (Za0 cr2)
 exact call74 (rRCmp _ _ _ _ _ _ _ ⟨⟨r1,s2⟩,⟨s1,r2⟩,⟨by unfold Sp.okB;omega,by unfold Sp.okB;omega⟩,rfl⟩)
theorem ev136 (fa fb:Bool) (a b:Int) (h:Sp.cnt a.natAbs <= 399000 /\ Sp.cnt b.natAbs <= 399000 /\ b ≠ 0):Ev M1 (.pure 136 [bigA fa a,bigA fb b]) (.tup [ratF (Rat.divInt a b),.int .i64 0]) []:=
 call136 (rRMake _ _ _ _ _ ⟨fun k => absurd (ZbL.1 k) h.2.2,fun _ => ⟨h,.refl _⟩⟩)
theorem inI_cnt {n:Int} (h:Sp.inI n):Sp.cnt n.natAbs <= 3:=by
 unfold Sp.inI at h
 exact cnt_u64 (by omega)
theorem ev27 (s fa t ga:Bool) (a b:List Int) (h:Sp.okA a b):Ev M1 (.pure 27 [.agg [.bool s,.vec fa 1 (a.map (.int .u32)),.bool t,.vec ga 1 (b.map (.int .u32))]]) (.bool (Sp.Zb9 s a t b)) []:=by
 have hs:Sp.Zay a.length /\ Sp.Zay b.length:=by
  obtain ⟨⟨h1,_⟩,⟨h2,_⟩⟩:=h
  unfold Sp.Zay;omega
 by_cases hv:Sp.val s a = true /\ Sp.val t b = true
 ·obtain ⟨p,rfl,rfl⟩:=val_big h.1.2 hv.1
  obtain ⟨q,rfl,rfl⟩:=val_big h.2.2 hv.2
  obtain ⟨o1,o2⟩:=okA_big h
  refine call27 (rRValid _ _ _ _ _ ⟨by unfold Sp.ok;omega,by unfold Sp.ok;omega,fun k => ?_,fun k => ⟨by omega,decide (((p.gcd q:Nat):Int) = 1),ev79 _ _ _ 1 ⟨?_,by unfold Sp.ok;have:=ZdW (n:=(1:Int).natAbs) (by decide);omega⟩,?_⟩⟩)
  ·rw [Ze6]
   rw [valR_pq]
   unfold Sp.sgnI at k
   (repeat' split at k) <;> omega
  ·have hq:0 < q:=by
    unfold Sp.sgnI at k
    (repeat' split at k) <;> omega
   have:=cnt_gcd (p:=p) (q:=q) (by omega)
   unfold Sp.ok;omega
  ·congr 1
   refine (valB_eq ?_).symm
   have hq:0 < q:=by
    unfold Sp.sgnI at k
    (repeat' split at k) <;> omega
   rw [valR_pq,decide_eq_true_iff]
   omega
 ·have hn:¬(Sp.valR s a t b):=fun k => hv (valR_val k)
  have hv':¬Sp.val s a = true \/ ¬Sp.val t b = true:=by
   by_cases k:Sp.val s a = true
   ·exact .inr fun k2 => hv ⟨k,k2⟩
   ·exact .inl k
  refine call27 (rRValidA _ _ _ _ _ _ _ ⟨hs.1,fun _ => hs.2,0,fun k => absurd hv' k,fun _ => ?_,fun k => absurd (.inl hv') k⟩)
  rw [Ze6 hn]
theorem ev91_y (fa ga:Bool) (r:Rat) (h:Sp.okR r) (k:Sp.rsq r):Ev M1 (.pure 91 [ratA fa ga r]) (.tup [ratF (Sp.rt r),.bool true]) []:=by
 obtain ⟨h1,h2⟩:=okR_S h
 obtain ⟨e1,e2⟩:=rt_num k
 refine call91 (rRSqrt _ _ _ _ ⟨h1,h2,fun x => ?_,fun _ => ?_⟩)
 ·rcases x with x | x
  ·exact absurd k.1 x
  ·exact absurd k.2 x
 ·show Weak _ (AV.tup [AV.agg [.bool (Sp.Zaa (Sp.rt r).num),.vec false 1 ((Sp.Zad (Sp.rt r).num).map (.int .u32)),.bool (Sp.Zaa ((Sp.rt r).den:Int)),.vec false 1 ((Sp.Zad ((Sp.rt r).den:Int)).map (.int .u32))],.bool true])
  rw [e1,e2];exact .refl _
theorem ev91_n (fa ga:Bool) (r:Rat) (h:Sp.okR r) (k:¬(Sp.rsq r)):Ev M1 (.pure 91 [ratA fa ga r]) (.tup [noR,.bool false]) []:=by
 obtain ⟨h1,h2⟩:=okR_S h
 refine call91 (rRSqrt _ _ _ _ ⟨h1,h2,fun _ => Zcj weak_nr (.refl _),fun x => ?_⟩)
 have x1:Sp.ZeV r.num = true:=Classical.byContradiction fun y => x (.inl y)
 have x2:Sp.ZeV (r.den:Int) = true:=Classical.byContradiction fun y => x (.inr y)
 exact absurd ⟨x1,x2⟩ k
end Go.Av

namespace Go.Av
open Go.Proofs
set_option maxRecDepth 100000
def fi24:Fi:=⟨23,[.tmp 4]⟩
def kp24:List (Nat × List Nat):=[(0,[1,2]),(1,[4])]
def fi28:Fi:=⟨9,[.cell 4 26]⟩
def kp28:List (Nat × List Nat):=[(0,[2,3,4]),(1,[4])]
def fi102:Fi:=⟨19,[.cell 4 26,.tmp 5]⟩
def kp102:List (Nat × List Nat):=[(0,[2,3,4]),(1,[4,5])]
def ZhA (s fa t ga:Bool) (a b:List Int) (n:Int) (Q:AV->Heap->Prop):Prop:=Wp M1 (.run fi24 (atC (cd Tryz.f24) []) [(0,.agg [.bool s,.vec fa 1 (a.map (.int .u32)),.bool t,.vec ga 1 (b.map (.int .u32))]),(1,.int .i64 n)] []) Q
def rRSub_at (fa ga fb gb:Bool) (r s:Rat) (Q:AV->Heap->Prop):Prop:=Wp M1 (.run fi28 (atC (cd Tryz.f28) []) [(0,ratA fa ga r),(1,ratA fb gb s)] []) Q
def rRDiv_at (fa ga fb gb:Bool) (r s:Rat) (Q:AV->Heap->Prop):Prop:=Wp M1 (.run fi102 (atC (cd Tryz.f102) []) [(0,ratA fa ga r),(1,ratA fb gb s)] []) Q
theorem call24 {args:List AV} {d:AV} (h:wc M1 fi24 Tryz.f24 args d):Ev M1 (.pure 24 args) d []:=pcl _ _ (by kernel_rfl) h
theorem call28 {args:List AV} {d:AV} (h:wc M1 fi28 Tryz.f28 args d):Ev M1 (.pure 28 args) d []:=pcl _ _ (by kernel_rfl) h
theorem call102 {args:List AV} {d:AV} (h:wc M1 fi102 Tryz.f102 args d):Ev M1 (.pure 102 args) d []:=pcl _ _ (by kernel_rfl) h
theorem rRSmall (s fa t ga:Bool) (a b:List Int) (n:Int)  (dq:AV) (H :
  ((((↑a.length:Int) <= n) /\ ((↑b.length:Int) <= n)) -> (Sp.okA a b)) /\
  vb (bif bif decide ((↑a.length:Int) <= n) then decide ((↑b.length:Int) <= n) else false then Sp.Zb9 s a t b else false) = dq) :
 ZhA s fa t ga a b n (Zaf dq):=by
 unfold ZhA
 have w1:(us a).length = a.length:=List.length_map ..
 have w2:(us b).length = b.length:=List.length_map ..
 have i3:((bif decide ((↑(us a).length:Int) <= n) then decide ((↑(us b).length:Int) <= n) else false) == true && true && true) = true ↔ (((↑a.length:Int) <= n) /\ ((↑b.length:Int) <= n)):=(by (try rw [w1]);(try rw [w2]);all_goals exact (i_at (i_at (i_bt (ZaK Zab Zab)))))
 obtain ⟨k4,H⟩:=H
 exact Zaq (G:=Zac kp24 [(1,16,.call (vb (Sp.Zb9 s a t b)) none)] []) 1000 [] (asm:=[true,!(decide ((↑(us a).length:Int) <= n) == true && true) || true,!((bif decide ((↑(us a).length:Int) <= n) then decide ((↑(us b).length:Int) <= n) else false) == true && true) || true]) (calls:=[⟨(bif decide ((↑(us a).length:Int) <= n) then decide ((↑(us b).length:Int) <= n) else false) == true && true && true,false,27,[ag [vb s,AV.vec fa 1 (us a),vb t,AV.vec ga 1 (us b)]],[],vb (Sp.Zb9 s a t b),[]⟩]) (vb (bif bif decide ((↑(us a).length:Int) <= n) then decide ((↑(us b).length:Int) <= n) else false then Sp.Zb9 s a t b else false)) (by kernel_rfl) (bc rfl (bc (Bool.or_true _) (bc (Bool.or_true _) b0))) q0 (cc (fun hc => ((@ev27 (s) (fa) (t) (ga) (a) (b) (k4 (i3.1 hc))):Ev M1 (Conf.pure 27 [ag [vb s,AV.vec fa 1 (us a),vb t,AV.vec ga 1 (us b)]]) (vb (Sp.Zb9 s a t b)) [])) c0) (by (try rw [w1]);(try rw [w2]);all_goals exact H)
theorem rRSub (fa ga fb gb:Bool) (r s:Rat)  (dq:AV) (H :
  (Sp.ok s.num) /\
  (Sp.okR r /\ Sp.okR (-s)) /\
  Weak (ratF (r + -s)) dq) :
 rRSub_at fa ga fb gb r s (Zaf dq):=by
 unfold rRSub_at
 obtain ⟨k1,k2,H⟩:=H
 exact Zah (G:=Zac kp28 [(1,2,.call (ratF (-s)) none),(1,3,.call (ratF (r + -s)) none)] []) 1000 [] (ratF (r + -s)) (by kernel_rfl) (bc rfl (bc rfl (bc rfl b0))) q0 (ce (@ev82 (fb) (gb) (s) k1) (ce (@ev34 (fa) (ga) (false) (false) (r) (-s) k2) c0)) H
theorem rRDiv (fa ga fb gb:Bool) (r s:Rat)  (dq:AV) (H :
  (Sp.okB r.num /\ Sp.okB (↑s.den:Int)) /\
  (Sp.okB (↑r.den:Int) /\ Sp.okB s.num) /\
  (Sp.cnt (r.num * (↑s.den:Int)).natAbs <= 399000 /\ Sp.cnt ((↑r.den:Int) * s.num).natAbs <= 399000 /\ (↑r.den:Int) * s.num ≠ 0) /\
  Weak (tu [ratF (Rat.divInt (r.num * (↑s.den:Int)) ((↑r.den:Int) * s.num)),vi 0]) dq) :
 rRDiv_at fa ga fb gb r s (Zaf dq):=by
 unfold rRDiv_at
 obtain ⟨k1,k2,k3,H⟩:=H
 exact Zah (G:=Zac kp102 [(1,4,.call (bigA false (r.num * (↑s.den:Int))) none),(1,9,.call (bigA false ((↑r.den:Int) * s.num)) none),(1,10,.call (tu [ratF (Rat.divInt (r.num * (↑s.den:Int)) ((↑r.den:Int) * s.num)),vi 0]) none)] []) 1000 [] (tu [ratF (Rat.divInt (r.num * (↑s.den:Int)) ((↑r.den:Int) * s.num)),vi 0]) (by kernel_rfl) (bc rfl (bc rfl (bc rfl (bc rfl (bc rfl b0))))) q0 (ce (@ev88 (fa) (gb) (r.num) ((↑s.den:Int)) k1) (ce (@ev88 (ga) (fb) ((↑r.den:Int)) (s.num) k2) (ce (@ev136 (false) (false) (r.num * (↑s.den:Int)) ((↑r.den:Int) * s.num) k3) c0))) H
end Go.Av

namespace Go.Av
open Go.Proofs
def Sp.okU (n:Int) (a b:List Int):Prop:=n<=90000/\(∀ x ∈ a,0<=x)/\(∀ x ∈ b,0<=x)
noncomputable def Sp.ZbX (n:Int) (s:Bool) (a:List Int) (t:Bool) (b:List Int):Bool:=bif bif decide ((a.length:Int)<=n) then decide ((b.length:Int)<=n) else false then Sp.Zb9 s a t b else false
theorem ev24 (s fa t ga:Bool) (a b:List Int) (n:Int) (h:Sp.okU n a b):Ev M1 (.pure 24 [.agg [.bool s,.vec fa 1 (a.map (.int .u32)),.bool t,.vec ga 1 (b.map (.int .u32))],.int .i64 n]) (.bool (Sp.ZbX n s a t b)) []:=by
 obtain ⟨h1,h2,h3⟩:=h
 exact call24 (rRSmall _ _ _ _ _ _ _ _ ⟨fun k => ⟨⟨by omega,h2⟩,⟨by omega,h3⟩⟩,rfl⟩)
theorem Zht {n:Int} {s t:Bool} {a b:List Int}:Sp.ZbX n s a t b = true ↔ (a.length:Int) <= n /\ (b.length:Int) <= n /\ Sp.valR s a t b:=by
 unfold Sp.ZbX
 by_cases h1:(a.length:Int) <= n
 ·rw [decide_eq_true h1,cond_true]
  by_cases h2:(b.length:Int) <= n
  ·rw [decide_eq_true h2,cond_true,ZeA]
   exact ⟨fun h => ⟨h1,h2,h⟩,fun h => h.2.2⟩
  ·rw [decide_eq_false h2,cond_false]
   exact ⟨fun h => absurd h (by simp),fun h => absurd h.2.1 h2⟩
 ·rw [decide_eq_false h1,cond_false,cond_false]
  exact ⟨fun h => absurd h (by simp),fun h => absurd h.1 h1⟩
theorem ev28 (fa ga fb gb:Bool) (r s:Rat) (h:Sp.okR r /\ Sp.okR s):Ev M1 (.pure 28 [ratA fa ga r,ratA fb gb s]) (ratF (r - s)) []:=by
 refine call28 (rRSub _ _ _ _ _ _ _ ⟨?_,⟨h.1,okR_neg h.2⟩,?_⟩)
 ·have:=h.2.1;unfold Sp.ok;omega
 ·rw [<- Rat.sub_eq_add_neg];exact .refl _
theorem ev102 (fa ga fb gb:Bool) (r s:Rat) (h:Sp.okR r /\ Sp.okR s /\ s.num ≠ 0):Ev M1 (.pure 102 [ratA fa ga r,ratA fb gb s]) (.tup [ratF (r / s),.int .i64 0]) []:=by
 obtain ⟨hr,hs,h0⟩:=h
 obtain ⟨r1,r2⟩:=ZdN hr
 obtain ⟨s1,s2⟩:=ZdN hs
 obtain ⟨cr1,cr2⟩:=hr
 obtain ⟨cs1,cs2⟩:=hs
 have m1:=ZaR cr1 (Za0 cs2)
 have m3:=ZaR (Za0 cr2) cs1
 refine call102 (rRDiv _ _ _ _ _ _ _ ⟨⟨r1,s2⟩,⟨r2,s1⟩,⟨by omega,by omega,Int.mul_ne_zero (ZbP r) h0⟩,?_⟩)
 rw [rat_div];exact .refl _
end Go.Av

namespace Go.Av
open Go.Proofs
set_option maxRecDepth 100000
def fi166:Fi:=⟨2,[.cell 0 26]⟩
def kp166:List (Nat × List Nat):=[(0,[0]),(1,[0])]
def fi172:Fi:=⟨2,[.cell 0 26]⟩
def kp172:List (Nat × List Nat):=[(0,[0]),(1,[0])]
def oZero_at  (Q:AV->Heap->Prop):Prop:=Wp M1 (.run fi166 (atC (cd Tryz.f166) []) [] []) Q
def pZero_at  (Q:AV->Heap->Prop):Prop:=Wp M1 (.run fi172 (atC (cd Tryz.f172) []) [] []) Q
theorem call166 {args:List AV} {d:AV} (h:wc M1 fi166 Tryz.f166 args d):Ev M1 (.pure 166 args) d []:=pcl _ _ (by kernel_rfl) h
theorem call172 {args:List AV} {d:AV} (h:wc M1 fi172 Tryz.f172 args d):Ev M1 (.pure 172 args) d []:=pcl _ _ (by kernel_rfl) h
theorem oZero   (dq:AV) (H :
  (Sp.inI 0) /\
  Weak (ratF (Sp.qi 0)) dq) :
 oZero_at  (Zaf dq):=by
 unfold oZero_at
 obtain ⟨k1,H⟩:=H
 exact Zah (G:=Zac kp166 [(1,0,.call (ratF (Sp.qi 0)) none)] []) 1000 [] (ratF (Sp.qi 0)) (by kernel_rfl) (bc rfl b0) q0 (ce (@ev75 (0) k1) c0) H
theorem pZero   (dq:AV) (H :
  (Sp.inI 0) /\
  Weak (ratF (Sp.qi 0)) dq) :
 pZero_at  (Zaf dq):=by
 unfold pZero_at
 obtain ⟨k1,H⟩:=H
 exact Zah (G:=Zac kp172 [(1,0,.call (ratF (Sp.qi 0)) none)] []) 1000 [] (ratF (Sp.qi 0)) (by kernel_rfl) (bc rfl b0) q0 (ce (@ev84 (0) k1) c0) H
end Go.Av

namespace Go.Av
open Go.Proofs
abbrev Zas (f1 f2 f3 f4 f5 f6:Bool) (a b c:Rat):AV:=.agg [.bool (Sp.Zaa a.num),.vec f1 1 ((Sp.Zad a.num).map (.int .u32)),.bool (Sp.Zaa (a.den:Int)),.vec f2 1 ((Sp.Zad (a.den:Int)).map (.int .u32)),.bool (Sp.Zaa b.num),.vec f3 1 ((Sp.Zad b.num).map (.int .u32)),.bool (Sp.Zaa (b.den:Int)),.vec f4 1 ((Sp.Zad (b.den:Int)).map (.int .u32)),.bool (Sp.Zaa c.num),.vec f5 1 ((Sp.Zad c.num).map (.int .u32)),.bool (Sp.Zaa (c.den:Int)),.vec f6 1 ((Sp.Zad (c.den:Int)).map (.int .u32))]
abbrev ZaH (a b c:Rat):AV:=Zas false false false false false false a b c
theorem Zex {f1 f2 f3 f4 f5 f6:Bool} (a b c:Rat):Weak (Zas f1 f2 f3 f4 f5 f6 a b c) (ZaH a b c):=by
 refine .agg _ _ rfl fun i x y hx hy => ?_
 match i with
 | 0 => simp at hx hy;subst hx;subst hy;exact .refl _
 | 1 => simp at hx hy;subst hx;subst hy;exact Zbx _ _ _
 | 2 => simp at hx hy;subst hx;subst hy;exact .refl _
 | 3 => simp at hx hy;subst hx;subst hy;exact Zbx _ _ _
 | 4 => simp at hx hy;subst hx;subst hy;exact .refl _
 | 5 => simp at hx hy;subst hx;subst hy;exact Zbx _ _ _
 | 6 => simp at hx hy;subst hx;subst hy;exact .refl _
 | 7 => simp at hx hy;subst hx;subst hy;exact Zbx _ _ _
 | 8 => simp at hx hy;subst hx;subst hy;exact .refl _
 | 9 => simp at hx hy;subst hx;subst hy;exact Zbx _ _ _
 | 10 => simp at hx hy;subst hx;subst hy;exact .refl _
 | 11 => simp at hx hy;subst hx;subst hy;exact Zbx _ _ _
 | i + 12 => simp at hx
theorem sgn_num {r:Rat}:Sp.sgnI r.num=0 ↔ r=0:=by rw [ZbL,Rat.num_eq_zero]
def Sp.okT (k:Nat) (r:Rat):Prop:=Sp.cnt r.num.natAbs<=k/\Sp.cnt r.den<=k
theorem Zak {k:Nat} {r:Rat} (h:Sp.okT k r) (hk:k<=90000):Sp.okR r:=⟨Nat.le_trans h.1 hk,Nat.le_trans h.2 hk⟩
theorem Zan {k m:Nat} {r:Rat} (h:Sp.okT k r) (hk:k<=m):Sp.okT m r:=⟨Nat.le_trans h.1 hk,Nat.le_trans h.2 hk⟩
theorem ZgT {p q:Int} (hq:q ≠ 0):(Rat.divInt p q).num.natAbs <= p.natAbs /\ (Rat.divInt p q).den <= q.natAbs:=by
 by_cases h:0 < q
 ·obtain ⟨e1,e2⟩:=Ze9 (a:=p) h
  have e3:(Rat.divInt p q).den = ((q / ((p.gcd q:Nat):Int))).natAbs:=by omega
  rw [e1,e3]
  refine ⟨?_,?_⟩
  ·rw [Int.natAbs_ediv_of_dvd (Int.gcd_dvd_left ..)];exact Nat.div_le_self _ _
  ·rw [Int.natAbs_ediv_of_dvd (Int.gcd_dvd_right ..)];exact Nat.div_le_self _ _
 ·obtain ⟨e1,e2⟩:=rat_neg (a:=p) (b:=q) (by omega)
  have e3:(Rat.divInt p q).den = ((-q / (((-p).gcd (-q):Nat):Int))).natAbs:=by omega
  rw [e1,e3]
  refine ⟨?_,?_⟩
  ·rw [Int.natAbs_ediv_of_dvd (Int.gcd_dvd_left ..),Int.natAbs_neg];exact Nat.div_le_self _ _
  ·rw [Int.natAbs_ediv_of_dvd (Int.gcd_dvd_right ..),Int.natAbs_neg];exact Nat.div_le_self _ _
theorem Zag {k m:Nat} {r s:Rat} (h:Sp.okT k r) (h2:Sp.okT m s):Sp.okT (k + m) (r * s):=by
 have e:=ZgT (p:=r.num * s.num) (q:=(r.den:Int) * (s.den:Int)) (Int.mul_ne_zero (ZbP r) (ZbP s))
 rw [Zgj] at e
 refine ⟨Nat.le_trans (ZaJ e.1) (ZaR h.1 h2.1),Nat.le_trans (ZaJ e.2) (ZaR (Za0 h.2) (Za0 h2.2))⟩
theorem ZaG {k m:Nat} {r s:Rat} (h:Sp.okT k r) (h2:Sp.okT m s):Sp.okT (k + m + 1) (r + s):=by
 have e:=ZgT (p:=r.num * (s.den:Int) + s.num * (r.den:Int)) (q:=(r.den:Int) * (s.den:Int)) (Int.mul_ne_zero (ZbP r) (ZbP s))
 rw [rat_add] at e
 have m1:=ZaR h.1 (Za0 h2.2)
 have m2:=ZaR h2.1 (Za0 h.2)
 have m3:=ZaR (Za0 h.2) (Za0 h2.2)
 have:=ZfY m1 (Nat.le_trans m2 (by omega))
 exact ⟨Nat.le_trans (ZaJ e.1) this,Nat.le_trans (ZaJ e.2) (Nat.le_trans m3 (by omega))⟩
theorem Zbh {k:Nat} {r:Rat} (h:Sp.okT k r):Sp.okT k (-r):=by
 unfold Sp.okT
 rw [Rat.neg_num,Rat.neg_den,Int.natAbs_neg];exact h
theorem ZaA {k m:Nat} {r s:Rat} (h:Sp.okT k r) (h2:Sp.okT m s):Sp.okT (k + m + 1) (r - s):=by
 rw [Rat.sub_eq_add_neg];exact ZaG h (Zbh h2)
theorem ZdM {k:Nat} {r:Rat} (h:Sp.rsq r) (hr:Sp.okT k r):Sp.okT k (Sp.rt r):=by
 obtain ⟨e1,e2⟩:=rt_num h
 obtain ⟨a1,a2⟩:=hr
 have h1:=(sq_le ((Zc2 _).1 h.1).1).2
 have h2:=(sq_le ((Zc2 _).1 h.2).1).2
 unfold Sp.okT
 rw [e1]
 have:(Sp.rt r).den = (Sp.sq (r.den:Int)).natAbs:=by omega
 rw [this]
 exact ⟨Nat.le_trans (ZaJ h1) a1,Nat.le_trans (ZaJ h2) a2⟩
theorem Zgs {n:Int} (h:Sp.inI n):Sp.okT 3 (Sp.qi n):=by
 rw [ZfC]
 unfold Sp.okT
 rw [Rat.num_intCast,Rat.den_intCast]
 exact ⟨inI_cnt h,by have:=ZdW (n:=1) (by decide);omega⟩
theorem okT_zero:Sp.okT 1 (0:Rat):=by
 have h0:Sp.cnt ((0:Rat).num.natAbs) = 0:=Zbs
 have h1:=ZdW (n:=1) (by decide)
 have h2:(0:Rat).den = 1:=rfl
 unfold Sp.okT
 rw [h0,h2]
 omega
theorem ev166:Ev M1 (.pure 166 []) (ratF (Sp.qi 0)) []:=
 call166 (oZero _ ⟨by unfold Sp.inI;omega,.refl _⟩)
theorem ev172:Ev M1 (.pure 172 []) (ratF (Sp.qi 0)) []:=
 call172 (pZero _ ⟨by unfold Sp.inI;omega,.refl _⟩)
def Sp.okO (a b c:Rat):Prop:=Sp.okT 9000 a/\Sp.okT 9000 b/\Sp.okT 9000 c
def Sp.com (b c z:Rat):Rat:=if b=0 then z else c
def Sp.isCom (b c y z:Rat):Prop:=b=0\/y=0\/c=z
instance (b c y z:Rat):Decidable (Sp.isCom b c y z):=inferInstanceAs (Decidable (_\/_))
theorem cross {c z:Rat}:Sp.sgnI (c.num * (z.den:Int) - z.num * (c.den:Int)) = 0 ↔ c = z:=by
 rw [ZbL]
 constructor
 ·intro h
  have h1:c.num * (z.den:Int) = z.num * (c.den:Int):=by omega
  have e:=(Rat.divInt_eq_divInt_iff (ZbP c) (ZbP z)).2 h1
  rwa [Rat.num_divInt_den,Rat.num_divInt_den] at e
 ·intro h;subst h;omega
end Go.Av

namespace Go.Av
open Go.Proofs
set_option maxRecDepth 100000
def fi142:Fi:=⟨7,[.cell 2 98]⟩
def kp142:List (Nat × List Nat):=[(0,[1,2]),(1,[2])]
def fi143:Fi:=⟨15,[.cell 6 98]⟩
def kp143:List (Nat × List Nat):=[(0,[3,4,5,6]),(1,[3,4,5,6,9]),(2,[3,4,5,6]),(3,[6])]
def fi155:Fi:=⟨7,[.cell 2 98]⟩
def kp155:List (Nat × List Nat):=[(0,[1,2]),(1,[2])]
def oFrom_at (f1 f2:Bool) (a:Rat) (Q:AV->Heap->Prop):Prop:=Wp M1 (.run fi142 (atC (cd Tryz.f142) []) [(0,ratA f1 f2 a)] []) Q
def pFrom_at (f1 f2:Bool) (a:Rat) (Q:AV->Heap->Prop):Prop:=Wp M1 (.run fi155 (atC (cd Tryz.f155) []) [(0,ratA f1 f2 a)] []) Q
def oRed_at (f1 f2 f3 f4 f5 f6:Bool) (a b c:Rat) (Q:AV->Heap->Prop):Prop:=Wp M1 (.run fi143 (atC (cd Tryz.f143) []) [(0,ratA f1 f2 a),(1,ratA f3 f4 b),(2,ratA f5 f6 c)] []) Q
theorem call142 {args:List AV} {d:AV} (h:wc M1 fi142 Tryz.f142 args d):Ev M1 (.pure 142 args) d []:=pcl _ _ (by kernel_rfl) h
theorem call143 {args:List AV} {d:AV} (h:wc M1 fi143 Tryz.f143 args d):Ev M1 (.pure 143 args) d []:=pcl _ _ (by kernel_rfl) h
theorem call155 {args:List AV} {d:AV} (h:wc M1 fi155 Tryz.f155 args d):Ev M1 (.pure 155 args) d []:=pcl _ _ (by kernel_rfl) h
theorem oFrom (f1 f2:Bool) (a:Rat)  (dq:AV) (H :
  Weak (Zas f1 f2 false false false false a (Sp.qi 0) (Sp.qi 0)) dq) :
 oFrom_at f1 f2 a (Zaf dq):=by
 unfold oFrom_at
 exact Zah (G:=Zac kp142 [(1,1,.call (ratF (Sp.qi 0)) none),(1,2,.call (ratF (Sp.qi 0)) none)] []) 1000 [] (Zas f1 f2 false false false false a (Sp.qi 0) (Sp.qi 0)) (by kernel_rfl) (bc rfl (bc rfl b0)) q0 (ce (@ev166 ) (ce (@ev166 ) c0)) H
theorem pFrom (f1 f2:Bool) (a:Rat)  (dq:AV) (H :
  Weak (Zas f1 f2 false false false false a (Sp.qi 0) (Sp.qi 0)) dq) :
 pFrom_at f1 f2 a (Zaf dq):=by
 unfold pFrom_at
 exact Zah (G:=Zac kp155 [(1,1,.call (ratF (Sp.qi 0)) none),(1,2,.call (ratF (Sp.qi 0)) none)] []) 1000 [] (Zas f1 f2 false false false false a (Sp.qi 0) (Sp.qi 0)) (by kernel_rfl) (bc rfl (bc rfl b0)) q0 (ce (@ev172 ) (ce (@ev172 ) c0)) H
theorem oRed (f1 f2 f3 f4 f5 f6:Bool) (a b c:Rat)  (dq:AV) (H :
  ((Sp.sgnI b.num = 0) -> Weak (Zas f1 f2 f3 f4 false false a b (Sp.qi 0)) dq) /\
  (¬(Sp.sgnI b.num = 0) -> Weak (Zas f1 f2 f3 f4 f5 f6 a b c) dq)) :
 oRed_at f1 f2 f3 f4 f5 f6 a b c (Zaf dq):=by
 unfold oRed_at
 refine Zae (G:=Zac kp143 [(1,1,.call (vi (Sp.sgnI b.num)) none)] []) 5 [] ⟨(atC (cd Tryz.f143) [1,0,1]),[(3,AV.ptr 0 0 0 0),(4,AV.ptr 1 0 0 0),(5,AV.ptr 2 0 0 0),(6,AV.ptr 3 0 0 0),(9,vb (Sp.sgnI b.num == 0))],[⟨[ratA f1 f2 a],4,0,false,false⟩,⟨[ratA f3 f4 b],4,0,false,false⟩,⟨[ratA f5 f6 c],4,0,false,false⟩,⟨[ag [vb false,AV.vnil,vb false,AV.vnil,vb false,AV.vnil,vb false,AV.vnil,vb false,AV.vnil,vb false,AV.vnil]],12,0,false,false⟩],_,[],_⟩ (by kernel_rfl) (bc rfl b0) q0 (ce (@ev54 (f3) (f4) (b.num) ((↑b.den:Int))) c0) ?_
 rcases xq H with ⟨d2,H⟩|⟨d2,H⟩
 ·exact Zah (G:=Zac kp143 [(2,0,.call (ratF (Sp.qi 0)) none)] []) 1000 [true] (asm:=[(Sp.sgnI b.num == 0) == true,0 == 0,true,true,true,true]) (Zas f1 f2 f3 f4 false false a b (Sp.qi 0)) (by kernel_rfl) (bc (Zar (i_eq.2 d2)) (bc (beq_self_eq_true _) (bc rfl (bc rfl (bc rfl (bc rfl b0)))))) q0 (ce (@ev166 ) c0) H
 ·exact Zah (G:=Zac kp143 [] []) 1000 [false] (Zas f1 f2 f3 f4 f5 f6 a b c) (by kernel_rfl) (bc (Zao (fun h => d2 (i_eq.1 h))) (bc rfl (bc rfl (bc rfl (bc rfl b0))))) q0 c0 H
end Go.Av

namespace Go.Av
open Go.Proofs
theorem ev142 (f1 f2:Bool) (a:Rat):Ev M1 (.pure 142 [ratA f1 f2 a]) (ZaH a (Sp.qi 0) (Sp.qi 0)) []:=
 call142 (oFrom _ _ _ _ (Zex a (Sp.qi 0) (Sp.qi 0)))
theorem ev155 (f1 f2:Bool) (a:Rat):Ev M1 (.pure 155 [ratA f1 f2 a]) (ZaH a (Sp.qi 0) (Sp.qi 0)) []:=
 call155 (pFrom _ _ _ _ (Zex a (Sp.qi 0) (Sp.qi 0)))
noncomputable def Sp.rad (b c:Rat):Rat:=if b=0 then Sp.qi 0 else c
theorem ev143 (f1 f2 f3 f4 f5 f6:Bool) (a b c:Rat):Ev M1 (.pure 143 [ratA f1 f2 a,ratA f3 f4 b,ratA f5 f6 c]) (ZaH a b (Sp.rad b c)) []:=by
 refine call143 (oRed _ _ _ _ _ _ _ _ _ _ ⟨fun k => ?_,fun k => ?_⟩)
 ·rw [show Sp.rad b c = Sp.qi 0 from if_pos (sgn_num.1 k)];exact Zex a b (Sp.qi 0)
 ·rw [show Sp.rad b c = c from if_neg fun e => k (sgn_num.2 e)];exact Zex a b c
def Sp.sgR (r:Rat):Int:=Sp.sgnI r.num
end Go.Av

namespace Go.Av
open Go.Proofs
set_option maxRecDepth 100000
def fi105:Fi:=⟨30,[.cell 6 98,.tmp 7]⟩
def kp105:List (Nat × List Nat):=[(0,[3,4,5,6]),(1,[3,4,5,6,12]),(2,[6,7]),(3,[3,4,5,6,8,9]),(4,[3,4,5,6,8,19]),(5,[6,7]),(6,[6,7])]
def oMake_at (f1 f2 f3 f4 f5 f6:Bool) (a b c:Rat) (Q:AV->Heap->Prop):Prop:=Wp M1 (.run fi105 (atC (cd Tryz.f105) []) [(0,ratA f1 f2 a),(1,ratA f3 f4 b),(2,ratA f5 f6 c)] []) Q
theorem call105 {args:List AV} {d:AV} (h:wc M1 fi105 Tryz.f105 args d):Ev M1 (.pure 105 args) d []:=pcl _ _ (by kernel_rfl) h
noncomputable abbrev zNxC1:=ag [vb false,AV.vnil,vb false,AV.vnil,vb false,AV.vnil,vb false,AV.vnil,vb false,AV.vnil,vb false,AV.vnil]
theorem oMake (f1 f2 f3 f4 f5 f6:Bool) (a b c:Rat)  (dq:AV) (H :
  ((Sp.sgnI c.num < 0) -> Weak (tu [ag [vb false,AV.vnil,vb false,AV.vnil,vb false,AV.vnil,vb false,AV.vnil,vb false,AV.vnil,vb false,AV.vnil],vi 7]) dq) /\
  (¬(Sp.sgnI c.num < 0) -> ((Sp.rsq c) -> (Sp.okR c) /\
    (Sp.okR b /\ Sp.okR (Sp.rt c)) /\
    (Sp.okR a /\ Sp.okR (b * Sp.rt c)) /\
    Weak (tu [ZaH (a + b * Sp.rt c) (Sp.qi 0) (Sp.qi 0),vi 0]) dq) /\
   (¬(Sp.rsq c) -> (Sp.okR c) /\
    Weak (tu [ZaH a b (Sp.rad b c),vi 0]) dq))) :
 oMake_at f1 f2 f3 f4 f5 f6 a b c (Zaf dq):=by
 unfold oMake_at
 refine Zae (G:=Zac kp105 [(1,1,.call (vi (Sp.sgnI c.num)) none)] []) 5 [] ⟨(atC (cd Tryz.f105) [1,0,1]),[(3,AV.ptr 0 0 0 0),(4,AV.ptr 1 0 0 0),(5,AV.ptr 2 0 0 0),(6,AV.ptr 3 0 0 0),(12,vb (decide (Sp.sgnI c.num < 0)))],[⟨[ratA f1 f2 a],4,0,false,false⟩,⟨[ratA f3 f4 b],4,0,false,false⟩,⟨[ratA f5 f6 c],4,0,false,false⟩,⟨[zNxC1],12,0,false,false⟩],_,[],_⟩ (by kernel_rfl) (bc rfl b0) q0 (ce (@ev54 (f5) (f6) (c.num) ((↑c.den:Int))) c0) ?_
 rcases xq H with ⟨d2,H⟩|⟨d2,H⟩
 ·exact Zah (G:=Zac kp105 [] []) 1000 [true] (tu [zNxC1,vi 7]) (by kernel_rfl) (bc (Zar (Zab.2 d2)) (bc rfl b0)) q0 c0 H
 ·rcases xq H with ⟨d3,H⟩|⟨d3,H⟩
  ·obtain ⟨k4,k5,k6,H⟩:=H
   exact Zah (G:=Zac kp105 [(3,1,.call (tu [ratF (Sp.rt c),vb true]) none),(5,3,.call (ratF (b * Sp.rt c)) none),(5,4,.call (ratF (a + b * Sp.rt c)) none),(5,5,.call (ZaH (a + b * Sp.rt c) (Sp.qi 0) (Sp.qi 0)) none)] []) 1000 [false,true] (tu [ZaH (a + b * Sp.rt c) (Sp.qi 0) (Sp.qi 0),vi 0]) (by kernel_rfl) (bc (Zao (fun h => d2 (Zab.1 h))) (bc rfl (bc rfl (bc rfl (bc rfl (bc rfl (bc rfl (bc rfl b0)))))))) q0 (ce (@ev141_y (f5) (f6) (c) k4 d3) (ce (@ev95 (f3) (f4) (false) (false) (b) (Sp.rt c) k5) (ce (@ev114 (f1) (f2) (false) (false) (a) (b * Sp.rt c) k6) (ce (@ev142 (false) (false) (a + b * Sp.rt c)) c0)))) H
  ·obtain ⟨k7,H⟩:=H
   exact Zah (G:=Zac kp105 [(3,1,.call (tu [ag [vb false,vf [],vb false,vf []],vb false]) none),(6,3,.call (ZaH a b (Sp.rad b c)) none)] []) 1000 [false,false] (tu [ZaH a b (Sp.rad b c),vi 0]) (by kernel_rfl) (bc (Zao (fun h => d2 (Zab.1 h))) (bc rfl (bc rfl (bc rfl (bc rfl (bc rfl (bc rfl (bc rfl b0)))))))) q0 (ce (@ev141_n (f5) (f6) (c) k7 d3) (ce (@ev143 (f1) (f2) (f3) (f4) (f5) (f6) (a) (b) (c)) c0)) H
end Go.Av

namespace Go.Av
open Go.Proofs
abbrev noO:AV:=.agg [.bool false,.vec false 1 [],.bool false,.vec false 1 [],.bool false,.vec false 1 [],.bool false,.vec false 1 [],.bool false,.vec false 1 [],.bool false,.vec false 1 []]
theorem ZcJ:Weak .vnil (.vec false 1 []):=by
 have:=Zda false
 cases this with
 | agg xs ys hl h => exact h 1 _ _ rfl rfl
theorem weak_no:Weak (.agg [.bool false,.vnil,.bool false,.vnil,.bool false,.vnil,.bool false,.vnil,.bool false,.vnil,.bool false,.vnil]) noO:=by
 refine .agg _ _ rfl fun i x y hx hy => ?_
 match i with
 | 0 => simp at hx hy;subst hx;subst hy;exact .refl _
 | 1 => simp at hx hy;subst hx;subst hy;exact ZcJ
 | 2 => simp at hx hy;subst hx;subst hy;exact .refl _
 | 3 => simp at hx hy;subst hx;subst hy;exact ZcJ
 | 4 => simp at hx hy;subst hx;subst hy;exact .refl _
 | 5 => simp at hx hy;subst hx;subst hy;exact ZcJ
 | 6 => simp at hx hy;subst hx;subst hy;exact .refl _
 | 7 => simp at hx hy;subst hx;subst hy;exact ZcJ
 | 8 => simp at hx hy;subst hx;subst hy;exact .refl _
 | 9 => simp at hx hy;subst hx;subst hy;exact ZcJ
 | 10 => simp at hx hy;subst hx;subst hy;exact .refl _
 | 11 => simp at hx hy;subst hx;subst hy;exact ZcJ
 | i + 12 => simp at hx
namespace Sp
def isNN (c:Rat):Prop:=0<=c.num
open Classical in
noncomputable def mkA (a b c:Rat):Rat:=if rsq c then a+b*rt c else a
open Classical in
noncomputable def mkB (b c:Rat):Rat:=if rsq c then qi 0 else b
open Classical in
noncomputable def mkC (b c:Rat):Rat:=if rsq c then qi 0 else rad b c
end Sp
theorem nn_sgn {c:Rat}:Sp.sgnI c.num < 0 ↔ ¬Sp.isNN c:=by
 rw [Zbp];unfold Sp.isNN;omega
theorem ev105_y (f1 f2 f3 f4 f5 f6:Bool) (a b c:Rat) (h:Sp.okO a b c) (k:Sp.isNN c):Ev M1 (.pure 105 [ratA f1 f2 a,ratA f3 f4 b,ratA f5 f6 c]) (.tup [ZaH (Sp.mkA a b c) (Sp.mkB b c) (Sp.mkC b c),.int .i64 0]) []:=by
 obtain ⟨ha,hb,hc⟩:=h
 refine call105 (oMake _ _ _ _ _ _ _ _ _ _ ⟨fun x => absurd k (nn_sgn.1 x),fun _ => ⟨fun s => ?_,fun s => ?_⟩⟩)
 ·have hr:=ZdM s hc
  have hm:=Zag hb hr
  refine ⟨Zak hc (by omega),⟨Zak hb (by omega),Zak hr (by omega)⟩,⟨Zak ha (by omega),Zak hm (by omega)⟩,?_⟩
  rw [show Sp.mkA a b c = a + b * Sp.rt c from if_pos s,show Sp.mkB b c = Sp.qi 0 from if_pos s,show Sp.mkC b c = Sp.qi 0 from if_pos s]
  exact .refl _
 ·refine ⟨Zak hc (by omega),?_⟩
  rw [show Sp.mkA a b c = a from if_neg s,show Sp.mkB b c = b from if_neg s,show Sp.mkC b c = Sp.rad b c from if_neg s]
  exact .refl _
theorem ev105_n (f1 f2 f3 f4 f5 f6:Bool) (a b c:Rat) (_:Sp.okO a b c) (k:¬(Sp.isNN c)):Ev M1 (.pure 105 [ratA f1 f2 a,ratA f3 f4 b,ratA f5 f6 c]) (.tup [noO,.int .i64 7]) []:=
 call105 (oMake _ _ _ _ _ _ _ _ _ _ ⟨fun _ => Zcj weak_no (.refl _),fun x => absurd (nn_sgn.2 k) x⟩)
theorem ZeB (r:Rat):Sp.Zb9 (Sp.Zaa r.num) (Sp.Zad r.num) (Sp.Zaa (r.den:Int)) (Sp.Zad (r.den:Int))=true:=ZeA.2 (valR_rat r)
theorem Zgu {r:Rat} {k:Nat} (h:Sp.okT k r) (hk:k <= 90000):Sp.okA (Sp.Zad r.num) (Sp.Zad (r.den:Int)):=by
 obtain ⟨h1,h2⟩:=h
 refine ⟨⟨?_,fun x hx => (lim_ok _ x hx).1⟩,⟨?_,fun x hx => (lim_ok _ x hx).1⟩⟩
 ·rw [ZaY];omega
 ·rw [ZaY,Int.natAbs_natCast];omega
noncomputable def Sp.flW (a b c:Rat):Int:=Sp.sq ((a.den:Int)*(a.den:Int)*((b*b*c).num*((b*b*c).den:Int)))
noncomputable def Sp.fl (a b c:Rat):Int:=if b=0 then Sp.flo a.num (a.den:Int) else Sp.flo (a.num*((b*b*c).den:Int)+(if b.num<0 then -(Sp.flW a b c+1) else Sp.flW a b c)) ((a.den:Int)*((b*b*c).den:Int))
end Go.Av

namespace Go.Av
open Go.Proofs
theorem qi_zero:Sp.qi 0=0:=by rw [ZfC];rfl
end Go.Av

namespace Go.Av
open Go.Proofs
set_option maxRecDepth 100000
end Go.Av

namespace Go.Av
open Go.Proofs
theorem ZbU {k m:Nat} {r s:Rat} (h:Sp.okT k r) (h2:Sp.okT m s) (h0:s.num ≠ 0):Sp.okT (k + m) (r / s):=by
 have e:=ZgT (p:=r.num * (s.den:Int)) (q:=(r.den:Int) * s.num) (Int.mul_ne_zero (ZbP r) h0)
 rw [rat_div] at e
 exact ⟨Nat.le_trans (ZaJ e.1) (ZaR h.1 (Za0 h2.2)),Nat.le_trans (ZaJ e.2) (ZaR (Za0 h.2) h2.1)⟩
end Go.Av

namespace Go.Av
open Go.Proofs
set_option maxRecDepth 100000
end Go.Av

namespace Go.Av
open Go.Proofs
theorem okT_O {a b c:Rat} {k:Nat} (h1:Sp.okT k a) (h2:Sp.okT k b) (h3:Sp.okT k c) (hk:k<=9000):Sp.okO a b c:=⟨Zan h1 hk,Zan h2 hk,Zan h3 hk⟩
end Go.Av

namespace Go.Av
open Go.Proofs
set_option maxRecDepth 100000
end Go.Av

namespace Go.Av
open Go.Proofs
end Go.Av

namespace Go.Av
open Go.Proofs
set_option maxRecDepth 100000
def fi52:Fi:=⟨8,[.cell 4 26]⟩
def kp52:List (Nat × List Nat):=[(0,[2,3,4]),(1,[4])]
def fi53:Fi:=⟨8,[.cell 4 26]⟩
def kp53:List (Nat × List Nat):=[(0,[2,3,4]),(1,[4])]
def fi56:Fi:=⟨14,[.cell 4 26]⟩
def kp56:List (Nat × List Nat):=[(0,[2,3,4]),(1,[4,5]),(2,[4])]
def fi59:Fi:=⟨8,[.cell 4 26]⟩
def kp59:List (Nat × List Nat):=[(0,[2,3,4]),(1,[4])]
def fi60:Fi:=⟨8,[.cell 4 26]⟩
def kp60:List (Nat × List Nat):=[(0,[2,3,4]),(1,[4])]
def fi62:Fi:=⟨14,[.cell 4 26]⟩
def kp62:List (Nat × List Nat):=[(0,[2,3,4]),(1,[4,5]),(2,[4])]
def fi68:Fi:=⟨5,[.cell 2 26]⟩
def kp68:List (Nat × List Nat):=[(0,[1,2]),(1,[2])]
def fi77:Fi:=⟨8,[.cell 4 26]⟩
def kp77:List (Nat × List Nat):=[(0,[2,3,4]),(1,[4])]
def fi83:Fi:=⟨8,[.cell 4 26]⟩
def kp83:List (Nat × List Nat):=[(0,[2,3,4]),(1,[4])]
def fi97:Fi:=⟨9,[.tmp 4]⟩
def kp97:List (Nat × List Nat):=[(0,[2,3]),(1,[4])]
def fi98:Fi:=⟨8,[.cell 4 26]⟩
def kp98:List (Nat × List Nat):=[(0,[2,3,4]),(1,[4])]
def fi100:Fi:=⟨2,[.cell 0 26]⟩
def kp100:List (Nat × List Nat):=[(0,[0]),(1,[0])]
def fi101:Fi:=⟨2,[.cell 0 26]⟩
def kp101:List (Nat × List Nat):=[(0,[0]),(1,[0])]
def fi137:Fi:=⟨8,[.cell 4 26]⟩
def kp137:List (Nat × List Nat):=[(0,[2,3,4]),(1,[4])]
def fi138:Fi:=⟨8,[.cell 4 26]⟩
def kp138:List (Nat × List Nat):=[(0,[2,3,4]),(1,[4])]
def fi139:Fi:=⟨17,[.cell 4 26]⟩
def kp139:List (Nat × List Nat):=[(0,[2,3,4]),(1,[4,5,6]),(2,[4,5,14]),(3,[4]),(4,[4])]
def wadd_m_at (f1 f2 g1 g2:Bool) (r s:Rat) (Q:AV->Heap->Prop):Prop:=Wp M1 (.run fi77 (atC (cd Tryz.f77) []) [(0,ratA f1 f2 r),(1,ratA g1 g2 s)] []) Q
def wsub_m_at (f1 f2 g1 g2:Bool) (r s:Rat) (Q:AV->Heap->Prop):Prop:=Wp M1 (.run fi52 (atC (cd Tryz.f52) []) [(0,ratA f1 f2 r),(1,ratA g1 g2 s)] []) Q
def wmul_m_at (f1 f2 g1 g2:Bool) (r s:Rat) (Q:AV->Heap->Prop):Prop:=Wp M1 (.run fi53 (atC (cd Tryz.f53) []) [(0,ratA f1 f2 r),(1,ratA g1 g2 s)] []) Q
def wadd_s_at (f1 f2 g1 g2:Bool) (r s:Rat) (Q:AV->Heap->Prop):Prop:=Wp M1 (.run fi138 (atC (cd Tryz.f138) []) [(0,ratA f1 f2 r),(1,ratA g1 g2 s)] []) Q
def wsub_s_at (f1 f2 g1 g2:Bool) (r s:Rat) (Q:AV->Heap->Prop):Prop:=Wp M1 (.run fi137 (atC (cd Tryz.f137) []) [(0,ratA f1 f2 r),(1,ratA g1 g2 s)] []) Q
def wmul_s_at (f1 f2 g1 g2:Bool) (r s:Rat) (Q:AV->Heap->Prop):Prop:=Wp M1 (.run fi98 (atC (cd Tryz.f98) []) [(0,ratA f1 f2 r),(1,ratA g1 g2 s)] []) Q
def wadd_r_at (f1 f2 g1 g2:Bool) (r s:Rat) (Q:AV->Heap->Prop):Prop:=Wp M1 (.run fi83 (atC (cd Tryz.f83) []) [(0,ratA f1 f2 r),(1,ratA g1 g2 s)] []) Q
def wsub_r_at (f1 f2 g1 g2:Bool) (r s:Rat) (Q:AV->Heap->Prop):Prop:=Wp M1 (.run fi59 (atC (cd Tryz.f59) []) [(0,ratA f1 f2 r),(1,ratA g1 g2 s)] []) Q
def wmul_r_at (f1 f2 g1 g2:Bool) (r s:Rat) (Q:AV->Heap->Prop):Prop:=Wp M1 (.run fi60 (atC (cd Tryz.f60) []) [(0,ratA f1 f2 r),(1,ratA g1 g2 s)] []) Q
def wdiv_m_at (f1 f2 g1 g2:Bool) (r s:Rat) (Q:AV->Heap->Prop):Prop:=Wp M1 (.run fi56 (atC (cd Tryz.f56) []) [(0,ratA f1 f2 r),(1,ratA g1 g2 s)] []) Q
def wdiv_r_at (f1 f2 g1 g2:Bool) (r s:Rat) (Q:AV->Heap->Prop):Prop:=Wp M1 (.run fi62 (atC (cd Tryz.f62) []) [(0,ratA f1 f2 r),(1,ratA g1 g2 s)] []) Q
def wdiv_s_at (f1 f2 g1 g2:Bool) (r s:Rat) (Q:AV->Heap->Prop):Prop:=Wp M1 (.run fi139 (atC (cd Tryz.f139) []) [(0,ratA f1 f2 r),(1,ratA g1 g2 s)] []) Q
def wneg_r_at (f1 f2:Bool) (r:Rat) (Q:AV->Heap->Prop):Prop:=Wp M1 (.run fi68 (atC (cd Tryz.f68) []) [(0,ratA f1 f2 r)] []) Q
def weq_s_at (f1 f2 g1 g2:Bool) (r s:Rat) (Q:AV->Heap->Prop):Prop:=Wp M1 (.run fi97 (atC (cd Tryz.f97) []) [(0,ratA f1 f2 r),(1,ratA g1 g2 s)] []) Q
def wz_p_at  (Q:AV->Heap->Prop):Prop:=Wp M1 (.run fi100 (atC (cd Tryz.f100) []) [] []) Q
def wz_q_at  (Q:AV->Heap->Prop):Prop:=Wp M1 (.run fi101 (atC (cd Tryz.f101) []) [] []) Q
theorem call52 {args:List AV} {d:AV} (h:wc M1 fi52 Tryz.f52 args d):Ev M1 (.pure 52 args) d []:=pcl _ _ (by kernel_rfl) h
theorem call53 {args:List AV} {d:AV} (h:wc M1 fi53 Tryz.f53 args d):Ev M1 (.pure 53 args) d []:=pcl _ _ (by kernel_rfl) h
theorem call56 {args:List AV} {d:AV} (h:wc M1 fi56 Tryz.f56 args d):Ev M1 (.pure 56 args) d []:=pcl _ _ (by kernel_rfl) h
theorem call59 {args:List AV} {d:AV} (h:wc M1 fi59 Tryz.f59 args d):Ev M1 (.pure 59 args) d []:=pcl _ _ (by kernel_rfl) h
theorem call60 {args:List AV} {d:AV} (h:wc M1 fi60 Tryz.f60 args d):Ev M1 (.pure 60 args) d []:=pcl _ _ (by kernel_rfl) h
theorem call62 {args:List AV} {d:AV} (h:wc M1 fi62 Tryz.f62 args d):Ev M1 (.pure 62 args) d []:=pcl _ _ (by kernel_rfl) h
theorem call68 {args:List AV} {d:AV} (h:wc M1 fi68 Tryz.f68 args d):Ev M1 (.pure 68 args) d []:=pcl _ _ (by kernel_rfl) h
theorem call77 {args:List AV} {d:AV} (h:wc M1 fi77 Tryz.f77 args d):Ev M1 (.pure 77 args) d []:=pcl _ _ (by kernel_rfl) h
theorem call83 {args:List AV} {d:AV} (h:wc M1 fi83 Tryz.f83 args d):Ev M1 (.pure 83 args) d []:=pcl _ _ (by kernel_rfl) h
theorem call97 {args:List AV} {d:AV} (h:wc M1 fi97 Tryz.f97 args d):Ev M1 (.pure 97 args) d []:=pcl _ _ (by kernel_rfl) h
theorem call98 {args:List AV} {d:AV} (h:wc M1 fi98 Tryz.f98 args d):Ev M1 (.pure 98 args) d []:=pcl _ _ (by kernel_rfl) h
theorem call100 {args:List AV} {d:AV} (h:wc M1 fi100 Tryz.f100 args d):Ev M1 (.pure 100 args) d []:=pcl _ _ (by kernel_rfl) h
theorem call101 {args:List AV} {d:AV} (h:wc M1 fi101 Tryz.f101 args d):Ev M1 (.pure 101 args) d []:=pcl _ _ (by kernel_rfl) h
theorem call137 {args:List AV} {d:AV} (h:wc M1 fi137 Tryz.f137 args d):Ev M1 (.pure 137 args) d []:=pcl _ _ (by kernel_rfl) h
theorem call138 {args:List AV} {d:AV} (h:wc M1 fi138 Tryz.f138 args d):Ev M1 (.pure 138 args) d []:=pcl _ _ (by kernel_rfl) h
theorem call139 {args:List AV} {d:AV} (h:wc M1 fi139 Tryz.f139 args d):Ev M1 (.pure 139 args) d []:=pcl _ _ (by kernel_rfl) h
theorem wadd_m (f1 f2 g1 g2:Bool) (r s:Rat)  (dq:AV) (H :
  (Sp.okR r /\ Sp.okR s) /\
  Weak (ratF (r + s)) dq) :
 wadd_m_at f1 f2 g1 g2 r s (Zaf dq):=by
 unfold wadd_m_at
 obtain ⟨k1,H⟩:=H
 exact Zah (G:=Zac kp77 [(1,2,.call (ratF (r + s)) none)] []) 1000 [] (ratF (r + s)) (by kernel_rfl) (bc rfl (bc rfl (bc rfl b0))) q0 (ce (@ev114 (f1) (f2) (g1) (g2) (r) (s) k1) c0) H
theorem wsub_m (f1 f2 g1 g2:Bool) (r s:Rat)  (dq:AV) (H :
  (Sp.okR r /\ Sp.okR s) /\
  Weak (ratF (r - s)) dq) :
 wsub_m_at f1 f2 g1 g2 r s (Zaf dq):=by
 unfold wsub_m_at
 obtain ⟨k1,H⟩:=H
 exact Zah (G:=Zac kp52 [(1,2,.call (ratF (r - s)) none)] []) 1000 [] (ratF (r - s)) (by kernel_rfl) (bc rfl (bc rfl (bc rfl b0))) q0 (ce (@ev94 (f1) (f2) (g1) (g2) (r) (s) k1) c0) H
theorem wmul_m (f1 f2 g1 g2:Bool) (r s:Rat)  (dq:AV) (H :
  (Sp.okR r /\ Sp.okR s) /\
  Weak (ratF (r * s)) dq) :
 wmul_m_at f1 f2 g1 g2 r s (Zaf dq):=by
 unfold wmul_m_at
 obtain ⟨k1,H⟩:=H
 exact Zah (G:=Zac kp53 [(1,2,.call (ratF (r * s)) none)] []) 1000 [] (ratF (r * s)) (by kernel_rfl) (bc rfl (bc rfl (bc rfl b0))) q0 (ce (@ev95 (f1) (f2) (g1) (g2) (r) (s) k1) c0) H
theorem wadd_s (f1 f2 g1 g2:Bool) (r s:Rat)  (dq:AV) (H :
  (Sp.okR r /\ Sp.okR s) /\
  Weak (ratF (r + s)) dq) :
 wadd_s_at f1 f2 g1 g2 r s (Zaf dq):=by
 unfold wadd_s_at
 obtain ⟨k1,H⟩:=H
 exact Zah (G:=Zac kp138 [(1,2,.call (ratF (r + s)) none)] []) 1000 [] (ratF (r + s)) (by kernel_rfl) (bc rfl (bc rfl (bc rfl b0))) q0 (ce (@ev114 (f1) (f2) (g1) (g2) (r) (s) k1) c0) H
theorem wsub_s (f1 f2 g1 g2:Bool) (r s:Rat)  (dq:AV) (H :
  (Sp.okR r /\ Sp.okR s) /\
  Weak (ratF (r - s)) dq) :
 wsub_s_at f1 f2 g1 g2 r s (Zaf dq):=by
 unfold wsub_s_at
 obtain ⟨k1,H⟩:=H
 exact Zah (G:=Zac kp137 [(1,2,.call (ratF (r - s)) none)] []) 1000 [] (ratF (r - s)) (by kernel_rfl) (bc rfl (bc rfl (bc rfl b0))) q0 (ce (@ev94 (f1) (f2) (g1) (g2) (r) (s) k1) c0) H
theorem wmul_s (f1 f2 g1 g2:Bool) (r s:Rat)  (dq:AV) (H :
  (Sp.okR r /\ Sp.okR s) /\
  Weak (ratF (r * s)) dq) :
 wmul_s_at f1 f2 g1 g2 r s (Zaf dq):=by
 unfold wmul_s_at
 obtain ⟨k1,H⟩:=H
 exact Zah (G:=Zac kp98 [(1,2,.call (ratF (r * s)) none)] []) 1000 [] (ratF (r * s)) (by kernel_rfl) (bc rfl (bc rfl (bc rfl b0))) q0 (ce (@ev95 (f1) (f2) (g1) (g2) (r) (s) k1) c0) H
theorem wadd_r (f1 f2 g1 g2:Bool) (r s:Rat)  (dq:AV) (H :
  (Sp.okR r /\ Sp.okR s) /\
  Weak (ratF (r + s)) dq) :
 wadd_r_at f1 f2 g1 g2 r s (Zaf dq):=by
 unfold wadd_r_at
 obtain ⟨k1,H⟩:=H
 exact Zah (G:=Zac kp83 [(1,2,.call (ratF (r + s)) none)] []) 1000 [] (ratF (r + s)) (by kernel_rfl) (bc rfl (bc rfl (bc rfl b0))) q0 (ce (@ev34 (f1) (f2) (g1) (g2) (r) (s) k1) c0) H
theorem wsub_r (f1 f2 g1 g2:Bool) (r s:Rat)  (dq:AV) (H :
  (Sp.okR r /\ Sp.okR s) /\
  Weak (ratF (r - s)) dq) :
 wsub_r_at f1 f2 g1 g2 r s (Zaf dq):=by
 unfold wsub_r_at
 obtain ⟨k1,H⟩:=H
 exact Zah (G:=Zac kp59 [(1,2,.call (ratF (r - s)) none)] []) 1000 [] (ratF (r - s)) (by kernel_rfl) (bc rfl (bc rfl (bc rfl b0))) q0 (ce (@ev28 (f1) (f2) (g1) (g2) (r) (s) k1) c0) H
theorem wmul_r (f1 f2 g1 g2:Bool) (r s:Rat)  (dq:AV) (H :
  (Sp.okR r /\ Sp.okR s) /\
  Weak (ratF (r * s)) dq) :
 wmul_r_at f1 f2 g1 g2 r s (Zaf dq):=by
 unfold wmul_r_at
 obtain ⟨k1,H⟩:=H
 exact Zah (G:=Zac kp60 [(1,2,.call (ratF (r * s)) none)] []) 1000 [] (ratF (r * s)) (by kernel_rfl) (bc rfl (bc rfl (bc rfl b0))) q0 (ce (@ev35 (f1) (f2) (g1) (g2) (r) (s) k1) c0) H
theorem wdiv_m (f1 f2 g1 g2:Bool) (r s:Rat)  (dq:AV) (H :
  (Sp.okR r /\ Sp.okR s /\ s.num ≠ 0) /\
  Weak (ratF (r / s)) dq) :
 wdiv_m_at f1 f2 g1 g2 r s (Zaf dq):=by
 unfold wdiv_m_at
 obtain ⟨k1,H⟩:=H
 exact Zah (G:=Zac kp56 [(1,2,.call (tu [ratF (r / s),vi 0]) none)] []) 1000 [] (ratF (r / s)) (by kernel_rfl) (bc rfl (bc rfl (bc rfl (bc rfl (bc rfl b0))))) q0 (ce (@ev99 (f1) (f2) (g1) (g2) (r) (s) k1) c0) H
theorem wdiv_r (f1 f2 g1 g2:Bool) (r s:Rat)  (dq:AV) (H :
  (Sp.okR r /\ Sp.okR s /\ s.num ≠ 0) /\
  Weak (ratF (r / s)) dq) :
 wdiv_r_at f1 f2 g1 g2 r s (Zaf dq):=by
 unfold wdiv_r_at
 obtain ⟨k1,H⟩:=H
 exact Zah (G:=Zac kp62 [(1,2,.call (tu [ratF (r / s),vi 0]) none)] []) 1000 [] (ratF (r / s)) (by kernel_rfl) (bc rfl (bc rfl (bc rfl (bc rfl (bc rfl b0))))) q0 (ce (@ev102 (f1) (f2) (g1) (g2) (r) (s) k1) c0) H
theorem wdiv_s (f1 f2 g1 g2:Bool) (r s:Rat)  (dq:AV) (H :
  (Sp.okR r /\ Sp.okR s /\ s.num ≠ 0) /\
  Weak (ratF (r / s)) dq) :
 wdiv_s_at f1 f2 g1 g2 r s (Zaf dq):=by
 unfold wdiv_s_at
 obtain ⟨k1,H⟩:=H
 exact Zah (G:=Zac kp139 [(1,2,.call (tu [ratF (r / s),vi 0]) none)] []) 1000 [false] (ratF (r / s)) (by kernel_rfl) (bc rfl (bc rfl (bc rfl (bc rfl (bc rfl (bc rfl b0)))))) q0 (ce (@ev99 (f1) (f2) (g1) (g2) (r) (s) k1) c0) H
theorem wneg_r (f1 f2:Bool) (r:Rat)  (dq:AV) (H :
  (Sp.ok r.num) /\
  Weak (ratF (-r)) dq) :
 wneg_r_at f1 f2 r (Zaf dq):=by
 unfold wneg_r_at
 obtain ⟨k1,H⟩:=H
 exact Zah (G:=Zac kp68 [(1,1,.call (ratF (-r)) none)] []) 1000 [] (ratF (-r)) (by kernel_rfl) (bc rfl (bc rfl b0)) q0 (ce (@ev82 (f1) (f2) (r) k1) c0) H
theorem weq_s (f1 f2 g1 g2:Bool) (r s:Rat)  (dq:AV) (H :
  (Sp.okR r /\ Sp.okR s) /\
  vb (Sp.sgnI (r.num * (↑s.den:Int) - s.num * (↑r.den:Int)) == 0) = dq) :
 weq_s_at f1 f2 g1 g2 r s (Zaf dq):=by
 unfold weq_s_at
 obtain ⟨k1,H⟩:=H
 exact Zaq (G:=Zac kp97 [(1,2,.call (vi (Sp.sgnI (r.num * (↑s.den:Int) - s.num * (↑r.den:Int)))) none)] []) 1000 [] (vb (Sp.sgnI (r.num * (↑s.den:Int) - s.num * (↑r.den:Int)) == 0)) (by kernel_rfl) (bc rfl (bc rfl b0)) q0 (ce (@ev110 (f1) (f2) (g1) (g2) (r) (s) k1) c0) H
theorem wz_p   (dq:AV) (H :
  (Sp.inI 0) /\
  Weak (ratF (Sp.qi 0)) dq) :
 wz_p_at  (Zaf dq):=by
 unfold wz_p_at
 obtain ⟨k1,H⟩:=H
 exact Zah (G:=Zac kp100 [(1,0,.call (ratF (Sp.qi 0)) none)] []) 1000 [] (ratF (Sp.qi 0)) (by kernel_rfl) (bc rfl b0) q0 (ce (@ev75 (0) k1) c0) H
theorem wz_q   (dq:AV) (H :
  (Sp.inI 0) /\
  Weak (ratF (Sp.qi 0)) dq) :
 wz_q_at  (Zaf dq):=by
 unfold wz_q_at
 obtain ⟨k1,H⟩:=H
 exact Zah (G:=Zac kp101 [(1,0,.call (ratF (Sp.qi 0)) none)] []) 1000 [] (ratF (Sp.qi 0)) (by kernel_rfl) (bc rfl b0) q0 (ce (@ev84 (0) k1) c0) H
end Go.Av

namespace Go.Av
open Go.Proofs
theorem ev77 (f1 f2 g1 g2:Bool) (r s:Rat) (h:Sp.okR r /\ Sp.okR s):Ev M1 (.pure 77 [ratA f1 f2 r,ratA g1 g2 s]) (ratF (r + s)) []:=
 call77 (wadd_m _ _ _ _ _ _ _ ⟨h,.refl _⟩)
theorem ev52 (f1 f2 g1 g2:Bool) (r s:Rat) (h:Sp.okR r /\ Sp.okR s):Ev M1 (.pure 52 [ratA f1 f2 r,ratA g1 g2 s]) (ratF (r - s)) []:=
 call52 (wsub_m _ _ _ _ _ _ _ ⟨h,.refl _⟩)
theorem ev53 (f1 f2 g1 g2:Bool) (r s:Rat) (h:Sp.okR r /\ Sp.okR s):Ev M1 (.pure 53 [ratA f1 f2 r,ratA g1 g2 s]) (ratF (r * s)) []:=
 call53 (wmul_m _ _ _ _ _ _ _ ⟨h,.refl _⟩)
theorem ev138 (f1 f2 g1 g2:Bool) (r s:Rat) (h:Sp.okR r /\ Sp.okR s):Ev M1 (.pure 138 [ratA f1 f2 r,ratA g1 g2 s]) (ratF (r + s)) []:=
 call138 (wadd_s _ _ _ _ _ _ _ ⟨h,.refl _⟩)
theorem ev137 (f1 f2 g1 g2:Bool) (r s:Rat) (h:Sp.okR r /\ Sp.okR s):Ev M1 (.pure 137 [ratA f1 f2 r,ratA g1 g2 s]) (ratF (r - s)) []:=
 call137 (wsub_s _ _ _ _ _ _ _ ⟨h,.refl _⟩)
theorem ev98 (f1 f2 g1 g2:Bool) (r s:Rat) (h:Sp.okR r /\ Sp.okR s):Ev M1 (.pure 98 [ratA f1 f2 r,ratA g1 g2 s]) (ratF (r * s)) []:=
 call98 (wmul_s _ _ _ _ _ _ _ ⟨h,.refl _⟩)
theorem ev83 (f1 f2 g1 g2:Bool) (r s:Rat) (h:Sp.okR r /\ Sp.okR s):Ev M1 (.pure 83 [ratA f1 f2 r,ratA g1 g2 s]) (ratF (r + s)) []:=
 call83 (wadd_r _ _ _ _ _ _ _ ⟨h,.refl _⟩)
theorem ev59 (f1 f2 g1 g2:Bool) (r s:Rat) (h:Sp.okR r /\ Sp.okR s):Ev M1 (.pure 59 [ratA f1 f2 r,ratA g1 g2 s]) (ratF (r - s)) []:=
 call59 (wsub_r _ _ _ _ _ _ _ ⟨h,.refl _⟩)
theorem ev60 (f1 f2 g1 g2:Bool) (r s:Rat) (h:Sp.okR r /\ Sp.okR s):Ev M1 (.pure 60 [ratA f1 f2 r,ratA g1 g2 s]) (ratF (r * s)) []:=
 call60 (wmul_r _ _ _ _ _ _ _ ⟨h,.refl _⟩)
theorem ev56 (f1 f2 g1 g2:Bool) (r s:Rat) (h:Sp.okR r /\ Sp.okR s /\ s.num ≠ 0):Ev M1 (.pure 56 [ratA f1 f2 r,ratA g1 g2 s]) (ratF (r / s)) []:=
 call56 (wdiv_m _ _ _ _ _ _ _ ⟨h,.refl _⟩)
theorem ev62 (f1 f2 g1 g2:Bool) (r s:Rat) (h:Sp.okR r /\ Sp.okR s /\ s.num ≠ 0):Ev M1 (.pure 62 [ratA f1 f2 r,ratA g1 g2 s]) (ratF (r / s)) []:=
 call62 (wdiv_r _ _ _ _ _ _ _ ⟨h,.refl _⟩)
theorem ev139 (f1 f2 g1 g2:Bool) (r s:Rat) (h:Sp.okR r /\ Sp.okR s /\ s.num ≠ 0):Ev M1 (.pure 139 [ratA f1 f2 r,ratA g1 g2 s]) (ratF (r / s)) []:=
 call139 (wdiv_s _ _ _ _ _ _ _ ⟨h,.refl _⟩)
theorem cmp0 (r s:Rat):(Sp.sgnI (r.num * (s.den:Int) - s.num * (r.den:Int)) == 0) = decide (r = s):=by
 by_cases k:r = s
 ·rw [beq_iff_eq.2 (cross.2 k),decide_eq_true k]
 ·rw [decide_eq_false k]
  simpa using fun x => k (cross.1 x)
theorem ev97 (f1 f2 g1 g2:Bool) (r s:Rat) (h:Sp.okR r /\ Sp.okR s):Ev M1 (.pure 97 [ratA f1 f2 r,ratA g1 g2 s]) (.bool (decide (r = s))) []:=
 call97 (weq_s _ _ _ _ _ _ _ ⟨h,by rw [cmp0]⟩)
theorem ev68 (f1 f2:Bool) (r:Rat) (h:Sp.ok r.num):Ev M1 (.pure 68 [ratA f1 f2 r]) (ratF (-r)) []:=
 call68 (wneg_r _ _ _ _ ⟨h,.refl _⟩)
theorem ev100:Ev M1 (.pure 100 []) (ratF (Sp.qi 0)) []:=
 call100 (wz_p _ ⟨by unfold Sp.inI;omega,.refl _⟩)
theorem ev101:Ev M1 (.pure 101 []) (ratF (Sp.qi 0)) []:=
 call101 (wz_q _ ⟨by unfold Sp.inI;omega,.refl _⟩)
end Go.Av

namespace Go.Av
open Go.Proofs
set_option maxRecDepth 100000
def fi30:Fi:=⟨19,[.cell 6 26]⟩
def kp30:List (Nat × List Nat):=[(0,[3,4,5,6]),(1,[6])]
def fi55:Fi:=⟨42,[.tmp 4]⟩
def kp55:List (Nat × List Nat):=[(0,[2,3]),(1,[4])]
def fi57:Fi:=⟨11,[.cell 2 56]⟩
def kp57:List (Nat × List Nat):=[(0,[1,2]),(1,[2])]
def fi61:Fi:=⟨11,[.cell 2 56]⟩
def kp61:List (Nat × List Nat):=[(0,[1,2]),(1,[2])]
def fi67:Fi:=⟨14,[.cell 2 26]⟩
def kp67:List (Nat × List Nat):=[(0,[1,2]),(1,[2])]
def fi72:Fi:=⟨24,[.tmp 4]⟩
def kp72:List (Nat × List Nat):=[(0,[2,3]),(1,[4])]
def fi73:Fi:=⟨19,[.tmp 4]⟩
def kp73:List (Nat × List Nat):=[(0,[2,3]),(1,[4])]
def fi103:Fi:=⟨49,[.cell 4 47]⟩
def kp103:List (Nat × List Nat):=[(0,[2,3,4]),(1,[2,3,4,5]),(2,[2,3,4,6]),(3,[4])]
def fi144:Fi:=⟨16,[.cell 2 56]⟩
def kp144:List (Nat × List Nat):=[(0,[1,2]),(1,[1,2,12]),(2,[1,2]),(3,[2])]
def fi146:Fi:=⟨21,[.cell 4 144]⟩
def kp146:List (Nat × List Nat):=[(0,[2,3,4]),(1,[4])]
def fi147:Fi:=⟨16,[.cell 6 98]⟩
def kp147:List (Nat × List Nat):=[(0,[3,4,5,6]),(1,[3,4,5,6,9]),(2,[6]),(3,[6])]
def fi167:Fi:=⟨42,[.tmp 6]⟩
def kp167:List (Nat × List Nat):=[(0,[3,4,5]),(1,[3,4,5,7,8]),(2,[3,4,5,7,8,26]),(3,[7,8,28]),(4,[6]),(5,[6]),(6,[6])]
def mFoot_at (f1 f2 f3 f4 f5 f6 g1 g2 g3 g4:Bool) (a b c x y:Rat) (Q:AV->Heap->Prop):Prop:=Wp M1 (.run fi103 (atC (cd Tryz.f103) []) [(0,Zas f1 f2 f3 f4 f5 f6 a b c),(1,.agg [.bool (Sp.Zaa x.num),.vec g1 1 ((Sp.Zad x.num).map (.int .u32)),.bool (Sp.Zaa (x.den:Int)),.vec g2 1 ((Sp.Zad (x.den:Int)).map (.int .u32)),.bool (Sp.Zaa y.num),.vec g3 1 ((Sp.Zad y.num).map (.int .u32)),.bool (Sp.Zaa (y.den:Int)),.vec g4 1 ((Sp.Zad (y.den:Int)).map (.int .u32))])] []) Q
def mSameL_at (f1 f2 f3 f4 f5 f6 g1 g2 g3 g4 g5 g6:Bool) (a b c x y z:Rat) (Q:AV->Heap->Prop):Prop:=Wp M1 (.run fi55 (atC (cd Tryz.f55) []) [(0,Zas f1 f2 f3 f4 f5 f6 a b c),(1,Zas g1 g2 g3 g4 g5 g6 x y z)] []) Q
def mSameC_at (f1 f2 f3 f4 f5 f6 g1 g2 g3 g4 g5 g6:Bool) (a b c x y z:Rat) (Q:AV->Heap->Prop):Prop:=Wp M1 (.run fi72 (atC (cd Tryz.f72) []) [(0,Zas f1 f2 f3 f4 f5 f6 a b c),(1,Zas g1 g2 g3 g4 g5 g6 x y z)] []) Q
def mAt_at (f1 f2 f3 f4:Bool) (x y:Rat) (Q:AV->Heap->Prop):Prop:=Wp M1 (.run fi57 (atC (cd Tryz.f57) []) [(0,.agg [.bool (Sp.Zaa x.num),.vec f1 1 ((Sp.Zad x.num).map (.int .u32)),.bool (Sp.Zaa (x.den:Int)),.vec f2 1 ((Sp.Zad (x.den:Int)).map (.int .u32)),.bool (Sp.Zaa y.num),.vec f3 1 ((Sp.Zad y.num).map (.int .u32)),.bool (Sp.Zaa (y.den:Int)),.vec f4 1 ((Sp.Zad (y.den:Int)).map (.int .u32))])] []) Q
def mRed_at (f1 f2 f3 f4 f5 f6 f7 f8 f9 f10:Bool) (ax bx ay by_ c:Rat) (Q:AV->Heap->Prop):Prop:=Wp M1 (.run fi144 (atC (cd Tryz.f144) []) [(0,.agg [.bool (Sp.Zaa ax.num),.vec f1 1 ((Sp.Zad ax.num).map (.int .u32)),.bool (Sp.Zaa (ax.den:Int)),.vec f2 1 ((Sp.Zad (ax.den:Int)).map (.int .u32)),.bool (Sp.Zaa bx.num),.vec f3 1 ((Sp.Zad bx.num).map (.int .u32)),.bool (Sp.Zaa (bx.den:Int)),.vec f4 1 ((Sp.Zad (bx.den:Int)).map (.int .u32)),.bool (Sp.Zaa ay.num),.vec f5 1 ((Sp.Zad ay.num).map (.int .u32)),.bool (Sp.Zaa (ay.den:Int)),.vec f6 1 ((Sp.Zad (ay.den:Int)).map (.int .u32)),.bool (Sp.Zaa by_.num),.vec f7 1 ((Sp.Zad by_.num).map (.int .u32)),.bool (Sp.Zaa (by_.den:Int)),.vec f8 1 ((Sp.Zad (by_.den:Int)).map (.int .u32)),.bool (Sp.Zaa c.num),.vec f9 1 ((Sp.Zad c.num).map (.int .u32)),.bool (Sp.Zaa (c.den:Int)),.vec f10 1 ((Sp.Zad (c.den:Int)).map (.int .u32))])] []) Q
def mConc_at (f1 f2 f3 f4 f5 f6 g1 g2 g3 g4 g5 g6:Bool) (a b c x y z:Rat) (Q:AV->Heap->Prop):Prop:=Wp M1 (.run fi73 (atC (cd Tryz.f73) []) [(0,Zas f1 f2 f3 f4 f5 f6 a b c),(1,Zas g1 g2 g3 g4 g5 g6 x y z)] []) Q
def rNorm9_at (f1 f2 f3 f4 f5 f6:Bool) (a b c:Rat) (Q:AV->Heap->Prop):Prop:=Wp M1 (.run fi67 (atC (cd Tryz.f67) []) [(0,Zas f1 f2 f3 f4 f5 f6 a b c)] []) Q
def rVal9_at (f1 f2 f3 f4 f5 f6 g1 g2 g3 g4:Bool) (a b c x y:Rat) (Q:AV->Heap->Prop):Prop:=Wp M1 (.run fi30 (atC (cd Tryz.f30) []) [(0,Zas f1 f2 f3 f4 f5 f6 a b c),(1,ratA g1 g2 x),(2,ratA g3 g4 y)] []) Q
def rAt_at (f1 f2 f3 f4:Bool) (x y:Rat) (Q:AV->Heap->Prop):Prop:=Wp M1 (.run fi61 (atC (cd Tryz.f61) []) [(0,.agg [.bool (Sp.Zaa x.num),.vec f1 1 ((Sp.Zad x.num).map (.int .u32)),.bool (Sp.Zaa (x.den:Int)),.vec f2 1 ((Sp.Zad (x.den:Int)).map (.int .u32)),.bool (Sp.Zaa y.num),.vec f3 1 ((Sp.Zad y.num).map (.int .u32)),.bool (Sp.Zaa (y.den:Int)),.vec f4 1 ((Sp.Zad (y.den:Int)).map (.int .u32))])] []) Q
def rCoord_at (f1 f2 f3 f4 f5 f6:Bool) (a b c:Rat) (Q:AV->Heap->Prop):Prop:=Wp M1 (.run fi147 (atC (cd Tryz.f147) []) [(0,ratA f1 f2 a),(1,ratA f3 f4 b),(2,ratA f5 f6 c)] []) Q
def rTwo_at (f1 f2 f3 f4 f5 f6:Bool) (a b c:Rat) (Q:AV->Heap->Prop):Prop:=Wp M1 (.run fi167 (atC (cd Tryz.f167) []) [(0,ratA f1 f2 a),(1,ratA f3 f4 b),(2,ratA f5 f6 c)] []) Q
def rSub5_at (f1 f2 f3 f4 f5 f6 g1 g2 g3 g4 g5 g6:Bool) (a b c x y z:Rat) (Q:AV->Heap->Prop):Prop:=Wp M1 (.run fi146 (atC (cd Tryz.f146) []) [(0,Zas f1 f2 f3 f4 f5 f6 a b c),(1,Zas g1 g2 g3 g4 g5 g6 x y z)] []) Q
theorem call30 {args:List AV} {d:AV} (h:wc M1 fi30 Tryz.f30 args d):Ev M1 (.pure 30 args) d []:=pcl _ _ (by kernel_rfl) h
theorem call55 {args:List AV} {d:AV} (h:wc M1 fi55 Tryz.f55 args d):Ev M1 (.pure 55 args) d []:=pcl _ _ (by kernel_rfl) h
theorem call57 {args:List AV} {d:AV} (h:wc M1 fi57 Tryz.f57 args d):Ev M1 (.pure 57 args) d []:=pcl _ _ (by kernel_rfl) h
theorem call61 {args:List AV} {d:AV} (h:wc M1 fi61 Tryz.f61 args d):Ev M1 (.pure 61 args) d []:=pcl _ _ (by kernel_rfl) h
theorem call67 {args:List AV} {d:AV} (h:wc M1 fi67 Tryz.f67 args d):Ev M1 (.pure 67 args) d []:=pcl _ _ (by kernel_rfl) h
theorem call72 {args:List AV} {d:AV} (h:wc M1 fi72 Tryz.f72 args d):Ev M1 (.pure 72 args) d []:=pcl _ _ (by kernel_rfl) h
theorem call73 {args:List AV} {d:AV} (h:wc M1 fi73 Tryz.f73 args d):Ev M1 (.pure 73 args) d []:=pcl _ _ (by kernel_rfl) h
theorem call103 {args:List AV} {d:AV} (h:wc M1 fi103 Tryz.f103 args d):Ev M1 (.pure 103 args) d []:=pcl _ _ (by kernel_rfl) h
theorem call144 {args:List AV} {d:AV} (h:wc M1 fi144 Tryz.f144 args d):Ev M1 (.pure 144 args) d []:=pcl _ _ (by kernel_rfl) h
theorem call146 {args:List AV} {d:AV} (h:wc M1 fi146 Tryz.f146 args d):Ev M1 (.pure 146 args) d []:=pcl _ _ (by kernel_rfl) h
theorem call147 {args:List AV} {d:AV} (h:wc M1 fi147 Tryz.f147 args d):Ev M1 (.pure 147 args) d []:=pcl _ _ (by kernel_rfl) h
theorem call167 {args:List AV} {d:AV} (h:wc M1 fi167 Tryz.f167 args d):Ev M1 (.pure 167 args) d []:=pcl _ _ (by kernel_rfl) h
theorem mFoot (f1 f2 f3 f4 f5 f6 g1 g2 g3 g4:Bool) (a b c x y:Rat)  (dq:AV) (H :
  (Sp.okR a /\ Sp.okR x) /\
  (Sp.okR b /\ Sp.okR y) /\
  (Sp.okR (a * x) /\ Sp.okR (b * y)) /\
  (Sp.okR (a * x + b * y) /\ Sp.okR c) /\
  (Sp.okR a /\ Sp.okR a) /\
  (Sp.okR b /\ Sp.okR b) /\
  (Sp.okR (a * a) /\ Sp.okR (b * b)) /\
  (Sp.okR (a * x + b * y - c) /\ Sp.okR (a * a + b * b) /\ (a * a + b * b).num ≠ 0) /\
  (Sp.okR ((a * x + b * y - c) / (a * a + b * b)) /\ Sp.okR a) /\
  (Sp.okR x /\ Sp.okR ((a * x + b * y - c) / (a * a + b * b) * a)) /\
  (Sp.okR ((a * x + b * y - c) / (a * a + b * b)) /\ Sp.okR b) /\
  (Sp.okR y /\ Sp.okR ((a * x + b * y - c) / (a * a + b * b) * b)) /\
  Weak (ag [vb (Sp.Zaa (x - (a * x + b * y - c) / (a * a + b * b) * a).num),vf (us (Sp.Zad (x - (a * x + b * y - c) / (a * a + b * b) * a).num)),vb (Sp.Zaa (↑(x - (a * x + b * y - c) / (a * a + b * b) * a).den:Int)),vf (us (Sp.Zad (↑(x - (a * x + b * y - c) / (a * a + b * b) * a).den:Int))),vb (Sp.Zaa (y - (a * x + b * y - c) / (a * a + b * b) * b).num),vf (us (Sp.Zad (y - (a * x + b * y - c) / (a * a + b * b) * b).num)),vb (Sp.Zaa (↑(y - (a * x + b * y - c) / (a * a + b * b) * b).den:Int)),vf (us (Sp.Zad (↑(y - (a * x + b * y - c) / (a * a + b * b) * b).den:Int)))]) dq) :
 mFoot_at f1 f2 f3 f4 f5 f6 g1 g2 g3 g4 a b c x y (Zaf dq):=by
 unfold mFoot_at
 obtain ⟨k1,k2,k3,k4,k5,k6,k7,k8,k9,k10,k11,k12,H⟩:=H
 exact Zah (G:=Zac kp103 [(1,4,.call (ratF (a * x)) none),(1,9,.call (ratF (b * y)) none),(1,10,.call (ratF (a * x + b * y)) none),(1,13,.call (ratF (a * x + b * y - c)) none),(2,5,.call (ratF (a * a)) none),(2,10,.call (ratF (b * b)) none),(2,11,.call (ratF (a * a + b * b)) none),(2,12,.call (ratF ((a * x + b * y - c) / (a * a + b * b))) none),(3,5,.call (ratF ((a * x + b * y - c) / (a * a + b * b) * a)) none),(3,6,.call (ratF (x - (a * x + b * y - c) / (a * a + b * b) * a)) none),(3,12,.call (ratF ((a * x + b * y - c) / (a * a + b * b) * b)) none),(3,13,.call (ratF (y - (a * x + b * y - c) / (a * a + b * b) * b)) none)] []) 1000 [] (ag [vb (Sp.Zaa (x - (a * x + b * y - c) / (a * a + b * b) * a).num),vf (us (Sp.Zad (x - (a * x + b * y - c) / (a * a + b * b) * a).num)),vb (Sp.Zaa (↑(x - (a * x + b * y - c) / (a * a + b * b) * a).den:Int)),vf (us (Sp.Zad (↑(x - (a * x + b * y - c) / (a * a + b * b) * a).den:Int))),vb (Sp.Zaa (y - (a * x + b * y - c) / (a * a + b * b) * b).num),vf (us (Sp.Zad (y - (a * x + b * y - c) / (a * a + b * b) * b).num)),vb (Sp.Zaa (↑(y - (a * x + b * y - c) / (a * a + b * b) * b).den:Int)),vf (us (Sp.Zad (↑(y - (a * x + b * y - c) / (a * a + b * b) * b).den:Int)))]) (by kernel_rfl) (bc rfl (bc rfl (bc rfl (bc rfl (bc rfl (bc rfl (bc rfl (bc rfl (bc rfl (bc rfl (bc rfl (bc rfl (bc rfl (bc rfl (bc rfl (bc rfl (bc rfl (bc rfl (bc rfl b0))))))))))))))))))) q0 (ce (@ev98 (f1) (f2) (g1) (g2) (a) (x) k1) (ce (@ev98 (f3) (f4) (g3) (g4) (b) (y) k2) (ce (@ev138 (false) (false) (false) (false) (a * x) (b * y) k3) (ce (@ev137 (false) (false) (f5) (f6) (a * x + b * y) (c) k4) (ce (@ev98 (f1) (f2) (f1) (f2) (a) (a) k5) (ce (@ev98 (f3) (f4) (f3) (f4) (b) (b) k6) (ce (@ev138 (false) (false) (false) (false) (a * a) (b * b) k7) (ce (@ev139 (false) (false) (false) (false) (a * x + b * y - c) (a * a + b * b) k8) (ce (@ev98 (false) (false) (f1) (f2) ((a * x + b * y - c) / (a * a + b * b)) (a) k9) (ce (@ev137 (g1) (g2) (false) (false) (x) ((a * x + b * y - c) / (a * a + b * b) * a) k10) (ce (@ev98 (false) (false) (f3) (f4) ((a * x + b * y - c) / (a * a + b * b)) (b) k11) (ce (@ev137 (g3) (g4) (false) (false) (y) ((a * x + b * y - c) / (a * a + b * b) * b) k12) c0)))))))))))) H
noncomputable abbrev zNmB1 (a:Rat) (y:Rat) (x:Rat) (b:Rat) (z:Rat) (c:Rat):=bif decide (a*y=x*b) then decide (a*z=x*c) else false
theorem mSameL (f1 f2 f3 f4 f5 f6 g1 g2 g3 g4 g5 g6:Bool) (a b c x y z:Rat)  (dq:AV) (H :
  (Sp.okR a /\ Sp.okR y) /\
  (Sp.okR x /\ Sp.okR b) /\
  (Sp.okR (a * y) /\ Sp.okR (x * b)) /\
  ((a * y = x * b) -> (Sp.okR a /\ Sp.okR z)) /\
  ((a * y = x * b) -> (Sp.okR x /\ Sp.okR c)) /\
  ((a * y = x * b) -> (Sp.okR (a * z) /\ Sp.okR (x * c))) /\
  (((a * y = x * b) /\ (a * z = x * c)) -> (Sp.okR b /\ Sp.okR z)) /\
  (((a * y = x * b) /\ (a * z = x * c)) -> (Sp.okR y /\ Sp.okR c)) /\
  (((a * y = x * b) /\ (a * z = x * c)) -> (Sp.okR (b * z) /\ Sp.okR (y * c))) /\
  vb (bif bif decide (a * y = x * b) then decide (a * z = x * c) else false then decide (b * z = y * c) else false) = dq) :
 mSameL_at f1 f2 f3 f4 f5 f6 g1 g2 g3 g4 g5 g6 a b c x y z (Zaf dq):=by
 unfold mSameL_at
 obtain ⟨k1,k2,k3,k5,k7,k9,k11,k13,k15,H⟩:=H
 exact Zaq (G:=Zac kp55 [(1,4,.call (ratF (a * y)) none),(1,9,.call (ratF (x * b)) none),(1,10,.call (vb (decide (a * y = x * b))) none),(1,16,.call (ratF (a * z)) none),(1,21,.call (ratF (x * c)) none),(1,22,.call (vb (decide (a * z = x * c))) none),(1,29,.call (ratF (b * z)) none),(1,34,.call (ratF (y * c)) none),(1,35,.call (vb (decide (b * z = y * c))) none)] []) 1000 [] (asm:=[true,true,true,true,!(decide (a * y = x * b) == true && true) || true,!(decide (a * y = x * b) == true && true) || true,!(decide (a * y = x * b) == true && true) || true,!(decide (a * y = x * b) == true && true) || true,!((zNmB1 a y x b z c) == true && true) || true,!((zNmB1 a y x b z c) == true && true) || true,!((zNmB1 a y x b z c) == true && true) || true,!((zNmB1 a y x b z c) == true && true) || true]) (calls:=[⟨true,false,98,[ratA f1 f2 a,ratA g3 g4 y],[],ratF (a * y),[]⟩,⟨true,false,98,[ratA g1 g2 x,ratA f3 f4 b],[],ratF (x * b),[]⟩,⟨true,false,97,[ratF (a * y),ratF (x * b)],[],vb (decide (a * y = x * b)),[]⟩,⟨decide (a * y = x * b) == true && true && true,false,98,[ratA f1 f2 a,ratA g5 g6 z],[],ratF (a * z),[]⟩,⟨decide (a * y = x * b) == true && true && true,false,98,[ratA g1 g2 x,ratA f5 f6 c],[],ratF (x * c),[]⟩,⟨decide (a * y = x * b) == true && true && true,false,97,[ratF (a * z),ratF (x * c)],[],vb (decide (a * z = x * c)),[]⟩,⟨(zNmB1 a y x b z c) == true && true && true,false,98,[ratA f3 f4 b,ratA g5 g6 z],[],ratF (b * z),[]⟩,⟨(zNmB1 a y x b z c) == true && true && true,false,98,[ratA g3 g4 y,ratA f5 f6 c],[],ratF (y * c),[]⟩,⟨(zNmB1 a y x b z c) == true && true && true,false,97,[ratF (b * z),ratF (y * c)],[],vb (decide (b * z = y * c)),[]⟩]) (vb (bif bif decide (a * y = x * b) then decide (a * z = x * c) else false then decide (b * z = y * c) else false)) (by kernel_rfl) (bc rfl (bc rfl (bc rfl (bc rfl (bc (Bool.or_true _) (bc (Bool.or_true _) (bc (Bool.or_true _) (bc (Bool.or_true _) (bc (Bool.or_true _) (bc (Bool.or_true _) (bc (Bool.or_true _) (bc (Bool.or_true _) b0)))))))))))) q0 (cc (fun _ => (@ev98 (f1) (f2) (g3) (g4) (a) (y) k1)) (cc (fun _ => (@ev98 (g1) (g2) (f3) (f4) (x) (b) k2)) (cc (fun _ => (@ev97 (false) (false) (false) (false) (a * y) (x * b) k3)) (cc (fun hc => ((@ev98 (f1) (f2) (g5) (g6) (a) (z) (k5 ((i_at (i_at (i_bt Zab))).1 hc))):Ev M1 (Conf.pure 98 [ratA f1 f2 a,ratA g5 g6 z]) (ratF (a * z)) [])) (cc (fun hc => ((@ev98 (g1) (g2) (f5) (f6) (x) (c) (k7 ((i_at (i_at (i_bt Zab))).1 hc))):Ev M1 (Conf.pure 98 [ratA g1 g2 x,ratA f5 f6 c]) (ratF (x * c)) [])) (cc (fun hc => ((@ev97 (false) (false) (false) (false) (a * z) (x * c) (k9 ((i_at (i_at (i_bt Zab))).1 hc))):Ev M1 (Conf.pure 97 [ratF (a * z),ratF (x * c)]) (vb (decide (a * z = x * c))) [])) (cc (fun hc => ((@ev98 (f3) (f4) (g5) (g6) (b) (z) (k11 ((i_at (i_at (i_bt (ZaK Zab Zab)))).1 hc))):Ev M1 (Conf.pure 98 [ratA f3 f4 b,ratA g5 g6 z]) (ratF (b * z)) [])) (cc (fun hc => ((@ev98 (g3) (g4) (f5) (f6) (y) (c) (k13 ((i_at (i_at (i_bt (ZaK Zab Zab)))).1 hc))):Ev M1 (Conf.pure 98 [ratA g3 g4 y,ratA f5 f6 c]) (ratF (y * c)) [])) (cc (fun hc => ((@ev97 (false) (false) (false) (false) (b * z) (y * c) (k15 ((i_at (i_at (i_bt (ZaK Zab Zab)))).1 hc))):Ev M1 (Conf.pure 97 [ratF (b * z),ratF (y * c)]) (vb (decide (b * z = y * c))) [])) c0))))))))) H
theorem mSameC (f1 f2 f3 f4 f5 f6 g1 g2 g3 g4 g5 g6:Bool) (a b c x y z:Rat)  (dq:AV) (H :
  (Sp.okR a /\ Sp.okR x) /\
  ((a = x) -> (Sp.okR b /\ Sp.okR y)) /\
  (((a = x) /\ (b = y)) -> (Sp.okR c /\ Sp.okR z)) /\
  vb (bif bif decide (a = x) then decide (b = y) else false then decide (c = z) else false) = dq) :
 mSameC_at f1 f2 f3 f4 f5 f6 g1 g2 g3 g4 g5 g6 a b c x y z (Zaf dq):=by
 unfold mSameC_at
 obtain ⟨k1,k3,k5,H⟩:=H
 exact Zaq (G:=Zac kp72 [(1,4,.call (vb (decide (a = x))) none),(1,10,.call (vb (decide (b = y))) none),(1,17,.call (vb (decide (c = z))) none)] []) 1000 [] (asm:=[true,true,!(decide (a = x) == true && true) || true,!(decide (a = x) == true && true) || true,!((bif decide (a = x) then decide (b = y) else false) == true && true) || true,!((bif decide (a = x) then decide (b = y) else false) == true && true) || true]) (calls:=[⟨true,false,97,[ratA f1 f2 a,ratA g1 g2 x],[],vb (decide (a = x)),[]⟩,⟨decide (a = x) == true && true && true,false,97,[ratA f3 f4 b,ratA g3 g4 y],[],vb (decide (b = y)),[]⟩,⟨(bif decide (a = x) then decide (b = y) else false) == true && true && true,false,97,[ratA f5 f6 c,ratA g5 g6 z],[],vb (decide (c = z)),[]⟩]) (vb (bif bif decide (a = x) then decide (b = y) else false then decide (c = z) else false)) (by kernel_rfl) (bc rfl (bc rfl (bc (Bool.or_true _) (bc (Bool.or_true _) (bc (Bool.or_true _) (bc (Bool.or_true _) b0)))))) q0 (cc (fun _ => (@ev97 (f1) (f2) (g1) (g2) (a) (x) k1)) (cc (fun hc => ((@ev97 (f3) (f4) (g3) (g4) (b) (y) (k3 ((i_at (i_at (i_bt Zab))).1 hc))):Ev M1 (Conf.pure 97 [ratA f3 f4 b,ratA g3 g4 y]) (vb (decide (b = y))) [])) (cc (fun hc => ((@ev97 (f5) (f6) (g5) (g6) (c) (z) (k5 ((i_at (i_at (i_bt (ZaK Zab Zab)))).1 hc))):Ev M1 (Conf.pure 97 [ratA f5 f6 c,ratA g5 g6 z]) (vb (decide (c = z))) [])) c0))) H
noncomputable abbrev zNmB2:=us (Sp.Zad (↑(Sp.qi 0).den:Int))
noncomputable abbrev zNmB3:=us (Sp.Zad (Sp.qi 0).num)
theorem mAt (f1 f2 f3 f4:Bool) (x y:Rat)  (dq:AV) (H :
  Weak (ag [vb (Sp.Zaa x.num),AV.vec f1 1 (us (Sp.Zad x.num)),vb (Sp.Zaa (↑x.den:Int)),AV.vec f2 1 (us (Sp.Zad (↑x.den:Int))),vb (Sp.Zaa (Sp.qi 0).num),vf (us (Sp.Zad (Sp.qi 0).num)),vb (Sp.Zaa (↑(Sp.qi 0).den:Int)),vf (us (Sp.Zad (↑(Sp.qi 0).den:Int))),vb (Sp.Zaa y.num),AV.vec f3 1 (us (Sp.Zad y.num)),vb (Sp.Zaa (↑y.den:Int)),AV.vec f4 1 (us (Sp.Zad (↑y.den:Int))),vb (Sp.Zaa (Sp.qi 0).num),vf (us (Sp.Zad (Sp.qi 0).num)),vb (Sp.Zaa (↑(Sp.qi 0).den:Int)),vf (us (Sp.Zad (↑(Sp.qi 0).den:Int))),vb (Sp.Zaa (Sp.qi 0).num),vf (us (Sp.Zad (Sp.qi 0).num)),vb (Sp.Zaa (↑(Sp.qi 0).den:Int)),vf (us (Sp.Zad (↑(Sp.qi 0).den:Int)))]) dq) :
 mAt_at f1 f2 f3 f4 x y (Zaf dq):=by
 unfold mAt_at
 exact Zah (G:=Zac kp57 [(1,2,.call (ratF (Sp.qi 0)) none),(1,5,.call (ratF (Sp.qi 0)) none),(1,6,.call (ratF (Sp.qi 0)) none)] []) 1000 [] (ag [vb (Sp.Zaa x.num),AV.vec f1 1 (us (Sp.Zad x.num)),vb (Sp.Zaa (↑x.den:Int)),AV.vec f2 1 (us (Sp.Zad (↑x.den:Int))),vb (Sp.Zaa (Sp.qi 0).num),vf zNmB3,vb (Sp.Zaa (↑(Sp.qi 0).den:Int)),vf zNmB2,vb (Sp.Zaa y.num),AV.vec f3 1 (us (Sp.Zad y.num)),vb (Sp.Zaa (↑y.den:Int)),AV.vec f4 1 (us (Sp.Zad (↑y.den:Int))),vb (Sp.Zaa (Sp.qi 0).num),vf zNmB3,vb (Sp.Zaa (↑(Sp.qi 0).den:Int)),vf zNmB2,vb (Sp.Zaa (Sp.qi 0).num),vf zNmB3,vb (Sp.Zaa (↑(Sp.qi 0).den:Int)),vf zNmB2]) (by kernel_rfl) (bc rfl (bc rfl (bc rfl b0))) q0 (ce (@ev100 ) (ce (@ev100 ) (ce (@ev100 ) c0))) H
noncomputable abbrev zNmB4 (ax:Rat) (f1:Bool) (f2:Bool) (bx:Rat) (f3:Bool) (f4:Bool) (ay:Rat) (f5:Bool) (f6:Bool) (by_:Rat) (f7:Bool) (f8:Bool) (c:Rat) (f9:Bool) (f10:Bool):=ag [vb (Sp.Zaa ax.num),AV.vec f1 1 (us (Sp.Zad ax.num)),vb (Sp.Zaa (↑ax.den:Int)),AV.vec f2 1 (us (Sp.Zad (↑ax.den:Int))),vb (Sp.Zaa bx.num),AV.vec f3 1 (us (Sp.Zad bx.num)),vb (Sp.Zaa (↑bx.den:Int)),AV.vec f4 1 (us (Sp.Zad (↑bx.den:Int))),vb (Sp.Zaa ay.num),AV.vec f5 1 (us (Sp.Zad ay.num)),vb (Sp.Zaa (↑ay.den:Int)),AV.vec f6 1 (us (Sp.Zad (↑ay.den:Int))),vb (Sp.Zaa by_.num),AV.vec f7 1 (us (Sp.Zad by_.num)),vb (Sp.Zaa (↑by_.den:Int)),AV.vec f8 1 (us (Sp.Zad (↑by_.den:Int))),vb (Sp.Zaa c.num),AV.vec f9 1 (us (Sp.Zad c.num)),vb (Sp.Zaa (↑c.den:Int)),AV.vec f10 1 (us (Sp.Zad (↑c.den:Int)))]
theorem mRed (f1 f2 f3 f4 f5 f6 f7 f8 f9 f10:Bool) (ax bx ay by_ c:Rat)  (dq:AV) (H :
  (((Sp.sgnI bx.num = 0) /\ (Sp.sgnI by_.num = 0)) -> Weak (ag [vb (Sp.Zaa ax.num),AV.vec f1 1 (us (Sp.Zad ax.num)),vb (Sp.Zaa (↑ax.den:Int)),AV.vec f2 1 (us (Sp.Zad (↑ax.den:Int))),vb (Sp.Zaa bx.num),AV.vec f3 1 (us (Sp.Zad bx.num)),vb (Sp.Zaa (↑bx.den:Int)),AV.vec f4 1 (us (Sp.Zad (↑bx.den:Int))),vb (Sp.Zaa ay.num),AV.vec f5 1 (us (Sp.Zad ay.num)),vb (Sp.Zaa (↑ay.den:Int)),AV.vec f6 1 (us (Sp.Zad (↑ay.den:Int))),vb (Sp.Zaa by_.num),AV.vec f7 1 (us (Sp.Zad by_.num)),vb (Sp.Zaa (↑by_.den:Int)),AV.vec f8 1 (us (Sp.Zad (↑by_.den:Int))),vb (Sp.Zaa (Sp.qi 0).num),vf (us (Sp.Zad (Sp.qi 0).num)),vb (Sp.Zaa (↑(Sp.qi 0).den:Int)),vf (us (Sp.Zad (↑(Sp.qi 0).den:Int)))]) dq) /\
  (¬((Sp.sgnI bx.num = 0) /\ (Sp.sgnI by_.num = 0)) -> Weak (ag [vb (Sp.Zaa ax.num),AV.vec f1 1 (us (Sp.Zad ax.num)),vb (Sp.Zaa (↑ax.den:Int)),AV.vec f2 1 (us (Sp.Zad (↑ax.den:Int))),vb (Sp.Zaa bx.num),AV.vec f3 1 (us (Sp.Zad bx.num)),vb (Sp.Zaa (↑bx.den:Int)),AV.vec f4 1 (us (Sp.Zad (↑bx.den:Int))),vb (Sp.Zaa ay.num),AV.vec f5 1 (us (Sp.Zad ay.num)),vb (Sp.Zaa (↑ay.den:Int)),AV.vec f6 1 (us (Sp.Zad (↑ay.den:Int))),vb (Sp.Zaa by_.num),AV.vec f7 1 (us (Sp.Zad by_.num)),vb (Sp.Zaa (↑by_.den:Int)),AV.vec f8 1 (us (Sp.Zad (↑by_.den:Int))),vb (Sp.Zaa c.num),AV.vec f9 1 (us (Sp.Zad c.num)),vb (Sp.Zaa (↑c.den:Int)),AV.vec f10 1 (us (Sp.Zad (↑c.den:Int)))]) dq)) :
 mRed_at f1 f2 f3 f4 f5 f6 f7 f8 f9 f10 ax bx ay by_ c (Zaf dq):=by
 unfold mRed_at
 refine Zae (G:=Zac kp144 [(1,2,.call (vi (Sp.sgnI bx.num)) none),(1,7,.call (vi (Sp.sgnI by_.num)) none)] []) 5 [] ⟨(atC (cd Tryz.f144) [1,0,1]),[(1,AV.ptr 0 0 0 0),(2,AV.ptr 1 0 0 0),(12,vb (bif Sp.sgnI bx.num == 0 then Sp.sgnI by_.num == 0 else false))],[⟨[(zNmB4 ax f1 f2 bx f3 f4 ay f5 f6 by_ f7 f8 c f9 f10)],20,0,false,false⟩,⟨[ag [vb false,AV.vnil,vb false,AV.vnil,vb false,AV.vnil,vb false,AV.vnil,vb false,AV.vnil,vb false,AV.vnil,vb false,AV.vnil,vb false,AV.vnil,vb false,AV.vnil,vb false,AV.vnil]],20,0,false,false⟩],[true,!((Sp.sgnI bx.num == 0) == true && true) || true],[],[⟨true,false,54,[ratA f3 f4 bx],[],vi (Sp.sgnI bx.num),[]⟩,⟨(Sp.sgnI bx.num == 0) == true && true && true,false,54,[ratA f7 f8 by_],[],vi (Sp.sgnI by_.num),[]⟩]⟩ (by kernel_rfl) (bc rfl (bc (Bool.or_true _) b0)) q0 (cc (fun _ => (@ev54 (f3) (f4) (bx.num) ((↑bx.den:Int)))) (cc (fun hc => ((@ev54 (f7) (f8) (by_.num) ((↑by_.den:Int))):Ev M1 (Conf.pure 54 [ratA f7 f8 by_]) (vi (Sp.sgnI by_.num)) [])) c0)) ?_
 rcases xq H with ⟨d3,H⟩|⟨d3,H⟩
 ·exact Zah (G:=Zac kp144 [(2,0,.call (ratF (Sp.qi 0)) none)] []) 1000 [true] (asm:=[(bif Sp.sgnI bx.num == 0 then Sp.sgnI by_.num == 0 else false) == true,0 == 0,true,true]) (ag [vb (Sp.Zaa ax.num),AV.vec f1 1 (us (Sp.Zad ax.num)),vb (Sp.Zaa (↑ax.den:Int)),AV.vec f2 1 (us (Sp.Zad (↑ax.den:Int))),vb (Sp.Zaa bx.num),AV.vec f3 1 (us (Sp.Zad bx.num)),vb (Sp.Zaa (↑bx.den:Int)),AV.vec f4 1 (us (Sp.Zad (↑bx.den:Int))),vb (Sp.Zaa ay.num),AV.vec f5 1 (us (Sp.Zad ay.num)),vb (Sp.Zaa (↑ay.den:Int)),AV.vec f6 1 (us (Sp.Zad (↑ay.den:Int))),vb (Sp.Zaa by_.num),AV.vec f7 1 (us (Sp.Zad by_.num)),vb (Sp.Zaa (↑by_.den:Int)),AV.vec f8 1 (us (Sp.Zad (↑by_.den:Int))),vb (Sp.Zaa (Sp.qi 0).num),vf (us (Sp.Zad (Sp.qi 0).num)),vb (Sp.Zaa (↑(Sp.qi 0).den:Int)),vf (us (Sp.Zad (↑(Sp.qi 0).den:Int)))]) (by kernel_rfl) (bc (Zar ((ZaK i_eq i_eq).2 d3)) (bc (beq_self_eq_true _) (bc rfl (bc rfl b0)))) q0 (ce (@ev100 ) c0) H
 ·exact Zah (G:=Zac kp144 [] []) 1000 [false] ((zNmB4 ax f1 f2 bx f3 f4 ay f5 f6 by_ f7 f8 c f9 f10)) (by kernel_rfl) (bc (Zao (fun h => d3 ((ZaK i_eq i_eq).1 h))) (bc rfl (bc rfl b0))) q0 c0 H
noncomputable abbrev zNmB5 (a:Rat) (x:Rat):=Sp.sgnI (a.num*(↑x.den:Int)-x.num*(↑a.den:Int))==0
theorem mConc (f1 f2 f3 f4 f5 f6 g1 g2 g3 g4 g5 g6:Bool) (a b c x y z:Rat)  (dq:AV) (H :
  (Sp.okR a /\ Sp.okR x) /\
  ((Sp.sgnI (a.num * (↑x.den:Int) - x.num * (↑a.den:Int)) = 0) -> (Sp.okR b /\ Sp.okR y)) /\
  vb (bif Sp.sgnI (a.num * (↑x.den:Int) - x.num * (↑a.den:Int)) == 0 then Sp.sgnI (b.num * (↑y.den:Int) - y.num * (↑b.den:Int)) == 0 else false) = dq) :
 mConc_at f1 f2 f3 f4 f5 f6 g1 g2 g3 g4 g5 g6 a b c x y z (Zaf dq):=by
 unfold mConc_at
 obtain ⟨k1,k3,H⟩:=H
 exact Zaq (G:=Zac kp73 [(1,4,.call (vi (Sp.sgnI (a.num * (↑x.den:Int) - x.num * (↑a.den:Int)))) none),(1,11,.call (vi (Sp.sgnI (b.num * (↑y.den:Int) - y.num * (↑b.den:Int)))) none)] []) 1000 [] (asm:=[true,true,!((zNmB5 a x) == true && true) || true,!((zNmB5 a x) == true && true) || true]) (calls:=[⟨true,false,110,[ratA f1 f2 a,ratA g1 g2 x],[],vi (Sp.sgnI (a.num * (↑x.den:Int) - x.num * (↑a.den:Int))),[]⟩,⟨(zNmB5 a x) == true && true && true,false,110,[ratA f3 f4 b,ratA g3 g4 y],[],vi (Sp.sgnI (b.num * (↑y.den:Int) - y.num * (↑b.den:Int))),[]⟩]) (vb (bif Sp.sgnI (a.num * (↑x.den:Int) - x.num * (↑a.den:Int)) == 0 then Sp.sgnI (b.num * (↑y.den:Int) - y.num * (↑b.den:Int)) == 0 else false)) (by kernel_rfl) (bc rfl (bc rfl (bc (Bool.or_true _) (bc (Bool.or_true _) b0)))) q0 (cc (fun _ => (@ev110 (f1) (f2) (g1) (g2) (a) (x) k1)) (cc (fun hc => ((@ev110 (f3) (f4) (g3) (g4) (b) (y) (k3 ((i_at (i_at (i_bt i_eq))).1 hc))):Ev M1 (Conf.pure 110 [ratA f3 f4 b,ratA g3 g4 y]) (vi (Sp.sgnI (b.num * (↑y.den:Int) - y.num * (↑b.den:Int)))) [])) c0)) H
theorem rNorm9 (f1 f2 f3 f4 f5 f6:Bool) (a b c:Rat)  (dq:AV) (H :
  (Sp.okR a /\ Sp.okR a) /\
  (Sp.okR b /\ Sp.okR b) /\
  (Sp.okR (a * a) /\ Sp.okR (b * b)) /\
  Weak (ratF (a * a + b * b)) dq) :
 rNorm9_at f1 f2 f3 f4 f5 f6 a b c (Zaf dq):=by
 unfold rNorm9_at
 obtain ⟨k1,k2,k3,H⟩:=H
 exact Zah (G:=Zac kp67 [(1,4,.call (ratF (a * a)) none),(1,9,.call (ratF (b * b)) none),(1,10,.call (ratF (a * a + b * b)) none)] []) 1000 [] (ratF (a * a + b * b)) (by kernel_rfl) (bc rfl (bc rfl (bc rfl (bc rfl (bc rfl b0))))) q0 (ce (@ev60 (f1) (f2) (f1) (f2) (a) (a) k1) (ce (@ev60 (f3) (f4) (f3) (f4) (b) (b) k2) (ce (@ev83 (false) (false) (false) (false) (a * a) (b * b) k3) c0))) H
theorem rVal9 (f1 f2 f3 f4 f5 f6 g1 g2 g3 g4:Bool) (a b c x y:Rat)  (dq:AV) (H :
  (Sp.okR a /\ Sp.okR x) /\
  (Sp.okR b /\ Sp.okR y) /\
  (Sp.okR (a * x) /\ Sp.okR (b * y)) /\
  (Sp.okR (a * x + b * y) /\ Sp.okR c) /\
  Weak (ratF (a * x + b * y - c)) dq) :
 rVal9_at f1 f2 f3 f4 f5 f6 g1 g2 g3 g4 a b c x y (Zaf dq):=by
 unfold rVal9_at
 obtain ⟨k1,k2,k3,k4,H⟩:=H
 exact Zah (G:=Zac kp30 [(1,3,.call (ratF (a * x)) none),(1,7,.call (ratF (b * y)) none),(1,8,.call (ratF (a * x + b * y)) none),(1,11,.call (ratF (a * x + b * y - c)) none)] []) 1000 [] (ratF (a * x + b * y - c)) (by kernel_rfl) (bc rfl (bc rfl (bc rfl (bc rfl (bc rfl (bc rfl b0)))))) q0 (ce (@ev60 (f1) (f2) (g1) (g2) (a) (x) k1) (ce (@ev60 (f3) (f4) (g3) (g4) (b) (y) k2) (ce (@ev83 (false) (false) (false) (false) (a * x) (b * y) k3) (ce (@ev59 (false) (false) (f5) (f6) (a * x + b * y) (c) k4) c0)))) H
noncomputable abbrev zNmB7:=us (Sp.Zad (↑(Sp.qi 0).den:Int))
noncomputable abbrev zNmB8:=us (Sp.Zad (Sp.qi 0).num)
theorem rAt (f1 f2 f3 f4:Bool) (x y:Rat)  (dq:AV) (H :
  Weak (ag [vb (Sp.Zaa x.num),AV.vec f1 1 (us (Sp.Zad x.num)),vb (Sp.Zaa (↑x.den:Int)),AV.vec f2 1 (us (Sp.Zad (↑x.den:Int))),vb (Sp.Zaa (Sp.qi 0).num),vf (us (Sp.Zad (Sp.qi 0).num)),vb (Sp.Zaa (↑(Sp.qi 0).den:Int)),vf (us (Sp.Zad (↑(Sp.qi 0).den:Int))),vb (Sp.Zaa y.num),AV.vec f3 1 (us (Sp.Zad y.num)),vb (Sp.Zaa (↑y.den:Int)),AV.vec f4 1 (us (Sp.Zad (↑y.den:Int))),vb (Sp.Zaa (Sp.qi 0).num),vf (us (Sp.Zad (Sp.qi 0).num)),vb (Sp.Zaa (↑(Sp.qi 0).den:Int)),vf (us (Sp.Zad (↑(Sp.qi 0).den:Int))),vb (Sp.Zaa (Sp.qi 0).num),vf (us (Sp.Zad (Sp.qi 0).num)),vb (Sp.Zaa (↑(Sp.qi 0).den:Int)),vf (us (Sp.Zad (↑(Sp.qi 0).den:Int)))]) dq) :
 rAt_at f1 f2 f3 f4 x y (Zaf dq):=by
 unfold rAt_at
 exact Zah (G:=Zac kp61 [(1,2,.call (ratF (Sp.qi 0)) none),(1,5,.call (ratF (Sp.qi 0)) none),(1,6,.call (ratF (Sp.qi 0)) none)] []) 1000 [] (ag [vb (Sp.Zaa x.num),AV.vec f1 1 (us (Sp.Zad x.num)),vb (Sp.Zaa (↑x.den:Int)),AV.vec f2 1 (us (Sp.Zad (↑x.den:Int))),vb (Sp.Zaa (Sp.qi 0).num),vf zNmB8,vb (Sp.Zaa (↑(Sp.qi 0).den:Int)),vf zNmB7,vb (Sp.Zaa y.num),AV.vec f3 1 (us (Sp.Zad y.num)),vb (Sp.Zaa (↑y.den:Int)),AV.vec f4 1 (us (Sp.Zad (↑y.den:Int))),vb (Sp.Zaa (Sp.qi 0).num),vf zNmB8,vb (Sp.Zaa (↑(Sp.qi 0).den:Int)),vf zNmB7,vb (Sp.Zaa (Sp.qi 0).num),vf zNmB8,vb (Sp.Zaa (↑(Sp.qi 0).den:Int)),vf zNmB7]) (by kernel_rfl) (bc rfl (bc rfl (bc rfl b0))) q0 (ce (@ev101 ) (ce (@ev101 ) (ce (@ev101 ) c0))) H
theorem rCoord (f1 f2 f3 f4 f5 f6:Bool) (a b c:Rat)  (dq:AV) (H :
  ((Sp.sgnI b.num = 0) -> Weak (ZaH a (Sp.qi 0) (Sp.qi 0)) dq) /\
  (¬(Sp.sgnI b.num = 0) -> Weak (Zas f1 f2 f3 f4 f5 f6 a b c) dq)) :
 rCoord_at f1 f2 f3 f4 f5 f6 a b c (Zaf dq):=by
 unfold rCoord_at
 refine Zae (G:=Zac kp147 [(1,1,.call (vi (Sp.sgnI b.num)) none)] []) 5 [] ⟨(atC (cd Tryz.f147) [1,0,1]),[(3,AV.ptr 0 0 0 0),(4,AV.ptr 1 0 0 0),(5,AV.ptr 2 0 0 0),(6,AV.ptr 3 0 0 0),(9,vb (Sp.sgnI b.num == 0))],[⟨[ratA f1 f2 a],4,0,false,false⟩,⟨[ratA f3 f4 b],4,0,false,false⟩,⟨[ratA f5 f6 c],4,0,false,false⟩,⟨[ag [vb false,AV.vnil,vb false,AV.vnil,vb false,AV.vnil,vb false,AV.vnil,vb false,AV.vnil,vb false,AV.vnil]],12,0,false,false⟩],_,[],_⟩ (by kernel_rfl) (bc rfl b0) q0 (ce (@ev20 (f3) (f4) (b.num) ((↑b.den:Int))) c0) ?_
 rcases xq H with ⟨d2,H⟩|⟨d2,H⟩
 ·exact Zah (G:=Zac kp147 [(2,1,.call (ZaH a (Sp.qi 0) (Sp.qi 0)) none)] []) 1000 [true] (ZaH a (Sp.qi 0) (Sp.qi 0)) (by kernel_rfl) (bc (Zar (i_eq.2 d2)) (bc rfl (bc rfl b0))) q0 (ce (@ev155 (f1) (f2) (a)) c0) H
 ·exact Zah (G:=Zac kp147 [] []) 1000 [false] (Zas f1 f2 f3 f4 f5 f6 a b c) (by kernel_rfl) (bc (Zao (fun h => d2 (i_eq.1 h))) (bc rfl (bc rfl (bc rfl (bc rfl b0))))) q0 c0 H
theorem rTwo (f1 f2 f3 f4 f5 f6:Bool) (a b c:Rat)  (dq:AV) (H :
  (-9223372036854775808 <= Sp.sgnI b.num * Sp.sgnI c.num /\ Sp.sgnI b.num * Sp.sgnI c.num <= 9223372036854775807) /\
  ((((Sp.sgnI a.num = 0) \/ (Sp.sgnI b.num * Sp.sgnI c.num = 0)) \/ (Sp.sgnI a.num = Sp.sgnI b.num * Sp.sgnI c.num)) -> ((Sp.sgnI a.num = 0) -> vi (Sp.sgnI b.num * Sp.sgnI c.num) = dq) /\
   (¬(Sp.sgnI a.num = 0) -> vi (Sp.sgnI a.num) = dq)) /\
  (¬(((Sp.sgnI a.num = 0) \/ (Sp.sgnI b.num * Sp.sgnI c.num = 0)) \/ (Sp.sgnI a.num = Sp.sgnI b.num * Sp.sgnI c.num)) -> (Sp.okR a /\ Sp.okR a) /\
   (Sp.okR b /\ Sp.okR b) /\
   (Sp.okR (b * b) /\ Sp.okR c) /\
   (Sp.okR (a * a) /\ Sp.okR (b * b * c)) /\
   (-9223372036854775808 <= Sp.sgnI a.num * Sp.sgnI ((a * a).num * (↑(b * b * c).den:Int) - (b * b * c).num * (↑(a * a).den:Int)) /\ Sp.sgnI a.num * Sp.sgnI ((a * a).num * (↑(b * b * c).den:Int) - (b * b * c).num * (↑(a * a).den:Int)) <= 9223372036854775807) /\
   vi (Sp.sgnI a.num * Sp.sgnI ((a * a).num * (↑(b * b * c).den:Int) - (b * b * c).num * (↑(a * a).den:Int))) = dq)) :
 rTwo_at f1 f2 f3 f4 f5 f6 a b c (Zaf dq):=by
 unfold rTwo_at
 obtain ⟨k1,H⟩:=H
 have w2:wi (Sp.sgnI b.num * Sp.sgnI c.num) = Sp.sgnI b.num * Sp.sgnI c.num:=wI64 k1
 have i3:(bif bif Sp.sgnI a.num == 0 then true else wi (Sp.sgnI b.num * Sp.sgnI c.num) == 0 then true else Sp.sgnI a.num == wi (Sp.sgnI b.num * Sp.sgnI c.num)) = true ↔ (((Sp.sgnI a.num = 0) \/ (Sp.sgnI b.num * Sp.sgnI c.num = 0)) \/ (Sp.sgnI a.num = Sp.sgnI b.num * Sp.sgnI c.num)):=(by (try rw [w2]);all_goals exact (Zbm (Zbm i_eq i_eq) i_eq))
 refine Zae (G:=Zac kp167 [(1,1,.call (vi (Sp.sgnI a.num)) none),(1,3,.call (vi (Sp.sgnI b.num)) none),(1,5,.call (vi (Sp.sgnI c.num)) none)] []) 7 [] ⟨(atC (cd Tryz.f167) [1,1,0,1]),[(3,AV.ptr 0 0 0 0),(4,AV.ptr 1 0 0 0),(5,AV.ptr 2 0 0 0),(7,vi (Sp.sgnI a.num)),(8,vi (wi (Sp.sgnI b.num * Sp.sgnI c.num))),(26,vb (bif bif Sp.sgnI a.num == 0 then true else wi (Sp.sgnI b.num * Sp.sgnI c.num) == 0 then true else Sp.sgnI a.num == wi (Sp.sgnI b.num * Sp.sgnI c.num)))],[⟨[ratA f1 f2 a],4,0,false,false⟩,⟨[ratA f3 f4 b],4,0,false,false⟩,⟨[ratA f5 f6 c],4,0,false,false⟩],_,[],_⟩ (by kernel_rfl) (bc rfl (bc rfl (bc rfl b0))) q0 (ce (@ev20 (f1) (f2) (a.num) ((↑a.den:Int))) (ce (@ev20 (f3) (f4) (b.num) ((↑b.den:Int))) (ce (@ev20 (f5) (f6) (c.num) ((↑c.den:Int))) c0))) ?_
 rcases xq H with ⟨d4,H⟩|⟨d4,H⟩
 ·rcases xq H with ⟨d6,H⟩|⟨d6,H⟩
  ·exact Zaq (G:=Zac kp167 [] []) 1000 [true,true] (vi (wi (Sp.sgnI b.num * Sp.sgnI c.num))) (by kernel_rfl) (bc (Zar (i3.2 d4)) (bc (Zar (i_eq.2 d6)) b0)) q0 c0 (by (try rw [w2]);all_goals exact H)
  ·exact Zaq (G:=Zac kp167 [] []) 1000 [true,false] (vi (Sp.sgnI a.num)) (by kernel_rfl) (bc (Zar (i3.2 d4)) (bc (Zao (fun h => d6 (i_eq.1 h))) b0)) q0 c0 H
 ·obtain ⟨k7,k8,k9,k10,k11,H⟩:=H
  have w12:wi (Sp.sgnI a.num * Sp.sgnI ((a * a).num * (↑(b * b * c).den:Int) - (b * b * c).num * (↑(a * a).den:Int))) = Sp.sgnI a.num * Sp.sgnI ((a * a).num * (↑(b * b * c).den:Int) - (b * b * c).num * (↑(a * a).den:Int)):=wI64 k11
  exact Zaq (G:=Zac kp167 [(6,3,.call (ratF (a * a)) none),(6,6,.call (ratF (b * b)) none),(6,8,.call (ratF (b * b * c)) none),(6,9,.call (vi (Sp.sgnI ((a * a).num * (↑(b * b * c).den:Int) - (b * b * c).num * (↑(a * a).den:Int)))) none)] []) 1000 [false] (vi (wi (Sp.sgnI a.num * Sp.sgnI ((a * a).num * (↑(b * b * c).den:Int) - (b * b * c).num * (↑(a * a).den:Int))))) (by kernel_rfl) (bc (Zao (fun h => d4 (i3.1 h))) (bc rfl (bc rfl (bc rfl (bc rfl (bc rfl b0)))))) q0 (ce (@ev35 (f1) (f2) (f1) (f2) (a) (a) k7) (ce (@ev35 (f3) (f4) (f3) (f4) (b) (b) k8) (ce (@ev35 (false) (false) (f5) (f6) (b * b) (c) k9) (ce (@ev74 (false) (false) (false) (false) (a * a) (b * b * c) k10) c0)))) (by (try rw [w12]);all_goals exact H)
theorem rSub5 (f1 f2 f3 f4 f5 f6 g1 g2 g3 g4 g5 g6:Bool) (a b c x y z:Rat)  (dq:AV) (H :
  (Sp.okR a /\ Sp.okR x) /\
  (Sp.ok y.num) /\
  (Sp.inI 0) /\
  Weak (ag [vb (Sp.Zaa (a - x).num),vf (us (Sp.Zad (a - x).num)),vb (Sp.Zaa (↑(a - x).den:Int)),vf (us (Sp.Zad (↑(a - x).den:Int))),vb (Sp.Zaa b.num),AV.vec f3 1 (us (Sp.Zad b.num)),vb (Sp.Zaa (↑b.den:Int)),AV.vec f4 1 (us (Sp.Zad (↑b.den:Int))),vb (Sp.Zaa (-y).num),vf (us (Sp.Zad (-y).num)),vb (Sp.Zaa (↑(-y).den:Int)),vf (us (Sp.Zad (↑(-y).den:Int))),vb (Sp.Zaa (Sp.qi 0).num),vf (us (Sp.Zad (Sp.qi 0).num)),vb (Sp.Zaa (↑(Sp.qi 0).den:Int)),vf (us (Sp.Zad (↑(Sp.qi 0).den:Int))),vb (Sp.Zaa c.num),AV.vec f5 1 (us (Sp.Zad c.num)),vb (Sp.Zaa (↑c.den:Int)),AV.vec f6 1 (us (Sp.Zad (↑c.den:Int))),vb (Sp.Zaa z.num),AV.vec g5 1 (us (Sp.Zad z.num)),vb (Sp.Zaa (↑z.den:Int)),AV.vec g6 1 (us (Sp.Zad (↑z.den:Int)))]) dq) :
 rSub5_at f1 f2 f3 f4 f5 f6 g1 g2 g3 g4 g5 g6 a b c x y z (Zaf dq):=by
 unfold rSub5_at
 obtain ⟨k1,k2,k3,H⟩:=H
 exact Zah (G:=Zac kp146 [(1,4,.call (ratF (a - x)) none),(1,9,.call (ratF (-y)) none),(1,10,.call (ratF (Sp.qi 0)) none)] []) 1000 [] (ag [vb (Sp.Zaa (a - x).num),vf (us (Sp.Zad (a - x).num)),vb (Sp.Zaa (↑(a - x).den:Int)),vf (us (Sp.Zad (↑(a - x).den:Int))),vb (Sp.Zaa b.num),AV.vec f3 1 (us (Sp.Zad b.num)),vb (Sp.Zaa (↑b.den:Int)),AV.vec f4 1 (us (Sp.Zad (↑b.den:Int))),vb (Sp.Zaa (-y).num),vf (us (Sp.Zad (-y).num)),vb (Sp.Zaa (↑(-y).den:Int)),vf (us (Sp.Zad (↑(-y).den:Int))),vb (Sp.Zaa (Sp.qi 0).num),vf (us (Sp.Zad (Sp.qi 0).num)),vb (Sp.Zaa (↑(Sp.qi 0).den:Int)),vf (us (Sp.Zad (↑(Sp.qi 0).den:Int))),vb (Sp.Zaa c.num),AV.vec f5 1 (us (Sp.Zad c.num)),vb (Sp.Zaa (↑c.den:Int)),AV.vec f6 1 (us (Sp.Zad (↑c.den:Int))),vb (Sp.Zaa z.num),AV.vec g5 1 (us (Sp.Zad z.num)),vb (Sp.Zaa (↑z.den:Int)),AV.vec g6 1 (us (Sp.Zad (↑z.den:Int)))]) (by kernel_rfl) (bc rfl (bc rfl (bc rfl (bc rfl (bc rfl (bc rfl (bc rfl b0))))))) q0 (ce (@ev28 (f1) (f2) (g1) (g2) (a) (x) k1) (ce (@ev82 (g3) (g4) (y) k2) (ce (@ev84 (0) k3) c0))) H
end Go.Av

namespace Go.Av
open Go.Proofs
end Go.Av

namespace Go.Av
open Go.Proofs
theorem ZbC:Sp.okT 1 (Sp.qi 0):=by rw [qi_zero];exact okT_zero
theorem okT_rad {k:Nat} {b c:Rat} (hc:Sp.okT k c):Sp.okT (k + 1) (Sp.rad b c):=by
 unfold Sp.rad
 split
 ·exact Zan ZbC (by omega)
 ·exact Zan hc (by omega)
theorem okT_mkC {k:Nat} {b c:Rat} (hc:Sp.okT k c):Sp.okT (k + 1) (Sp.mkC b c):=by
 unfold Sp.mkC
 split
 ·exact Zan ZbC (by omega)
 ·exact okT_rad hc
end Go.Av

namespace Go.Av
open Go.Proofs
theorem num_lt {r:Rat}:r.num < 0 ↔ r < 0:=by
 have h:=@Rat.num_nonneg r
 constructor
 ·intro k
  apply Classical.byContradiction
  intro n
  have:0 <= r:=by grind
  have:=h.2 this
  omega
 ·intro k
  apply Classical.byContradiction
  intro n
  have:0 <= r:=h.1 (by omega)
  grind
theorem num_gt {r:Rat}:0 < r.num ↔ 0 < r:=by
 have h:=@num_lt r
 have h0:=@Rat.num_eq_zero r
 constructor
 ·intro k
  have h1:¬r < 0:=fun x => by have:=h.2 x;omega
  have h2:r ≠ 0:=fun x => by have:=h0.2 x;omega
  grind
 ·intro k
  have h1:¬r.num < 0:=fun x => by have:=h.1 x;grind
  have h2:r.num ≠ 0:=fun x => by have:=h0.1 x;grind
  omega
theorem Zbd {r:Rat} (h:0 < r):Sp.sgR r = 1:=by
 have:=num_gt.2 h
 unfold Sp.sgR Sp.sgnI;rw [if_neg (by omega),if_pos this]
theorem ZbH {r:Rat} (h:r < 0):Sp.sgR r = -1:=by
 have:=num_lt.2 h
 unfold Sp.sgR Sp.sgnI;rw [if_pos this]
theorem ZaX:Sp.sgR 0=0:=rfl
theorem tri (r:Rat):r<0\/r=0\/0<r:=by grind
theorem Zc6 {r:Rat}:(Sp.sgR r = 1 ↔ 0 < r) /\ (Sp.sgR r = 0 ↔ r = 0) /\ (Sp.sgR r = -1 ↔ r < 0):=by
 rcases tri r with h | h | h
 ·rw [ZbH h]
  exact ⟨⟨fun x => absurd x (by decide),fun x => by grind⟩,⟨fun x => absurd x (by decide),fun x => by grind⟩,⟨fun _ => h,fun _ => rfl⟩⟩
 ·subst h
  exact ⟨⟨fun x => absurd x (by decide),fun x => by grind⟩,⟨fun _ => rfl,fun _ => rfl⟩,⟨fun x => absurd x (by decide),fun x => by grind⟩⟩
 ·rw [Zbd h]
  exact ⟨⟨fun _ => h,fun _ => rfl⟩,⟨fun x => absurd x (by decide),fun x => by grind⟩,⟨fun x => absurd x (by decide),fun x => by grind⟩⟩
theorem Zek {p q:Rat} (h1:0<p) (h2:0<q):0<p*q:=Rat.mul_pos h1 h2
theorem mul_nn {p q:Rat} (h1:p < 0) (h2:q < 0):0 < p * q:=by
 have:=Rat.mul_pos (show 0 < -p by grind) (show 0 < -q by grind)
 grind
theorem mul_pn {p q:Rat} (h1:0 < p) (h2:q < 0):p * q < 0:=by
 have:=Rat.mul_pos h1 (show 0 < -q by grind)
 grind
theorem mul_np {p q:Rat} (h1:p < 0) (h2:0 < q):p * q < 0:=by
 have:=Rat.mul_pos (show 0 < -p by grind) h2
 grind
theorem Zgd (p q:Rat):Sp.sgR (p * q) = Sp.sgR p * Sp.sgR q:=by
 rcases tri p with h | h | h
 ·rcases tri q with k | k | k
  ·rw [ZbH h,ZbH k,Zbd (mul_nn h k)];rfl
  ·subst k;rw [Rat.mul_zero,ZaX,Int.mul_zero]
  ·rw [ZbH h,Zbd k,ZbH (mul_np h k)];rfl
 ·subst h;rw [Rat.zero_mul,ZaX,Int.zero_mul]
 ·rcases tri q with k | k | k
  ·rw [Zbd h,ZbH k,ZbH (mul_pn h k)];rfl
  ·subst k;rw [Rat.mul_zero,ZaX,Int.mul_zero]
  ·rw [Zbd h,Zbd k,Zbd (Zek h k)];rfl
theorem sq_nn (a:Rat):0 <= a * a:=by
 rcases tri a with h | h | h
 ·have:=mul_nn h h;grind
 ·subst h;grind
 ·have:=Zek h h;grind
theorem sq_pos {a:Rat} (h:a ≠ 0):0 < a * a:=by
 rcases tri a with k | k | k
 ·exact mul_nn k k
 ·exact absurd k h
 ·exact Zek k k
theorem mul_ge {p q:Rat} (h1:0<=p) (h2:0<=q):0<=p*q:=Rat.mul_nonneg h1 h2
end Go.Av

namespace Go.Av
open Go.Proofs
structure Pnt where
 ax:Rat
 bx:Rat
 ay:Rat
 by_:Rat
 c:Rat
noncomputable instance:Inhabited Pnt:=⟨⟨0,0,0,0,0⟩⟩
namespace Sp
noncomputable def sg2 (a b m:Rat):Int:=if sgR a=0\/sgR b*sgR m=0\/sgR a=sgR b*sgR m then (if sgR a=0 then sgR b*sgR m else sgR a) else sgR a*sgR (a*a-b*b*m)
noncomputable def sgQ (a b c d m n:Rat):Int:=
 if sgR m < 0 \/ sgR n < 0 then 0
 else if sg2 a b m = 0 \/ sg2 c d m * sgR n = 0 \/ sg2 a b m = sg2 c d m * sgR n then (if sg2 a b m = 0 then sg2 c d m * sgR n else sg2 a b m)
 else sg2 a b m * sg2 (a * a + b * b * m - n * (c * c + d * d * m)) (a * b - n * (c * d) + (a * b - n * (c * d))) m
noncomputable def ZhQ (a b c x y z:Rat):Int:=sgQ (a-x) b (-y) (qi 0) c z
noncomputable def Ze0 (p q:Pnt):Int:=
 if ZhQ p.ax p.bx (rad p.bx p.c) q.ax q.bx (rad q.bx q.c) = 0 then ZhQ p.ay p.by_ (rad p.by_ p.c) q.ay q.by_ (rad q.by_ q.c) else ZhQ p.ax p.bx (rad p.bx p.c) q.ax q.bx (rad q.bx q.c)
def sameP (p q:Pnt):Prop:=(p.ax=q.ax/\sgR p.bx=sgR q.bx/\p.bx*p.bx*p.c=q.bx*q.bx*q.c/\(p.bx ≠ 0->0<p.c/\0<q.c))/\p.ay=q.ay/\sgR p.by_=sgR q.by_/\p.by_*p.by_*p.c=q.by_*q.by_*q.c/\(p.by_ ≠ 0->0<p.c/\0<q.c)
def Zb3 (p:Pnt):Prop:=if p.bx=0/\p.by_=0 then p.c=0 else 0<p.c/\¬rsq p.c
noncomputable def atP (x y:Rat):Pnt:=⟨x,qi 0,y,qi 0,qi 0⟩
open Classical in
noncomputable def Zbj (x u y v k:Rat):Pnt:=if rsq k then atP (x+u*rt k) (y+v*rt k) else ⟨x,u,y,v,if u=0/\v=0 then qi 0 else k⟩
open Classical in
noncomputable def red (x u y v k:Rat):Pnt:=if rsq k then atP (x+u*rt k) (y+v*rt k) else ⟨x,u,y,v,k⟩
end Sp
theorem qi_z:Sp.qi 0=0:=by rw [ZfC];rfl
theorem rad0 (c:Rat):Sp.rad 0 c=0:=by unfold Sp.rad;rw [if_pos rfl,qi_z]
theorem radn {b c:Rat} (h:b ≠ 0):Sp.rad b c=c:=if_neg h
theorem sg2_a0 (b m:Rat):Sp.sg2 0 b m = Sp.sgR b * Sp.sgR m:=by
 unfold Sp.sg2;rw [if_pos (.inl ZaX),if_pos ZaX]
theorem sg2_b0 (a m:Rat):Sp.sg2 a 0 m = Sp.sgR a:=by
 unfold Sp.sg2
 rw [ZaX,Int.zero_mul,if_pos (.inr (.inl rfl))]
 split
 ·next h => exact h.symm
 ·rfl
theorem sgR_ne {b:Rat} (h:b ≠ 0):Sp.sgR b = 1 \/ Sp.sgR b = -1:=by
 rcases tri b with k | k | k
 ·exact .inr (ZbH k)
 ·exact absurd k h
 ·exact .inl (Zbd k)
theorem sgR_op (b:Rat):Sp.sgR (-b) = -Sp.sgR b:=by
 rcases tri b with k | k | k
 ·rw [ZbH k,Zbd (show 0 < -b by grind)];rfl
 ·subst k;rw [show -(0:Rat) = 0 by grind,ZaX];rfl
 ·rw [Zbd k,ZbH (show -b < 0 by grind)]
theorem cmp_eq {a b c x y z:Rat} (h1:a = x) (h2:Sp.sgR b = Sp.sgR y) (h3:b * b * c = y * y * z) (hc:b ≠ 0 -> 0 < c /\ 0 < z):Sp.ZhQ a b (Sp.rad b c) x y (Sp.rad y z) = 0:=by
 have e0:a - x = 0:=by grind
 unfold Sp.ZhQ
 rw [e0,qi_z]
 by_cases hb:b = 0
 ·subst hb
  have hy:y = 0:=Zc6.2.1.1 (by rw [<- h2,ZaX])
  subst hy
  rw [rad0,rad0,show -(0:Rat) = 0 by grind]
  unfold Sp.sgQ
  rw [sg2_a0,ZaX]
  rfl
 ·have hy:y ≠ 0:=fun k => by
   subst k
   rw [ZaX] at h2
   exact hb (Zc6.2.1.1 h2)
  obtain ⟨p1,p2⟩:=hc hb
  rw [radn hb,radn hy]
  unfold Sp.sgQ
  rw [sg2_a0,sg2_b0,Zbd p1,Zbd p2,sgR_op,h2]
  have e1:(0:Rat) * 0 + b * b * c - z * (-y * -y + 0 * 0 * c) = 0:=by grind
  have e2:(0:Rat) * b - z * (-y * 0) + (0 * b - z * (-y * 0)) = 0:=by grind
  rw [e1,e2,sg2_a0,ZaX,Int.zero_mul]
  rcases sgR_ne hy with k | k <;> rw [k] <;> rfl
theorem cmp_opp {a u r:Rat} (hr:u ≠ 0 -> 0 < r):Sp.ZhQ a (-u) (Sp.rad (-u) r) a u (Sp.rad u r) = -Sp.sgR u:=by
 have e0:a - a = 0:=by grind
 unfold Sp.ZhQ
 rw [e0,qi_z]
 by_cases hu:u = 0
 ·subst hu
  rw [show -(0:Rat) = 0 by grind,rad0,ZaX]
  unfold Sp.sgQ
  rw [sg2_a0,ZaX]
  rfl
 ·have p:=hr hu
  rw [radn hu,radn (show -u ≠ 0 by grind)]
  unfold Sp.sgQ
  rw [sg2_a0,sg2_b0,Zbd p,sgR_op]
  rcases sgR_ne hu with k | k <;> rw [k] <;> rfl
theorem cmp_rat (a x:Rat):Sp.ZhQ a (Sp.qi 0) (Sp.rad (Sp.qi 0) (Sp.qi 0)) x (Sp.qi 0) (Sp.rad (Sp.qi 0) (Sp.qi 0)) = Sp.sgR (a - x):=by
 unfold Sp.ZhQ
 rw [qi_z,rad0,show -(0:Rat) = 0 by grind]
 unfold Sp.sgQ
 rw [sg2_b0,sg2_b0,ZaX,Int.zero_mul,if_neg (by decide),if_pos (.inr (.inl rfl))]
 split
 ·next h => exact h.symm
 ·rfl
theorem cmpP_same {p q:Pnt} (h:Sp.sameP p q):Sp.Ze0 p q = 0:=by
 obtain ⟨⟨h1,h2,h3,h4⟩,k1,k2,k3,k4⟩:=h
 unfold Sp.Ze0
 rw [if_pos (cmp_eq h1 h2 h3 h4)]
 exact cmp_eq k1 k2 k3 k4
theorem rt_nn {r:Rat} (h:Sp.rsq r):0 <= Sp.rt r:=by
 have e:=(rt_num h).1
 have n:=sq_nonneg r.num
 rcases tri (Sp.rt r) with k | k | k
 ·have:=num_lt.2 k;omega
 ·grind
 ·grind
theorem Zf9 {s t:Rat} (hs:0 <= s) (ht:0 <= t) (h:s * s = t * t):s = t:=by
 rcases tri (s - t) with k | k | k
 ·have:=Zek (show 0 < t - s by grind) (show 0 < t + s by grind);grind
 ·grind
 ·have:=Zek (show 0 < s - t by grind) (show 0 < s + t by grind);grind
theorem Zgg {k n:Rat} (hn:0 < n):Sp.rsq (k * (n * n)) ↔ Sp.rsq k:=by
 have i:n * n⁻¹ = 1:=Rat.mul_inv_cancel n (by grind)
 constructor
 ·intro h
  refine rsq_of (s:=Sp.rt (k * (n * n)) * n⁻¹) ?_
  have:=Zhv h
  have e:Sp.rt (k * (n * n)) * n⁻¹ * (Sp.rt (k * (n * n)) * n⁻¹) = (Sp.rt (k * (n * n)) * Sp.rt (k * (n * n))) * (n⁻¹ * n⁻¹):=by grind
  rw [e,this,show k * (n * n) * (n⁻¹ * n⁻¹) = k * ((n * n⁻¹) * (n * n⁻¹)) by grind,i];grind
 ·intro h
  refine rsq_of (s:=Sp.rt k * n) ?_
  have:=Zhv h
  rw [show Sp.rt k * n * (Sp.rt k * n) = (Sp.rt k * Sp.rt k) * (n * n) by grind,this]
theorem rt_scale {k n:Rat} (hn:0 < n) (h:Sp.rsq k):Sp.rt (k * (n * n)) = Sp.rt k * n:=by
 have h2:=(Zgg hn).2 h
 refine Zf9 (rt_nn h2) (mul_ge (rt_nn h) (by grind)) ?_
 rw [Zhv h2,show Sp.rt k * n * (Sp.rt k * n) = (Sp.rt k * Sp.rt k) * (n * n) by grind,Zhv h]
theorem Zfn (x y:Rat):Sp.sameP (Sp.atP x y) (Sp.atP x y):=⟨⟨rfl,rfl,rfl,fun k=>absurd qi_z k⟩,rfl,rfl,rfl,fun k=>absurd qi_z k⟩
theorem at_valid (x y:Rat):Sp.Zb3 (Sp.atP x y):=by unfold Sp.Zb3;rw [if_pos ⟨qi_z,qi_z⟩];exact qi_z
theorem Zhr {x u y v k:Rat} (hk:0 < k):Sp.Zb3 (Sp.Zbj x u y v k):=by
 unfold Sp.Zbj
 split
 ·exact at_valid _ _
 ·next h =>
  unfold Sp.Zb3
  by_cases z:u = 0 /\ v = 0
  ·rw [if_pos z,if_pos z,qi_z]
  ·rw [if_neg z,if_neg z];exact ⟨hk,h⟩
theorem surd_red {x y u v w t k n:Rat} (hn:0 < n) (hk:0 < k) (hu:u = w * n) (hv:v = t * n):Sp.sameP (Sp.Zbj x u y v k) (Sp.red x w y t (k * (n * n))):=by
 unfold Sp.Zbj Sp.red
 have kp:0 < k * (n * n):=Zek hk (Zek hn hn)
 by_cases s:Sp.rsq k
 ·rw [if_pos s,if_pos ((Zgg hn).2 s),rt_scale hn s,hu,hv,show w * n * Sp.rt k = w * (Sp.rt k * n) by grind,show t * n * Sp.rt k = t * (Sp.rt k * n) by grind]
  exact Zfn _ _
 ·rw [if_neg s,if_neg fun h => s ((Zgg hn).1 h)]
  have g1:Sp.sgR u = Sp.sgR w:=by rw [hu,Zgd,Zbd hn,Int.mul_one]
  have g2:Sp.sgR v = Sp.sgR t:=by rw [hv,Zgd,Zbd hn,Int.mul_one]
  by_cases z:u = 0 /\ v = 0
  ·rw [if_pos z,qi_z]
   have z1:w = 0:=Zc6.2.1.1 (by rw [<- g1,z.1,ZaX])
   have z2:t = 0:=Zc6.2.1.1 (by rw [<- g2,z.2,ZaX])
   refine ⟨⟨rfl,g1,?_,fun h => absurd z.1 h⟩,rfl,g2,?_,fun h => absurd z.2 h⟩
   ·show u * u * 0 = w * w * (k * (n * n));rw [z.1,z1];grind
   ·show v * v * 0 = t * t * (k * (n * n));rw [z.2,z2];grind
  ·rw [if_neg z]
   refine ⟨⟨rfl,g1,?_,fun _ => ⟨hk,kp⟩⟩,rfl,g2,?_,fun _ => ⟨hk,kp⟩⟩
   ·show u * u * k = w * w * (k * (n * n));rw [hu];grind
   ·show v * v * k = t * t * (k * (n * n));rw [hv];grind
theorem red_opp {x y w t r:Rat} (hr:0 < r):Sp.Ze0 (Sp.red x (-w) y (-t) r) (Sp.red x w y t r) = -(if w = 0 then Sp.sgR t else Sp.sgR w):=by
 unfold Sp.red
 by_cases s:Sp.rsq r
 ·rw [if_pos s,if_pos s]
  have p:=rt_nn s
  have q:=Zhv s
  have pp:0 < Sp.rt r:=by
   rcases tri (Sp.rt r) with k | k | k
   ·grind
   ·rw [k] at q;grind
   ·exact k
  have e (a u:Rat):Sp.sgR (a + -u * Sp.rt r - (a + u * Sp.rt r)) = -Sp.sgR u:=by
   have:a + -u * Sp.rt r - (a + u * Sp.rt r) = -(u * (Sp.rt r * 2)):=by grind
   rw [this,sgR_op,Zgd,Zbd (show 0 < Sp.rt r * 2 by grind),Int.mul_one]
  unfold Sp.Ze0 Sp.atP
  simp only [cmp_rat,e]
  by_cases z:w = 0
  ·rw [if_pos z,z,ZaX,if_pos (by rfl)]
  ·rw [if_neg z,if_neg (by rcases sgR_ne z with k | k <;> rw [k] <;> decide)]
 ·rw [if_neg s,if_neg s]
  unfold Sp.Ze0
  simp only [cmp_opp (fun _ => hr)]
  by_cases z:w = 0
  ·rw [if_pos z,z,ZaX,if_pos (by rfl)]
  ·rw [if_neg z,if_neg (by rcases sgR_ne z with k | k <;> rw [k] <;> decide)]
namespace Sp
noncomputable def Zaz (A B:Rat):Rat:=A*A+B*B
noncomputable def ZaV (A B C x y:Rat):Rat:=A*x+B*y-C
noncomputable def fX (A B C X Y:Rat):Rat:=X-ZaV A B C X Y / Zaz A B*A
noncomputable def fY (A B C X Y:Rat):Rat:=Y-ZaV A B C X Y / Zaz A B*B
noncomputable def dep (A B C X Y Q:Rat):Rat:=(Q-((fX A B C X Y-X)*(fX A B C X Y-X)+(fY A B C X Y-Y)*(fY A B C X Y-Y))) / Zaz A B
noncomputable def Zb7 (A B C X Y Q:Rat):Rat:=Zaz A B*Q-ZaV A B C X Y*ZaV A B C X Y
noncomputable def dn (A B:Rat):Bool:=decide (B<0\/B=0 /\ -A<0)
noncomputable def dU (A B:Rat):Rat:=bif dn A B then -B else B
noncomputable def dV (A B:Rat):Rat:=bif dn A B then - -A else -A
noncomputable def Zbu (A B C X Y Q:Rat):List Pnt:=
 if sgR (dep A B C X Y Q) < 0 then [] else if sgR (dep A B C X Y Q) = 0 then [atP (fX A B C X Y) (fY A B C X Y)]
 else [Zbj (fX A B C X Y) (-dU A B) (fY A B C X Y) (-dV A B) (dep A B C X Y Q),Zbj (fX A B C X Y) (dU A B) (fY A B C X Y) (dV A B) (dep A B C X Y Q)]
noncomputable def rP (s:Bool) (A B C X Y Q:Rat):Pnt:=bif s then red (fX A B C X Y) (-(B / Zaz A B)) (fY A B C X Y) (-(-A / Zaz A B)) (Zb7 A B C X Y Q) else red (fX A B C X Y) (B / Zaz A B) (fY A B C X Y) (-A / Zaz A B) (Zb7 A B C X Y Q)
noncomputable def Zce (A B C X Y Q:Rat):List Pnt:=
 if sgR (Zb7 A B C X Y Q) < 0 then [] else if sgR (Zb7 A B C X Y Q) = 0 then [atP (fX A B C X Y) (fY A B C X Y)]
 else if Ze0 (rP true A B C X Y Q) (rP false A B C X Y Q) > 0 then [rP false A B C X Y Q,rP true A B C X Y Q] else [rP true A B C X Y Q,rP false A B C X Y Q]
def sameL:List Pnt -> List Pnt -> Prop
 | [],[] => True
 | p :: l,q :: m => sameP p q /\ sameL l m
 | _,_ => False
end Sp
theorem ZdO {A B:Rat} (h:A ≠ 0 \/ B ≠ 0):0 < Sp.Zaz A B:=by
 unfold Sp.Zaz
 rcases h with h | h
 ·have:=sq_pos h;have:=sq_nn B;grind
 ·have:=sq_pos h;have:=sq_nn A;grind
theorem dep_room {A B C X Y Q:Rat} (h:A ≠ 0 \/ B ≠ 0):Sp.dep A B C X Y Q * (Sp.Zaz A B * Sp.Zaz A B) = Sp.Zb7 A B C X Y Q:=by
 have hn:=ZdO h
 have i:Sp.Zaz A B * (Sp.Zaz A B)⁻¹ = 1:=Rat.mul_inv_cancel _ (by grind)
 unfold Sp.dep Sp.Zb7 Sp.fX Sp.fY
 generalize Sp.ZaV A B C X Y = v
 rw [Rat.div_def,Rat.div_def]
 have e:Sp.Zaz A B = A * A + B * B:=rfl
 generalize Sp.Zaz A B = n at *
 generalize n⁻¹ = m at *
 have e1:X - v * m * A - X = -(v * m * A):=by grind
 have e2:Y - v * m * B - Y = -(v * m * B):=by grind
 rw [e1,e2]
 have e3:-(v * m * A) * -(v * m * A) + -(v * m * B) * -(v * m * B) = v * v * (m * m) * n:=by rw [e];grind
 rw [e3]
 have e4:(Q - v * v * (m * m) * n) * m * (n * n) = Q * n * (n * m) - v * v * ((n * m) * (n * m) * (n * m)):=by grind
 rw [e4,i];grind
theorem sg_scale {k n:Rat} (hn:0<n):Sp.sgR (k*(n*n))=Sp.sgR k:=by rw [Zgd,Zbd (Zek hn hn),Int.mul_one]
theorem line_same {A B C X Y Q:Rat} (h:A ≠ 0 \/ B ≠ 0):Sp.sameL (Sp.Zbu A B C X Y Q) (Sp.Zce A B C X Y Q) /\ ∀ p ∈ Sp.Zbu A B C X Y Q,Sp.Zb3 p:=by
 have hn:=ZdO h
 have hr:=dep_room (C:=C) (X:=X) (Y:=Y) (Q:=Q) h
 have i:Sp.Zaz A B * (Sp.Zaz A B)⁻¹ = 1:=Rat.mul_inv_cancel _ (by grind)
 unfold Sp.Zbu Sp.Zce
 rw [<- hr,sg_scale hn]
 rcases tri (Sp.dep A B C X Y Q) with k | k | k
 ·simp only [ZbH k,show (-1:Int) < 0 by decide,if_true]
  exact ⟨trivial,fun p hp => nomatch hp⟩
 ·simp only [k,ZaX,show ¬(0:Int) < 0 by decide,if_true,if_false]
  refine ⟨⟨Zfn _ _,trivial⟩,fun p hp => ?_⟩
  rw [List.mem_singleton.1 hp];exact at_valid _ _
 ·simp only [Zbd k,show ¬(1:Int) < 0 by decide,show ¬(1:Int) = 0 by decide,if_false]
  have vd:∀ p ∈ [Sp.Zbj (Sp.fX A B C X Y) (-Sp.dU A B) (Sp.fY A B C X Y) (-Sp.dV A B) (Sp.dep A B C X Y Q),Sp.Zbj (Sp.fX A B C X Y) (Sp.dU A B) (Sp.fY A B C X Y) (Sp.dV A B) (Sp.dep A B C X Y Q)],Sp.Zb3 p:=fun p hp => by
   simp only [List.mem_cons,List.not_mem_nil,or_false] at hp
   rcases hp with rfl | rfl <;> exact Zhr k
  have rp:0 < Sp.Zb7 A B C X Y Q:=by rw [<- hr];exact Zek k (Zek hn hn)
  have u1:∀ z:Rat,z = z / Sp.Zaz A B * Sp.Zaz A B:=fun z => by rw [Rat.div_def];grind
  have sw:∀ z:Rat,Sp.sgR (z / Sp.Zaz A B) = Sp.sgR z:=fun z => by
   have:=u1 z
   have e:=congrArg Sp.sgR this
   rw [Zgd,Zbd hn,Int.mul_one] at e
   exact e.symm
  have z0:B / Sp.Zaz A B = 0 ↔ B = 0:=by rw [<- Zc6.2.1,sw,Zc6.2.1]
  have ro:Sp.Ze0 (Sp.rP true A B C X Y Q) (Sp.rP false A B C X Y Q) = -(if B = 0 then Sp.sgR (-A) else Sp.sgR B):=by
   have:=red_opp (x:=Sp.fX A B C X Y) (y:=Sp.fY A B C X Y) (w:=B / Sp.Zaz A B) (t:=-A / Sp.Zaz A B) rp
   rw [sw,sw] at this
   unfold Sp.rP
   rw [cond_true,cond_false,this]
   by_cases z:B = 0
   ·rw [if_pos z,if_pos (z0.2 z)]
   ·rw [if_neg z,if_neg fun y => z (z0.1 y)]
  have sg:Sp.Ze0 (Sp.rP true A B C X Y Q) (Sp.rP false A B C X Y Q) > 0 ↔ Sp.dn A B = true:=by
   rw [ro]
   unfold Sp.dn
   rw [decide_eq_true_iff]
   by_cases z:B = 0
   ·rw [if_pos z]
    rcases tri (-A) with t | t | t
    ·rw [ZbH t];exact ⟨fun _ => .inr ⟨z,t⟩,fun _ => by decide⟩
    ·rw [t,ZaX];exact ⟨fun x => absurd x (by decide),fun x => by grind⟩
    ·rw [Zbd t];exact ⟨fun x => absurd x (by decide),fun x => by grind⟩
   ·rw [if_neg z]
    rcases tri B with t | t | t
    ·rw [ZbH t];exact ⟨fun _ => .inl t,fun _ => by decide⟩
    ·exact absurd t z
    ·rw [Zbd t];exact ⟨fun x => absurd x (by decide),fun x => by grind⟩
  have P:∀ s:Bool,Sp.sameP (Sp.Zbj (Sp.fX A B C X Y) (bif s then -B else B) (Sp.fY A B C X Y) (bif s then - -A else -A) (Sp.dep A B C X Y Q)) (Sp.rP s A B C X Y Q):=fun s => by
   unfold Sp.rP
   rw [<- hr]
   cases s with
   | true => exact surd_red hn k (by rw [cond_true];have:=u1 B;grind) (by rw [cond_true];have:=u1 (-A);grind)
   | false => exact surd_red hn k (by rw [cond_false];exact u1 B) (by rw [cond_false];exact u1 (-A))
  refine ⟨?_,vd⟩
  cases d:Sp.dn A B with
  | true =>
   rw [if_pos (sg.2 d)]
   have a1:=P false
   have a2:=P true
   rw [cond_false,cond_false] at a1
   rw [cond_true,cond_true] at a2
   unfold Sp.dU Sp.dV
   rw [d,cond_true,cond_true,show - -B = B by grind,show - - -A = -A by grind]
   exact ⟨a1,a2,trivial⟩
  | false =>
   rw [if_neg fun x => by rw [sg.1 x] at d;exact absurd d (by decide)]
   have a1:=P false
   have a2:=P true
   rw [cond_false,cond_false] at a1
   rw [cond_true,cond_true] at a2
   unfold Sp.dU Sp.dV
   rw [d,cond_false,cond_false]
   exact ⟨a2,a1,trivial⟩
end Go.Av

namespace Go.Av
open Go.Proofs
end Go.Av

namespace Go.Av
open Go.Proofs
abbrev ratC (f g:Bool) (r:Rat):List AV:=[.bool (Sp.Zaa r.num),.vec f 1 ((Sp.Zad r.num).map (.int .u32)),.bool (Sp.Zaa (r.den:Int)),.vec g 1 ((Sp.Zad (r.den:Int)).map (.int .u32))]
abbrev vecA (f1 f2 f3 f4:Bool) (x y:Rat):AV:=.agg [.bool (Sp.Zaa x.num),.vec f1 1 ((Sp.Zad x.num).map (.int .u32)),.bool (Sp.Zaa (x.den:Int)),.vec f2 1 ((Sp.Zad (x.den:Int)).map (.int .u32)),.bool (Sp.Zaa y.num),.vec f3 1 ((Sp.Zad y.num).map (.int .u32)),.bool (Sp.Zaa (y.den:Int)),.vec f4 1 ((Sp.Zad (y.den:Int)).map (.int .u32))]
abbrev vecF (x y:Rat):AV:=vecA false false false false x y
abbrev pntA (f1 f2 f3 f4 f5 f6 f7 f8 f9 f10:Bool) (ax bx ay by_ c:Rat):AV:=.agg [.bool (Sp.Zaa ax.num),.vec f1 1 ((Sp.Zad ax.num).map (.int .u32)),.bool (Sp.Zaa (ax.den:Int)),.vec f2 1 ((Sp.Zad (ax.den:Int)).map (.int .u32)),.bool (Sp.Zaa bx.num),.vec f3 1 ((Sp.Zad bx.num).map (.int .u32)),.bool (Sp.Zaa (bx.den:Int)),.vec f4 1 ((Sp.Zad (bx.den:Int)).map (.int .u32)),.bool (Sp.Zaa ay.num),.vec f5 1 ((Sp.Zad ay.num).map (.int .u32)),.bool (Sp.Zaa (ay.den:Int)),.vec f6 1 ((Sp.Zad (ay.den:Int)).map (.int .u32)),.bool (Sp.Zaa by_.num),.vec f7 1 ((Sp.Zad by_.num).map (.int .u32)),.bool (Sp.Zaa (by_.den:Int)),.vec f8 1 ((Sp.Zad (by_.den:Int)).map (.int .u32)),.bool (Sp.Zaa c.num),.vec f9 1 ((Sp.Zad c.num).map (.int .u32)),.bool (Sp.Zaa (c.den:Int)),.vec f10 1 ((Sp.Zad (c.den:Int)).map (.int .u32))]
abbrev pntF (ax bx ay by_ c:Rat):AV:=pntA false false false false false false false false false false ax bx ay by_ c
abbrev quadA (f1 f2 f3 f4 f5 f6 f7 f8 f9 f10 f11 f12:Bool) (a b c d m n:Rat):AV:=.agg [.bool (Sp.Zaa a.num),.vec f1 1 ((Sp.Zad a.num).map (.int .u32)),.bool (Sp.Zaa (a.den:Int)),.vec f2 1 ((Sp.Zad (a.den:Int)).map (.int .u32)),.bool (Sp.Zaa b.num),.vec f3 1 ((Sp.Zad b.num).map (.int .u32)),.bool (Sp.Zaa (b.den:Int)),.vec f4 1 ((Sp.Zad (b.den:Int)).map (.int .u32)),.bool (Sp.Zaa c.num),.vec f5 1 ((Sp.Zad c.num).map (.int .u32)),.bool (Sp.Zaa (c.den:Int)),.vec f6 1 ((Sp.Zad (c.den:Int)).map (.int .u32)),.bool (Sp.Zaa d.num),.vec f7 1 ((Sp.Zad d.num).map (.int .u32)),.bool (Sp.Zaa (d.den:Int)),.vec f8 1 ((Sp.Zad (d.den:Int)).map (.int .u32)),.bool (Sp.Zaa m.num),.vec f9 1 ((Sp.Zad m.num).map (.int .u32)),.bool (Sp.Zaa (m.den:Int)),.vec f10 1 ((Sp.Zad (m.den:Int)).map (.int .u32)),.bool (Sp.Zaa n.num),.vec f11 1 ((Sp.Zad n.num).map (.int .u32)),.bool (Sp.Zaa (n.den:Int)),.vec f12 1 ((Sp.Zad (n.den:Int)).map (.int .u32))]
abbrev quadF (a b c d m n:Rat):AV:=quadA false false false false false false false false false false false false a b c d m n
theorem agg_inv {xs us:List AV} (h:Weak (.agg xs) (.agg us)):xs.length = us.length /\ ∀ (i:Nat) x y,xs[i]? = some x -> us[i]? = some y -> Weak x y:=by
 cases h with
 | refl => exact ⟨rfl,fun i x y hx hy => by rw [hx] at hy;cases hy;exact .refl _⟩
 | agg _ _ h1 h2 => exact ⟨h1,h2⟩
theorem ZcY {xs us ys vs:List AV} (h:Weak (.agg xs) (.agg us)) (k:Weak (.agg ys) (.agg vs)):Weak (.agg (xs ++ ys)) (.agg (us ++ vs)):=by
 obtain ⟨h1,h2⟩:=agg_inv h
 obtain ⟨k1,k2⟩:=agg_inv k
 refine .agg _ _ (by simp [h1,k1]) fun i x y hx hy => ?_
 by_cases l:i < xs.length
 ·rw [List.getElem?_append_left l] at hx
  rw [List.getElem?_append_left (by omega)] at hy
  exact h2 i x y hx hy
 ·rw [List.getElem?_append_right (by omega)] at hx
  rw [List.getElem?_append_right (by omega),<- h1] at hy
  exact k2 _ x y hx hy
theorem Zb2 (f g:Bool) (r:Rat):Weak (.agg (ratC f g r)) (.agg (ratC false false r)):=ZdY _ _ _ _ _ _
theorem Zey (f1 f2 f3 f4 f5 f6 f7 f8 f9 f10:Bool) (ax bx ay by_ c:Rat):Weak (pntA f1 f2 f3 f4 f5 f6 f7 f8 f9 f10 ax bx ay by_ c) (pntF ax bx ay by_ c):=
 ZcY (Zb2 f1 f2 ax) (ZcY (Zb2 f3 f4 bx) (ZcY (Zb2 f5 f6 ay) (ZcY (Zb2 f7 f8 by_) (Zb2 f9 f10 c))))
theorem weak_quad (f1 f2 f3 f4 f5 f6 f7 f8 f9 f10 f11 f12:Bool) (a b c d m n:Rat):Weak (quadA f1 f2 f3 f4 f5 f6 f7 f8 f9 f10 f11 f12 a b c d m n) (quadF a b c d m n):=
 ZcY (Zb2 f1 f2 a) (ZcY (Zb2 f3 f4 b) (ZcY (Zb2 f5 f6 c) (ZcY (Zb2 f7 f8 d) (ZcY (Zb2 f9 f10 m) (Zb2 f11 f12 n)))))
theorem sgz {r:Rat}:Sp.sgnI r.num=0 ↔ r=0:=Zc6.2.1
theorem ok_of {k:Nat} {r:Rat} (h:Sp.okT k r) (hk:k <= 90000):Sp.ok r.num:=by
 have:=h.1
 unfold Sp.ok;omega
theorem ZhE {r:Rat} (h:0<r):r.num ≠ 0:=fun e=>by rw [Rat.num_eq_zero] at e;grind
theorem bifd {p q:Prop} [Decidable p] [Decidable q]:(bif decide p then decide q else false) = decide (p /\ q):=by
 by_cases h:p
 ·by_cases k:q
  ·rw [decide_eq_true h,decide_eq_true k,decide_eq_true ⟨h,k⟩];rfl
  ·rw [decide_eq_true h,decide_eq_false k,decide_eq_false (show ¬(p /\ q) from fun x => k x.2)];rfl
 ·rw [decide_eq_false h,decide_eq_false (show ¬(p /\ q) from fun x => h x.1)];rfl
namespace Sp
def ZfD (a b c:Rat):Prop:=(okT 30 a/\okT 30 b/\okT 30 c)/\(a ≠ 0\/b ≠ 0)
def Zdx (x y:Rat):Prop:=okT 30 x/\okT 30 y
def ZeM (a b c:Rat):Prop:=okT 30 a/\okT 30 b/\okT 30 c
def okTw (a b m:Rat):Prop:=okT 25000 a/\okT 25000 b/\okT 2000 m
noncomputable def rd2 (bx by_ c:Rat):Rat:=if bx=0/\by_=0 then qi 0 else c
end Sp
theorem ev103 (f1 f2 f3 f4 f5 f6 g1 g2 g3 g4:Bool) (a b c x y:Rat) (h:Sp.ZfD a b c /\ Sp.Zdx x y):Ev M1 (.pure 103 [Zas f1 f2 f3 f4 f5 f6 a b c,vecA g1 g2 g3 g4 x y]) (vecF (Sp.fX a b c x y) (Sp.fY a b c x y)) []:=by
 obtain ⟨⟨⟨ha,hb,hc⟩,h0⟩,hx,hy⟩:=h
 have hn:(a * a + b * b).num ≠ 0:=ZhE (ZdO h0)
 exact call103 (mFoot _ _ _ _ _ _ _ _ _ _ _ _ _ _ _ _ ⟨⟨Zak ha (by omega),Zak hx (by omega)⟩,⟨Zak hb (by omega),Zak hy (by omega)⟩,⟨Zak (Zag ha hx) (by omega),Zak (Zag hb hy) (by omega)⟩,⟨Zak (ZaG (Zag ha hx) (Zag hb hy)) (by omega),Zak hc (by omega)⟩,⟨Zak ha (by omega),Zak ha (by omega)⟩,⟨Zak hb (by omega),Zak hb (by omega)⟩,⟨Zak (Zag ha ha) (by omega),Zak (Zag hb hb) (by omega)⟩,⟨Zak (ZaA (ZaG (Zag ha hx) (Zag hb hy)) hc) (by omega),Zak (ZaG (Zag ha ha) (Zag hb hb)) (by omega),hn⟩,⟨Zak (ZbU (ZaA (ZaG (Zag ha hx) (Zag hb hy)) hc) (ZaG (Zag ha ha) (Zag hb hb)) hn) (by omega),Zak ha (by omega)⟩,⟨Zak hx (by omega),Zak (Zag (ZbU (ZaA (ZaG (Zag ha hx) (Zag hb hy)) hc) (ZaG (Zag ha ha) (Zag hb hb)) hn) ha) (by omega)⟩,⟨Zak (ZbU (ZaA (ZaG (Zag ha hx) (Zag hb hy)) hc) (ZaG (Zag ha ha) (Zag hb hb)) hn) (by omega),Zak hb (by omega)⟩,⟨Zak hy (by omega),Zak (Zag (ZbU (ZaA (ZaG (Zag ha hx) (Zag hb hy)) hc) (ZaG (Zag ha ha) (Zag hb hb)) hn) hb) (by omega)⟩,.refl _⟩)
theorem ev55 (f1 f2 f3 f4 f5 f6 g1 g2 g3 g4 g5 g6:Bool) (a b c x y z:Rat) (h:Sp.ZeM a b c /\ Sp.ZeM x y z):Ev M1 (.pure 55 [Zas f1 f2 f3 f4 f5 f6 a b c,Zas g1 g2 g3 g4 g5 g6 x y z]) (.bool (decide (a * y = x * b /\ a * z = x * c /\ b * z = y * c))) []:=by
 obtain ⟨⟨ha,hb,hc⟩,hx,hy,hz⟩:=h
 exact call55 (mSameL _ _ _ _ _ _ _ _ _ _ _ _ _ _ _ _ _ _ _ ⟨⟨Zak ha (by omega),Zak hy (by omega)⟩,⟨Zak hx (by omega),Zak hb (by omega)⟩,⟨Zak (Zag ha hy) (by omega),Zak (Zag hx hb) (by omega)⟩,fun _ => ⟨Zak ha (by omega),Zak hz (by omega)⟩,fun _ => ⟨Zak hx (by omega),Zak hc (by omega)⟩,fun _ => ⟨Zak (Zag ha hz) (by omega),Zak (Zag hx hc) (by omega)⟩,fun _ => ⟨Zak hb (by omega),Zak hz (by omega)⟩,fun _ => ⟨Zak hy (by omega),Zak hc (by omega)⟩,fun _ => ⟨Zak (Zag hb hz) (by omega),Zak (Zag hy hc) (by omega)⟩,by rw [bifd,bifd];exact congrArg AV.bool (decide_eq_decide.2 and_assoc)⟩)
theorem ev72 (f1 f2 f3 f4 f5 f6 g1 g2 g3 g4 g5 g6:Bool) (a b c x y z:Rat) (h:Sp.ZeM a b c /\ Sp.ZeM x y z):Ev M1 (.pure 72 [Zas f1 f2 f3 f4 f5 f6 a b c,Zas g1 g2 g3 g4 g5 g6 x y z]) (.bool (decide (a = x /\ b = y /\ c = z))) []:=by
 obtain ⟨⟨ha,hb,hc⟩,hx,hy,hz⟩:=h
 exact call72 (mSameC _ _ _ _ _ _ _ _ _ _ _ _ _ _ _ _ _ _ _ ⟨⟨Zak ha (by omega),Zak hx (by omega)⟩,fun _ => ⟨Zak hb (by omega),Zak hy (by omega)⟩,fun _ => ⟨Zak hc (by omega),Zak hz (by omega)⟩,by rw [bifd,bifd];exact congrArg AV.bool (decide_eq_decide.2 and_assoc)⟩)
theorem ev73 (f1 f2 f3 f4 f5 f6 g1 g2 g3 g4 g5 g6:Bool) (a b c x y z:Rat) (h:Sp.ZeM a b c /\ Sp.ZeM x y z):Ev M1 (.pure 73 [Zas f1 f2 f3 f4 f5 f6 a b c,Zas g1 g2 g3 g4 g5 g6 x y z]) (.bool (decide (a = x /\ b = y))) []:=by
 obtain ⟨⟨ha,hb,hc⟩,hx,hy,hz⟩:=h
 exact call73 (mConc _ _ _ _ _ _ _ _ _ _ _ _ _ _ _ _ _ _ _ ⟨⟨Zak ha (by omega),Zak hx (by omega)⟩,fun _ => ⟨Zak hb (by omega),Zak hy (by omega)⟩,by rw [cmp0,cmp0,bifd]⟩)
theorem ev57 (f1 f2 f3 f4:Bool) (x y:Rat):Ev M1 (.pure 57 [vecA f1 f2 f3 f4 x y]) (pntF x (Sp.qi 0) y (Sp.qi 0) (Sp.qi 0)) []:=
 call57 (mAt _ _ _ _ _ _ _ (Zey f1 f2 false false f3 f4 false false false false _ _ _ _ _))
theorem ev61 (f1 f2 f3 f4:Bool) (x y:Rat):Ev M1 (.pure 61 [vecA f1 f2 f3 f4 x y]) (pntF x (Sp.qi 0) y (Sp.qi 0) (Sp.qi 0)) []:=
 call61 (rAt _ _ _ _ _ _ _ (Zey f1 f2 false false f3 f4 false false false false _ _ _ _ _))
theorem ev144 (f1 f2 f3 f4 f5 f6 f7 f8 f9 f10:Bool) (ax bx ay by_ c:Rat):Ev M1 (.pure 144 [pntA f1 f2 f3 f4 f5 f6 f7 f8 f9 f10 ax bx ay by_ c]) (pntF ax bx ay by_ (Sp.rd2 bx by_ c)) []:=by
 refine call144 (mRed _ _ _ _ _ _ _ _ _ _ _ _ _ _ _ _ ⟨fun k => ?_,fun k => ?_⟩)
 ·rw [sgz,sgz] at k
  rw [show Sp.rd2 bx by_ c = Sp.qi 0 from if_pos k]
  exact Zey f1 f2 f3 f4 f5 f6 f7 f8 false false _ _ _ _ _
 ·rw [sgz,sgz] at k
  rw [show Sp.rd2 bx by_ c = c from if_neg k]
  exact Zey f1 f2 f3 f4 f5 f6 f7 f8 f9 f10 _ _ _ _ _
theorem ev67 (f1 f2 f3 f4 f5 f6:Bool) (a b c:Rat) (h:Sp.Zdx a b):Ev M1 (.pure 67 [Zas f1 f2 f3 f4 f5 f6 a b c]) (ratF (Sp.Zaz a b)) []:=by
 obtain ⟨ha,hb⟩:=h
 exact call67 (rNorm9 _ _ _ _ _ _ _ _ _ _ ⟨⟨Zak ha (by omega),Zak ha (by omega)⟩,⟨Zak hb (by omega),Zak hb (by omega)⟩,⟨Zak (Zag ha ha) (by omega),Zak (Zag hb hb) (by omega)⟩,.refl _⟩)
theorem ev30 (f1 f2 f3 f4 f5 f6 g1 g2 g3 g4:Bool) (a b c x y:Rat) (h:Sp.ZeM a b c /\ Sp.Zdx x y):Ev M1 (.pure 30 [Zas f1 f2 f3 f4 f5 f6 a b c,ratA g1 g2 x,ratA g3 g4 y]) (ratF (Sp.ZaV a b c x y)) []:=by
 obtain ⟨⟨ha,hb,hc⟩,hx,hy⟩:=h
 exact call30 (rVal9 _ _ _ _ _ _ _ _ _ _ _ _ _ _ _ _ ⟨⟨Zak ha (by omega),Zak hx (by omega)⟩,⟨Zak hb (by omega),Zak hy (by omega)⟩,⟨Zak (Zag ha hx) (by omega),Zak (Zag hb hy) (by omega)⟩,⟨Zak (ZaG (Zag ha hx) (Zag hb hy)) (by omega),Zak hc (by omega)⟩,.refl _⟩)
theorem ev147 (f1 f2 f3 f4 f5 f6:Bool) (a b c:Rat):Ev M1 (.pure 147 [ratA f1 f2 a,ratA f3 f4 b,ratA f5 f6 c]) (ZaH a b (Sp.rad b c)) []:=by
 refine call147 (rCoord _ _ _ _ _ _ _ _ _ _ ⟨fun k => ?_,fun k => ?_⟩)
 ·rw [sgz] at k
  subst k
  rw [show Sp.rad 0 c = Sp.qi 0 from if_pos rfl]
  have:(0:Rat) = Sp.qi 0:=qi_z.symm
  rw [this]
  exact .refl _
 ·rw [sgz] at k
  rw [radn k]
  exact ZcY (Zb2 f1 f2 a) (ZcY (Zb2 f3 f4 b) (Zb2 f5 f6 c))
theorem sg3 (n:Int):Sp.sgnI n = -1 \/ Sp.sgnI n = 0 \/ Sp.sgnI n = 1:=by
 unfold Sp.sgnI
 (repeat' split) <;> omega
theorem cmpS {r s:Rat}:Sp.sgnI (r.num * (s.den:Int) - s.num * (r.den:Int)) = Sp.sgR (r - s):=by
 rcases tri (r - s) with k | k | k
 ·rw [ZbH k]
  have:=Rat.lt_iff (a:=r) (b:=s)
  have:=this.1 (by grind)
  unfold Sp.sgnI;rw [if_pos (by omega)]
 ·rw [k,ZaX,cross];grind
 ·rw [Zbd k]
  have:=Rat.lt_iff (a:=s) (b:=r)
  have:=this.1 (by grind)
  unfold Sp.sgnI;rw [if_neg (by omega),if_pos (by omega)]
theorem ev167 (f1 f2 f3 f4 f5 f6:Bool) (a b c:Rat) (h:Sp.okTw a b c):Ev M1 (.pure 167 [ratA f1 f2 a,ratA f3 f4 b,ratA f5 f6 c]) (.int .i64 (Sp.sg2 a b c)) []:=by
 obtain ⟨ha,hb,hc⟩:=h
 have r1:=sg3 a.num
 have r2:=sg3 b.num
 have r3:=sg3 c.num
 have r4:=sg3 ((a * a).num * ((b * b * c).den:Int) - (b * b * c).num * ((a * a).den:Int))
 refine call167 (rTwo _ _ _ _ _ _ _ _ _ _ ⟨?_,fun k => ⟨fun j => ?_,fun j => ?_⟩,fun k => ⟨⟨Zak ha (by omega),Zak ha (by omega)⟩,⟨Zak hb (by omega),Zak hb (by omega)⟩,⟨Zak (Zag hb hb) (by omega),Zak hc (by omega)⟩,⟨Zak (Zag ha ha) (by omega),Zak (Zag (Zag hb hb) hc) (by omega)⟩,?_,?_⟩⟩)
 ·rcases r2 with r2 | r2 | r2 <;> rcases r3 with r3 | r3 | r3 <;> rw [r2,r3] <;> decide
 ·unfold Sp.sg2 Sp.sgR
  rw [if_pos (by rw [<- or_assoc];exact k),if_pos j]
 ·unfold Sp.sg2 Sp.sgR
  rw [if_pos (by rw [<- or_assoc];exact k),if_neg j]
 ·rcases r1 with r1 | r1 | r1 <;> rcases r4 with r4 | r4 | r4 <;> rw [r1,r4] <;> decide
 ·unfold Sp.sg2
  rw [if_neg (by rw [<- or_assoc];exact k),cmpS];rfl
theorem ev146 (f1 f2 f3 f4 f5 f6 g1 g2 g3 g4 g5 g6:Bool) (a b c x y z:Rat) (h:Sp.okT 2200 a /\ Sp.okT 2200 x /\ Sp.okT 2200 y):Ev M1 (.pure 146 [Zas f1 f2 f3 f4 f5 f6 a b c,Zas g1 g2 g3 g4 g5 g6 x y z]) (quadF (a - x) b (-y) (Sp.qi 0) c z) []:=by
 exact call146 (rSub5 _ _ _ _ _ _ _ _ _ _ _ _ _ _ _ _ _ _ _ ⟨⟨Zak h.1 (by omega),Zak h.2.1 (by omega)⟩,ok_of h.2.2 (by omega),by unfold Sp.inI;omega,weak_quad false false f3 f4 false false false false f5 f6 g5 g6 _ _ _ _ _ _⟩)
end Go.Av

namespace Go.Av
open Go.Proofs
set_option maxRecDepth 100000
def fi21:Fi:=⟨21,[.cell 4 26]⟩
def kp21:List (Nat × List Nat):=[(0,[2,3,4]),(1,[2,3,4,5]),(2,[4])]
def fi36:Fi:=⟨61,[.tmp 2]⟩
def kp36:List (Nat × List Nat):=[(0,[1]),(1,[1,32]),(2,[2]),(3,[1,42]),(4,[2]),(5,[1,4]),(6,[2])]
def fi64:Fi:=⟨51,[.cell 4 26,.cell 5 47]⟩
def kp64:List (Nat × List Nat):=[(0,[2,3,4,5]),(1,[2,3,4,5,6]),(2,[2,3,4,5,6,7,8]),(3,[2,4,5,6,9]),(4,[4,5])]
def fi69:Fi:=⟨37,[.cell 10 56]⟩
def kp69:List (Nat × List Nat):=[(0,[5,6,7,8,9,10]),(1,[5,6,7,8,9,10,11,12]),(2,[5,6,7,8,9,10,11,18]),(3,[10]),(4,[10])]
def fi76:Fi:=⟨17,[.cell 2 26]⟩
def kp76:List (Nat × List Nat):=[(0,[1,2]),(1,[2])]
def fi106:Fi:=⟨39,[.cell 4 56,.tmp 5]⟩
def kp106:List (Nat × List Nat):=[(0,[2,3,4]),(1,[2,3,4,6]),(2,[2,3,4,6,12]),(3,[2,3,4,6]),(4,[2,3,4,6,26]),(5,[4,5]),(6,[4,5])]
def fi108:Fi:=⟨10,[.cell 2 98]⟩
def kp108:List (Nat × List Nat):=[(0,[1,2]),(1,[2])]
def fi109:Fi:=⟨10,[.cell 2 98]⟩
def kp109:List (Nat × List Nat):=[(0,[1,2]),(1,[2])]
def fi145:Fi:=⟨107,[.tmp 2]⟩
def kp145:List (Nat × List Nat):=[(0,[1]),(1,[1,17]),(2,[2]),(3,[1,3,4]),(4,[1,3,4,46]),(5,[3,4,48]),(6,[2]),(7,[2]),(8,[1,3,5]),(9,[1,3,6]),(10,[1,3,6,7]),(11,[2])]
def mMake_at (f1 f2 f3 f4 f5 f6 g1 g2 g3 g4 g5 g6:Bool) (a b c x y z:Rat) (Q:AV->Heap->Prop):Prop:=Wp M1 (.run fi106 (atC (cd Tryz.f106) []) [(0,Zas f1 f2 f3 f4 f5 f6 a b c),(1,Zas g1 g2 g3 g4 g5 g6 x y z)] []) Q
def mDepth_at (f1 f2 f3 f4 f5 f6 g1 g2 g3 g4 g5 g6:Bool) (a b c x y q:Rat) (Q:AV->Heap->Prop):Prop:=Wp M1 (.run fi64 (atC (cd Tryz.f64) []) [(0,Zas f1 f2 f3 f4 f5 f6 a b c),(1,Zas g1 g2 g3 g4 g5 g6 x y q)] []) Q
def mRad1_at (f1 f2 f3 f4 f5 f6:Bool) (a b c:Rat) (Q:AV->Heap->Prop):Prop:=Wp M1 (.run fi76 (atC (cd Tryz.f76) []) [(0,Zas f1 f2 f3 f4 f5 f6 a b c)] []) Q
def rRoom_at (f1 f2 f3 f4 f5 f6 g1 g2 g3 g4 g5 g6:Bool) (a b c x y q:Rat) (Q:AV->Heap->Prop):Prop:=Wp M1 (.run fi21 (atC (cd Tryz.f21) []) [(0,Zas f1 f2 f3 f4 f5 f6 a b c),(1,Zas g1 g2 g3 g4 g5 g6 x y q)] []) Q
def rRed9_at (f1 f2 f3 f4 f5 f6 f7 f8 f9 f10:Bool) (ax bx ay by_ c:Rat) (Q:AV->Heap->Prop):Prop:=Wp M1 (.run fi69 (atC (cd Tryz.f69) []) [(0,ratA f1 f2 ax),(1,ratA f3 f4 bx),(2,ratA f5 f6 ay),(3,ratA f7 f8 by_),(4,ratA f9 f10 c)] []) Q
def rX7_at (f1 f2 f3 f4 f5 f6 f7 f8 f9 f10:Bool) (ax bx ay by_ c:Rat) (Q:AV->Heap->Prop):Prop:=Wp M1 (.run fi108 (atC (cd Tryz.f108) []) [(0,.agg [.bool (Sp.Zaa ax.num),.vec f1 1 ((Sp.Zad ax.num).map (.int .u32)),.bool (Sp.Zaa (ax.den:Int)),.vec f2 1 ((Sp.Zad (ax.den:Int)).map (.int .u32)),.bool (Sp.Zaa bx.num),.vec f3 1 ((Sp.Zad bx.num).map (.int .u32)),.bool (Sp.Zaa (bx.den:Int)),.vec f4 1 ((Sp.Zad (bx.den:Int)).map (.int .u32)),.bool (Sp.Zaa ay.num),.vec f5 1 ((Sp.Zad ay.num).map (.int .u32)),.bool (Sp.Zaa (ay.den:Int)),.vec f6 1 ((Sp.Zad (ay.den:Int)).map (.int .u32)),.bool (Sp.Zaa by_.num),.vec f7 1 ((Sp.Zad by_.num).map (.int .u32)),.bool (Sp.Zaa (by_.den:Int)),.vec f8 1 ((Sp.Zad (by_.den:Int)).map (.int .u32)),.bool (Sp.Zaa c.num),.vec f9 1 ((Sp.Zad c.num).map (.int .u32)),.bool (Sp.Zaa (c.den:Int)),.vec f10 1 ((Sp.Zad (c.den:Int)).map (.int .u32))])] []) Q
def rY7_at (f1 f2 f3 f4 f5 f6 f7 f8 f9 f10:Bool) (ax bx ay by_ c:Rat) (Q:AV->Heap->Prop):Prop:=Wp M1 (.run fi109 (atC (cd Tryz.f109) []) [(0,.agg [.bool (Sp.Zaa ax.num),.vec f1 1 ((Sp.Zad ax.num).map (.int .u32)),.bool (Sp.Zaa (ax.den:Int)),.vec f2 1 ((Sp.Zad (ax.den:Int)).map (.int .u32)),.bool (Sp.Zaa bx.num),.vec f3 1 ((Sp.Zad bx.num).map (.int .u32)),.bool (Sp.Zaa (bx.den:Int)),.vec f4 1 ((Sp.Zad (bx.den:Int)).map (.int .u32)),.bool (Sp.Zaa ay.num),.vec f5 1 ((Sp.Zad ay.num).map (.int .u32)),.bool (Sp.Zaa (ay.den:Int)),.vec f6 1 ((Sp.Zad (ay.den:Int)).map (.int .u32)),.bool (Sp.Zaa by_.num),.vec f7 1 ((Sp.Zad by_.num).map (.int .u32)),.bool (Sp.Zaa (by_.den:Int)),.vec f8 1 ((Sp.Zad (by_.den:Int)).map (.int .u32)),.bool (Sp.Zaa c.num),.vec f9 1 ((Sp.Zad c.num).map (.int .u32)),.bool (Sp.Zaa (c.den:Int)),.vec f10 1 ((Sp.Zad (c.den:Int)).map (.int .u32))])] []) Q
def rVal7_at (f1 f2 f3 f4 f5 f6 f7 f8 f9 f10:Bool) (ax bx ay by_ c:Rat) (Q:AV->Heap->Prop):Prop:=Wp M1 (.run fi36 (atC (cd Tryz.f36) []) [(0,.agg [.bool (Sp.Zaa ax.num),.vec f1 1 ((Sp.Zad ax.num).map (.int .u32)),.bool (Sp.Zaa (ax.den:Int)),.vec f2 1 ((Sp.Zad (ax.den:Int)).map (.int .u32)),.bool (Sp.Zaa bx.num),.vec f3 1 ((Sp.Zad bx.num).map (.int .u32)),.bool (Sp.Zaa (bx.den:Int)),.vec f4 1 ((Sp.Zad (bx.den:Int)).map (.int .u32)),.bool (Sp.Zaa ay.num),.vec f5 1 ((Sp.Zad ay.num).map (.int .u32)),.bool (Sp.Zaa (ay.den:Int)),.vec f6 1 ((Sp.Zad (ay.den:Int)).map (.int .u32)),.bool (Sp.Zaa by_.num),.vec f7 1 ((Sp.Zad by_.num).map (.int .u32)),.bool (Sp.Zaa (by_.den:Int)),.vec f8 1 ((Sp.Zad (by_.den:Int)).map (.int .u32)),.bool (Sp.Zaa c.num),.vec f9 1 ((Sp.Zad c.num).map (.int .u32)),.bool (Sp.Zaa (c.den:Int)),.vec f10 1 ((Sp.Zad (c.den:Int)).map (.int .u32))])] []) Q
def rSign5_at (f1 f2 f3 f4 f5 f6 f7 f8 f9 f10 f11 f12:Bool) (a b c d m n:Rat) (Q:AV->Heap->Prop):Prop:=Wp M1 (.run fi145 (atC (cd Tryz.f145) []) [(0,.agg [.bool (Sp.Zaa a.num),.vec f1 1 ((Sp.Zad a.num).map (.int .u32)),.bool (Sp.Zaa (a.den:Int)),.vec f2 1 ((Sp.Zad (a.den:Int)).map (.int .u32)),.bool (Sp.Zaa b.num),.vec f3 1 ((Sp.Zad b.num).map (.int .u32)),.bool (Sp.Zaa (b.den:Int)),.vec f4 1 ((Sp.Zad (b.den:Int)).map (.int .u32)),.bool (Sp.Zaa c.num),.vec f5 1 ((Sp.Zad c.num).map (.int .u32)),.bool (Sp.Zaa (c.den:Int)),.vec f6 1 ((Sp.Zad (c.den:Int)).map (.int .u32)),.bool (Sp.Zaa d.num),.vec f7 1 ((Sp.Zad d.num).map (.int .u32)),.bool (Sp.Zaa (d.den:Int)),.vec f8 1 ((Sp.Zad (d.den:Int)).map (.int .u32)),.bool (Sp.Zaa m.num),.vec f9 1 ((Sp.Zad m.num).map (.int .u32)),.bool (Sp.Zaa (m.den:Int)),.vec f10 1 ((Sp.Zad (m.den:Int)).map (.int .u32)),.bool (Sp.Zaa n.num),.vec f11 1 ((Sp.Zad n.num).map (.int .u32)),.bool (Sp.Zaa (n.den:Int)),.vec f12 1 ((Sp.Zad (n.den:Int)).map (.int .u32))])] []) Q
theorem call21 {args:List AV} {d:AV} (h:wc M1 fi21 Tryz.f21 args d):Ev M1 (.pure 21 args) d []:=pcl _ _ (by kernel_rfl) h
theorem call36 {args:List AV} {d:AV} (h:wc M1 fi36 Tryz.f36 args d):Ev M1 (.pure 36 args) d []:=pcl _ _ (by kernel_rfl) h
theorem call64 {args:List AV} {d:AV} (h:wc M1 fi64 Tryz.f64 args d):Ev M1 (.pure 64 args) d []:=pcl _ _ (by kernel_rfl) h
theorem call69 {args:List AV} {d:AV} (h:wc M1 fi69 Tryz.f69 args d):Ev M1 (.pure 69 args) d []:=pcl _ _ (by kernel_rfl) h
theorem call76 {args:List AV} {d:AV} (h:wc M1 fi76 Tryz.f76 args d):Ev M1 (.pure 76 args) d []:=pcl _ _ (by kernel_rfl) h
theorem call106 {args:List AV} {d:AV} (h:wc M1 fi106 Tryz.f106 args d):Ev M1 (.pure 106 args) d []:=pcl _ _ (by kernel_rfl) h
theorem call108 {args:List AV} {d:AV} (h:wc M1 fi108 Tryz.f108 args d):Ev M1 (.pure 108 args) d []:=pcl _ _ (by kernel_rfl) h
theorem call109 {args:List AV} {d:AV} (h:wc M1 fi109 Tryz.f109 args d):Ev M1 (.pure 109 args) d []:=pcl _ _ (by kernel_rfl) h
theorem call145 {args:List AV} {d:AV} (h:wc M1 fi145 Tryz.f145 args d):Ev M1 (.pure 145 args) d []:=pcl _ _ (by kernel_rfl) h
noncomputable abbrev zNmC1 (a:Rat) (b:Rat) (x:Rat) (y:Rat) (z:Rat):=(pntF a b x y (Sp.rd2 b y z))
noncomputable abbrev zNmC2 (a:Rat) (b:Rat) (x:Rat) (y:Rat) (c:Rat):=(pntF a b x y (Sp.rd2 b y c))
noncomputable abbrev zNmC3:=ag [vb false,AV.vnil,vb false,AV.vnil,vb false,AV.vnil,vb false,AV.vnil,vb false,AV.vnil,vb false,AV.vnil,vb false,AV.vnil,vb false,AV.vnil,vb false,AV.vnil,vb false,AV.vnil]
theorem mMake (f1 f2 f3 f4 f5 f6 g1 g2 g3 g4 g5 g6:Bool) (a b c x y z:Rat)  (dq:AV) (H :
  ((Sp.sgnI b.num = 0) -> Weak (tu [(pntF a b x y (Sp.rd2 b y z)),vi 0]) dq) /\
  (¬(Sp.sgnI b.num = 0) -> ((¬Sp.sgnI y.num = 0) -> (Sp.okR c /\ Sp.okR z)) /\
   (((¬Sp.sgnI y.num = 0) /\ (¬Sp.sgnI (c.num * (↑z.den:Int) - z.num * (↑c.den:Int)) = 0)) -> Weak (tu [ag [vb false,AV.vnil,vb false,AV.vnil,vb false,AV.vnil,vb false,AV.vnil,vb false,AV.vnil,vb false,AV.vnil,vb false,AV.vnil,vb false,AV.vnil,vb false,AV.vnil,vb false,AV.vnil],vi 1]) dq) /\
   (¬((¬Sp.sgnI y.num = 0) /\ (¬Sp.sgnI (c.num * (↑z.den:Int) - z.num * (↑c.den:Int)) = 0)) -> Weak (tu [(pntF a b x y (Sp.rd2 b y c)),vi 0]) dq))) :
 mMake_at f1 f2 f3 f4 f5 f6 g1 g2 g3 g4 g5 g6 a b c x y z (Zaf dq):=by
 unfold mMake_at
 refine Zae (G:=Zac kp106 [(2,2,.call (vi (Sp.sgnI b.num)) none)] []) 7 [] ⟨(atC (cd Tryz.f106) [1,1,0,1]),[(2,AV.ptr 0 0 0 0),(3,AV.ptr 1 0 0 0),(4,AV.ptr 2 0 0 0),(6,AV.ptr 3 0 0 0),(12,vb (Sp.sgnI b.num == 0))],[⟨[Zas f1 f2 f3 f4 f5 f6 a b c],12,0,false,false⟩,⟨[Zas g1 g2 g3 g4 g5 g6 x y z],12,0,false,false⟩,⟨[zNmC3],20,0,false,false⟩,⟨[ratA f5 f6 c],4,0,false,false⟩],_,[],_⟩ (by kernel_rfl) (bc rfl (bc rfl (bc rfl b0))) q0 (ce (@ev54 (f3) (f4) (b.num) ((↑b.den:Int))) c0) ?_
 rcases xq H with ⟨d2,H⟩|⟨d2,H⟩
 ·exact Zah (G:=Zac kp106 [(6,10,.call ((zNmC1 a b x y z)) none)] []) 1000 [true] (tu [(zNmC1 a b x y z),vi 0]) (by kernel_rfl) (bc (Zar (i_eq.2 d2)) (bc rfl (bc rfl (bc rfl (bc rfl (bc rfl (bc rfl (bc rfl (bc rfl b0))))))))) q0 (ce (@ev144 (f1) (f2) (f3) (f4) (g1) (g2) (g3) (g4) (g5) (g6) (a) (b) (x) (y) (z)) c0) H
 ·obtain ⟨k4,H⟩:=H
  refine Zae (G:=Zac kp106 [(4,2,.call (vi (Sp.sgnI y.num)) none),(4,9,.call (vi (Sp.sgnI (c.num * (↑z.den:Int) - z.num * (↑c.den:Int)))) none)] []) 3 [false] ⟨(atC (cd Tryz.f106) [1,1,0,1,1,1]),[(2,AV.ptr 0 0 0 0),(3,AV.ptr 1 0 0 0),(4,AV.ptr 2 0 0 0),(6,AV.ptr 3 0 0 0),(26,vb (bif Sp.sgnI y.num != 0 then Sp.sgnI (c.num * (↑z.den:Int) - z.num * (↑c.den:Int)) != 0 else false))],[⟨[Zas f1 f2 f3 f4 f5 f6 a b c],12,0,false,false⟩,⟨[Zas g1 g2 g3 g4 g5 g6 x y z],12,0,false,false⟩,⟨[zNmC3],20,0,false,false⟩,⟨[ratA f5 f6 c],4,0,false,false⟩],[(Sp.sgnI b.num == 0) == false,true,!((Sp.sgnI y.num != 0) == true && true) || true,!((Sp.sgnI y.num != 0) == true && true) || true],[],[⟨true,false,54,[ratA g3 g4 y],[],vi (Sp.sgnI y.num),[]⟩,⟨(Sp.sgnI y.num != 0) == true && true && true,false,110,[ratA f5 f6 c,ratA g5 g6 z],[],vi (Sp.sgnI (c.num * (↑z.den:Int) - z.num * (↑c.den:Int))),[]⟩]⟩ (by kernel_rfl) (bc (Zao (fun h => d2 (i_eq.1 h))) (bc rfl (bc (Bool.or_true _) (bc (Bool.or_true _) b0)))) q0 (cc (fun _ => (@ev54 (g3) (g4) (y.num) ((↑y.den:Int)))) (cc (fun hc => ((@ev110 (f5) (f6) (g5) (g6) (c) (z) (k4 ((i_at (i_at (i_bt i_ne))).1 hc))):Ev M1 (Conf.pure 110 [ratA f5 f6 c,ratA g5 g6 z]) (vi (Sp.sgnI (c.num * (↑z.den:Int) - z.num * (↑c.den:Int)))) [])) c0)) ?_
  rcases xq H with ⟨d6,H⟩|⟨d6,H⟩
  ·exact Zah (G:=Zac kp106 [] []) 1000 [true] (tu [zNmC3,vi 1]) (by kernel_rfl) (bc (Zar ((ZaK i_ne i_ne).2 d6)) (bc rfl b0)) q0 c0 H
  ·exact Zah (G:=Zac kp106 [(6,10,.call ((zNmC2 a b x y c)) none)] []) 1000 [false] (tu [(zNmC2 a b x y c),vi 0]) (by kernel_rfl) (bc (Zao (fun h => d6 ((ZaK i_ne i_ne).1 h))) (bc rfl (bc rfl (bc rfl (bc rfl (bc rfl (bc rfl b0))))))) q0 (ce (@ev144 (f1) (f2) (f3) (f4) (g1) (g2) (g3) (g4) (f5) (f6) (a) (b) (x) (y) (c)) c0) H
noncomputable abbrev zNmC4 (a:Rat) (b:Rat) (c:Rat) (x:Rat) (y:Rat):=(vecF (Sp.fX a b c x y) (Sp.fY a b c x y))
noncomputable abbrev zNmC5:=ag [vb false,AV.vnil,vb false,AV.vnil,vb false,AV.vnil,vb false,AV.vnil]
theorem mDepth (f1 f2 f3 f4 f5 f6 g1 g2 g3 g4 g5 g6:Bool) (a b c x y q:Rat)  (dq:AV) (H :
  (Sp.ZfD a b c /\ Sp.Zdx x y) /\
  (Sp.okR (Sp.fX a b c x y) /\ Sp.okR x) /\
  (Sp.okR (Sp.fY a b c x y) /\ Sp.okR y) /\
  (Sp.okR (Sp.fX a b c x y - x) /\ Sp.okR (Sp.fX a b c x y - x)) /\
  (Sp.okR (Sp.fY a b c x y - y) /\ Sp.okR (Sp.fY a b c x y - y)) /\
  (Sp.okR ((Sp.fX a b c x y - x) * (Sp.fX a b c x y - x)) /\ Sp.okR ((Sp.fY a b c x y - y) * (Sp.fY a b c x y - y))) /\
  (Sp.okR q /\ Sp.okR ((Sp.fX a b c x y - x) * (Sp.fX a b c x y - x) + (Sp.fY a b c x y - y) * (Sp.fY a b c x y - y))) /\
  (Sp.okR a /\ Sp.okR a) /\
  (Sp.okR b /\ Sp.okR b) /\
  (Sp.okR (a * a) /\ Sp.okR (b * b)) /\
  (Sp.okR (q - ((Sp.fX a b c x y - x) * (Sp.fX a b c x y - x) + (Sp.fY a b c x y - y) * (Sp.fY a b c x y - y))) /\ Sp.okR (a * a + b * b) /\ (a * a + b * b).num ≠ 0) /\
  Weak (tu [ratF ((q - ((Sp.fX a b c x y - x) * (Sp.fX a b c x y - x) + (Sp.fY a b c x y - y) * (Sp.fY a b c x y - y))) / (a * a + b * b)),(vecF (Sp.fX a b c x y) (Sp.fY a b c x y))]) dq) :
 mDepth_at f1 f2 f3 f4 f5 f6 g1 g2 g3 g4 g5 g6 a b c x y q (Zaf dq):=by
 unfold mDepth_at
 obtain ⟨k1,k2,k3,H⟩:=H
 refine Zae (G:=Zac kp64 [(1,6,.call ((zNmC4 a b c x y)) none),(2,4,.call (ratF (Sp.fX a b c x y - x)) none),(2,9,.call (ratF (Sp.fY a b c x y - y)) none)] []) 5 [] ⟨(atC (cd Tryz.f64) [1,1,0]),[(2,AV.ptr 0 0 0 0),(3,AV.ptr 1 0 0 0),(4,AV.ptr 2 0 0 0),(5,AV.ptr 3 0 0 0),(6,AV.ptr 4 0 0 0)],[⟨[Zas f1 f2 f3 f4 f5 f6 a b c],12,0,false,false⟩,⟨[Zas g1 g2 g3 g4 g5 g6 x y q],12,0,false,false⟩,⟨[ag [vb false,AV.vnil,vb false,AV.vnil]],4,0,false,false⟩,⟨[zNmC5],8,0,false,false⟩,⟨[(zNmC4 a b c x y)],8,0,false,false⟩],_,[],_⟩ (by kernel_rfl) (bc rfl (bc rfl (bc rfl (bc rfl b0)))) q0 (ce (@ev103 (f1) (f2) (f3) (f4) (f5) (f6) (g1) (g2) (g3) (g4) (a) (b) (c) (x) (y) k1) c0) (Zcx (G:=Zac kp64 [(1,6,.call ((zNmC4 a b c x y)) none),(2,4,.call (ratF (Sp.fX a b c x y - x)) none),(2,9,.call (ratF (Sp.fY a b c x y - y)) none)] []) [0,1,2,3,4,6,5] 10 (e1:=[(2,AV.ptr 0 0 0 0),(3,AV.ptr 1 0 0 0),(4,AV.ptr 2 0 0 0),(5,AV.ptr 3 0 0 0),(6,AV.ptr 4 0 0 0),(7,AV.ptr 5 0 0 0),(8,AV.ptr 6 0 0 0)]) (L1:=[⟨[Zas f1 f2 f3 f4 f5 f6 a b c],12,0,false,false⟩,⟨[Zas g1 g2 g3 g4 g5 g6 x y q],12,0,false,false⟩,⟨[ag [vb false,AV.vnil,vb false,AV.vnil]],4,0,false,false⟩,⟨[zNmC5],8,0,false,false⟩,⟨[(zNmC4 a b c x y)],8,0,false,false⟩,⟨[ratF (Sp.fX a b c x y - x)],4,0,false,false⟩,⟨[ratF (Sp.fY a b c x y - y)],4,0,false,false⟩]) (a:=[true,true,true,true,true,true]) (q:=[]) (cs:=[⟨true,false,52,[ratF (Sp.fX a b c x y),ratA g1 g2 x],[],ratF (Sp.fX a b c x y - x),[]⟩,⟨true,false,52,[ratF (Sp.fY a b c x y),ratA g3 g4 y],[],ratF (Sp.fY a b c x y - y),[]⟩]) (by kernel_rfl) (by kernel_rfl) (Zai rfl (Zai rfl (Zai rfl (Zai rfl (Zai rfl (Zai rfl ZaM)))))) Za1 (ZaF (fun _ => (@ev52 (false) (false) (g1) (g2) (Sp.fX a b c x y) (x) k2)) (ZaF (fun _ => (@ev52 (false) (false) (g3) (g4) (Sp.fY a b c x y) (y) k3)) Za2)) ?_)
 obtain ⟨k4,k5,k6,k7,k12,k13,k14,k15,H⟩:=H
 exact Zah (G:=Zac kp64 [(3,4,.call (ratF ((Sp.fX a b c x y - x) * (Sp.fX a b c x y - x))) none),(3,7,.call (ratF ((Sp.fY a b c x y - y) * (Sp.fY a b c x y - y))) none),(3,8,.call (ratF ((Sp.fX a b c x y - x) * (Sp.fX a b c x y - x) + (Sp.fY a b c x y - y) * (Sp.fY a b c x y - y))) none),(3,9,.call (ratF (q - ((Sp.fX a b c x y - x) * (Sp.fX a b c x y - x) + (Sp.fY a b c x y - y) * (Sp.fY a b c x y - y)))) none),(4,5,.call (ratF (a * a)) none),(4,10,.call (ratF (b * b)) none),(4,11,.call (ratF (a * a + b * b)) none),(4,12,.call (ratF ((q - ((Sp.fX a b c x y - x) * (Sp.fX a b c x y - x) + (Sp.fY a b c x y - y) * (Sp.fY a b c x y - y))) / (a * a + b * b))) none)] [(4,[5015,4014,6013,902012,902011,902010,2009,2007,902005,2004,2002,9000])]) 1000 [] (tu [ratF ((q - ((Sp.fX a b c x y - x) * (Sp.fX a b c x y - x) + (Sp.fY a b c x y - y) * (Sp.fY a b c x y - y))) / (a * a + b * b)),(zNmC4 a b c x y)]) (by kernel_rfl) (bc rfl (bc rfl (bc rfl (bc rfl (bc rfl (bc rfl (bc rfl (bc rfl (bc rfl (bc rfl (bc rfl (bc rfl (bc rfl (bc rfl b0)))))))))))))) q0 (ce (@ev53 (false) (false) (false) (false) (Sp.fX a b c x y - x) (Sp.fX a b c x y - x) k4) (ce (@ev53 (false) (false) (false) (false) (Sp.fY a b c x y - y) (Sp.fY a b c x y - y) k5) (ce (@ev77 (false) (false) (false) (false) ((Sp.fX a b c x y - x) * (Sp.fX a b c x y - x)) ((Sp.fY a b c x y - y) * (Sp.fY a b c x y - y)) k6) (ce (@ev52 (g5) (g6) (false) (false) (q) ((Sp.fX a b c x y - x) * (Sp.fX a b c x y - x) + (Sp.fY a b c x y - y) * (Sp.fY a b c x y - y)) k7) (ce (@ev53 (f1) (f2) (f1) (f2) (a) (a) k12) (ce (@ev53 (f3) (f4) (f3) (f4) (b) (b) k13) (ce (@ev77 (false) (false) (false) (false) (a * a) (b * b) k14) (ce (@ev56 (false) (false) (false) (false) (q - ((Sp.fX a b c x y - x) * (Sp.fX a b c x y - x) + (Sp.fY a b c x y - y) * (Sp.fY a b c x y - y))) (a * a + b * b) k15) c0)))))))) H
theorem mRad1 (f1 f2 f3 f4 f5 f6:Bool) (a b c:Rat)  (dq:AV) (H :
  (Sp.okR a /\ Sp.okR a) /\
  (Sp.okR b /\ Sp.okR b) /\
  (Sp.okR (a * a) /\ Sp.okR (b * b)) /\
  (Sp.okR (a * a + b * b) /\ Sp.okR c) /\
  Weak (ratF (a * a + b * b - c)) dq) :
 mRad1_at f1 f2 f3 f4 f5 f6 a b c (Zaf dq):=by
 unfold mRad1_at
 obtain ⟨k1,k2,k3,k4,H⟩:=H
 exact Zah (G:=Zac kp76 [(1,4,.call (ratF (a * a)) none),(1,9,.call (ratF (b * b)) none),(1,10,.call (ratF (a * a + b * b)) none),(1,13,.call (ratF (a * a + b * b - c)) none)] []) 1000 [] (ratF (a * a + b * b - c)) (by kernel_rfl) (bc rfl (bc rfl (bc rfl (bc rfl (bc rfl (bc rfl b0)))))) q0 (ce (@ev53 (f1) (f2) (f1) (f2) (a) (a) k1) (ce (@ev53 (f3) (f4) (f3) (f4) (b) (b) k2) (ce (@ev77 (false) (false) (false) (false) (a * a) (b * b) k3) (ce (@ev52 (false) (false) (f5) (f6) (a * a + b * b) (c) k4) c0)))) H
theorem rRoom (f1 f2 f3 f4 f5 f6 g1 g2 g3 g4 g5 g6:Bool) (a b c x y q:Rat)  (dq:AV) (H :
  (Sp.ZeM a b c /\ Sp.Zdx x y) /\
  (Sp.Zdx a b) /\
  (Sp.okR (Sp.Zaz a b) /\ Sp.okR q) /\
  (Sp.okR (Sp.ZaV a b c x y) /\ Sp.okR (Sp.ZaV a b c x y)) /\
  (Sp.okR (Sp.Zaz a b * q) /\ Sp.okR (Sp.ZaV a b c x y * Sp.ZaV a b c x y)) /\
  Weak (ratF (Sp.Zaz a b * q - Sp.ZaV a b c x y * Sp.ZaV a b c x y)) dq) :
 rRoom_at f1 f2 f3 f4 f5 f6 g1 g2 g3 g4 g5 g6 a b c x y q (Zaf dq):=by
 unfold rRoom_at
 obtain ⟨k1,k2,k3,k4,k5,H⟩:=H
 exact Zah (G:=Zac kp21 [(1,5,.call (ratF (Sp.ZaV a b c x y)) none),(2,1,.call (ratF (Sp.Zaz a b)) none),(2,4,.call (ratF (Sp.Zaz a b * q)) none),(2,7,.call (ratF (Sp.ZaV a b c x y * Sp.ZaV a b c x y)) none),(2,8,.call (ratF (Sp.Zaz a b * q - Sp.ZaV a b c x y * Sp.ZaV a b c x y)) none)] []) 1000 [] (ratF (Sp.Zaz a b * q - Sp.ZaV a b c x y * Sp.ZaV a b c x y)) (by kernel_rfl) (bc rfl (bc rfl (bc rfl (bc rfl (bc rfl (bc rfl (bc rfl (bc rfl (bc rfl b0))))))))) q0 (ce (@ev30 (f1) (f2) (f3) (f4) (f5) (f6) (g1) (g2) (g3) (g4) (a) (b) (c) (x) (y) k1) (ce (@ev67 (f1) (f2) (f3) (f4) (f5) (f6) (a) (b) (c) k2) (ce (@ev60 (false) (false) (g5) (g6) (Sp.Zaz a b) (q) k3) (ce (@ev60 (false) (false) (false) (false) (Sp.ZaV a b c x y) (Sp.ZaV a b c x y) k4) (ce (@ev59 (false) (false) (false) (false) (Sp.Zaz a b * q) (Sp.ZaV a b c x y * Sp.ZaV a b c x y) k5) c0))))) H
noncomputable abbrev zNmC6 (ax:Rat) (bx:Rat) (c:Rat) (ay:Rat) (by_:Rat):=(pntF (ax+bx*Sp.rt c) (Sp.qi 0) (ay+by_*Sp.rt c) (Sp.qi 0) (Sp.qi 0))
theorem rRed9 (f1 f2 f3 f4 f5 f6 f7 f8 f9 f10:Bool) (ax bx ay by_ c:Rat)  (dq:AV) (H :
  ((Sp.rsq c) -> (Sp.okR c) /\
   (Sp.okR bx /\ Sp.okR (Sp.rt c)) /\
   (Sp.okR ax /\ Sp.okR (bx * Sp.rt c)) /\
   (Sp.okR by_ /\ Sp.okR (Sp.rt c)) /\
   (Sp.okR ay /\ Sp.okR (by_ * Sp.rt c)) /\
   Weak ((pntF (ax + bx * Sp.rt c) (Sp.qi 0) (ay + by_ * Sp.rt c) (Sp.qi 0) (Sp.qi 0))) dq) /\
  (¬(Sp.rsq c) -> (Sp.okR c) /\
   Weak (ag [vb (Sp.Zaa ax.num),AV.vec f1 1 (us (Sp.Zad ax.num)),vb (Sp.Zaa (↑ax.den:Int)),AV.vec f2 1 (us (Sp.Zad (↑ax.den:Int))),vb (Sp.Zaa bx.num),AV.vec f3 1 (us (Sp.Zad bx.num)),vb (Sp.Zaa (↑bx.den:Int)),AV.vec f4 1 (us (Sp.Zad (↑bx.den:Int))),vb (Sp.Zaa ay.num),AV.vec f5 1 (us (Sp.Zad ay.num)),vb (Sp.Zaa (↑ay.den:Int)),AV.vec f6 1 (us (Sp.Zad (↑ay.den:Int))),vb (Sp.Zaa by_.num),AV.vec f7 1 (us (Sp.Zad by_.num)),vb (Sp.Zaa (↑by_.den:Int)),AV.vec f8 1 (us (Sp.Zad (↑by_.den:Int))),vb (Sp.Zaa c.num),AV.vec f9 1 (us (Sp.Zad c.num)),vb (Sp.Zaa (↑c.den:Int)),AV.vec f10 1 (us (Sp.Zad (↑c.den:Int)))]) dq)) :
 rRed9_at f1 f2 f3 f4 f5 f6 f7 f8 f9 f10 ax bx ay by_ c (Zaf dq):=by
 unfold rRed9_at
 rcases xq H with ⟨d1,H⟩|⟨d1,H⟩
 ·obtain ⟨k2,k3,k4,k5,k6,H⟩:=H
  exact Zah (G:=Zac kp69 [(1,1,.call (tu [ratF (Sp.rt c),vb true]) none),(3,3,.call (ratF (bx * Sp.rt c)) none),(3,4,.call (ratF (ax + bx * Sp.rt c)) none),(3,8,.call (ratF (by_ * Sp.rt c)) none),(3,9,.call (ratF (ay + by_ * Sp.rt c)) none),(3,11,.call (zNmC6 ax bx c ay by_) none)] []) 1000 [true] (zNmC6 ax bx c ay by_) (by kernel_rfl) (bc rfl (bc rfl (bc rfl (bc rfl (bc rfl (bc rfl (bc rfl (bc rfl (bc rfl (bc rfl b0)))))))))) q0 (ce (@ev91_y (f9) (f10) (c) k2 d1) (ce (@ev60 (f3) (f4) (false) (false) (bx) (Sp.rt c) k3) (ce (@ev83 (f1) (f2) (false) (false) (ax) (bx * Sp.rt c) k4) (ce (@ev60 (f7) (f8) (false) (false) (by_) (Sp.rt c) k5) (ce (@ev83 (f5) (f6) (false) (false) (ay) (by_ * Sp.rt c) k6) (ce (@ev61 (false) (false) (false) (false) (ax + bx * Sp.rt c) (ay + by_ * Sp.rt c)) c0)))))) H
 ·obtain ⟨k7,H⟩:=H
  exact Zah (G:=Zac kp69 [(1,1,.call (tu [ag [vb false,vf [],vb false,vf []],vb false]) none)] []) 1000 [false] (ag [vb (Sp.Zaa ax.num),AV.vec f1 1 (us (Sp.Zad ax.num)),vb (Sp.Zaa (↑ax.den:Int)),AV.vec f2 1 (us (Sp.Zad (↑ax.den:Int))),vb (Sp.Zaa bx.num),AV.vec f3 1 (us (Sp.Zad bx.num)),vb (Sp.Zaa (↑bx.den:Int)),AV.vec f4 1 (us (Sp.Zad (↑bx.den:Int))),vb (Sp.Zaa ay.num),AV.vec f5 1 (us (Sp.Zad ay.num)),vb (Sp.Zaa (↑ay.den:Int)),AV.vec f6 1 (us (Sp.Zad (↑ay.den:Int))),vb (Sp.Zaa by_.num),AV.vec f7 1 (us (Sp.Zad by_.num)),vb (Sp.Zaa (↑by_.den:Int)),AV.vec f8 1 (us (Sp.Zad (↑by_.den:Int))),vb (Sp.Zaa c.num),AV.vec f9 1 (us (Sp.Zad c.num)),vb (Sp.Zaa (↑c.den:Int)),AV.vec f10 1 (us (Sp.Zad (↑c.den:Int)))]) (by kernel_rfl) (bc rfl (bc rfl (bc rfl (bc rfl (bc rfl (bc rfl (bc rfl (bc rfl (bc rfl b0))))))))) q0 (ce (@ev91_n (f9) (f10) (c) k7 d1) c0) H
theorem rX7 (f1 f2 f3 f4 f5 f6 f7 f8 f9 f10:Bool) (ax bx ay by_ c:Rat)  (dq:AV) (H :
  Weak (ZaH ax bx (Sp.rad bx c)) dq) :
 rX7_at f1 f2 f3 f4 f5 f6 f7 f8 f9 f10 ax bx ay by_ c (Zaf dq):=by
 unfold rX7_at
 exact Zah (G:=Zac kp108 [(1,6,.call (ZaH ax bx (Sp.rad bx c)) none)] []) 1000 [] (ZaH ax bx (Sp.rad bx c)) (by kernel_rfl) (bc rfl (bc rfl (bc rfl (bc rfl b0)))) q0 (ce (@ev147 (f1) (f2) (f3) (f4) (f9) (f10) (ax) (bx) (c)) c0) H
theorem rY7 (f1 f2 f3 f4 f5 f6 f7 f8 f9 f10:Bool) (ax bx ay by_ c:Rat)  (dq:AV) (H :
  Weak (ZaH ay by_ (Sp.rad by_ c)) dq) :
 rY7_at f1 f2 f3 f4 f5 f6 f7 f8 f9 f10 ax bx ay by_ c (Zaf dq):=by
 unfold rY7_at
 exact Zah (G:=Zac kp109 [(1,6,.call (ZaH ay by_ (Sp.rad by_ c)) none)] []) 1000 [] (ZaH ay by_ (Sp.rad by_ c)) (by kernel_rfl) (bc rfl (bc rfl (bc rfl (bc rfl b0)))) q0 (ce (@ev147 (f5) (f6) (f7) (f8) (f9) (f10) (ay) (by_) (c)) c0) H
noncomputable abbrev zNmC7 (ax:Rat) (ay:Rat) (bx:Rat) (by_:Rat) (c:Rat):=bif bif bif bif !Sp.Zb9 (Sp.Zaa ax.num) (Sp.Zad ax.num) (Sp.Zaa (↑ax.den:Int)) (Sp.Zad (↑ax.den:Int)) then true else !Sp.Zb9 (Sp.Zaa ay.num) (Sp.Zad ay.num) (Sp.Zaa (↑ay.den:Int)) (Sp.Zad (↑ay.den:Int)) then true else !Sp.Zb9 (Sp.Zaa bx.num) (Sp.Zad bx.num) (Sp.Zaa (↑bx.den:Int)) (Sp.Zad (↑bx.den:Int)) then true else !Sp.Zb9 (Sp.Zaa by_.num) (Sp.Zad by_.num) (Sp.Zaa (↑by_.den:Int)) (Sp.Zad (↑by_.den:Int)) then true else !Sp.Zb9 (Sp.Zaa c.num) (Sp.Zad c.num) (Sp.Zaa (↑c.den:Int)) (Sp.Zad (↑c.den:Int))
noncomputable abbrev zNmC8 (ax:Rat) (f1:Bool) (f2:Bool) (bx:Rat) (f3:Bool) (f4:Bool) (ay:Rat) (f5:Bool) (f6:Bool) (by_:Rat) (f7:Bool) (f8:Bool) (c:Rat) (f9:Bool) (f10:Bool):=ag [vb (Sp.Zaa ax.num),AV.vec f1 1 (us (Sp.Zad ax.num)),vb (Sp.Zaa (↑ax.den:Int)),AV.vec f2 1 (us (Sp.Zad (↑ax.den:Int))),vb (Sp.Zaa bx.num),AV.vec f3 1 (us (Sp.Zad bx.num)),vb (Sp.Zaa (↑bx.den:Int)),AV.vec f4 1 (us (Sp.Zad (↑bx.den:Int))),vb (Sp.Zaa ay.num),AV.vec f5 1 (us (Sp.Zad ay.num)),vb (Sp.Zaa (↑ay.den:Int)),AV.vec f6 1 (us (Sp.Zad (↑ay.den:Int))),vb (Sp.Zaa by_.num),AV.vec f7 1 (us (Sp.Zad by_.num)),vb (Sp.Zaa (↑by_.den:Int)),AV.vec f8 1 (us (Sp.Zad (↑by_.den:Int))),vb (Sp.Zaa c.num),AV.vec f9 1 (us (Sp.Zad c.num)),vb (Sp.Zaa (↑c.den:Int)),AV.vec f10 1 (us (Sp.Zad (↑c.den:Int)))]
noncomputable abbrev zNmC9 (ax:Rat) (ay:Rat) (bx:Rat) (by_:Rat):=bif bif bif !Sp.Zb9 (Sp.Zaa ax.num) (Sp.Zad ax.num) (Sp.Zaa (↑ax.den:Int)) (Sp.Zad (↑ax.den:Int)) then true else !Sp.Zb9 (Sp.Zaa ay.num) (Sp.Zad ay.num) (Sp.Zaa (↑ay.den:Int)) (Sp.Zad (↑ay.den:Int)) then true else !Sp.Zb9 (Sp.Zaa bx.num) (Sp.Zad bx.num) (Sp.Zaa (↑bx.den:Int)) (Sp.Zad (↑bx.den:Int)) then true else !Sp.Zb9 (Sp.Zaa by_.num) (Sp.Zad by_.num) (Sp.Zaa (↑by_.den:Int)) (Sp.Zad (↑by_.den:Int))
noncomputable abbrev zNmC10 (ax:Rat) (ay:Rat) (bx:Rat):=bif bif !Sp.Zb9 (Sp.Zaa ax.num) (Sp.Zad ax.num) (Sp.Zaa (↑ax.den:Int)) (Sp.Zad (↑ax.den:Int)) then true else !Sp.Zb9 (Sp.Zaa ay.num) (Sp.Zad ay.num) (Sp.Zaa (↑ay.den:Int)) (Sp.Zad (↑ay.den:Int)) then true else !Sp.Zb9 (Sp.Zaa bx.num) (Sp.Zad bx.num) (Sp.Zaa (↑bx.den:Int)) (Sp.Zad (↑bx.den:Int))
noncomputable abbrev zNmC11 (ax:Rat) (ay:Rat):=bif !Sp.Zb9 (Sp.Zaa ax.num) (Sp.Zad ax.num) (Sp.Zaa (↑ax.den:Int)) (Sp.Zad (↑ax.den:Int)) then true else !Sp.Zb9 (Sp.Zaa ay.num) (Sp.Zad ay.num) (Sp.Zaa (↑ay.den:Int)) (Sp.Zad (↑ay.den:Int))
noncomputable abbrev zNmC12 (by_:Rat):=Sp.Zb9 (Sp.Zaa by_.num) (Sp.Zad by_.num) (Sp.Zaa (↑by_.den:Int)) (Sp.Zad (↑by_.den:Int))
noncomputable abbrev zNmC13 (ay:Rat):=Sp.Zb9 (Sp.Zaa ay.num) (Sp.Zad ay.num) (Sp.Zaa (↑ay.den:Int)) (Sp.Zad (↑ay.den:Int))
noncomputable abbrev zNmC14 (bx:Rat):=Sp.Zb9 (Sp.Zaa bx.num) (Sp.Zad bx.num) (Sp.Zaa (↑bx.den:Int)) (Sp.Zad (↑bx.den:Int))
noncomputable abbrev zNmC15 (c:Rat):=Sp.Zb9 (Sp.Zaa c.num) (Sp.Zad c.num) (Sp.Zaa (↑c.den:Int)) (Sp.Zad (↑c.den:Int))
theorem rVal7 (f1 f2 f3 f4 f5 f6 f7 f8 f9 f10:Bool) (ax bx ay by_ c:Rat)  (dq:AV) (H :
  (Sp.okA (Sp.Zad ax.num) (Sp.Zad (↑ax.den:Int))) /\
  ((¬(¬(Sp.Zb9 (Sp.Zaa ax.num) (Sp.Zad ax.num) (Sp.Zaa (↑ax.den:Int)) (Sp.Zad (↑ax.den:Int)) = true))) -> (Sp.okA (Sp.Zad ay.num) (Sp.Zad (↑ay.den:Int)))) /\
  ((¬((¬(Sp.Zb9 (Sp.Zaa ax.num) (Sp.Zad ax.num) (Sp.Zaa (↑ax.den:Int)) (Sp.Zad (↑ax.den:Int)) = true)) \/ (¬(Sp.Zb9 (Sp.Zaa ay.num) (Sp.Zad ay.num) (Sp.Zaa (↑ay.den:Int)) (Sp.Zad (↑ay.den:Int)) = true)))) -> (Sp.okA (Sp.Zad bx.num) (Sp.Zad (↑bx.den:Int)))) /\
  ((¬(((¬(Sp.Zb9 (Sp.Zaa ax.num) (Sp.Zad ax.num) (Sp.Zaa (↑ax.den:Int)) (Sp.Zad (↑ax.den:Int)) = true)) \/ (¬(Sp.Zb9 (Sp.Zaa ay.num) (Sp.Zad ay.num) (Sp.Zaa (↑ay.den:Int)) (Sp.Zad (↑ay.den:Int)) = true))) \/ (¬(Sp.Zb9 (Sp.Zaa bx.num) (Sp.Zad bx.num) (Sp.Zaa (↑bx.den:Int)) (Sp.Zad (↑bx.den:Int)) = true)))) -> (Sp.okA (Sp.Zad by_.num) (Sp.Zad (↑by_.den:Int)))) /\
  ((¬((((¬(Sp.Zb9 (Sp.Zaa ax.num) (Sp.Zad ax.num) (Sp.Zaa (↑ax.den:Int)) (Sp.Zad (↑ax.den:Int)) = true)) \/ (¬(Sp.Zb9 (Sp.Zaa ay.num) (Sp.Zad ay.num) (Sp.Zaa (↑ay.den:Int)) (Sp.Zad (↑ay.den:Int)) = true))) \/ (¬(Sp.Zb9 (Sp.Zaa bx.num) (Sp.Zad bx.num) (Sp.Zaa (↑bx.den:Int)) (Sp.Zad (↑bx.den:Int)) = true))) \/ (¬(Sp.Zb9 (Sp.Zaa by_.num) (Sp.Zad by_.num) (Sp.Zaa (↑by_.den:Int)) (Sp.Zad (↑by_.den:Int)) = true)))) -> (Sp.okA (Sp.Zad c.num) (Sp.Zad (↑c.den:Int)))) /\
  ((((((¬(Sp.Zb9 (Sp.Zaa ax.num) (Sp.Zad ax.num) (Sp.Zaa (↑ax.den:Int)) (Sp.Zad (↑ax.den:Int)) = true)) \/ (¬(Sp.Zb9 (Sp.Zaa ay.num) (Sp.Zad ay.num) (Sp.Zaa (↑ay.den:Int)) (Sp.Zad (↑ay.den:Int)) = true))) \/ (¬(Sp.Zb9 (Sp.Zaa bx.num) (Sp.Zad bx.num) (Sp.Zaa (↑bx.den:Int)) (Sp.Zad (↑bx.den:Int)) = true))) \/ (¬(Sp.Zb9 (Sp.Zaa by_.num) (Sp.Zad by_.num) (Sp.Zaa (↑by_.den:Int)) (Sp.Zad (↑by_.den:Int)) = true))) \/ (¬(Sp.Zb9 (Sp.Zaa c.num) (Sp.Zad c.num) (Sp.Zaa (↑c.den:Int)) (Sp.Zad (↑c.den:Int)) = true))) -> vb false = dq) /\
  (¬(((((¬(Sp.Zb9 (Sp.Zaa ax.num) (Sp.Zad ax.num) (Sp.Zaa (↑ax.den:Int)) (Sp.Zad (↑ax.den:Int)) = true)) \/ (¬(Sp.Zb9 (Sp.Zaa ay.num) (Sp.Zad ay.num) (Sp.Zaa (↑ay.den:Int)) (Sp.Zad (↑ay.den:Int)) = true))) \/ (¬(Sp.Zb9 (Sp.Zaa bx.num) (Sp.Zad bx.num) (Sp.Zaa (↑bx.den:Int)) (Sp.Zad (↑bx.den:Int)) = true))) \/ (¬(Sp.Zb9 (Sp.Zaa by_.num) (Sp.Zad by_.num) (Sp.Zaa (↑by_.den:Int)) (Sp.Zad (↑by_.den:Int)) = true))) \/ (¬(Sp.Zb9 (Sp.Zaa c.num) (Sp.Zad c.num) (Sp.Zaa (↑c.den:Int)) (Sp.Zad (↑c.den:Int)) = true))) -> (((Sp.sgnI bx.num = 0) /\ (Sp.sgnI by_.num = 0)) -> vb (Sp.sgnI c.num == 0) = dq) /\
   (¬((Sp.sgnI bx.num = 0) /\ (Sp.sgnI by_.num = 0)) -> ((Sp.rsq c) -> (Sp.okR c) /\
     vb (bif decide (Sp.sgnI c.num > 0) then false else false) = dq) /\
    (¬(Sp.rsq c) -> (Sp.okR c) /\
     vb (bif decide (Sp.sgnI c.num > 0) then true else false) = dq)))) :
 rVal7_at f1 f2 f3 f4 f5 f6 f7 f8 f9 f10 ax bx ay by_ c (Zaf dq):=by
 unfold rVal7_at
 obtain ⟨k1,k3,k5,k7,k9,H⟩:=H
 refine Zae (G:=Zac kp36 [(1,2,.call (vb (Sp.Zb9 (Sp.Zaa ax.num) (Sp.Zad ax.num) (Sp.Zaa (↑ax.den:Int)) (Sp.Zad (↑ax.den:Int)))) none),(1,7,.call (vb (zNmC13 ay)) none),(1,13,.call (vb (zNmC14 bx)) none),(1,19,.call (vb (zNmC12 by_)) none),(1,25,.call (vb (zNmC15 c)) none)] []) 5 [] ⟨(atC (cd Tryz.f36) [1,0,1]),[(1,AV.ptr 0 0 0 0),(32,vb (zNmC7 ax ay bx by_ c))],[⟨[(zNmC8 ax f1 f2 bx f3 f4 ay f5 f6 by_ f7 f8 c f9 f10)],20,0,false,false⟩],[true,!((!Sp.Zb9 (Sp.Zaa ax.num) (Sp.Zad ax.num) (Sp.Zaa (↑ax.den:Int)) (Sp.Zad (↑ax.den:Int))) == false && true) || true,!((zNmC11 ax ay) == false && true) || true,!((zNmC10 ax ay bx) == false && true) || true,!((zNmC9 ax ay bx by_) == false && true) || true],[],[⟨true,false,27,[ratA f1 f2 ax],[],vb (Sp.Zb9 (Sp.Zaa ax.num) (Sp.Zad ax.num) (Sp.Zaa (↑ax.den:Int)) (Sp.Zad (↑ax.den:Int))),[]⟩,⟨(!Sp.Zb9 (Sp.Zaa ax.num) (Sp.Zad ax.num) (Sp.Zaa (↑ax.den:Int)) (Sp.Zad (↑ax.den:Int))) == false && true && true,false,27,[ratA f5 f6 ay],[],vb (zNmC13 ay),[]⟩,⟨(zNmC11 ax ay) == false && true && true,false,27,[ratA f3 f4 bx],[],vb (zNmC14 bx),[]⟩,⟨(zNmC10 ax ay bx) == false && true && true,false,27,[ratA f7 f8 by_],[],vb (zNmC12 by_),[]⟩,⟨(zNmC9 ax ay bx by_) == false && true && true,false,27,[ratA f9 f10 c],[],vb (zNmC15 c),[]⟩]⟩ (by kernel_rfl) (bc rfl (bc (Bool.or_true _) (bc (Bool.or_true _) (bc (Bool.or_true _) (bc (Bool.or_true _) b0))))) q0 (cc (fun _ => (@ev27 (Sp.Zaa ax.num) (f1) (Sp.Zaa (↑ax.den:Int)) (f2) (Sp.Zad ax.num) (Sp.Zad (↑ax.den:Int)) k1)) (cc (fun hc => ((@ev27 (Sp.Zaa ay.num) (f5) (Sp.Zaa (↑ay.den:Int)) (f6) (Sp.Zad ay.num) (Sp.Zad (↑ay.den:Int)) (k3 ((i_at (i_at (i_bf (Za3 (ZaE _))))).1 hc))):Ev M1 (Conf.pure 27 [ratA f5 f6 ay]) (vb (zNmC13 ay)) [])) (cc (fun hc => ((@ev27 (Sp.Zaa bx.num) (f3) (Sp.Zaa (↑bx.den:Int)) (f4) (Sp.Zad bx.num) (Sp.Zad (↑bx.den:Int)) (k5 ((i_at (i_at (i_bf (Zbm (Za3 (ZaE _)) (Za3 (ZaE _)))))).1 hc))):Ev M1 (Conf.pure 27 [ratA f3 f4 bx]) (vb (zNmC14 bx)) [])) (cc (fun hc => ((@ev27 (Sp.Zaa by_.num) (f7) (Sp.Zaa (↑by_.den:Int)) (f8) (Sp.Zad by_.num) (Sp.Zad (↑by_.den:Int)) (k7 ((i_at (i_at (i_bf (Zbm (Zbm (Za3 (ZaE _)) (Za3 (ZaE _))) (Za3 (ZaE _)))))).1 hc))):Ev M1 (Conf.pure 27 [ratA f7 f8 by_]) (vb (zNmC12 by_)) [])) (cc (fun hc => ((@ev27 (Sp.Zaa c.num) (f9) (Sp.Zaa (↑c.den:Int)) (f10) (Sp.Zad c.num) (Sp.Zad (↑c.den:Int)) (k9 ((i_at (i_at (i_bf (Zbm (Zbm (Zbm (Za3 (ZaE _)) (Za3 (ZaE _))) (Za3 (ZaE _))) (Za3 (ZaE _)))))).1 hc))):Ev M1 (Conf.pure 27 [ratA f9 f10 c]) (vb (zNmC15 c)) [])) c0))))) ?_
 rcases xq H with ⟨d11,H⟩|⟨d11,H⟩
 ·exact Zaq (G:=Zac kp36 [] []) 1000 [true] (asm:=[(zNmC7 ax ay bx by_ c) == true]) (vb false) (by kernel_rfl) (bc (Zar ((Zbm (Zbm (Zbm (Zbm (Za3 (ZaE _)) (Za3 (ZaE _))) (Za3 (ZaE _))) (Za3 (ZaE _))) (Za3 (ZaE _))).2 d11)) b0) q0 c0 H
 ·refine Zae (G:=Zac kp36 [(3,2,.call (vi (Sp.sgnI bx.num)) none),(3,7,.call (vi (Sp.sgnI by_.num)) none)] []) 5 [false] ⟨(atC (cd Tryz.f36) [1,1,0,1]),[(1,AV.ptr 0 0 0 0),(42,vb (bif Sp.sgnI bx.num == 0 then Sp.sgnI by_.num == 0 else false))],[⟨[(zNmC8 ax f1 f2 bx f3 f4 ay f5 f6 by_ f7 f8 c f9 f10)],20,0,false,false⟩],[(zNmC7 ax ay bx by_ c) == false,true,!((Sp.sgnI bx.num == 0) == true && true) || true],[],[⟨true,false,20,[ratA f3 f4 bx],[],vi (Sp.sgnI bx.num),[]⟩,⟨(Sp.sgnI bx.num == 0) == true && true && true,false,20,[ratA f7 f8 by_],[],vi (Sp.sgnI by_.num),[]⟩]⟩ (by kernel_rfl) (bc (Zao (fun h => d11 ((Zbm (Zbm (Zbm (Zbm (Za3 (ZaE _)) (Za3 (ZaE _))) (Za3 (ZaE _))) (Za3 (ZaE _))) (Za3 (ZaE _))).1 h))) (bc rfl (bc (Bool.or_true _) b0))) q0 (cc (fun _ => (@ev20 (f3) (f4) (bx.num) ((↑bx.den:Int)))) (cc (fun hc => ((@ev20 (f7) (f8) (by_.num) ((↑by_.den:Int))):Ev M1 (Conf.pure 20 [ratA f7 f8 by_]) (vi (Sp.sgnI by_.num)) [])) c0)) ?_
  rcases xq H with ⟨d14,H⟩|⟨d14,H⟩
  ·exact Zaq (G:=Zac kp36 [(4,2,.call (vi (Sp.sgnI c.num)) none)] []) 1000 [true] (vb (Sp.sgnI c.num == 0)) (by kernel_rfl) (bc (Zar ((ZaK i_eq i_eq).2 d14)) (bc rfl b0)) q0 (ce (@ev20 (f9) (f10) (c.num) ((↑c.den:Int))) c0) H
  ·rcases xq H with ⟨d15,H⟩|⟨d15,H⟩
   ·obtain ⟨k16,H⟩:=H
    exact Zaq (G:=Zac kp36 [(5,2,.call (tu [ratF (Sp.rt c),vb true]) none),(6,2,.call (vi (Sp.sgnI c.num)) none)] []) 1000 [false] (vb (bif decide (Sp.sgnI c.num > 0) then false else false)) (by kernel_rfl) (bc (Zao (fun h => d14 ((ZaK i_eq i_eq).1 h))) (bc rfl (bc rfl (bc rfl b0)))) q0 (ce (@ev91_y (f9) (f10) (c) k16 d15) (ce (@ev20 (f9) (f10) (c.num) ((↑c.den:Int))) c0)) H
   ·obtain ⟨k17,H⟩:=H
    exact Zaq (G:=Zac kp36 [(5,2,.call (tu [ag [vb false,vf [],vb false,vf []],vb false]) none),(6,2,.call (vi (Sp.sgnI c.num)) none)] []) 1000 [false] (vb (bif decide (Sp.sgnI c.num > 0) then true else false)) (by kernel_rfl) (bc (Zao (fun h => d14 ((ZaK i_eq i_eq).1 h))) (bc rfl (bc rfl (bc rfl b0)))) q0 (ce (@ev91_n (f9) (f10) (c) k17 d15) (ce (@ev20 (f9) (f10) (c.num) ((↑c.den:Int))) c0)) H
noncomputable abbrev zNmC16 (a:Rat) (f1:Bool) (f2:Bool) (b:Rat) (f3:Bool) (f4:Bool) (c:Rat) (f5:Bool) (f6:Bool) (d:Rat) (f7:Bool) (f8:Bool) (m:Rat) (f9:Bool) (f10:Bool) (n:Rat) (f11:Bool) (f12:Bool):=ag [vb (Sp.Zaa a.num),AV.vec f1 1 (us (Sp.Zad a.num)),vb (Sp.Zaa (↑a.den:Int)),AV.vec f2 1 (us (Sp.Zad (↑a.den:Int))),vb (Sp.Zaa b.num),AV.vec f3 1 (us (Sp.Zad b.num)),vb (Sp.Zaa (↑b.den:Int)),AV.vec f4 1 (us (Sp.Zad (↑b.den:Int))),vb (Sp.Zaa c.num),AV.vec f5 1 (us (Sp.Zad c.num)),vb (Sp.Zaa (↑c.den:Int)),AV.vec f6 1 (us (Sp.Zad (↑c.den:Int))),vb (Sp.Zaa d.num),AV.vec f7 1 (us (Sp.Zad d.num)),vb (Sp.Zaa (↑d.den:Int)),AV.vec f8 1 (us (Sp.Zad (↑d.den:Int))),vb (Sp.Zaa m.num),AV.vec f9 1 (us (Sp.Zad m.num)),vb (Sp.Zaa (↑m.den:Int)),AV.vec f10 1 (us (Sp.Zad (↑m.den:Int))),vb (Sp.Zaa n.num),AV.vec f11 1 (us (Sp.Zad n.num)),vb (Sp.Zaa (↑n.den:Int)),AV.vec f12 1 (us (Sp.Zad (↑n.den:Int)))]
theorem rSign5 (f1 f2 f3 f4 f5 f6 f7 f8 f9 f10 f11 f12:Bool) (a b c d m n:Rat)  (dq:AV) (H :
  (((Sp.sgnI m.num < 0) \/ (Sp.sgnI n.num < 0)) -> vi 0 = dq) /\
  (¬((Sp.sgnI m.num < 0) \/ (Sp.sgnI n.num < 0)) -> (Sp.okTw a b m) /\
   (Sp.okTw c d m) /\
   (-9223372036854775808 <= Sp.sg2 c d m * Sp.sgnI n.num /\ Sp.sg2 c d m * Sp.sgnI n.num <= 9223372036854775807) /\
   ((((Sp.sg2 a b m = 0) \/ (Sp.sg2 c d m * Sp.sgnI n.num = 0)) \/ (Sp.sg2 a b m = Sp.sg2 c d m * Sp.sgnI n.num)) -> ((Sp.sg2 a b m = 0) -> vi (Sp.sg2 c d m * Sp.sgnI n.num) = dq) /\
    (¬(Sp.sg2 a b m = 0) -> vi (Sp.sg2 a b m) = dq)) /\
   (¬(((Sp.sg2 a b m = 0) \/ (Sp.sg2 c d m * Sp.sgnI n.num = 0)) \/ (Sp.sg2 a b m = Sp.sg2 c d m * Sp.sgnI n.num)) -> (Sp.okR c /\ Sp.okR c) /\
    (Sp.okR d /\ Sp.okR d) /\
    (Sp.okR (d * d) /\ Sp.okR m) /\
    (Sp.okR (c * c) /\ Sp.okR (d * d * m)) /\
    (Sp.okR n /\ Sp.okR (c * c + d * d * m)) /\
    (Sp.okR a /\ Sp.okR a) /\
    (Sp.okR b /\ Sp.okR b) /\
    (Sp.okR (b * b) /\ Sp.okR m) /\
    (Sp.okR (a * a) /\ Sp.okR (b * b * m)) /\
    (Sp.okR (a * a + b * b * m) /\ Sp.okR (n * (c * c + d * d * m))) /\
    (Sp.okR a /\ Sp.okR b) /\
    (Sp.okR c /\ Sp.okR d) /\
    (Sp.okR n /\ Sp.okR (c * d)) /\
    (Sp.okR (a * b) /\ Sp.okR (n * (c * d))) /\
    (Sp.okR (a * b - n * (c * d)) /\ Sp.okR (a * b - n * (c * d))) /\
    (Sp.okTw (a * a + b * b * m - n * (c * c + d * d * m)) (a * b - n * (c * d) + (a * b - n * (c * d))) m) /\
    (-9223372036854775808 <= Sp.sg2 a b m * Sp.sg2 (a * a + b * b * m - n * (c * c + d * d * m)) (a * b - n * (c * d) + (a * b - n * (c * d))) m /\ Sp.sg2 a b m * Sp.sg2 (a * a + b * b * m - n * (c * c + d * d * m)) (a * b - n * (c * d) + (a * b - n * (c * d))) m <= 9223372036854775807) /\
    vi (Sp.sg2 a b m * Sp.sg2 (a * a + b * b * m - n * (c * c + d * d * m)) (a * b - n * (c * d) + (a * b - n * (c * d))) m) = dq))) :
 rSign5_at f1 f2 f3 f4 f5 f6 f7 f8 f9 f10 f11 f12 a b c d m n (Zaf dq):=by
 unfold rSign5_at
 refine Zae (G:=Zac kp145 [(1,2,.call (vi (Sp.sgnI m.num)) none),(1,7,.call (vi (Sp.sgnI n.num)) none)] []) 5 [] ⟨(atC (cd Tryz.f145) [1,0,1]),[(1,AV.ptr 0 0 0 0),(17,vb (bif decide (Sp.sgnI m.num < 0) then true else decide (Sp.sgnI n.num < 0)))],[⟨[(zNmC16 a f1 f2 b f3 f4 c f5 f6 d f7 f8 m f9 f10 n f11 f12)],24,0,false,false⟩],[true,!(decide (Sp.sgnI m.num < 0) == false && true) || true],[],[⟨true,false,20,[ratA f9 f10 m],[],vi (Sp.sgnI m.num),[]⟩,⟨decide (Sp.sgnI m.num < 0) == false && true && true,false,20,[ratA f11 f12 n],[],vi (Sp.sgnI n.num),[]⟩]⟩ (by kernel_rfl) (bc rfl (bc (Bool.or_true _) b0)) q0 (cc (fun _ => (@ev20 (f9) (f10) (m.num) ((↑m.den:Int)))) (cc (fun hc => ((@ev20 (f11) (f12) (n.num) ((↑n.den:Int))):Ev M1 (Conf.pure 20 [ratA f11 f12 n]) (vi (Sp.sgnI n.num)) [])) c0)) ?_
 rcases xq H with ⟨d3,H⟩|⟨d3,H⟩
 ·exact Zaq (G:=Zac kp145 [] []) 1000 [true] (vi 0) (by kernel_rfl) (bc (Zar ((Zbm Zab Zab).2 d3)) b0) q0 c0 H
 ·obtain ⟨k4,k5,k6,H⟩:=H
  have w7:wi (Sp.sg2 c d m * Sp.sgnI n.num) = Sp.sg2 c d m * Sp.sgnI n.num:=wI64 k6
  have i8:(bif bif Sp.sg2 a b m == 0 then true else wi (Sp.sg2 c d m * Sp.sgnI n.num) == 0 then true else Sp.sg2 a b m == wi (Sp.sg2 c d m * Sp.sgnI n.num)) = true ↔ (((Sp.sg2 a b m = 0) \/ (Sp.sg2 c d m * Sp.sgnI n.num = 0)) \/ (Sp.sg2 a b m = Sp.sg2 c d m * Sp.sgnI n.num)):=(by (try rw [w7]);all_goals exact (Zbm (Zbm i_eq i_eq) i_eq))
  refine Zae (G:=Zac kp145 [(3,6,.call (vi (Sp.sg2 a b m)) none),(3,13,.call (vi (Sp.sg2 c d m)) none),(3,16,.call (vi (Sp.sgnI n.num)) none)] []) 7 [false] ⟨(atC (cd Tryz.f145) [1,1,1,0,1]),[(1,AV.ptr 0 0 0 0),(3,vi (Sp.sg2 a b m)),(4,vi (wi (Sp.sg2 c d m * Sp.sgnI n.num))),(46,vb (bif bif Sp.sg2 a b m == 0 then true else wi (Sp.sg2 c d m * Sp.sgnI n.num) == 0 then true else Sp.sg2 a b m == wi (Sp.sg2 c d m * Sp.sgnI n.num)))],[⟨[(zNmC16 a f1 f2 b f3 f4 c f5 f6 d f7 f8 m f9 f10 n f11 f12)],24,0,false,false⟩],_,[],_⟩ (by kernel_rfl) (bc (Zao (fun h => d3 ((Zbm Zab Zab).1 h))) (bc rfl (bc rfl (bc rfl (bc rfl (bc rfl (bc rfl (bc rfl b0)))))))) q0 (ce (@ev167 (f1) (f2) (f3) (f4) (f9) (f10) (a) (b) (m) k4) (ce (@ev167 (f5) (f6) (f7) (f8) (f9) (f10) (c) (d) (m) k5) (ce (@ev20 (f11) (f12) (n.num) ((↑n.den:Int))) c0))) ?_
  rcases xq H with ⟨d9,H⟩|⟨d9,H⟩
  ·rcases xq H with ⟨d11,H⟩|⟨d11,H⟩
   ·exact Zaq (G:=Zac kp145 [] []) 1000 [true,true] (vi (wi (Sp.sg2 c d m * Sp.sgnI n.num))) (by kernel_rfl) (bc (Zar (i8.2 d9)) (bc (Zar (i_eq.2 d11)) b0)) q0 c0 (by (try rw [w7]);all_goals exact H)
   ·exact Zaq (G:=Zac kp145 [] []) 1000 [true,false] (vi (Sp.sg2 a b m)) (by kernel_rfl) (bc (Zar (i8.2 d9)) (bc (Zao (fun h => d11 (i_eq.1 h))) b0)) q0 c0 H
  ·obtain ⟨k12,k13,k14,k15,k16,k17,k18,k19,k20,k21,k22,k23,k24,k25,k26,k27,k28,H⟩:=H
   have w29:wi (Sp.sg2 a b m * Sp.sg2 (a * a + b * b * m - n * (c * c + d * d * m)) (a * b - n * (c * d) + (a * b - n * (c * d))) m) = Sp.sg2 a b m * Sp.sg2 (a * a + b * b * m - n * (c * c + d * d * m)) (a * b - n * (c * d) + (a * b - n * (c * d))) m:=wI64 k28
   exact Zaq (G:=Zac kp145 [(8,6,.call (ratF (c * c)) none),(8,11,.call (ratF (d * d)) none),(8,14,.call (ratF (d * d * m)) none),(8,15,.call (ratF (c * c + d * d * m)) none),(8,16,.call (ratF (n * (c * c + d * d * m))) none),(9,4,.call (ratF (a * a)) none),(9,9,.call (ratF (b * b)) none),(9,12,.call (ratF (b * b * m)) none),(9,13,.call (ratF (a * a + b * b * m)) none),(9,15,.call (ratF (a * a + b * b * m - n * (c * c + d * d * m))) none),(10,4,.call (ratF (a * b)) none),(10,11,.call (ratF (c * d)) none),(10,12,.call (ratF (n * (c * d))) none),(10,13,.call (ratF (a * b - n * (c * d))) none),(11,4,.call (ratF (a * b - n * (c * d) + (a * b - n * (c * d)))) none),(11,7,.call (vi (Sp.sg2 (a * a + b * b * m - n * (c * c + d * d * m)) (a * b - n * (c * d) + (a * b - n * (c * d))) m)) none)] []) 1000 [false] (vi (wi (Sp.sg2 a b m * Sp.sg2 (a * a + b * b * m - n * (c * c + d * d * m)) (a * b - n * (c * d) + (a * b - n * (c * d))) m))) (by kernel_rfl) (bc (Zao (fun h => d9 (i8.1 h))) (bc rfl (bc rfl (bc rfl (bc rfl (bc rfl (bc rfl (bc rfl (bc rfl (bc rfl (bc rfl (bc rfl (bc rfl (bc rfl (bc rfl (bc rfl (bc rfl (bc rfl (bc rfl (bc rfl (bc rfl (bc rfl (bc rfl (bc rfl (bc rfl b0))))))))))))))))))))))))) q0 (ce (@ev35 (f5) (f6) (f5) (f6) (c) (c) k12) (ce (@ev35 (f7) (f8) (f7) (f8) (d) (d) k13) (ce (@ev35 (false) (false) (f9) (f10) (d * d) (m) k14) (ce (@ev34 (false) (false) (false) (false) (c * c) (d * d * m) k15) (ce (@ev35 (f11) (f12) (false) (false) (n) (c * c + d * d * m) k16) (ce (@ev35 (f1) (f2) (f1) (f2) (a) (a) k17) (ce (@ev35 (f3) (f4) (f3) (f4) (b) (b) k18) (ce (@ev35 (false) (false) (f9) (f10) (b * b) (m) k19) (ce (@ev34 (false) (false) (false) (false) (a * a) (b * b * m) k20) (ce (@ev28 (false) (false) (false) (false) (a * a + b * b * m) (n * (c * c + d * d * m)) k21) (ce (@ev35 (f1) (f2) (f3) (f4) (a) (b) k22) (ce (@ev35 (f5) (f6) (f7) (f8) (c) (d) k23) (ce (@ev35 (f11) (f12) (false) (false) (n) (c * d) k24) (ce (@ev28 (false) (false) (false) (false) (a * b) (n * (c * d)) k25) (ce (@ev34 (false) (false) (false) (false) (a * b - n * (c * d)) (a * b - n * (c * d)) k26) (ce (@ev167 (false) (false) (false) (false) (f9) (f10) (a * a + b * b * m - n * (c * c + d * d * m)) (a * b - n * (c * d) + (a * b - n * (c * d))) (m) k27) c0)))))))))))))))) (by (try rw [w29]);all_goals exact H)
end Go.Av

namespace Go.Av
open Go.Proofs
noncomputable def Pnt.a (p:Pnt):AV:=pntF p.ax p.bx p.ay p.by_ p.c
namespace Sp
def Ze4 (p:Pnt):Prop:=(okT 2200 p.ax/\okT 200 p.bx)/\(okT 2200 p.ay/\okT 200 p.by_)/\okT 1700 p.c
def okMk (b c y z:Rat):Prop:=(okT 9000 c/\okT 9000 z)/\(b=0\/y=0\/c=z)
def okQ5 (a b c d m n:Rat):Prop:=okT 4500 a/\okT 2000 b/\okT 2000 c/\okT 5 d/\okT 2000 m/\okT 2000 n
open Classical in
noncomputable def vP (ax bx ay by_ c:Rat):Bool:=decide (Zb3 ⟨ax,bx,ay,by_,c⟩)
end Sp
theorem okT_f {a b c x y:Rat} (h:Sp.ZfD a b c) (k:Sp.Zdx x y):Sp.okT 350 (Sp.fX a b c x y) /\ Sp.okT 350 (Sp.fY a b c x y):=by
 obtain ⟨⟨ha,hb,hc⟩,h0⟩:=h
 obtain ⟨hx,hy⟩:=k
 have hn:(a * a + b * b).num ≠ 0:=ZhE (ZdO h0)
 exact ⟨Zan (k:=334) (ZaA hx (Zag (ZbU (ZaA (ZaG (Zag ha hx) (Zag hb hy)) hc) (ZaG (Zag ha ha) (Zag hb hb)) hn) ha)) (by omega),Zan (k:=334) (ZaA hy (Zag (ZbU (ZaA (ZaG (Zag ha hx) (Zag hb hy)) hc) (ZaG (Zag ha ha) (Zag hb hb)) hn) hb)) (by omega)⟩
theorem okT_dep {a b c x y q:Rat} (h:Sp.ZfD a b c) (k:Sp.Zdx x y) (hq:Sp.okT 30 q):Sp.okT 1700 (Sp.dep a b c x y q):=by
 have hf:=okT_f h k
 obtain ⟨⟨ha,hb,hc⟩,h0⟩:=h
 obtain ⟨hx,hy⟩:=k
 have hn:(a * a + b * b).num ≠ 0:=ZhE (ZdO h0)
 exact Zan (k:=1677) (ZbU (ZaA hq (ZaG (Zag (ZaA hf.1 hx) (ZaA hf.1 hx)) (Zag (ZaA hf.2 hy) (ZaA hf.2 hy)))) (ZaG (Zag ha ha) (Zag hb hb)) hn) (by omega)
theorem okT_room {a b c x y q:Rat} (h:Sp.ZeM a b c) (k:Sp.Zdx x y) (hq:Sp.okT 30 q):Sp.okT 500 (Sp.Zb7 a b c x y q):=by
 obtain ⟨ha,hb,hc⟩:=h
 obtain ⟨hx,hy⟩:=k
 exact Zan (k:=456) (ZaA (Zag (ZaG (Zag ha ha) (Zag hb hb)) hq) (Zag (ZaA (ZaG (Zag ha hx) (Zag hb hy)) hc) (ZaA (ZaG (Zag ha hx) (Zag hb hy)) hc))) (by omega)
theorem ev106 (f1 f2 f3 f4 f5 f6 g1 g2 g3 g4 g5 g6:Bool) (a b c x y z:Rat) (h:Sp.okMk b c y z):Ev M1 (.pure 106 [Zas f1 f2 f3 f4 f5 f6 a b c,Zas g1 g2 g3 g4 g5 g6 x y z]) (.tup [pntF a b x y (Sp.rd2 b y (Sp.com b c z)),.int .i64 0]) []:=by
 obtain ⟨⟨h1,h2⟩,h3⟩:=h
 refine call106 (mMake _ _ _ _ _ _ _ _ _ _ _ _ _ _ _ _ _ _ _ ⟨fun k => ?_,fun k => ⟨fun _ => ⟨Zak h1 (by omega),Zak h2 (by omega)⟩,fun j => ?_,fun _ => ?_⟩⟩)
 ·rw [sgz] at k
  rw [show Sp.com b c z = z from if_pos k]
  exact .refl _
 ·rw [sgz] at k
  rw [sgz,cross] at j
  rcases h3 with h3 | h3 | h3
  ·exact absurd h3 k
  ·exact absurd h3 j.1
  ·exact absurd h3 j.2
 ·rw [sgz] at k
  rw [show Sp.com b c z = c from if_neg k]
  exact .refl _
theorem ev64 (f1 f2 f3 f4 f5 f6 g1 g2 g3 g4 g5 g6:Bool) (a b c x y q:Rat) (h:Sp.ZfD a b c /\ Sp.Zdx x y /\ Sp.okT 30 q):Ev M1 (.pure 64 [Zas f1 f2 f3 f4 f5 f6 a b c,Zas g1 g2 g3 g4 g5 g6 x y q]) (.tup [ratF (Sp.dep a b c x y q),vecF (Sp.fX a b c x y) (Sp.fY a b c x y)]) []:=by
 obtain ⟨hl,hv,hq⟩:=h
 have hf:=okT_f hl hv
 have hl':=hl
 have hv':=hv
 obtain ⟨⟨ha,hb,hc⟩,h0⟩:=hl
 obtain ⟨hx,hy⟩:=hv
 have hn:(a * a + b * b).num ≠ 0:=ZhE (ZdO h0)
 exact call64 (mDepth _ _ _ _ _ _ _ _ _ _ _ _ _ _ _ _ _ _ _ ⟨⟨hl',hv'⟩,⟨Zak hf.1 (by omega),Zak hx (by omega)⟩,⟨Zak hf.2 (by omega),Zak hy (by omega)⟩,⟨Zak (ZaA hf.1 hx) (by omega),Zak (ZaA hf.1 hx) (by omega)⟩,⟨Zak (ZaA hf.2 hy) (by omega),Zak (ZaA hf.2 hy) (by omega)⟩,⟨Zak (Zag (ZaA hf.1 hx) (ZaA hf.1 hx)) (by omega),Zak (Zag (ZaA hf.2 hy) (ZaA hf.2 hy)) (by omega)⟩,⟨Zak hq (by omega),Zak (ZaG (Zag (ZaA hf.1 hx) (ZaA hf.1 hx)) (Zag (ZaA hf.2 hy) (ZaA hf.2 hy))) (by omega)⟩,⟨Zak ha (by omega),Zak ha (by omega)⟩,⟨Zak hb (by omega),Zak hb (by omega)⟩,⟨Zak (Zag ha ha) (by omega),Zak (Zag hb hb) (by omega)⟩,⟨Zak (ZaA hq (ZaG (Zag (ZaA hf.1 hx) (ZaA hf.1 hx)) (Zag (ZaA hf.2 hy) (ZaA hf.2 hy)))) (by omega),Zak (ZaG (Zag ha ha) (Zag hb hb)) (by omega),hn⟩,.refl _⟩)
theorem ev76 (f1 f2 f3 f4 f5 f6:Bool) (a b c:Rat) (h:Sp.ZeM a b c):Ev M1 (.pure 76 [Zas f1 f2 f3 f4 f5 f6 a b c]) (ratF (a * a + b * b - c)) []:=by
 obtain ⟨ha,hb,hc⟩:=h
 exact call76 (mRad1 _ _ _ _ _ _ _ _ _ _ ⟨⟨Zak ha (by omega),Zak ha (by omega)⟩,⟨Zak hb (by omega),Zak hb (by omega)⟩,⟨Zak (Zag ha ha) (by omega),Zak (Zag hb hb) (by omega)⟩,⟨Zak (ZaG (Zag ha ha) (Zag hb hb)) (by omega),Zak hc (by omega)⟩,.refl _⟩)
theorem okT_nv {a b c x y:Rat} (h:Sp.ZeM a b c) (k:Sp.Zdx x y):Sp.okT 130 (Sp.Zaz a b) /\ Sp.okT 160 (Sp.ZaV a b c x y):=by
 obtain ⟨ha,hb,hc⟩:=h
 obtain ⟨hx,hy⟩:=k
 exact ⟨Zan (k:=121) (ZaG (Zag ha ha) (Zag hb hb)) (by omega),Zan (k:=152) (ZaA (ZaG (Zag ha hx) (Zag hb hy)) hc) (by omega)⟩
theorem ev21 (f1 f2 f3 f4 f5 f6 g1 g2 g3 g4 g5 g6:Bool) (a b c x y q:Rat) (h:Sp.ZeM a b c /\ Sp.Zdx x y /\ Sp.okT 30 q):Ev M1 (.pure 21 [Zas f1 f2 f3 f4 f5 f6 a b c,Zas g1 g2 g3 g4 g5 g6 x y q]) (ratF (Sp.Zb7 a b c x y q)) []:=by
 obtain ⟨hl,hv,hq⟩:=h
 have hnv:=okT_nv hl hv
 exact call21 (rRoom _ _ _ _ _ _ _ _ _ _ _ _ _ _ _ _ _ _ _ ⟨⟨hl,hv⟩,⟨hl.1,hl.2.1⟩,⟨Zak hnv.1 (by omega),Zak hq (by omega)⟩,⟨Zak hnv.2 (by omega),Zak hnv.2 (by omega)⟩,⟨Zak (Zag hnv.1 hq) (by omega),Zak (Zag hnv.2 hnv.2) (by omega)⟩,.refl _⟩)
theorem red_y {ax bx ay by_ c:Rat} (k:Sp.rsq c):Sp.red ax bx ay by_ c=Sp.atP (ax+bx*Sp.rt c) (ay+by_*Sp.rt c):=if_pos k
theorem red_n {ax bx ay by_ c:Rat} (k:¬Sp.rsq c):Sp.red ax bx ay by_ c=⟨ax,bx,ay,by_,c⟩:=if_neg k
theorem ev69 (f1 f2 f3 f4 f5 f6 f7 f8 f9 f10:Bool) (ax bx ay by_ c:Rat) (h:Sp.Ze4 ⟨ax,bx,ay,by_,c⟩):Ev M1 (.pure 69 [ratA f1 f2 ax,ratA f3 f4 bx,ratA f5 f6 ay,ratA f7 f8 by_,ratA f9 f10 c]) (Pnt.a (Sp.red ax bx ay by_ c)) []:=by
 unfold Sp.Ze4 at h
 refine call69 (rRed9 _ _ _ _ _ _ _ _ _ _ _ _ _ _ _ _ ⟨fun k => ?_,fun k => ?_⟩)
 ·rw [red_y k]
  exact ⟨Zak h.2.2 (by omega),⟨Zak h.1.2 (by omega),Zak (ZdM k h.2.2) (by omega)⟩,⟨Zak h.1.1 (by omega),Zak (Zag h.1.2 (ZdM k h.2.2)) (by omega)⟩,⟨Zak h.2.1.2 (by omega),Zak (ZdM k h.2.2) (by omega)⟩,⟨Zak h.2.1.1 (by omega),Zak (Zag h.2.1.2 (ZdM k h.2.2)) (by omega)⟩,.refl _⟩
 ·rw [red_n k]
  exact ⟨Zak h.2.2 (by omega),Zey f1 f2 f3 f4 f5 f6 f7 f8 f9 f10 _ _ _ _ _⟩
theorem ev108 (f1 f2 f3 f4 f5 f6 f7 f8 f9 f10:Bool) (ax bx ay by_ c:Rat):Ev M1 (.pure 108 [pntA f1 f2 f3 f4 f5 f6 f7 f8 f9 f10 ax bx ay by_ c]) (ZaH ax bx (Sp.rad bx c)) []:=
 call108 (rX7 _ _ _ _ _ _ _ _ _ _ _ _ _ _ _ _ (.refl _))
theorem ev109 (f1 f2 f3 f4 f5 f6 f7 f8 f9 f10:Bool) (ax bx ay by_ c:Rat):Ev M1 (.pure 109 [pntA f1 f2 f3 f4 f5 f6 f7 f8 f9 f10 ax bx ay by_ c]) (ZaH ay by_ (Sp.rad by_ c)) []:=
 call109 (rY7 _ _ _ _ _ _ _ _ _ _ _ _ _ _ _ _ (.refl _))
theorem vP_true {ax bx ay by_ c:Rat}:Sp.vP ax bx ay by_ c = true ↔ Sp.Zb3 ⟨ax,bx,ay,by_,c⟩:=by
 unfold Sp.vP;exact @decide_eq_true_iff _ (Classical.propDecidable _)
theorem vP_false {ax bx ay by_ c:Rat} (h:¬Sp.Zb3 ⟨ax,bx,ay,by_,c⟩):Sp.vP ax bx ay by_ c=false:=Bool.eq_false_iff.2 fun x=>h (vP_true.1 x)
theorem vP_z {ax bx ay by_ c:Rat} (h:bx = 0 /\ by_ = 0):Sp.vP ax bx ay by_ c = decide (c = 0):=by
 have e:Sp.Zb3 ⟨ax,bx,ay,by_,c⟩ ↔ c = 0:=by unfold Sp.Zb3;rw [if_pos h]
 by_cases q:c = 0
 ·rw [decide_eq_true q,vP_true,e];exact q
 ·rw [decide_eq_false q,vP_false fun x => q (e.1 x)]
theorem vP_n {ax bx ay by_ c:Rat} (h:¬(bx = 0 /\ by_ = 0)) (k:¬Sp.rsq c):Sp.vP ax bx ay by_ c = decide (0 < c):=by
 have e:Sp.Zb3 ⟨ax,bx,ay,by_,c⟩ ↔ 0 < c /\ ¬Sp.rsq c:=by unfold Sp.Zb3;rw [if_neg h]
 by_cases q:0 < c
 ·rw [decide_eq_true q,vP_true,e];exact ⟨q,k⟩
 ·rw [decide_eq_false q,vP_false fun x => q (e.1 x).1]
theorem vP_s {ax bx ay by_ c:Rat} (h:¬(bx = 0 /\ by_ = 0)) (k:Sp.rsq c):Sp.vP ax bx ay by_ c = false:=by
 have e:Sp.Zb3 ⟨ax,bx,ay,by_,c⟩ ↔ 0 < c /\ ¬Sp.rsq c:=by unfold Sp.Zb3;rw [if_neg h]
 exact vP_false fun x => (e.1 x).2 k
theorem sgp {r:Rat}:Sp.sgnI r.num > 0 ↔ 0 < r:=by
 have:=sg3 r.num
 have:=(@Zc6 r).1
 unfold Sp.sgR at this
 rw [<- this];omega
theorem ev36 (f1 f2 f3 f4 f5 f6 f7 f8 f9 f10:Bool) (ax bx ay by_ c:Rat) (h:Sp.Ze4 ⟨ax,bx,ay,by_,c⟩):Ev M1 (.pure 36 [pntA f1 f2 f3 f4 f5 f6 f7 f8 f9 f10 ax bx ay by_ c]) (.bool (Sp.vP ax bx ay by_ c)) []:=by
 unfold Sp.Ze4 at h
 have v1:=ZeB ax
 have v2:=ZeB bx
 have v3:=ZeB ay
 have v4:=ZeB by_
 have v5:=ZeB c
 refine call36 (rVal7 _ _ _ _ _ _ _ _ _ _ _ _ _ _ _ _ ⟨Zgu h.1.1 (by omega),fun _ => Zgu h.2.1.1 (by omega),fun _ => Zgu h.1.2 (by omega),fun _ => Zgu h.2.1.2 (by omega),fun _ => Zgu h.2.2 (by omega),fun x => ?_,fun _ => ⟨fun z => ?_,fun z => ⟨fun k => ⟨Zak h.2.2 (by omega),?_⟩,fun k => ⟨Zak h.2.2 (by omega),?_⟩⟩⟩⟩)
 ·exact absurd x fun y => y.elim (fun y => y.elim (fun y => y.elim (fun y => y.elim (fun y => y v1) fun y => y v3) fun y => y v2) fun y => y v4) fun y => y v5
 ·rw [sgz,sgz] at z
  rw [vP_z z]
  by_cases q:c = 0
  ·rw [decide_eq_true q,beq_iff_eq.2 (sgz.2 q)]
  ·rw [decide_eq_false q];congr 1;simpa using fun x => q (sgz.1 x)
 ·rw [sgz,sgz] at z
  rw [vP_s z k]
  cases decide (Sp.sgnI c.num > 0) <;> rfl
 ·rw [sgz,sgz] at z
  rw [vP_n z k,decide_eq_decide.2 (@sgp c)]
  cases decide (0 < c) <;> rfl
theorem sg2_3 (a b m:Rat):Sp.sg2 a b m = -1 \/ Sp.sg2 a b m = 0 \/ Sp.sg2 a b m = 1:=by
 have r1:=sg3 a.num
 have r2:=sg3 b.num
 have r3:=sg3 m.num
 have r4:=sg3 (a * a - b * b * m).num
 have p:∀ u v:Int,(u = -1 \/ u = 0 \/ u = 1) -> (v = -1 \/ v = 0 \/ v = 1) -> u * v = -1 \/ u * v = 0 \/ u * v = 1:=by
  rintro u v (rfl | rfl | rfl) (rfl | rfl | rfl) <;> decide
 unfold Sp.sg2
 split
 ·split
  ·exact p _ _ r2 r3
  ·exact r1
 ·exact p _ _ r1 r4
theorem mul3 {u v:Int} (h:u = -1 \/ u = 0 \/ u = 1) (k:v = -1 \/ v = 0 \/ v = 1):-9223372036854775808 <= u * v /\ u * v <= 9223372036854775807:=by
 rcases h with rfl | rfl | rfl <;> rcases k with rfl | rfl | rfl <;> decide
theorem ev145 (f1 f2 f3 f4 f5 f6 f7 f8 f9 f10 f11 f12:Bool) (a b c d m n:Rat) (h:Sp.okQ5 a b c d m n):Ev M1 (.pure 145 [quadA f1 f2 f3 f4 f5 f6 f7 f8 f9 f10 f11 f12 a b c d m n]) (.int .i64 (Sp.sgQ a b c d m n)) []:=by
 obtain ⟨ha,hb,hc,hd,hm,hn⟩:=h
 refine call145 (rSign5 _ _ _ _ _ _ _ _ _ _ _ _ _ _ _ _ _ _ _ ⟨fun k => ?_,fun k => ⟨⟨Zan ha (by omega),Zan hb (by omega),hm⟩,⟨Zan hc (by omega),Zan hd (by omega),hm⟩,mul3 (sg2_3 c d m) (sg3 n.num),fun j => ⟨fun i => ?_,fun i => ?_⟩,fun j => ⟨⟨Zak hc (by omega),Zak hc (by omega)⟩,⟨Zak hd (by omega),Zak hd (by omega)⟩,⟨Zak (Zag hd hd) (by omega),Zak hm (by omega)⟩,⟨Zak (Zag hc hc) (by omega),Zak (Zag (Zag hd hd) hm) (by omega)⟩,⟨Zak hn (by omega),Zak (ZaG (Zag hc hc) (Zag (Zag hd hd) hm)) (by omega)⟩,⟨Zak ha (by omega),Zak ha (by omega)⟩,⟨Zak hb (by omega),Zak hb (by omega)⟩,⟨Zak (Zag hb hb) (by omega),Zak hm (by omega)⟩,⟨Zak (Zag ha ha) (by omega),Zak (Zag (Zag hb hb) hm) (by omega)⟩,⟨Zak (ZaG (Zag ha ha) (Zag (Zag hb hb) hm)) (by omega),Zak (Zag hn (ZaG (Zag hc hc) (Zag (Zag hd hd) hm))) (by omega)⟩,⟨Zak ha (by omega),Zak hb (by omega)⟩,⟨Zak hc (by omega),Zak hd (by omega)⟩,⟨Zak hn (by omega),Zak (Zag hc hd) (by omega)⟩,⟨Zak (Zag ha hb) (by omega),Zak (Zag hn (Zag hc hd)) (by omega)⟩,⟨Zak (ZaA (Zag ha hb) (Zag hn (Zag hc hd))) (by omega),Zak (ZaA (Zag ha hb) (Zag hn (Zag hc hd))) (by omega)⟩,⟨Zan (k:=23013) (ZaA (ZaG (Zag ha ha) (Zag (Zag hb hb) hm)) (Zag hn (ZaG (Zag hc hc) (Zag (Zag hd hd) hm)))) (by omega),Zan (k:=21013) (ZaG (ZaA (Zag ha hb) (Zag hn (Zag hc hd))) (ZaA (Zag ha hb) (Zag hn (Zag hc hd)))) (by omega),hm⟩,mul3 (sg2_3 _ _ _) (sg2_3 _ _ _),?_⟩⟩⟩)
 ·unfold Sp.sgQ Sp.sgR
  rw [if_pos k]
 ·unfold Sp.sgQ Sp.sgR
  rw [if_neg k,if_pos (or_assoc.1 j),if_pos i]
 ·unfold Sp.sgQ Sp.sgR
  rw [if_neg k,if_pos (or_assoc.1 j),if_neg i]
 ·unfold Sp.sgQ Sp.sgR
  rw [if_neg k,if_neg fun z => j (or_assoc.2 z)]
end Go.Av

namespace Go.Av
open Go.Proofs
set_option maxRecDepth 100000
end Go.Av

namespace Go.Av
open Go.Proofs
theorem Zd1 {n:Int} {s t:Bool} {x y:List Int} (h:Sp.ZbX n s x t y = true):∃ r:Rat,Sp.okT n.toNat r /\ s = Sp.Zaa r.num /\ x = Sp.Zad r.num /\ t = Sp.Zaa (r.den:Int) /\ y = Sp.Zad (r.den:Int):=by
 obtain ⟨h1,h2,r,rfl,rfl,rfl,rfl⟩:=Zht.1 h
 rw [ZaY] at h1 h2
 rw [Int.natAbs_natCast] at h2
 exact ⟨r,⟨by omega,by omega⟩,rfl,rfl,rfl,rfl⟩
end Go.Av

namespace Go.Av
open Go.Proofs
set_option maxRecDepth 100000
def fi13:Fi:=⟨57,[.tmp 4,.tmp 5]⟩
def kp13:List (Nat × List Nat):=[(0,[2,3]),(1,[2,3,6]),(2,[2,3,6,22]),(3,[25]),(4,[4,5]),(5,[4,5]),(6,[2,3,6,7]),(7,[7,8]),(8,[4,5])]
def fi19:Fi:=⟨16,[.tmp 4]⟩
def kp19:List (Nat × List Nat):=[(0,[2,3]),(1,[5]),(2,[4])]
def fi25:Fi:=⟨35,[.cell 4 28,.tmp 5]⟩
def kp25:List (Nat × List Nat):=[(0,[2,3,4]),(1,[2,3,4,10]),(2,[4,5]),(3,[2,3,4,6]),(4,[2,3,4,6,7]),(5,[4,5])]
def fi66:Fi:=⟨38,[.cell 10 56]⟩
def kp66:List (Nat × List Nat):=[(0,[5,6,7,8,9,10]),(1,[7,8,9,10,11]),(2,[10,11,13]),(3,[10,15]),(4,[10])]
def fi107:Fi:=⟨9,[.tmp 4]⟩
def kp107:List (Nat × List Nat):=[(0,[2,3]),(1,[4])]
def mSurd_at (f1 f2 f3 f4 f5 f6 f7 f8 f9 f10:Bool) (x u y v k:Rat) (Q:AV->Heap->Prop):Prop:=Wp M1 (.run fi66 (atC (cd Tryz.f66) []) [(0,ratA f1 f2 x),(1,ratA f3 f4 u),(2,ratA f5 f6 y),(3,ratA f7 f8 v),(4,ratA f9 f10 k)] []) Q
def mTouch_at (f1 f2 f3 f4 f5 f6 g1 g2 g3 g4 g5 g6:Bool) (a b c x y q:Rat) (Q:AV->Heap->Prop):Prop:=Wp M1 (.run fi19 (atC (cd Tryz.f19) []) [(0,Zas f1 f2 f3 f4 f5 f6 a b c),(1,Zas g1 g2 g3 g4 g5 g6 x y q)] []) Q
def mLines_at (f1 f2 f3 f4 f5 f6 g1 g2 g3 g4 g5 g6:Bool) (a b c x y z:Rat) (Q:AV->Heap->Prop):Prop:=Wp M1 (.run fi13 (atC (cd Tryz.f13) []) [(0,Zas f1 f2 f3 f4 f5 f6 a b c),(1,Zas g1 g2 g3 g4 g5 g6 x y z)] []) Q
def Zgv (f1 f2 f3 f4 f5 f6 g1 g2 g3 g4 g5 g6:Bool) (a b c x y z:Rat) (Q:AV->Heap->Prop):Prop:=Wp M1 (.run fi25 (atC (cd Tryz.f25) []) [(0,Zas f1 f2 f3 f4 f5 f6 a b c),(1,Zas g1 g2 g3 g4 g5 g6 x y z)] []) Q
def rCmp5_at (f1 f2 f3 f4 f5 f6 g1 g2 g3 g4 g5 g6:Bool) (a b c x y z:Rat) (Q:AV->Heap->Prop):Prop:=Wp M1 (.run fi107 (atC (cd Tryz.f107) []) [(0,Zas f1 f2 f3 f4 f5 f6 a b c),(1,Zas g1 g2 g3 g4 g5 g6 x y z)] []) Q
theorem call13 {args:List AV} {d:AV} (h:wc M1 fi13 Tryz.f13 args d):Ev M1 (.pure 13 args) d []:=pcl _ _ (by kernel_rfl) h
theorem call19 {args:List AV} {d:AV} (h:wc M1 fi19 Tryz.f19 args d):Ev M1 (.pure 19 args) d []:=pcl _ _ (by kernel_rfl) h
theorem call25 {args:List AV} {d:AV} (h:wc M1 fi25 Tryz.f25 args d):Ev M1 (.pure 25 args) d []:=pcl _ _ (by kernel_rfl) h
theorem call66 {args:List AV} {d:AV} (h:wc M1 fi66 Tryz.f66 args d):Ev M1 (.pure 66 args) d []:=pcl _ _ (by kernel_rfl) h
theorem call107 {args:List AV} {d:AV} (h:wc M1 fi107 Tryz.f107 args d):Ev M1 (.pure 107 args) d []:=pcl _ _ (by kernel_rfl) h
noncomputable abbrev zNmD1 (x:Rat) (u:Rat) (k:Rat) (y:Rat) (v:Rat):=(pntF (Sp.mkA x u k) (Sp.mkB u k) (Sp.mkA y v k) (Sp.mkB v k) (Sp.rd2 (Sp.mkB u k) (Sp.mkB v k) (Sp.com (Sp.mkB u k) (Sp.mkC u k) (Sp.mkC v k))))
noncomputable abbrev zNmD2:=tu [ag [vb false,vf [],vb false,vf [],vb false,vf [],vb false,vf [],vb false,vf [],vb false,vf []],vi 7]
noncomputable abbrev zNmD3 (b1:Bool) (l1:List Int) (b2:Bool) (l2:List Int) (b3:Bool) (l3:List Int) (b4:Bool) (l4:List Int) (b5:Bool) (l5:List Int) (b6:Bool) (l6:List Int) (b7:Bool) (l7:List Int) (b8:Bool) (l8:List Int) (b9:Bool) (l9:List Int) (b10:Bool) (l10:List Int):=ag [vb b1,vf (us l1),vb b2,vf (us l2),vb b3,vf (us l3),vb b4,vf (us l4),vb b5,vf (us l5),vb b6,vf (us l6),vb b7,vf (us l7),vb b8,vf (us l8),vb b9,vf (us l9),vb b10,vf (us l10)]
theorem mSurd (f1 f2 f3 f4 f5 f6 f7 f8 f9 f10:Bool) (x u y v k:Rat)  (dq:AV) (H :
  ((Sp.isNN k) -> (Sp.okO x u k) /\
   (Sp.okO y v k) /\
   (Sp.okMk (Sp.mkB u k) (Sp.mkC u k) (Sp.mkB v k) (Sp.mkC v k)) /\
   Weak ((pntF (Sp.mkA x u k) (Sp.mkB u k) (Sp.mkA y v k) (Sp.mkB v k) (Sp.rd2 (Sp.mkB u k) (Sp.mkB v k) (Sp.com (Sp.mkB u k) (Sp.mkC u k) (Sp.mkC v k))))) dq) /\
  (¬(Sp.isNN k) -> (Sp.okO x u k) /\
   (Sp.okO y v k) /\
   ∃ (b1:Bool) (l1:List (Int)) (b2:Bool) (l2:List (Int)) (b3:Bool) (l3:List (Int)) (b4:Bool) (l4:List (Int)) (b5:Bool) (l5:List (Int)) (b6:Bool) (l6:List (Int)) (b7:Bool) (l7:List (Int)) (b8:Bool) (l8:List (Int)) (b9:Bool) (l9:List (Int)) (b10:Bool) (l10:List (Int)) (n1:Int),
   (Ev M1 (Conf.pure 106 [ag [vb false,vf [],vb false,vf [],vb false,vf [],vb false,vf [],vb false,vf [],vb false,vf []],ag [vb false,vf [],vb false,vf [],vb false,vf [],vb false,vf [],vb false,vf [],vb false,vf []]]) (tu [ag [vb b1,vf (us l1),vb b2,vf (us l2),vb b3,vf (us l3),vb b4,vf (us l4),vb b5,vf (us l5),vb b6,vf (us l6),vb b7,vf (us l7),vb b8,vf (us l8),vb b9,vf (us l9),vb b10,vf (us l10)],vi n1]) []) /\
   Weak (ag [vb b1,vf (us l1),vb b2,vf (us l2),vb b3,vf (us l3),vb b4,vf (us l4),vb b5,vf (us l5),vb b6,vf (us l6),vb b7,vf (us l7),vb b8,vf (us l8),vb b9,vf (us l9),vb b10,vf (us l10)]) dq)) :
 mSurd_at f1 f2 f3 f4 f5 f6 f7 f8 f9 f10 x u y v k (Zaf dq):=by
 unfold mSurd_at
 rcases xq H with ⟨d1,H⟩|⟨d1,H⟩
 ·obtain ⟨k2,k3,k4,H⟩:=H
  exact Zah (G:=Zac kp66 [(1,3,.call (tu [ZaH (Sp.mkA x u k) (Sp.mkB u k) (Sp.mkC u k),vi 0]) none),(2,3,.call (tu [ZaH (Sp.mkA y v k) (Sp.mkB v k) (Sp.mkC v k),vi 0]) none),(3,2,.call (tu [(zNmD1 x u k y v),vi 0]) none)] []) 1000 [] ((zNmD1 x u k y v)) (by kernel_rfl) (bc rfl (bc rfl (bc rfl (bc rfl (bc rfl (bc rfl (bc rfl (bc rfl (bc rfl (bc rfl (bc rfl (bc rfl (bc rfl b0))))))))))))) q0 (ce (@ev105_y (f1) (f2) (f3) (f4) (f9) (f10) (x) (u) (k) k2 d1) (ce (@ev105_y (f5) (f6) (f7) (f8) (f9) (f10) (y) (v) (k) k3 d1) (ce (@ev106 (false) (false) (false) (false) (false) (false) (false) (false) (false) (false) (false) (false) (Sp.mkA x u k) (Sp.mkB u k) (Sp.mkC u k) (Sp.mkA y v k) (Sp.mkB v k) (Sp.mkC v k) k4) c0))) H
 ·obtain ⟨k5,k6,b1,l1,b2,l2,b3,l3,b4,l4,b5,l5,b6,l6,b7,l7,b8,l8,b9,l9,b10,l10,n1,k7,H⟩:=H
  exact Zah (G:=Zac kp66 [(1,3,.call zNmD2 none),(2,3,.call zNmD2 none),(3,2,.call (tu [(zNmD3 b1 l1 b2 l2 b3 l3 b4 l4 b5 l5 b6 l6 b7 l7 b8 l8 b9 l9 b10 l10),vi n1]) none)] []) 1000 [] ((zNmD3 b1 l1 b2 l2 b3 l3 b4 l4 b5 l5 b6 l6 b7 l7 b8 l8 b9 l9 b10 l10)) (by kernel_rfl) (bc rfl (bc rfl (bc rfl (bc rfl (bc rfl (bc rfl (bc rfl (bc rfl (bc rfl (bc rfl (bc rfl (bc rfl (bc rfl b0))))))))))))) q0 (ce (@ev105_n (f1) (f2) (f3) (f4) (f9) (f10) (x) (u) (k) k5 d1) (ce (@ev105_n (f5) (f6) (f7) (f8) (f9) (f10) (y) (v) (k) k6 d1) (ce k7 c0))) H
theorem mTouch (f1 f2 f3 f4 f5 f6 g1 g2 g3 g4 g5 g6:Bool) (a b c x y q:Rat)  (dq:AV) (H :
  (Sp.ZfD a b c /\ Sp.Zdx x y /\ Sp.okT 30 q) /\
  vb (Sp.sgnI (Sp.dep a b c x y q).num == 0) = dq) :
 mTouch_at f1 f2 f3 f4 f5 f6 g1 g2 g3 g4 g5 g6 a b c x y q (Zaf dq):=by
 unfold mTouch_at
 obtain ⟨k1,H⟩:=H
 exact Zaq (G:=Zac kp19 [(1,2,.call (tu [ratF (Sp.dep a b c x y q),(vecF (Sp.fX a b c x y) (Sp.fY a b c x y))]) none),(2,1,.call (vi (Sp.sgnI (Sp.dep a b c x y q).num)) none)] []) 1000 [] (vb (Sp.sgnI (Sp.dep a b c x y q).num == 0)) (by kernel_rfl) (bc rfl (bc rfl (bc rfl (bc rfl (bc rfl b0))))) q0 (ce (@ev64 (f1) (f2) (f3) (f4) (f5) (f6) (g1) (g2) (g3) (g4) (g5) (g6) (a) (b) (c) (x) (y) (q) k1) (ce (@ev54 (false) (false) ((Sp.dep a b c x y q).num) ((↑(Sp.dep a b c x y q).den:Int))) c0)) H
noncomputable abbrev zNmD4 (c:Rat) (y:Rat) (z:Rat) (b:Rat) (a:Rat) (x:Rat):=(pntF ((c*y-z*b) / (a*y-x*b)) (Sp.qi 0) ((a*z-x*c) / (a*y-x*b)) (Sp.qi 0) (Sp.qi 0))
theorem mLines (f1 f2 f3 f4 f5 f6 g1 g2 g3 g4 g5 g6:Bool) (a b c x y z:Rat)  (dq:AV) (H :
  (Sp.okR a /\ Sp.okR y) /\
  (Sp.okR x /\ Sp.okR b) /\
  (Sp.okR (a * y) /\ Sp.okR (x * b)) /\
  ((Sp.sgnI (a * y - x * b).num = 0) -> (Sp.ZeM a b c /\ Sp.ZeM x y z) /\
   ((a * y = x * b /\ a * z = x * c /\ b * z = y * c) -> Weak (tu [AV.vnil,vi 10]) dq) /\
   (¬(a * y = x * b /\ a * z = x * c /\ b * z = y * c) -> Weak (tu [AV.vnil,vi 0]) dq)) /\
  (¬(Sp.sgnI (a * y - x * b).num = 0) -> (Sp.okR c /\ Sp.okR y) /\
   (Sp.okR z /\ Sp.okR b) /\
   (Sp.okR (c * y) /\ Sp.okR (z * b)) /\
   (Sp.okR (c * y - z * b) /\ Sp.okR (a * y - x * b) /\ (a * y - x * b).num ≠ 0) /\
   (Sp.okR a /\ Sp.okR z) /\
   (Sp.okR x /\ Sp.okR c) /\
   (Sp.okR (a * z) /\ Sp.okR (x * c)) /\
   (Sp.okR (a * z - x * c) /\ Sp.okR (a * y - x * b) /\ (a * y - x * b).num ≠ 0) /\
   Weak (tu [AV.vec true 20 [(pntF ((c * y - z * b) / (a * y - x * b)) (Sp.qi 0) ((a * z - x * c) / (a * y - x * b)) (Sp.qi 0) (Sp.qi 0))],vi 0]) dq)) :
 mLines_at f1 f2 f3 f4 f5 f6 g1 g2 g3 g4 g5 g6 a b c x y z (Zaf dq):=by
 unfold mLines_at
 obtain ⟨k1,k2,k3,H⟩:=H
 refine Zae (G:=Zac kp13 [(1,4,.call (ratF (a * y)) none),(1,9,.call (ratF (x * b)) none),(1,10,.call (ratF (a * y - x * b)) none),(2,1,.call (vi (Sp.sgnI (a * y - x * b).num)) none)] []) 7 [] ⟨(atC (cd Tryz.f13) [1,1,0,1]),[(2,AV.ptr 0 0 0 0),(3,AV.ptr 1 0 0 0),(6,AV.ptr 2 0 0 0),(22,vb (Sp.sgnI (a * y - x * b).num == 0))],[⟨[Zas f1 f2 f3 f4 f5 f6 a b c],12,0,false,false⟩,⟨[Zas g1 g2 g3 g4 g5 g6 x y z],12,0,false,false⟩,⟨[ratF (a * y - x * b)],4,0,false,false⟩],_,[],_⟩ (by kernel_rfl) (bc rfl (bc rfl (bc rfl (bc rfl (bc rfl (bc rfl b0)))))) q0 (ce (@ev53 (f1) (f2) (g3) (g4) (a) (y) k1) (ce (@ev53 (g1) (g2) (f3) (f4) (x) (b) k2) (ce (@ev52 (false) (false) (false) (false) (a * y) (x * b) k3) (ce (@ev54 (false) (false) ((a * y - x * b).num) ((↑(a * y - x * b).den:Int))) c0)))) ?_
 rcases xq H with ⟨d5,H⟩|⟨d5,H⟩
 ·obtain ⟨k6,H⟩:=H
  refine Zae (G:=Zac kp13 [(3,2,.call (vb (decide (a * y = x * b /\ a * z = x * c /\ b * z = y * c))) none)] []) 4 [true] ⟨(atC (cd Tryz.f13) [1,1,0,1,0,0,1]),[(25,vb (decide (a * y = x * b /\ a * z = x * c /\ b * z = y * c)))],[⟨[Zas f1 f2 f3 f4 f5 f6 a b c],12,0,false,false⟩,⟨[Zas g1 g2 g3 g4 g5 g6 x y z],12,0,false,false⟩,⟨[ratF (a * y - x * b)],4,0,false,false⟩],_,[],_⟩ (by kernel_rfl) (bc (Zar (i_eq.2 d5)) (bc rfl (bc rfl b0))) q0 (ce (@ev55 (f1) (f2) (f3) (f4) (f5) (f6) (g1) (g2) (g3) (g4) (g5) (g6) (a) (b) (c) (x) (y) (z) k6) c0) ?_
  rcases xq H with ⟨d8,H⟩|⟨d8,H⟩
  ·exact Zah (G:=Zac kp13 [] []) 1000 [true] (tu [AV.vnil,vi 10]) (by kernel_rfl) (bc (Zar (Zab.2 d8)) b0) q0 c0 H
  ·exact Zah (G:=Zac kp13 [] []) 1000 [false] (tu [AV.vnil,vi 0]) (by kernel_rfl) (bc (Zao (fun h => d8 (Zab.1 h))) b0) q0 c0 H
 ·obtain ⟨k9,k10,k11,k12,k13,k14,k15,k16,H⟩:=H
  exact Zah (G:=Zac kp13 [(6,4,.call (ratF (c * y)) none),(6,9,.call (ratF (z * b)) none),(6,10,.call (ratF (c * y - z * b)) none),(6,12,.call (ratF ((c * y - z * b) / (a * y - x * b))) none),(7,4,.call (ratF (a * z)) none),(7,9,.call (ratF (x * c)) none),(7,10,.call (ratF (a * z - x * c)) none),(7,12,.call (ratF ((a * z - x * c) / (a * y - x * b))) none),(8,3,.call ((zNmD4 c y z b a x)) none)] []) 1000 [false] (tu [AV.vec true 20 [(zNmD4 c y z b a x)],vi 0]) (by kernel_rfl) (bc (Zao (fun h => d5 (i_eq.1 h))) (bc rfl (bc rfl (bc rfl (bc rfl (bc rfl (bc rfl (bc rfl (bc rfl (bc rfl (bc rfl (bc rfl (bc rfl (bc rfl (bc rfl b0))))))))))))))) q0 (ce (@ev53 (f5) (f6) (g3) (g4) (c) (y) k9) (ce (@ev53 (g5) (g6) (f3) (f4) (z) (b) k10) (ce (@ev52 (false) (false) (false) (false) (c * y) (z * b) k11) (ce (@ev56 (false) (false) (false) (false) (c * y - z * b) (a * y - x * b) k12) (ce (@ev53 (f1) (f2) (g5) (g6) (a) (z) k13) (ce (@ev53 (g1) (g2) (f5) (f6) (x) (c) k14) (ce (@ev52 (false) (false) (false) (false) (a * z) (x * c) k15) (ce (@ev56 (false) (false) (false) (false) (a * z - x * c) (a * y - x * b) k16) (ce (@ev57 (false) (false) (false) (false) ((c * y - z * b) / (a * y - x * b)) ((a * z - x * c) / (a * y - x * b))) c0))))))))) H
noncomputable abbrev zNmD5:=ag [vb false,AV.vnil,vb false,AV.vnil,vb false,AV.vnil,vb false,AV.vnil,vb false,AV.vnil,vb false,AV.vnil]
theorem mRadical (f1 f2 f3 f4 f5 f6 g1 g2 g3 g4 g5 g6:Bool) (a b c x y z:Rat)  (dq:AV) (H :
  (Sp.ZeM a b c /\ Sp.ZeM x y z) /\
  ((a = x /\ b = y) -> Weak (tu [ag [vb false,AV.vnil,vb false,AV.vnil,vb false,AV.vnil,vb false,AV.vnil,vb false,AV.vnil,vb false,AV.vnil],vi 6]) dq) /\
  (¬(a = x /\ b = y) -> (Sp.inI 2) /\
   (Sp.okR x /\ Sp.okR a) /\
   (Sp.okR (Sp.qi 2) /\ Sp.okR (x - a)) /\
   (Sp.okR y /\ Sp.okR b) /\
   (Sp.okR (Sp.qi 2) /\ Sp.okR (y - b)) /\
   (Sp.ZeM x y z) /\
   (Sp.ZeM a b c) /\
   (Sp.okR (x * x + y * y - z) /\ Sp.okR (a * a + b * b - c)) /\
   Weak (tu [ZaH (Sp.qi 2 * (x - a)) (Sp.qi 2 * (y - b)) (x * x + y * y - z - (a * a + b * b - c)),vi 0]) dq)) :
 Zgv f1 f2 f3 f4 f5 f6 g1 g2 g3 g4 g5 g6 a b c x y z (Zaf dq):=by
 unfold Zgv
 obtain ⟨k1,H⟩:=H
 refine Zae (G:=Zac kp25 [(1,2,.call (vb (decide (a = x /\ b = y))) none)] []) 5 [] ⟨(atC (cd Tryz.f25) [1,0,1]),[(2,AV.ptr 0 0 0 0),(3,AV.ptr 1 0 0 0),(4,AV.ptr 2 0 0 0),(10,vb (decide (a = x /\ b = y)))],[⟨[Zas f1 f2 f3 f4 f5 f6 a b c],12,0,false,false⟩,⟨[Zas g1 g2 g3 g4 g5 g6 x y z],12,0,false,false⟩,⟨[zNmD5],12,0,false,false⟩],_,[],_⟩ (by kernel_rfl) (bc rfl (bc rfl b0)) q0 (ce (@ev73 (f1) (f2) (f3) (f4) (f5) (f6) (g1) (g2) (g3) (g4) (g5) (g6) (a) (b) (c) (x) (y) (z) k1) c0) ?_
 rcases xq H with ⟨d3,H⟩|⟨d3,H⟩
 ·exact Zah (G:=Zac kp25 [] []) 1000 [true] (tu [zNmD5,vi 6]) (by kernel_rfl) (bc (Zar (Zab.2 d3)) (bc rfl b0)) q0 c0 H
 ·obtain ⟨k4,k5,k6,k7,k8,k9,k10,k11,H⟩:=H
  exact Zah (G:=Zac kp25 [(3,0,.call (ratF (Sp.qi 2)) none),(5,5,.call (ratF (x - a)) none),(5,6,.call (ratF (Sp.qi 2 * (x - a))) none),(5,12,.call (ratF (y - b)) none),(5,13,.call (ratF (Sp.qi 2 * (y - b))) none),(5,16,.call (ratF (x * x + y * y - z)) none),(5,19,.call (ratF (a * a + b * b - c)) none),(5,20,.call (ratF (x * x + y * y - z - (a * a + b * b - c))) none)] []) 1000 [false] (tu [ZaH (Sp.qi 2 * (x - a)) (Sp.qi 2 * (y - b)) (x * x + y * y - z - (a * a + b * b - c)),vi 0]) (by kernel_rfl) (bc (Zao (fun h => d3 (Zab.1 h))) (bc rfl (bc rfl (bc rfl (bc rfl (bc rfl (bc rfl (bc rfl (bc rfl (bc rfl (bc rfl b0))))))))))) q0 (ce (@ev75 (2) k4) (ce (@ev52 (g1) (g2) (f1) (f2) (x) (a) k5) (ce (@ev53 (false) (false) (false) (false) (Sp.qi 2) (x - a) k6) (ce (@ev52 (g3) (g4) (f3) (f4) (y) (b) k7) (ce (@ev53 (false) (false) (false) (false) (Sp.qi 2) (y - b) k8) (ce (@ev76 (g1) (g2) (g3) (g4) (g5) (g6) (x) (y) (z) k9) (ce (@ev76 (f1) (f2) (f3) (f4) (f5) (f6) (a) (b) (c) k10) (ce (@ev52 (false) (false) (false) (false) (x * x + y * y - z) (a * a + b * b - c) k11) c0)))))))) H
theorem rCmp5 (f1 f2 f3 f4 f5 f6 g1 g2 g3 g4 g5 g6:Bool) (a b c x y z:Rat)  (dq:AV) (H :
  (Sp.okT 2200 a /\ Sp.okT 2200 x /\ Sp.okT 2200 y) /\
  (Sp.okQ5 (a - x) b (-y) (Sp.qi 0) c z) /\
  vi (Sp.sgQ (a - x) b (-y) (Sp.qi 0) c z) = dq) :
 rCmp5_at f1 f2 f3 f4 f5 f6 g1 g2 g3 g4 g5 g6 a b c x y z (Zaf dq):=by
 unfold rCmp5_at
 obtain ⟨k1,k2,H⟩:=H
 exact Zaq (G:=Zac kp107 [(1,2,.call (ag [vb (Sp.Zaa (a - x).num),vf (us (Sp.Zad (a - x).num)),vb (Sp.Zaa (↑(a - x).den:Int)),vf (us (Sp.Zad (↑(a - x).den:Int))),vb (Sp.Zaa b.num),vf (us (Sp.Zad b.num)),vb (Sp.Zaa (↑b.den:Int)),vf (us (Sp.Zad (↑b.den:Int))),vb (Sp.Zaa (-y).num),vf (us (Sp.Zad (-y).num)),vb (Sp.Zaa (↑(-y).den:Int)),vf (us (Sp.Zad (↑(-y).den:Int))),vb (Sp.Zaa (Sp.qi 0).num),vf (us (Sp.Zad (Sp.qi 0).num)),vb (Sp.Zaa (↑(Sp.qi 0).den:Int)),vf (us (Sp.Zad (↑(Sp.qi 0).den:Int))),vb (Sp.Zaa c.num),vf (us (Sp.Zad c.num)),vb (Sp.Zaa (↑c.den:Int)),vf (us (Sp.Zad (↑c.den:Int))),vb (Sp.Zaa z.num),vf (us (Sp.Zad z.num)),vb (Sp.Zaa (↑z.den:Int)),vf (us (Sp.Zad (↑z.den:Int)))]) none),(1,3,.call (vi (Sp.sgQ (a - x) b (-y) (Sp.qi 0) c z)) none)] []) 1000 [] (vi (Sp.sgQ (a - x) b (-y) (Sp.qi 0) c z)) (by kernel_rfl) (bc rfl (bc rfl b0)) q0 (ce (@ev146 (f1) (f2) (f3) (f4) (f5) (f6) (g1) (g2) (g3) (g4) (g5) (g6) (a) (b) (c) (x) (y) (z) k1) (ce (@ev145 (false) (false) (false) (false) (false) (false) (false) (false) (false) (false) (false) (false) (a - x) (b) (-y) (Sp.qi 0) (c) (z) k2) c0)) H
end Go.Av

namespace Go.Av
open Go.Proofs
namespace Sp
def okSr (x u y v k:Rat):Prop:=(okT 350 x/\okT 30 u)/\(okT 350 y/\okT 30 v)/\okT 1700 k/\0<k
noncomputable def Zeu (a b c x y z:Rat):Int:=if a*y-x*b=0 then (if a*z=x*c/\b*z=y*c then 10 else 0) else 0
noncomputable def linL (a b c x y z:Rat):List Pnt:=if a*y-x*b=0 then [] else [atP ((c*y-z*b) / (a*y-x*b)) ((a*z-x*c) / (a*y-x*b))]
def okC5 (a b c x y z:Rat):Prop:=(okT 2200 a/\okT 200 b/\okT 1700 c)/\okT 2200 x/\okT 200 y/\okT 1700 z
end Sp
theorem nn_pos2 {c:Rat} (h:0 < c):Sp.isNN c:=by
 unfold Sp.isNN
 have:=num_gt.2 h
 omega
theorem surd_f (x u y v k:Rat):(Sp.Zbj x u y v k).ax = Sp.mkA x u k /\ (Sp.Zbj x u y v k).bx = Sp.mkB u k /\ (Sp.Zbj x u y v k).ay = Sp.mkA y v k /\ (Sp.Zbj x u y v k).by_ = Sp.mkB v k /\ (Sp.Zbj x u y v k).c = Sp.rd2 (Sp.mkB u k) (Sp.mkB v k) (Sp.com (Sp.mkB u k) (Sp.mkC u k) (Sp.mkC v k)):=by
 by_cases h:Sp.rsq k
 ·rw [show Sp.Zbj x u y v k = Sp.atP (x + u * Sp.rt k) (y + v * Sp.rt k) from if_pos h,show Sp.mkA x u k = x + u * Sp.rt k from if_pos h,show Sp.mkA y v k = y + v * Sp.rt k from if_pos h,show Sp.mkB u k = Sp.qi 0 from if_pos h,show Sp.mkB v k = Sp.qi 0 from if_pos h]
  refine ⟨rfl,rfl,rfl,rfl,?_⟩
  rw [show ∀ t,Sp.rd2 (Sp.qi 0) (Sp.qi 0) t = Sp.qi 0 from fun t => if_pos ⟨qi_z,qi_z⟩];rfl
 ·rw [show Sp.Zbj x u y v k = ⟨x,u,y,v,if u = 0 /\ v = 0 then Sp.qi 0 else k⟩ from if_neg h,show Sp.mkA x u k = x from if_neg h,show Sp.mkA y v k = y from if_neg h,show Sp.mkB u k = u from if_neg h,show Sp.mkB v k = v from if_neg h,show Sp.mkC u k = Sp.rad u k from if_neg h,show Sp.mkC v k = Sp.rad v k from if_neg h]
  refine ⟨rfl,rfl,rfl,rfl,?_⟩
  unfold Sp.rd2 Sp.com
  by_cases z:u = 0
  ·by_cases w:v = 0
   ·simp only [z,w,and_self,if_true]
   ·simp only [z,w,and_false,if_false,if_true]
    exact (radn w).symm
  ·simp only [z,false_and,if_false]
   exact (radn z).symm
theorem ev66 (f1 f2 f3 f4 f5 f6 f7 f8 f9 f10:Bool) (x u y v k:Rat) (h:Sp.okSr x u y v k):Ev M1 (.pure 66 [ratA f1 f2 x,ratA f3 f4 u,ratA f5 f6 y,ratA f7 f8 v,ratA f9 f10 k]) (Pnt.a (Sp.Zbj x u y v k)) []:=by
 obtain ⟨⟨h1,h2⟩,⟨h3,h4⟩,h5,h6⟩:=h
 obtain ⟨e1,e2,e3,e4,e5⟩:=surd_f x u y v k
 refine call66 (mSurd _ _ _ _ _ _ _ _ _ _ _ _ _ _ _ _ ⟨fun _ => ⟨okT_O (k:=9000) (Zan h1 (by omega)) (Zan h2 (by omega)) (Zan h5 (by omega)) (by omega),okT_O (k:=9000) (Zan h3 (by omega)) (Zan h4 (by omega)) (Zan h5 (by omega)) (by omega),⟨⟨Zan (okT_mkC h5) (by omega),Zan (okT_mkC h5) (by omega)⟩,?_⟩,?_⟩,fun n => absurd (nn_pos2 h6) n⟩)
 ·by_cases s:Sp.rsq k
  ·exact .inl (by rw [show Sp.mkB u k = Sp.qi 0 from if_pos s];exact qi_z)
  ·rw [show Sp.mkB u k = u from if_neg s,show Sp.mkB v k = v from if_neg s,show Sp.mkC u k = Sp.rad u k from if_neg s,show Sp.mkC v k = Sp.rad v k from if_neg s]
   by_cases z:u = 0
   ·exact .inl z
   ·by_cases w:v = 0
    ·exact .inr (.inl w)
    ·exact .inr (.inr (by rw [radn z,radn w]))
 ·unfold Pnt.a
  rw [e1,e2,e3,e4,e5]
  exact .refl _
theorem ev19 (f1 f2 f3 f4 f5 f6 g1 g2 g3 g4 g5 g6:Bool) (a b c x y q:Rat) (h:Sp.ZfD a b c /\ Sp.Zdx x y /\ Sp.okT 30 q):Ev M1 (.pure 19 [Zas f1 f2 f3 f4 f5 f6 a b c,Zas g1 g2 g3 g4 g5 g6 x y q]) (.bool (decide (Sp.dep a b c x y q = 0))) []:=by
 refine call19 (mTouch _ _ _ _ _ _ _ _ _ _ _ _ _ _ _ _ _ _ _ ⟨h,?_⟩)
 by_cases k:Sp.dep a b c x y q = 0
 ·rw [decide_eq_true k,beq_iff_eq.2 (sgz.2 k)]
 ·rw [decide_eq_false k];congr 1;simpa using fun x => k (sgz.1 x)
theorem lin_0 {a b c x y z:Rat} (k:a * y - x * b = 0) (j:a * z = x * c /\ b * z = y * c):Sp.linL a b c x y z = [] /\ Sp.Zeu a b c x y z = 10:=by
 unfold Sp.linL Sp.Zeu;rw [if_pos k,if_pos k,if_pos j];exact ⟨rfl,rfl⟩
theorem lin_1 {a b c x y z:Rat} (k:a * y - x * b = 0) (j:¬(a * z = x * c /\ b * z = y * c)):Sp.linL a b c x y z = [] /\ Sp.Zeu a b c x y z = 0:=by
 unfold Sp.linL Sp.Zeu;rw [if_pos k,if_pos k,if_neg j];exact ⟨rfl,rfl⟩
theorem lin_2 {a b c x y z:Rat} (k:¬a * y - x * b = 0):Sp.linL a b c x y z = [Sp.atP ((c * y - z * b) / (a * y - x * b)) ((a * z - x * c) / (a * y - x * b))] /\ Sp.Zeu a b c x y z = 0:=by
 unfold Sp.linL Sp.Zeu;rw [if_neg k,if_neg k];exact ⟨rfl,rfl⟩
theorem weak_list (l:List Pnt) (e:Int):Weak (.tup [.vec true 20 (l.map Pnt.a),.int .i64 e]) (.tup [.vec false 20 (l.map Pnt.a),.int .i64 e]):=Zcj (.full _ _) (.refl _)
theorem ZdZ (e:Int):Weak (.tup [.vnil,.int .i64 e]) (.tup [.vec false 20 (([]:List Pnt).map Pnt.a),.int .i64 e]):=Zcj (.vnil 20) (.refl _)
theorem ev13 (f1 f2 f3 f4 f5 f6 g1 g2 g3 g4 g5 g6:Bool) (a b c x y z:Rat) (h:Sp.ZeM a b c /\ Sp.ZeM x y z):Ev M1 (.pure 13 [Zas f1 f2 f3 f4 f5 f6 a b c,Zas g1 g2 g3 g4 g5 g6 x y z]) (.tup [.vec false 20 ((Sp.linL a b c x y z).map Pnt.a),.int .i64 (Sp.Zeu a b c x y z)]) []:=by
 have h':=h
 obtain ⟨⟨ha,hb,hc⟩,hx,hy,hz⟩:=h
 refine call13 (mLines _ _ _ _ _ _ _ _ _ _ _ _ _ _ _ _ _ _ _ ⟨⟨Zak ha (by omega),Zak hy (by omega)⟩,⟨Zak hx (by omega),Zak hb (by omega)⟩,⟨Zak (Zag ha hy) (by omega),Zak (Zag hx hb) (by omega)⟩,fun k => ⟨h',fun j => ?_,fun j => ?_⟩,fun k => ⟨⟨Zak hc (by omega),Zak hy (by omega)⟩,⟨Zak hz (by omega),Zak hb (by omega)⟩,⟨Zak (Zag hc hy) (by omega),Zak (Zag hz hb) (by omega)⟩,⟨Zak (ZaA (Zag hc hy) (Zag hz hb)) (by omega),Zak (ZaA (Zag ha hy) (Zag hx hb)) (by omega),fun n => k (sgz.2 (by rwa [Rat.num_eq_zero] at n))⟩,⟨Zak ha (by omega),Zak hz (by omega)⟩,⟨Zak hx (by omega),Zak hc (by omega)⟩,⟨Zak (Zag ha hz) (by omega),Zak (Zag hx hc) (by omega)⟩,⟨Zak (ZaA (Zag ha hz) (Zag hx hc)) (by omega),Zak (ZaA (Zag ha hy) (Zag hx hb)) (by omega),fun n => k (sgz.2 (by rwa [Rat.num_eq_zero] at n))⟩,?_⟩⟩)
 ·rw [sgz] at k
  rw [(lin_0 k j.2).1,(lin_0 k j.2).2]
  exact ZdZ _
 ·rw [sgz] at k
  have k2:a * y = x * b:=by grind
  have j2:¬(a * z = x * c /\ b * z = y * c):=fun q => j ⟨k2,q⟩
  rw [(lin_1 k j2).1,(lin_1 k j2).2]
  exact ZdZ _
 ·rw [sgz] at k
  rw [(lin_2 k).1,(lin_2 k).2]
  exact weak_list [Sp.atP ((c * y - z * b) / (a * y - x * b)) ((a * z - x * c) / (a * y - x * b))] 0
theorem ev25_n (f1 f2 f3 f4 f5 f6 g1 g2 g3 g4 g5 g6:Bool) (a b c x y z:Rat) (h:Sp.ZeM a b c /\ Sp.ZeM x y z) (k:¬((a = x /\ b = y))):Ev M1 (.pure 25 [Zas f1 f2 f3 f4 f5 f6 a b c,Zas g1 g2 g3 g4 g5 g6 x y z]) (.tup [ZaH (Sp.qi 2 * (x - a)) (Sp.qi 2 * (y - b)) (x * x + y * y - z - (a * a + b * b - c)),.int .i64 0]) []:=by
 have h':=h
 obtain ⟨⟨ha,hb,hc⟩,hx,hy,hz⟩:=h
 exact call25 (mRadical _ _ _ _ _ _ _ _ _ _ _ _ _ _ _ _ _ _ _ ⟨h',fun n => absurd n k,fun _ => ⟨by unfold Sp.inI;omega,⟨Zak hx (by omega),Zak ha (by omega)⟩,⟨Zak (Zgs (by unfold Sp.inI;omega):Sp.okT 3 (Sp.qi 2)) (by omega),Zak (ZaA hx ha) (by omega)⟩,⟨Zak hy (by omega),Zak hb (by omega)⟩,⟨Zak (Zgs (by unfold Sp.inI;omega):Sp.okT 3 (Sp.qi 2)) (by omega),Zak (ZaA hy hb) (by omega)⟩,h'.2,h'.1,⟨Zak (ZaA (ZaG (Zag hx hx) (Zag hy hy)) hz) (by omega),Zak (ZaA (ZaG (Zag ha ha) (Zag hb hb)) hc) (by omega)⟩,.refl _⟩⟩)
theorem ev107 (f1 f2 f3 f4 f5 f6 g1 g2 g3 g4 g5 g6:Bool) (a b c x y z:Rat) (h:Sp.okC5 a b c x y z):Ev M1 (.pure 107 [Zas f1 f2 f3 f4 f5 f6 a b c,Zas g1 g2 g3 g4 g5 g6 x y z]) (.int .i64 (Sp.ZhQ a b c x y z)) []:=by
 obtain ⟨⟨h1,h2,h3⟩,h4,h5,h6⟩:=h
 exact call107 (rCmp5 _ _ _ _ _ _ _ _ _ _ _ _ _ _ _ _ _ _ _ ⟨⟨Zan h1 (by omega),Zan h4 (by omega),Zan h5 (by omega)⟩,⟨Zan (ZaA h1 h4) (by omega),Zan h2 (by omega),Zan (Zbh h5) (by omega),Zan ZbC (by omega),Zan h3 (by omega),Zan h6 (by omega)⟩,rfl⟩)
end Go.Av

namespace Go.Av
open Go.Proofs
set_option maxRecDepth 100000
def fi17:Fi:=⟨66,[.tmp 4]⟩
def kp17:List (Nat × List Nat):=[(0,[2,3]),(1,[2,5,6]),(2,[2,5,6,17]),(3,[2,5,6,17,18]),(4,[4]),(5,[2,5,6,20]),(6,[4]),(7,[5,6,7,8]),(8,[5,6,7,8,9]),(9,[5,6,7,8,42]),(10,[5,6,7,8]),(11,[4])]
def fi39:Fi:=⟨27,[.cell 2 56,.cell 3 56]⟩
def kp39:List (Nat × List Nat):=[(0,[1,2,3]),(1,[1,2,3,4,5]),(2,[2,3])]
def fi40:Fi:=⟨27,[.cell 2 56,.cell 3 56]⟩
def kp40:List (Nat × List Nat):=[(0,[1,2,3]),(1,[1,2,3,4,5]),(2,[2,3])]
def fi70:Fi:=⟨19,[.tmp 4]⟩
def kp70:List (Nat × List Nat):=[(0,[2,3]),(1,[2,3,5]),(2,[2,3,5,12]),(3,[4]),(4,[4])]
def mLC_at (f1 f2 f3 f4 f5 f6 g1 g2 g3 g4 g5 g6:Bool) (a b c x y q:Rat) (Q:AV->Heap->Prop):Prop:=Wp M1 (.run fi17 (atC (cd Tryz.f17) []) [(0,Zas f1 f2 f3 f4 f5 f6 a b c),(1,Zas g1 g2 g3 g4 g5 g6 x y q)] []) Q
def mExt_at (f1 f2 f3 f4 f5 f6:Bool) (x y q:Rat) (Q:AV->Heap->Prop):Prop:=Wp M1 (.run fi39 (atC (cd Tryz.f39) []) [(0,Zas f1 f2 f3 f4 f5 f6 x y q)] []) Q
def rExt_at (f1 f2 f3 f4 f5 f6:Bool) (x y q:Rat) (Q:AV->Heap->Prop):Prop:=Wp M1 (.run fi40 (atC (cd Tryz.f40) []) [(0,Zas f1 f2 f3 f4 f5 f6 x y q)] []) Q
def rComp7_at (f1 f2 f3 f4 f5 f6 f7 f8 f9 f10 g1 g2 g3 g4 g5 g6 g7 g8 g9 g10:Bool) (ax bx ay by_ c ux vx uy vy d:Rat) (Q:AV->Heap->Prop):Prop:=Wp M1 (.run fi70 (atC (cd Tryz.f70) []) [(0,.agg [.bool (Sp.Zaa ax.num),.vec f1 1 ((Sp.Zad ax.num).map (.int .u32)),.bool (Sp.Zaa (ax.den:Int)),.vec f2 1 ((Sp.Zad (ax.den:Int)).map (.int .u32)),.bool (Sp.Zaa bx.num),.vec f3 1 ((Sp.Zad bx.num).map (.int .u32)),.bool (Sp.Zaa (bx.den:Int)),.vec f4 1 ((Sp.Zad (bx.den:Int)).map (.int .u32)),.bool (Sp.Zaa ay.num),.vec f5 1 ((Sp.Zad ay.num).map (.int .u32)),.bool (Sp.Zaa (ay.den:Int)),.vec f6 1 ((Sp.Zad (ay.den:Int)).map (.int .u32)),.bool (Sp.Zaa by_.num),.vec f7 1 ((Sp.Zad by_.num).map (.int .u32)),.bool (Sp.Zaa (by_.den:Int)),.vec f8 1 ((Sp.Zad (by_.den:Int)).map (.int .u32)),.bool (Sp.Zaa c.num),.vec f9 1 ((Sp.Zad c.num).map (.int .u32)),.bool (Sp.Zaa (c.den:Int)),.vec f10 1 ((Sp.Zad (c.den:Int)).map (.int .u32))]),(1,.agg [.bool (Sp.Zaa ux.num),.vec g1 1 ((Sp.Zad ux.num).map (.int .u32)),.bool (Sp.Zaa (ux.den:Int)),.vec g2 1 ((Sp.Zad (ux.den:Int)).map (.int .u32)),.bool (Sp.Zaa vx.num),.vec g3 1 ((Sp.Zad vx.num).map (.int .u32)),.bool (Sp.Zaa (vx.den:Int)),.vec g4 1 ((Sp.Zad (vx.den:Int)).map (.int .u32)),.bool (Sp.Zaa uy.num),.vec g5 1 ((Sp.Zad uy.num).map (.int .u32)),.bool (Sp.Zaa (uy.den:Int)),.vec g6 1 ((Sp.Zad (uy.den:Int)).map (.int .u32)),.bool (Sp.Zaa vy.num),.vec g7 1 ((Sp.Zad vy.num).map (.int .u32)),.bool (Sp.Zaa (vy.den:Int)),.vec g8 1 ((Sp.Zad (vy.den:Int)).map (.int .u32)),.bool (Sp.Zaa d.num),.vec g9 1 ((Sp.Zad d.num).map (.int .u32)),.bool (Sp.Zaa (d.den:Int)),.vec g10 1 ((Sp.Zad (d.den:Int)).map (.int .u32))])] []) Q
theorem call17 {args:List AV} {d:AV} (h:wc M1 fi17 Tryz.f17 args d):Ev M1 (.pure 17 args) d []:=pcl _ _ (by kernel_rfl) h
theorem call39 {args:List AV} {d:AV} (h:wc M1 fi39 Tryz.f39 args d):Ev M1 (.pure 39 args) d []:=pcl _ _ (by kernel_rfl) h
theorem call40 {args:List AV} {d:AV} (h:wc M1 fi40 Tryz.f40 args d):Ev M1 (.pure 40 args) d []:=pcl _ _ (by kernel_rfl) h
theorem call70 {args:List AV} {d:AV} (h:wc M1 fi70 Tryz.f70 args d):Ev M1 (.pure 70 args) d []:=pcl _ _ (by kernel_rfl) h
noncomputable abbrev zNmE1 (a:Rat) (b:Rat) (c:Rat) (x:Rat) (y:Rat) (q:Rat):=(Pnt.a (Sp.Zbj (Sp.fX a b c x y) (-b) (Sp.fY a b c x y) (- -a) (Sp.dep a b c x y q)))
noncomputable abbrev zNmE2 (a:Rat) (b:Rat) (c:Rat) (x:Rat) (y:Rat) (q:Rat):=(Pnt.a (Sp.Zbj (Sp.fX a b c x y) (- -b) (Sp.fY a b c x y) (- - -a) (Sp.dep a b c x y q)))
noncomputable abbrev zNmE3 (a:Rat) (b:Rat) (c:Rat) (x:Rat) (y:Rat) (q:Rat):=(Pnt.a (Sp.Zbj (Sp.fX a b c x y) b (Sp.fY a b c x y) (-a) (Sp.dep a b c x y q)))
noncomputable abbrev zNmE4 (a:Rat) (b:Rat) (c:Rat) (x:Rat) (y:Rat):=(vecF (Sp.fX a b c x y) (Sp.fY a b c x y))
noncomputable abbrev zNmE5 (a:Rat) (b:Rat) (c:Rat) (x:Rat) (y:Rat):=(pntF (Sp.fX a b c x y) (Sp.qi 0) (Sp.fY a b c x y) (Sp.qi 0) (Sp.qi 0))
theorem mLC (f1 f2 f3 f4 f5 f6 g1 g2 g3 g4 g5 g6:Bool) (a b c x y q:Rat)  (dq:AV) (H :
  (Sp.ZfD a b c /\ Sp.Zdx x y /\ Sp.okT 30 q) /\
  ((Sp.sgnI (Sp.dep a b c x y q).num = -1) -> Weak (AV.vnil) dq) /\
  (¬(Sp.sgnI (Sp.dep a b c x y q).num = -1) -> ((Sp.sgnI (Sp.dep a b c x y q).num = 0) -> Weak (AV.vec true 20 [(pntF (Sp.fX a b c x y) (Sp.qi 0) (Sp.fY a b c x y) (Sp.qi 0) (Sp.qi 0))]) dq) /\
   (¬(Sp.sgnI (Sp.dep a b c x y q).num = 0) -> (Sp.okB a.num) /\
    (((Sp.sgnI b.num < 0) \/ ((Sp.sgnI b.num = 0) /\ (Sp.sgnI (-a).num < 0))) -> (Sp.okB b.num) /\
     (Sp.okB (-a).num) /\
     (Sp.okB (-b).num) /\
     (Sp.okB (- -a).num) /\
     (Sp.okSr (Sp.fX a b c x y) (- -b) (Sp.fY a b c x y) (- - -a) (Sp.dep a b c x y q)) /\
     (Sp.okSr (Sp.fX a b c x y) (-b) (Sp.fY a b c x y) (- -a) (Sp.dep a b c x y q)) /\
     Weak (AV.vec true 20 [(Pnt.a (Sp.Zbj (Sp.fX a b c x y) (- -b) (Sp.fY a b c x y) (- - -a) (Sp.dep a b c x y q))),(Pnt.a (Sp.Zbj (Sp.fX a b c x y) (-b) (Sp.fY a b c x y) (- -a) (Sp.dep a b c x y q)))]) dq) /\
    (¬((Sp.sgnI b.num < 0) \/ ((Sp.sgnI b.num = 0) /\ (Sp.sgnI (-a).num < 0))) -> (Sp.okB b.num) /\
     (Sp.okB (-a).num) /\
     (Sp.okSr (Sp.fX a b c x y) (-b) (Sp.fY a b c x y) (- -a) (Sp.dep a b c x y q)) /\
     (Sp.okSr (Sp.fX a b c x y) b (Sp.fY a b c x y) (-a) (Sp.dep a b c x y q)) /\
     Weak (AV.vec true 20 [(Pnt.a (Sp.Zbj (Sp.fX a b c x y) (-b) (Sp.fY a b c x y) (- -a) (Sp.dep a b c x y q))),(Pnt.a (Sp.Zbj (Sp.fX a b c x y) b (Sp.fY a b c x y) (-a) (Sp.dep a b c x y q)))]) dq)))) :
 mLC_at f1 f2 f3 f4 f5 f6 g1 g2 g3 g4 g5 g6 a b c x y q (Zaf dq):=by
 unfold mLC_at
 obtain ⟨k1,H⟩:=H
 refine Zae (G:=Zac kp17 [(1,2,.call (tu [ratF (Sp.dep a b c x y q),(zNmE4 a b c x y)]) none),(2,1,.call (vi (Sp.sgnI (Sp.dep a b c x y q).num)) none)] []) 10 [] ⟨(atC (cd Tryz.f17) [1,1,0,1,0,1]),[(2,AV.ptr 0 0 0 0),(5,AV.ptr 2 0 0 0),(6,AV.ptr 3 0 0 0),(17,vi (Sp.sgnI (Sp.dep a b c x y q).num)),(18,vb (Sp.sgnI (Sp.dep a b c x y q).num == -1))],[⟨[Zas f1 f2 f3 f4 f5 f6 a b c],12,0,false,false⟩,⟨[Zas g1 g2 g3 g4 g5 g6 x y q],12,0,false,false⟩,⟨[ratF (Sp.dep a b c x y q)],4,0,false,false⟩,⟨[(zNmE4 a b c x y)],8,0,false,false⟩],_,[],_⟩ (by kernel_rfl) (bc rfl (bc rfl (bc rfl (bc rfl (bc rfl b0))))) q0 (ce (@ev64 (f1) (f2) (f3) (f4) (f5) (f6) (g1) (g2) (g3) (g4) (g5) (g6) (a) (b) (c) (x) (y) (q) k1) (ce (@ev54 (false) (false) ((Sp.dep a b c x y q).num) ((↑(Sp.dep a b c x y q).den:Int))) c0)) ?_
 rcases xq H with ⟨d3,H⟩|⟨d3,H⟩
 ·exact Zah (G:=Zac kp17 [] []) 1000 [true] (AV.vnil) (by kernel_rfl) (bc (Zar (i_eq.2 d3)) b0) q0 c0 H
 ·rcases xq H with ⟨d5,H⟩|⟨d5,H⟩
  ·exact Zah (G:=Zac kp17 [(6,1,.call ((zNmE5 a b c x y)) none)] []) 1000 [false,true] (AV.vec true 20 [(zNmE5 a b c x y)]) (by kernel_rfl) (bc (Zao (fun h => d3 (i_eq.1 h))) (bc (Zar (i_eq.2 d5)) (bc rfl b0))) q0 (ce (@ev57 (false) (false) (false) (false) (Sp.fX a b c x y) (Sp.fY a b c x y)) c0) H
  ·obtain ⟨k6,H⟩:=H
   refine Zae (G:=Zac kp17 [(7,4,.call (ratF (-a)) none)] []) 7 [false,false] ⟨(atC (cd Tryz.f17) [1,1,1,0]),[(2,AV.ptr 0 0 0 0),(5,AV.ptr 2 0 0 0),(6,AV.ptr 3 0 0 0),(20,vb (Sp.sgnI (Sp.dep a b c x y q).num == 0))],[⟨[Zas f1 f2 f3 f4 f5 f6 a b c],12,0,false,false⟩,⟨[Zas g1 g2 g3 g4 g5 g6 x y q],12,0,false,false⟩,⟨[ratF (Sp.dep a b c x y q)],4,0,false,false⟩,⟨[(zNmE4 a b c x y)],8,0,false,false⟩],_,[],_⟩ (by kernel_rfl) (bc (Zao (fun h => d3 (i_eq.1 h))) (bc (Zao (fun h => d5 (i_eq.1 h))) b0)) q0 c0 (Zcx (G:=Zac kp17 [(7,4,.call (ratF (-a)) none)] []) [0,1,2,3,5,4] 5 (e1:=[(5,AV.ptr 2 0 0 0),(6,AV.ptr 3 0 0 0),(7,AV.ptr 4 0 0 0),(8,AV.ptr 5 0 0 0)]) (L1:=[⟨[Zas f1 f2 f3 f4 f5 f6 a b c],12,0,false,false⟩,⟨[Zas g1 g2 g3 g4 g5 g6 x y q],12,0,false,false⟩,⟨[ratF (Sp.dep a b c x y q)],4,0,false,false⟩,⟨[(zNmE4 a b c x y)],8,0,false,false⟩,⟨[ratA f3 f4 b],4,0,false,false⟩,⟨[ratF (-a)],4,0,false,false⟩]) (a:=[true,true,true,true]) (q:=[]) (cs:=[⟨true,false,65,[ratA f1 f2 a],[],ratF (-a),[]⟩]) (by kernel_rfl) (by kernel_rfl) (Zai rfl (Zai rfl (Zai rfl (Zai rfl ZaM)))) Za1 (ZaF (fun _ => (@ev65 (f1) (f2) (a) k6)) Za2) ?_)
   refine Zae (G:=Zac kp17 [(8,1,.call (vi (Sp.sgnI b.num)) none),(9,7,.call (vi (Sp.sgnI (-a).num)) none)] []) 5 [] ⟨(atC (cd Tryz.f17) [1,1,1,1,0,1,1]),[(5,AV.ptr 2 0 0 0),(6,AV.ptr 3 0 0 0),(7,AV.ptr 4 0 0 0),(8,AV.ptr 5 0 0 0),(42,vb (bif decide (Sp.sgnI b.num < 0) then true else bif Sp.sgnI b.num == 0 then decide (Sp.sgnI (-a).num < 0) else false))],[⟨[Zas f1 f2 f3 f4 f5 f6 a b c],12,0,false,false⟩,⟨[Zas g1 g2 g3 g4 g5 g6 x y q],12,0,false,false⟩,⟨[ratF (Sp.dep a b c x y q)],4,0,false,false⟩,⟨[(zNmE4 a b c x y)],8,0,false,false⟩,⟨[ratA f3 f4 b],4,0,false,false⟩,⟨[ratF (-a)],4,0,false,false⟩],[true,!((Sp.sgnI b.num == 0) == true && (decide (Sp.sgnI b.num < 0) == false && true)) || true],[],[⟨true,false,54,[ratA f3 f4 b],[],vi (Sp.sgnI b.num),[]⟩,⟨(Sp.sgnI b.num == 0) == true && (decide (Sp.sgnI b.num < 0) == false && true) && true,false,54,[ratF (-a)],[],vi (Sp.sgnI (-a).num),[]⟩]⟩ (by kernel_rfl) (bc rfl (bc (Bool.or_true _) b0)) q0 (cc (fun _ => (@ev54 (f3) (f4) (b.num) ((↑b.den:Int)))) (cc (fun hc => ((@ev54 (false) (false) ((-a).num) ((↑(-a).den:Int))):Ev M1 (Conf.pure 54 [ratF (-a)]) (vi (Sp.sgnI (-a).num)) [])) c0)) ?_
   rcases xq H with ⟨d9,H⟩|⟨d9,H⟩
   ·obtain ⟨k10,k11,k12,k13,k14,k15,H⟩:=H
    exact Zah (G:=Zac kp17 [(10,1,.call (ratF (-b)) none),(10,3,.call (ratF (- -a)) none),(11,3,.call (ratF (- -b)) none),(11,7,.call (ratF (- - -a)) none),(11,9,.call ((zNmE2 a b c x y q)) none),(11,17,.call ((zNmE1 a b c x y q)) none)] []) 1000 [true] (AV.vec true 20 [(zNmE2 a b c x y q),(zNmE1 a b c x y q)]) (by kernel_rfl) (bc (Zar ((Zbm Zab (ZaK i_eq Zab)).2 d9)) (bc rfl (bc rfl (bc rfl (bc rfl (bc rfl (bc rfl (bc rfl (bc rfl (bc rfl (bc rfl (bc rfl (bc rfl (bc rfl (bc rfl b0))))))))))))))) q0 (ce (@ev65 (f3) (f4) (b) k10) (ce (@ev65 (false) (false) (-a) k11) (ce (@ev65 (false) (false) (-b) k12) (ce (@ev65 (false) (false) (- -a) k13) (ce (@ev66 (false) (false) (false) (false) (false) (false) (false) (false) (false) (false) (Sp.fX a b c x y) (- -b) (Sp.fY a b c x y) (- - -a) (Sp.dep a b c x y q) k14) (ce (@ev66 (false) (false) (false) (false) (false) (false) (false) (false) (false) (false) (Sp.fX a b c x y) (-b) (Sp.fY a b c x y) (- -a) (Sp.dep a b c x y q) k15) c0)))))) H
   ·obtain ⟨k16,k17,k18,k19,H⟩:=H
    exact Zah (G:=Zac kp17 [(11,3,.call (ratF (-b)) none),(11,7,.call (ratF (- -a)) none),(11,9,.call ((zNmE1 a b c x y q)) none),(11,17,.call ((zNmE3 a b c x y q)) none)] []) 1000 [false] (AV.vec true 20 [(zNmE1 a b c x y q),(zNmE3 a b c x y q)]) (by kernel_rfl) (bc (Zao (fun h => d9 ((Zbm Zab (ZaK i_eq Zab)).1 h))) (bc rfl (bc rfl (bc rfl (bc rfl (bc rfl (bc rfl (bc rfl (bc rfl (bc rfl (bc rfl b0))))))))))) q0 (ce (@ev65 (f3) (f4) (b) k16) (ce (@ev65 (false) (false) (-a) k17) (ce (@ev66 (false) (false) (false) (false) (false) (false) (false) (false) (false) (false) (Sp.fX a b c x y) (-b) (Sp.fY a b c x y) (- -a) (Sp.dep a b c x y q) k18) (ce (@ev66 (false) (false) (f3) (f4) (false) (false) (false) (false) (false) (false) (Sp.fX a b c x y) (b) (Sp.fY a b c x y) (-a) (Sp.dep a b c x y q) k19) c0)))) H
noncomputable abbrev zNmE6 (x:Rat) (y:Rat) (q:Rat):=(Pnt.a (Sp.Zbj x (-Sp.qi 1) y (Sp.qi 0) q))
noncomputable abbrev zNmE7 (x:Rat) (y:Rat) (q:Rat):=(Pnt.a (Sp.Zbj x (Sp.qi 1) y (Sp.qi 0) q))
theorem mExt (f1 f2 f3 f4 f5 f6:Bool) (x y q:Rat)  (dq:AV) (H :
  (Sp.inI 1) /\
  (Sp.inI 0) /\
  (Sp.okB (Sp.qi 1).num) /\
  (Sp.okSr x (-Sp.qi 1) y (Sp.qi 0) q) /\
  (Sp.okSr x (Sp.qi 1) y (Sp.qi 0) q) /\
  Weak (tu [(Pnt.a (Sp.Zbj x (-Sp.qi 1) y (Sp.qi 0) q)),(Pnt.a (Sp.Zbj x (Sp.qi 1) y (Sp.qi 0) q))]) dq) :
 mExt_at f1 f2 f3 f4 f5 f6 x y q (Zaf dq):=by
 unfold mExt_at
 obtain ⟨k1,k2,k3,k4,k5,H⟩:=H
 exact Zah (G:=Zac kp39 [(1,0,.call (ratF (Sp.qi 1)) none),(1,1,.call (ratF (Sp.qi 0)) none),(2,3,.call (ratF (-Sp.qi 1)) none),(2,9,.call ((zNmE6 x y q)) none),(2,18,.call ((zNmE7 x y q)) none)] []) 1000 [] (tu [(zNmE6 x y q),(zNmE7 x y q)]) (by kernel_rfl) (bc rfl (bc rfl (bc rfl (bc rfl (bc rfl (bc rfl (bc rfl (bc rfl (bc rfl (bc rfl (bc rfl (bc rfl (bc rfl (bc rfl b0)))))))))))))) q0 (ce (@ev75 (1) k1) (ce (@ev75 (0) k2) (ce (@ev65 (false) (false) (Sp.qi 1) k3) (ce (@ev66 (f1) (f2) (false) (false) (f3) (f4) (false) (false) (f5) (f6) (x) (-Sp.qi 1) (y) (Sp.qi 0) (q) k4) (ce (@ev66 (f1) (f2) (false) (false) (f3) (f4) (false) (false) (f5) (f6) (x) (Sp.qi 1) (y) (Sp.qi 0) (q) k5) c0))))) H
noncomputable abbrev zNmE8 (x:Rat) (y:Rat) (q:Rat):=(Pnt.a (Sp.red x (-Sp.qi 1) y (Sp.qi 0) q))
noncomputable abbrev zNmE9 (x:Rat) (y:Rat) (q:Rat):=(Pnt.a (Sp.red x (Sp.qi 1) y (Sp.qi 0) q))
theorem rExt (f1 f2 f3 f4 f5 f6:Bool) (x y q:Rat)  (dq:AV) (H :
  (Sp.inI 1) /\
  (Sp.inI 0) /\
  (Sp.ok (Sp.qi 1).num) /\
  (Sp.Ze4 { ax:=x,bx:=-Sp.qi 1,ay:=y,by_:=Sp.qi 0,c:=q }) /\
  (Sp.Ze4 { ax:=x,bx:=Sp.qi 1,ay:=y,by_:=Sp.qi 0,c:=q }) /\
  Weak (tu [(Pnt.a (Sp.red x (-Sp.qi 1) y (Sp.qi 0) q)),(Pnt.a (Sp.red x (Sp.qi 1) y (Sp.qi 0) q))]) dq) :
 rExt_at f1 f2 f3 f4 f5 f6 x y q (Zaf dq):=by
 unfold rExt_at
 obtain ⟨k1,k2,k3,k4,k5,H⟩:=H
 exact Zah (G:=Zac kp40 [(1,0,.call (ratF (Sp.qi 1)) none),(1,1,.call (ratF (Sp.qi 0)) none),(2,3,.call (ratF (-Sp.qi 1)) none),(2,9,.call ((zNmE8 x y q)) none),(2,18,.call ((zNmE9 x y q)) none)] []) 1000 [] (tu [(zNmE8 x y q),(zNmE9 x y q)]) (by kernel_rfl) (bc rfl (bc rfl (bc rfl (bc rfl (bc rfl (bc rfl (bc rfl (bc rfl (bc rfl (bc rfl (bc rfl (bc rfl (bc rfl (bc rfl b0)))))))))))))) q0 (ce (@ev84 (1) k1) (ce (@ev84 (0) k2) (ce (@ev68 (false) (false) (Sp.qi 1) k3) (ce (@ev69 (f1) (f2) (false) (false) (f3) (f4) (false) (false) (f5) (f6) (x) (-Sp.qi 1) (y) (Sp.qi 0) (q) k4) (ce (@ev69 (f1) (f2) (false) (false) (f3) (f4) (false) (false) (f5) (f6) (x) (Sp.qi 1) (y) (Sp.qi 0) (q) k5) c0))))) H
theorem rComp7 (f1 f2 f3 f4 f5 f6 f7 f8 f9 f10 g1 g2 g3 g4 g5 g6 g7 g8 g9 g10:Bool) (ax bx ay by_ c ux vx uy vy d:Rat)  (dq:AV) (H :
  (Sp.okC5 ax bx (Sp.rad bx c) ux vx (Sp.rad vx d)) /\
  ((¬Sp.ZhQ ax bx (Sp.rad bx c) ux vx (Sp.rad vx d) = 0) -> vi (Sp.ZhQ ax bx (Sp.rad bx c) ux vx (Sp.rad vx d)) = dq) /\
  (¬(¬Sp.ZhQ ax bx (Sp.rad bx c) ux vx (Sp.rad vx d) = 0) -> (Sp.okC5 ay by_ (Sp.rad by_ c) uy vy (Sp.rad vy d)) /\
   vi (Sp.ZhQ ay by_ (Sp.rad by_ c) uy vy (Sp.rad vy d)) = dq)) :
 rComp7_at f1 f2 f3 f4 f5 f6 f7 f8 f9 f10 g1 g2 g3 g4 g5 g6 g7 g8 g9 g10 ax bx ay by_ c ux vx uy vy d (Zaf dq):=by
 unfold rComp7_at
 obtain ⟨k1,H⟩:=H
 refine Zae (G:=Zac kp70 [(1,1,.call (ZaH ax bx (Sp.rad bx c)) none),(1,3,.call (ZaH ux vx (Sp.rad vx d)) none),(1,4,.call (vi (Sp.ZhQ ax bx (Sp.rad bx c) ux vx (Sp.rad vx d))) none)] []) 7 [] ⟨(atC (cd Tryz.f70) [1,0,1,1]),[(2,AV.ptr 0 0 0 0),(3,AV.ptr 1 0 0 0),(5,vi (Sp.ZhQ ax bx (Sp.rad bx c) ux vx (Sp.rad vx d))),(12,vb (Sp.ZhQ ax bx (Sp.rad bx c) ux vx (Sp.rad vx d) != 0))],[⟨[ag [vb (Sp.Zaa ax.num),AV.vec f1 1 (us (Sp.Zad ax.num)),vb (Sp.Zaa (↑ax.den:Int)),AV.vec f2 1 (us (Sp.Zad (↑ax.den:Int))),vb (Sp.Zaa bx.num),AV.vec f3 1 (us (Sp.Zad bx.num)),vb (Sp.Zaa (↑bx.den:Int)),AV.vec f4 1 (us (Sp.Zad (↑bx.den:Int))),vb (Sp.Zaa ay.num),AV.vec f5 1 (us (Sp.Zad ay.num)),vb (Sp.Zaa (↑ay.den:Int)),AV.vec f6 1 (us (Sp.Zad (↑ay.den:Int))),vb (Sp.Zaa by_.num),AV.vec f7 1 (us (Sp.Zad by_.num)),vb (Sp.Zaa (↑by_.den:Int)),AV.vec f8 1 (us (Sp.Zad (↑by_.den:Int))),vb (Sp.Zaa c.num),AV.vec f9 1 (us (Sp.Zad c.num)),vb (Sp.Zaa (↑c.den:Int)),AV.vec f10 1 (us (Sp.Zad (↑c.den:Int)))]],20,0,false,false⟩,⟨[ag [vb (Sp.Zaa ux.num),AV.vec g1 1 (us (Sp.Zad ux.num)),vb (Sp.Zaa (↑ux.den:Int)),AV.vec g2 1 (us (Sp.Zad (↑ux.den:Int))),vb (Sp.Zaa vx.num),AV.vec g3 1 (us (Sp.Zad vx.num)),vb (Sp.Zaa (↑vx.den:Int)),AV.vec g4 1 (us (Sp.Zad (↑vx.den:Int))),vb (Sp.Zaa uy.num),AV.vec g5 1 (us (Sp.Zad uy.num)),vb (Sp.Zaa (↑uy.den:Int)),AV.vec g6 1 (us (Sp.Zad (↑uy.den:Int))),vb (Sp.Zaa vy.num),AV.vec g7 1 (us (Sp.Zad vy.num)),vb (Sp.Zaa (↑vy.den:Int)),AV.vec g8 1 (us (Sp.Zad (↑vy.den:Int))),vb (Sp.Zaa d.num),AV.vec g9 1 (us (Sp.Zad d.num)),vb (Sp.Zaa (↑d.den:Int)),AV.vec g10 1 (us (Sp.Zad (↑d.den:Int)))]],20,0,false,false⟩],_,[],_⟩ (by kernel_rfl) (bc rfl (bc rfl b0)) q0 (ce (@ev108 (f1) (f2) (f3) (f4) (f5) (f6) (f7) (f8) (f9) (f10) (ax) (bx) (ay) (by_) (c)) (ce (@ev108 (g1) (g2) (g3) (g4) (g5) (g6) (g7) (g8) (g9) (g10) (ux) (vx) (uy) (vy) (d)) (ce (@ev107 (false) (false) (false) (false) (false) (false) (false) (false) (false) (false) (false) (false) (ax) (bx) (Sp.rad bx c) (ux) (vx) (Sp.rad vx d) k1) c0))) ?_
 rcases xq H with ⟨d3,H⟩|⟨d3,H⟩
 ·exact Zaq (G:=Zac kp70 [] []) 1000 [true] (vi (Sp.ZhQ ax bx (Sp.rad bx c) ux vx (Sp.rad vx d))) (by kernel_rfl) (bc (Zar (i_ne.2 d3)) b0) q0 c0 H
 ·obtain ⟨k4,H⟩:=H
  exact Zaq (G:=Zac kp70 [(4,1,.call (ZaH ay by_ (Sp.rad by_ c)) none),(4,3,.call (ZaH uy vy (Sp.rad vy d)) none),(4,4,.call (vi (Sp.ZhQ ay by_ (Sp.rad by_ c) uy vy (Sp.rad vy d))) none)] []) 1000 [false] (vi (Sp.ZhQ ay by_ (Sp.rad by_ c) uy vy (Sp.rad vy d))) (by kernel_rfl) (bc (Zao (fun h => d3 (i_ne.1 h))) (bc rfl (bc rfl b0))) q0 (ce (@ev109 (f1) (f2) (f3) (f4) (f5) (f6) (f7) (f8) (f9) (f10) (ax) (bx) (ay) (by_) (c)) (ce (@ev109 (g1) (g2) (g3) (g4) (g5) (g6) (g7) (g8) (g9) (g10) (ux) (vx) (uy) (vy) (d)) (ce (@ev107 (false) (false) (false) (false) (false) (false) (false) (false) (false) (false) (false) (false) (ay) (by_) (Sp.rad by_ c) (uy) (vy) (Sp.rad vy d) k4) c0))) H
end Go.Av
