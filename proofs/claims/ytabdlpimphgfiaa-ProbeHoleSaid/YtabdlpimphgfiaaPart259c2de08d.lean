/- PART 3 of the texts of a claim, joined by a program: what each part shows stands at its head. -/
import Derived.Test.YtabdlpimphgfiaaPart94c95c8cd9

namespace Go.Av
open Go.Proofs
set_option maxRecDepth 100000
def fi12:Fi:=⟨36,[.tmp 8,.tmp 9]⟩
def kp12:List (Nat × List Nat):=[(0,[1,2,3,4]),(1,[1,2,3,4,10]),(2,[1,2,3,4,10,17]),(3,[8,9]),(4,[1,2,3,4,21]),(5,[8,9]),(6,[11]),(7,[11,34]),(8,[8,9]),(9,[8,9])]
def fi25:Fi:=⟨32,[.tmp 6,.tmp 7]⟩
def kp25:List (Nat × List Nat):=[(0,[2,3,4]),(1,[2,3,4,13]),(2,[6,7]),(3,[2,3,4,21]),(4,[6,7]),(5,[6,7])]
def fi26:Fi:=⟨30,[.tmp 6,.tmp 7]⟩
def kp26:List (Nat × List Nat):=[(0,[2,3,4]),(1,[2,3,4,13]),(2,[6,7]),(3,[2,3,4,21]),(4,[6,7]),(5,[6,7])]
def pWallX_at (x y z a s r:Int) (Q:AV->Heap->Prop):Prop:=Wp M1 (.run fi12 (atC (cd Try.f12) []) [(0,.agg [.int .i64 x,.int .i64 y,.int .i64 z]),(1,.int .i64 a),(2,.int .i64 s),(3,.int .i64 r)] []) Q
def pWall0_at (x y z s r:Int) (Q:AV->Heap->Prop):Prop:=Wp M1 (.run fi12 (atC (cd Try.f12) []) [(0,.agg [.int .i64 x,.int .i64 y,.int .i64 z]),(1,.int .i64 0),(2,.int .i64 s),(3,.int .i64 r)] []) Q
def pWall1_at (x y z s r:Int) (Q:AV->Heap->Prop):Prop:=Wp M1 (.run fi12 (atC (cd Try.f12) []) [(0,.agg [.int .i64 x,.int .i64 y,.int .i64 z]),(1,.int .i64 1),(2,.int .i64 s),(3,.int .i64 r)] []) Q
def pWall2_at (x y z s r:Int) (Q:AV->Heap->Prop):Prop:=Wp M1 (.run fi12 (atC (cd Try.f12) []) [(0,.agg [.int .i64 x,.int .i64 y,.int .i64 z]),(1,.int .i64 2),(2,.int .i64 s),(3,.int .i64 r)] []) Q
def pMidX_at (x y z u v w a:Int) (Q:AV->Heap->Prop):Prop:=Wp M1 (.run fi25 (atC (cd Try.f25) []) [(0,.agg [.int .i64 x,.int .i64 y,.int .i64 z]),(1,.agg [.int .i64 u,.int .i64 v,.int .i64 w]),(2,.int .i64 a)] []) Q
def pMid0_at (x y z u v w:Int) (Q:AV->Heap->Prop):Prop:=Wp M1 (.run fi25 (atC (cd Try.f25) []) [(0,.agg [.int .i64 x,.int .i64 y,.int .i64 z]),(1,.agg [.int .i64 u,.int .i64 v,.int .i64 w]),(2,.int .i64 0)] []) Q
def pMid1_at (x y z u v w:Int) (Q:AV->Heap->Prop):Prop:=Wp M1 (.run fi25 (atC (cd Try.f25) []) [(0,.agg [.int .i64 x,.int .i64 y,.int .i64 z]),(1,.agg [.int .i64 u,.int .i64 v,.int .i64 w]),(2,.int .i64 1)] []) Q
def pMid2_at (x y z u v w:Int) (Q:AV->Heap->Prop):Prop:=Wp M1 (.run fi25 (atC (cd Try.f25) []) [(0,.agg [.int .i64 x,.int .i64 y,.int .i64 z]),(1,.agg [.int .i64 u,.int .i64 v,.int .i64 w]),(2,.int .i64 2)] []) Q
def pMidR_at (x y z u v w a:Int) (Q:AV->Heap->Prop):Prop:=Wp M1 (.run fi26 (atC (cd Try.f26) []) [(0,.agg [.int .i64 x,.int .i64 y,.int .i64 z]),(1,.agg [.int .i64 u,.int .i64 v,.int .i64 w]),(2,.int .i64 a)] []) Q
theorem call12 {args:List AV} {d:AV} (h:wc M1 fi12 Try.f12 args d):Ev M1 (.pure 12 args) d []:=pcl _ _ (by kernel_rfl) h
theorem call25 {args:List AV} {d:AV} (h:wc M1 fi25 Try.f25 args d):Ev M1 (.pure 25 args) d []:=pcl _ _ (by kernel_rfl) h
theorem call26 {args:List AV} {d:AV} (h:wc M1 fi26 Try.f26 args d):Ev M1 (.pure 26 args) d []:=pcl _ _ (by kernel_rfl) h
theorem pWallX (x y z a s r:Int)  (dq:AV) (H :
  ((¬Sp.chk a s r = 0) -> tu [vi 0,vi (Sp.chk a s r)] = dq) /\
  (¬(¬Sp.chk a s r = 0) -> ((¬(Sp.pP x y z)) -> tu [vi 0,vi 11] = dq) /\
   (¬(¬(Sp.pP x y z)) -> False))) :
 pWallX_at x y z a s r (Zae dq):=by
 unfold pWallX_at
 refine Zac (G:=Zab kp12 [(1,3,.call (vi (Sp.chk a s r)) none)] []) 7 [] ⟨(atC (cd Try.f12) [1,0,1,1]),[(1,vi a),(2,vi s),(3,vi r),(4,AV.ptr 0 0 0 0),(10,vi (Sp.chk a s r)),(17,vb (Sp.chk a s r != 0))],[⟨[ag [vi x,vi y,vi z]],3,0,false,false⟩],_,[],_⟩ (by kernel_rfl) b0 q0 (ce (@ev34 (a) (s) (r)) c0) ?_
 rcases xq H with ⟨d2,H⟩|⟨d2,H⟩
 ·exact Zag (G:=Zab kp12 [] []) 1000 [true] (tu [vi 0,vi (Sp.chk a s r)]) (by kernel_rfl) (bc (Zak (i_ne.2 d2)) b0) q0 c0 H
 ·refine Zac (G:=Zab kp12 [(4,1,.call (vb (decide (Sp.pP x y z))) none)] []) 5 [false] ⟨(atC (cd Try.f12) [1,1,0,1]),[(1,vi a),(2,vi s),(3,vi r),(4,AV.ptr 0 0 0 0),(21,vb !decide (Sp.pP x y z))],[⟨[ag [vi x,vi y,vi z]],3,0,false,false⟩],_,[],_⟩ (by kernel_rfl) (bc (Zaj (fun h => d2 (i_ne.1 h))) (bc rfl b0)) q0 (ce (@ev35 (x) (y) (z)) c0) ?_
  rcases xq H with ⟨d4,H⟩|⟨d4,H⟩
  ·exact Zag (G:=Zab kp12 [] []) 1000 [true] (tu [vi 0,vi 11]) (by kernel_rfl) (bc (Zak ((ZaQ Zaa).2 d4)) b0) q0 c0 H
  ·exact False.elim H
noncomputable abbrev zNpC1 (x:Int) (y:Int) (z:Int):=ag [vi x,vi y,vi z]
theorem pWall0 (x y z s r:Int)  (dq:AV) (H :
  ((¬Sp.chk 0 s r = 0) -> tu [vi 0,vi (Sp.chk 0 s r)] = dq) /\
  (¬(¬Sp.chk 0 s r = 0) -> ((¬(Sp.pP x y z)) -> tu [vi 0,vi 11] = dq) /\
   (¬(¬(Sp.pP x y z)) -> (-9223372036854775808 <= s * Sp.rea 0 r /\ s * Sp.rea 0 r <= 9223372036854775807) /\
    (-9223372036854775808 <= x + s * Sp.rea 0 r /\ x + s * Sp.rea 0 r <= 9223372036854775807) /\
    ((¬(Sp.pM (x + s * Sp.rea 0 r))) -> tu [vi 0,vi 11] = dq) /\
    (¬(¬(Sp.pM (x + s * Sp.rea 0 r))) -> tu [vi (x + s * Sp.rea 0 r),vi 0] = dq)))) :
 pWall0_at x y z s r (Zae dq):=by
 unfold pWall0_at
 refine Zac (G:=Zab kp12 [(1,3,.call (vi (Sp.chk 0 s r)) none)] []) 7 [] ⟨(atC (cd Try.f12) [1,0,1,1]),[(1,vi 0),(2,vi s),(3,vi r),(4,AV.ptr 0 0 0 0),(10,vi (Sp.chk 0 s r)),(17,vb (Sp.chk 0 s r != 0))],[⟨[(zNpC1 x y z)],3,0,false,false⟩],_,[],_⟩ (by kernel_rfl) b0 q0 (ce (@ev34 (0) (s) (r)) c0) ?_
 rcases xq H with ⟨d2,H⟩|⟨d2,H⟩
 ·exact Zag (G:=Zab kp12 [] []) 1000 [true] (tu [vi 0,vi (Sp.chk 0 s r)]) (by kernel_rfl) (bc (Zak (i_ne.2 d2)) b0) q0 c0 H
 ·refine Zac (G:=Zab kp12 [(4,1,.call (vb (decide (Sp.pP x y z))) none)] []) 5 [false] ⟨(atC (cd Try.f12) [1,1,0,1]),[(1,vi 0),(2,vi s),(3,vi r),(4,AV.ptr 0 0 0 0),(21,vb !decide (Sp.pP x y z))],[⟨[(zNpC1 x y z)],3,0,false,false⟩],_,[],_⟩ (by kernel_rfl) (bc (Zaj (fun h => d2 (i_ne.1 h))) (bc rfl b0)) q0 (ce (@ev35 (x) (y) (z)) c0) ?_
  rcases xq H with ⟨d4,H⟩|⟨d4,H⟩
  ·exact Zag (G:=Zab kp12 [] []) 1000 [true] (tu [vi 0,vi 11]) (by kernel_rfl) (bc (Zak ((ZaQ Zaa).2 d4)) b0) q0 c0 H
  ·obtain ⟨k5,H⟩:=H
   have w6:wi (s * Sp.rea 0 r) = s * Sp.rea 0 r:=wI64 k5
   obtain ⟨k7,H⟩:=H
   have w8:wi (x + s * Sp.rea 0 r) = x + s * Sp.rea 0 r:=wI64 k7
   refine Zac (G:=Zab kp12 [(6,1,.call (AV.ptr 0 0 0 0) none),(6,7,.call (vi (Sp.rea 0 r)) none),(7,1,.call (vb (decide (Sp.pM (x + s * Sp.rea 0 r)))) none)] [(6,[1001])]) 7 [false] ⟨(atC (cd Try.f12) [1,1,1,1,0,1]),[(11,vi (wi (x + wi (s * Sp.rea 0 r)))),(34,vb !decide (Sp.pM (x + s * Sp.rea 0 r)))],[⟨[(zNpC1 x y z)],3,0,false,false⟩],_,[],[⟨true,true,37,[AV.ptr 0 0 0 0,vi 0],[⟨[(zNpC1 x y z)],3,0,false,false⟩],AV.ptr 0 0 0 0,[⟨[(zNpC1 x y z)],3,0,false,false⟩]⟩,⟨true,false,40,[vi 0,vi r],[],vi (Sp.rea 0 r),[]⟩,⟨true,false,49,[vi (wi (x + wi (s * Sp.rea 0 r)))],[],vb (decide (Sp.pM (x + s * Sp.rea 0 r))),[]⟩]⟩ (by kernel_rfl) (bc (Zaj (fun h => d4 ((ZaQ Zaa).1 h))) (bc rfl b0)) q0 (cc (fun _ => (@evo37_a (x) (y) (z))) (cc (fun _ => (@ev40 (0) (r))) (cc (fun _ => (by (try rw [w6]);(try rw [w8]);all_goals exact (@ev49 (x + s * Sp.rea 0 r)))) c0))) ?_
   rcases xq H with ⟨d10,H⟩|⟨d10,H⟩
   ·exact Zag (G:=Zab kp12 [] []) 1000 [true] (tu [vi 0,vi 11]) (by kernel_rfl) (bc (Zak ((ZaQ Zaa).2 d10)) b0) q0 c0 H
   ·exact Zag (G:=Zab kp12 [] []) 1000 [false] (tu [vi (wi (x + wi (s * Sp.rea 0 r))),vi 0]) (by kernel_rfl) (bc (Zaj (fun h => d10 ((ZaQ Zaa).1 h))) b0) q0 c0 (by (try rw [w6]);(try rw [w8]);all_goals exact H)
noncomputable abbrev zNpC2 (x:Int) (y:Int) (z:Int):=ag [vi x,vi y,vi z]
theorem pWall1 (x y z s r:Int)  (dq:AV) (H :
  ((¬Sp.chk 1 s r = 0) -> tu [vi 0,vi (Sp.chk 1 s r)] = dq) /\
  (¬(¬Sp.chk 1 s r = 0) -> ((¬(Sp.pP x y z)) -> tu [vi 0,vi 11] = dq) /\
   (¬(¬(Sp.pP x y z)) -> (-9223372036854775808 <= s * Sp.rea 1 r /\ s * Sp.rea 1 r <= 9223372036854775807) /\
    (-9223372036854775808 <= y + s * Sp.rea 1 r /\ y + s * Sp.rea 1 r <= 9223372036854775807) /\
    ((¬(Sp.pM (y + s * Sp.rea 1 r))) -> tu [vi 0,vi 11] = dq) /\
    (¬(¬(Sp.pM (y + s * Sp.rea 1 r))) -> tu [vi (y + s * Sp.rea 1 r),vi 0] = dq)))) :
 pWall1_at x y z s r (Zae dq):=by
 unfold pWall1_at
 refine Zac (G:=Zab kp12 [(1,3,.call (vi (Sp.chk 1 s r)) none)] []) 7 [] ⟨(atC (cd Try.f12) [1,0,1,1]),[(1,vi 1),(2,vi s),(3,vi r),(4,AV.ptr 0 0 0 0),(10,vi (Sp.chk 1 s r)),(17,vb (Sp.chk 1 s r != 0))],[⟨[(zNpC2 x y z)],3,0,false,false⟩],_,[],_⟩ (by kernel_rfl) b0 q0 (ce (@ev34 (1) (s) (r)) c0) ?_
 rcases xq H with ⟨d2,H⟩|⟨d2,H⟩
 ·exact Zag (G:=Zab kp12 [] []) 1000 [true] (tu [vi 0,vi (Sp.chk 1 s r)]) (by kernel_rfl) (bc (Zak (i_ne.2 d2)) b0) q0 c0 H
 ·refine Zac (G:=Zab kp12 [(4,1,.call (vb (decide (Sp.pP x y z))) none)] []) 5 [false] ⟨(atC (cd Try.f12) [1,1,0,1]),[(1,vi 1),(2,vi s),(3,vi r),(4,AV.ptr 0 0 0 0),(21,vb !decide (Sp.pP x y z))],[⟨[(zNpC2 x y z)],3,0,false,false⟩],_,[],_⟩ (by kernel_rfl) (bc (Zaj (fun h => d2 (i_ne.1 h))) (bc rfl b0)) q0 (ce (@ev35 (x) (y) (z)) c0) ?_
  rcases xq H with ⟨d4,H⟩|⟨d4,H⟩
  ·exact Zag (G:=Zab kp12 [] []) 1000 [true] (tu [vi 0,vi 11]) (by kernel_rfl) (bc (Zak ((ZaQ Zaa).2 d4)) b0) q0 c0 H
  ·obtain ⟨k5,H⟩:=H
   have w6:wi (s * Sp.rea 1 r) = s * Sp.rea 1 r:=wI64 k5
   obtain ⟨k7,H⟩:=H
   have w8:wi (y + s * Sp.rea 1 r) = y + s * Sp.rea 1 r:=wI64 k7
   refine Zac (G:=Zab kp12 [(6,1,.call (AV.ptr 0 0 0 1) none),(6,7,.call (vi (Sp.rea 1 r)) none),(7,1,.call (vb (decide (Sp.pM (y + s * Sp.rea 1 r)))) none)] [(6,[1001])]) 7 [false] ⟨(atC (cd Try.f12) [1,1,1,1,0,1]),[(11,vi (wi (y + wi (s * Sp.rea 1 r)))),(34,vb !decide (Sp.pM (y + s * Sp.rea 1 r)))],[⟨[(zNpC2 x y z)],3,0,false,false⟩],_,[],[⟨true,true,37,[AV.ptr 0 0 0 0,vi 1],[⟨[(zNpC2 x y z)],3,0,false,false⟩],AV.ptr 0 0 0 1,[⟨[(zNpC2 x y z)],3,0,false,false⟩]⟩,⟨true,false,40,[vi 1,vi r],[],vi (Sp.rea 1 r),[]⟩,⟨true,false,49,[vi (wi (y + wi (s * Sp.rea 1 r)))],[],vb (decide (Sp.pM (y + s * Sp.rea 1 r))),[]⟩]⟩ (by kernel_rfl) (bc (Zaj (fun h => d4 ((ZaQ Zaa).1 h))) (bc rfl b0)) q0 (cc (fun _ => (@evo37_b (x) (y) (z))) (cc (fun _ => (@ev40 (1) (r))) (cc (fun _ => (by (try rw [w6]);(try rw [w8]);all_goals exact (@ev49 (y + s * Sp.rea 1 r)))) c0))) ?_
   rcases xq H with ⟨d10,H⟩|⟨d10,H⟩
   ·exact Zag (G:=Zab kp12 [] []) 1000 [true] (tu [vi 0,vi 11]) (by kernel_rfl) (bc (Zak ((ZaQ Zaa).2 d10)) b0) q0 c0 H
   ·exact Zag (G:=Zab kp12 [] []) 1000 [false] (tu [vi (wi (y + wi (s * Sp.rea 1 r))),vi 0]) (by kernel_rfl) (bc (Zaj (fun h => d10 ((ZaQ Zaa).1 h))) b0) q0 c0 (by (try rw [w6]);(try rw [w8]);all_goals exact H)
noncomputable abbrev zNpC3 (x:Int) (y:Int) (z:Int):=ag [vi x,vi y,vi z]
theorem pWall2 (x y z s r:Int)  (dq:AV) (H :
  ((¬Sp.chk 2 s r = 0) -> tu [vi 0,vi (Sp.chk 2 s r)] = dq) /\
  (¬(¬Sp.chk 2 s r = 0) -> ((¬(Sp.pP x y z)) -> tu [vi 0,vi 11] = dq) /\
   (¬(¬(Sp.pP x y z)) -> (-9223372036854775808 <= s * Sp.rea 2 r /\ s * Sp.rea 2 r <= 9223372036854775807) /\
    (-9223372036854775808 <= z + s * Sp.rea 2 r /\ z + s * Sp.rea 2 r <= 9223372036854775807) /\
    ((¬(Sp.pM (z + s * Sp.rea 2 r))) -> tu [vi 0,vi 11] = dq) /\
    (¬(¬(Sp.pM (z + s * Sp.rea 2 r))) -> tu [vi (z + s * Sp.rea 2 r),vi 0] = dq)))) :
 pWall2_at x y z s r (Zae dq):=by
 unfold pWall2_at
 refine Zac (G:=Zab kp12 [(1,3,.call (vi (Sp.chk 2 s r)) none)] []) 7 [] ⟨(atC (cd Try.f12) [1,0,1,1]),[(1,vi 2),(2,vi s),(3,vi r),(4,AV.ptr 0 0 0 0),(10,vi (Sp.chk 2 s r)),(17,vb (Sp.chk 2 s r != 0))],[⟨[(zNpC3 x y z)],3,0,false,false⟩],_,[],_⟩ (by kernel_rfl) b0 q0 (ce (@ev34 (2) (s) (r)) c0) ?_
 rcases xq H with ⟨d2,H⟩|⟨d2,H⟩
 ·exact Zag (G:=Zab kp12 [] []) 1000 [true] (tu [vi 0,vi (Sp.chk 2 s r)]) (by kernel_rfl) (bc (Zak (i_ne.2 d2)) b0) q0 c0 H
 ·refine Zac (G:=Zab kp12 [(4,1,.call (vb (decide (Sp.pP x y z))) none)] []) 5 [false] ⟨(atC (cd Try.f12) [1,1,0,1]),[(1,vi 2),(2,vi s),(3,vi r),(4,AV.ptr 0 0 0 0),(21,vb !decide (Sp.pP x y z))],[⟨[(zNpC3 x y z)],3,0,false,false⟩],_,[],_⟩ (by kernel_rfl) (bc (Zaj (fun h => d2 (i_ne.1 h))) (bc rfl b0)) q0 (ce (@ev35 (x) (y) (z)) c0) ?_
  rcases xq H with ⟨d4,H⟩|⟨d4,H⟩
  ·exact Zag (G:=Zab kp12 [] []) 1000 [true] (tu [vi 0,vi 11]) (by kernel_rfl) (bc (Zak ((ZaQ Zaa).2 d4)) b0) q0 c0 H
  ·obtain ⟨k5,H⟩:=H
   have w6:wi (s * Sp.rea 2 r) = s * Sp.rea 2 r:=wI64 k5
   obtain ⟨k7,H⟩:=H
   have w8:wi (z + s * Sp.rea 2 r) = z + s * Sp.rea 2 r:=wI64 k7
   refine Zac (G:=Zab kp12 [(6,1,.call (AV.ptr 0 0 0 2) none),(6,7,.call (vi (Sp.rea 2 r)) none),(7,1,.call (vb (decide (Sp.pM (z + s * Sp.rea 2 r)))) none)] [(6,[1001])]) 7 [false] ⟨(atC (cd Try.f12) [1,1,1,1,0,1]),[(11,vi (wi (z + wi (s * Sp.rea 2 r)))),(34,vb !decide (Sp.pM (z + s * Sp.rea 2 r)))],[⟨[(zNpC3 x y z)],3,0,false,false⟩],_,[],[⟨true,true,37,[AV.ptr 0 0 0 0,vi 2],[⟨[(zNpC3 x y z)],3,0,false,false⟩],AV.ptr 0 0 0 2,[⟨[(zNpC3 x y z)],3,0,false,false⟩]⟩,⟨true,false,40,[vi 2,vi r],[],vi (Sp.rea 2 r),[]⟩,⟨true,false,49,[vi (wi (z + wi (s * Sp.rea 2 r)))],[],vb (decide (Sp.pM (z + s * Sp.rea 2 r))),[]⟩]⟩ (by kernel_rfl) (bc (Zaj (fun h => d4 ((ZaQ Zaa).1 h))) (bc rfl b0)) q0 (cc (fun _ => (@evo37_c (x) (y) (z))) (cc (fun _ => (@ev40 (2) (r))) (cc (fun _ => (by (try rw [w6]);(try rw [w8]);all_goals exact (@ev49 (z + s * Sp.rea 2 r)))) c0))) ?_
   rcases xq H with ⟨d10,H⟩|⟨d10,H⟩
   ·exact Zag (G:=Zab kp12 [] []) 1000 [true] (tu [vi 0,vi 11]) (by kernel_rfl) (bc (Zak ((ZaQ Zaa).2 d10)) b0) q0 c0 H
   ·exact Zag (G:=Zab kp12 [] []) 1000 [false] (tu [vi (wi (z + wi (s * Sp.rea 2 r))),vi 0]) (by kernel_rfl) (bc (Zaj (fun h => d10 ((ZaQ Zaa).1 h))) b0) q0 c0 (by (try rw [w6]);(try rw [w8]);all_goals exact H)
noncomputable abbrev zNpC4 (u:Int) (v:Int) (w:Int):=ag [vi u,vi v,vi w]
theorem pMidX (x y z u v w a:Int)  (dq:AV) (H :
  (((a < 0) \/ (a > 2)) -> tu [vi 0,vi 1] = dq) /\
  (¬((a < 0) \/ (a > 2)) -> (((¬(Sp.pP x y z)) \/ (¬(Sp.pP u v w))) -> tu [vi 0,vi 11] = dq) /\
   (¬((¬(Sp.pP x y z)) \/ (¬(Sp.pP u v w))) -> False))) :
 pMidX_at x y z u v w a (Zae dq):=by
 unfold pMidX_at
 rcases xq H with ⟨d2,H⟩|⟨d2,H⟩
 ·exact Zag (G:=Zab kp25 [] []) 1000 [true] (tu [vi 0,vi 1]) (by kernel_rfl) (bc (Zak ((ZaX Zaa Zaa).2 d2)) b0) q0 c0 H
 ·refine Zac (G:=Zab kp25 [(3,1,.call (vb (decide (Sp.pP x y z))) none),(3,5,.call (vb (decide (Sp.pP u v w))) none)] []) 10 [false] ⟨(atC (cd Try.f25) [1,1,0,1]),[(2,vi a),(3,AV.ptr 0 0 0 0),(4,AV.ptr 1 0 0 0),(21,vb (bif !decide (Sp.pP x y z) then true else !decide (Sp.pP u v w)))],[⟨[ag [vi x,vi y,vi z]],3,0,false,false⟩,⟨[(zNpC4 u v w)],3,0,false,false⟩],[(bif decide (a < 0) then true else decide (a > 2)) == false,true,!((!decide (Sp.pP x y z)) == false && true) || true],[],[⟨true,false,35,[ag [vi x,vi y,vi z]],[],vb (decide (Sp.pP x y z)),[]⟩,⟨(!decide (Sp.pP x y z)) == false && true && true,false,35,[(zNpC4 u v w)],[],vb (decide (Sp.pP u v w)),[]⟩]⟩ (by kernel_rfl) (bc (Zaj (fun h => d2 ((ZaX Zaa Zaa).1 h))) (bc rfl (bc (Bool.or_true _) b0))) q0 (cc (fun _ => (@ev35 (x) (y) (z))) (cc (fun hc => ((@ev35 (u) (v) (w)):Ev M1 (Conf.pure 35 [(zNpC4 u v w)]) (vb (decide (Sp.pP u v w))) [])) c0)) ?_
  rcases xq H with ⟨d5,H⟩|⟨d5,H⟩
  ·exact Zag (G:=Zab kp25 [] []) 1000 [true] (tu [vi 0,vi 11]) (by kernel_rfl) (bc (Zak ((ZaX (ZaQ Zaa) (ZaQ Zaa)).2 d5)) b0) q0 c0 H
  ·exact False.elim H
noncomputable abbrev zNpC5 (u:Int) (v:Int) (w:Int):=ag [vi u,vi v,vi w]
noncomputable abbrev zNpC6 (x:Int) (y:Int) (z:Int):=ag [vi x,vi y,vi z]
theorem pMid0 (x y z u v w:Int)  (dq:AV) (H :
  (((¬(Sp.pP x y z)) \/ (¬(Sp.pP u v w))) -> tu [vi 0,vi 11] = dq) /\
  (¬((¬(Sp.pP x y z)) \/ (¬(Sp.pP u v w))) -> (-9223372036854775808 <= x + u /\ x + u <= 9223372036854775807) /\
   tu [vi ((x + u).fdiv (2 ^ min (Int.toNat 1) IntKind.i64.bits)),vi 0] = dq)) :
 pMid0_at x y z u v w (Zae dq):=by
 unfold pMid0_at
 refine Zac (G:=Zab kp25 [(3,1,.call (vb (decide (Sp.pP x y z))) none),(3,5,.call (vb (decide (Sp.pP u v w))) none)] []) 10 [false] ⟨(atC (cd Try.f25) [1,1,0,1]),[(2,vi 0),(3,AV.ptr 0 0 0 0),(4,AV.ptr 1 0 0 0),(21,vb (bif !decide (Sp.pP x y z) then true else !decide (Sp.pP u v w)))],[⟨[(zNpC6 x y z)],3,0,false,false⟩,⟨[(zNpC5 u v w)],3,0,false,false⟩],[false == false,true,!((!decide (Sp.pP x y z)) == false && true) || true],[],[⟨true,false,35,[(zNpC6 x y z)],[],vb (decide (Sp.pP x y z)),[]⟩,⟨(!decide (Sp.pP x y z)) == false && true && true,false,35,[(zNpC5 u v w)],[],vb (decide (Sp.pP u v w)),[]⟩]⟩ (by kernel_rfl) (bc rfl (bc rfl (bc (Bool.or_true _) b0))) q0 (cc (fun _ => (@ev35 (x) (y) (z))) (cc (fun hc => ((@ev35 (u) (v) (w)):Ev M1 (Conf.pure 35 [(zNpC5 u v w)]) (vb (decide (Sp.pP u v w))) [])) c0)) ?_
 rcases xq H with ⟨d3,H⟩|⟨d3,H⟩
 ·exact Zag (G:=Zab kp25 [] []) 1000 [true] (tu [vi 0,vi 11]) (by kernel_rfl) (bc (Zak ((ZaX (ZaQ Zaa) (ZaQ Zaa)).2 d3)) b0) q0 c0 H
 ·obtain ⟨k4,H⟩:=H
  have w5:wi (x + u) = x + u:=wI64 k4
  exact Zag (G:=Zab kp25 [(5,1,.call (AV.ptr 0 0 0 0) none),(5,5,.call (AV.ptr 0 0 0 0) none)] [(5,[1005,1001])]) 1000 [false] (calls:=[⟨true,true,37,[AV.ptr 0 0 0 0,vi 0],[⟨[(zNpC6 x y z)],3,0,false,false⟩],AV.ptr 0 0 0 0,[⟨[(zNpC6 x y z)],3,0,false,false⟩]⟩,⟨true,true,37,[AV.ptr 0 0 0 0,vi 0],[⟨[(zNpC5 u v w)],3,0,false,false⟩],AV.ptr 0 0 0 0,[⟨[(zNpC5 u v w)],3,0,false,false⟩]⟩]) (tu [vi ((wi (x + u)).fdiv (2 ^ min (Int.toNat 1) IntKind.i64.bits)),vi 0]) (by kernel_rfl) (bc (Zaj (fun h => d3 ((ZaX (ZaQ Zaa) (ZaQ Zaa)).1 h))) (bc rfl (bc rfl (bc rfl b0)))) q0 (cc (fun _ => (@evo37_a (x) (y) (z))) (cc (fun _ => (@evo37_a (u) (v) (w))) c0)) (by (try rw [w5]);all_goals exact H)
noncomputable abbrev zNpC7 (u:Int) (v:Int) (w:Int):=ag [vi u,vi v,vi w]
noncomputable abbrev zNpC8 (x:Int) (y:Int) (z:Int):=ag [vi x,vi y,vi z]
theorem pMid1 (x y z u v w:Int)  (dq:AV) (H :
  (((¬(Sp.pP x y z)) \/ (¬(Sp.pP u v w))) -> tu [vi 0,vi 11] = dq) /\
  (¬((¬(Sp.pP x y z)) \/ (¬(Sp.pP u v w))) -> (-9223372036854775808 <= y + v /\ y + v <= 9223372036854775807) /\
   tu [vi ((y + v).fdiv (2 ^ min (Int.toNat 1) IntKind.i64.bits)),vi 0] = dq)) :
 pMid1_at x y z u v w (Zae dq):=by
 unfold pMid1_at
 refine Zac (G:=Zab kp25 [(3,1,.call (vb (decide (Sp.pP x y z))) none),(3,5,.call (vb (decide (Sp.pP u v w))) none)] []) 10 [false] ⟨(atC (cd Try.f25) [1,1,0,1]),[(2,vi 1),(3,AV.ptr 0 0 0 0),(4,AV.ptr 1 0 0 0),(21,vb (bif !decide (Sp.pP x y z) then true else !decide (Sp.pP u v w)))],[⟨[(zNpC8 x y z)],3,0,false,false⟩,⟨[(zNpC7 u v w)],3,0,false,false⟩],[false == false,true,!((!decide (Sp.pP x y z)) == false && true) || true],[],[⟨true,false,35,[(zNpC8 x y z)],[],vb (decide (Sp.pP x y z)),[]⟩,⟨(!decide (Sp.pP x y z)) == false && true && true,false,35,[(zNpC7 u v w)],[],vb (decide (Sp.pP u v w)),[]⟩]⟩ (by kernel_rfl) (bc rfl (bc rfl (bc (Bool.or_true _) b0))) q0 (cc (fun _ => (@ev35 (x) (y) (z))) (cc (fun hc => ((@ev35 (u) (v) (w)):Ev M1 (Conf.pure 35 [(zNpC7 u v w)]) (vb (decide (Sp.pP u v w))) [])) c0)) ?_
 rcases xq H with ⟨d3,H⟩|⟨d3,H⟩
 ·exact Zag (G:=Zab kp25 [] []) 1000 [true] (tu [vi 0,vi 11]) (by kernel_rfl) (bc (Zak ((ZaX (ZaQ Zaa) (ZaQ Zaa)).2 d3)) b0) q0 c0 H
 ·obtain ⟨k4,H⟩:=H
  have w5:wi (y + v) = y + v:=wI64 k4
  exact Zag (G:=Zab kp25 [(5,1,.call (AV.ptr 0 0 0 1) none),(5,5,.call (AV.ptr 0 0 0 1) none)] [(5,[1005,1001])]) 1000 [false] (calls:=[⟨true,true,37,[AV.ptr 0 0 0 0,vi 1],[⟨[(zNpC8 x y z)],3,0,false,false⟩],AV.ptr 0 0 0 1,[⟨[(zNpC8 x y z)],3,0,false,false⟩]⟩,⟨true,true,37,[AV.ptr 0 0 0 0,vi 1],[⟨[(zNpC7 u v w)],3,0,false,false⟩],AV.ptr 0 0 0 1,[⟨[(zNpC7 u v w)],3,0,false,false⟩]⟩]) (tu [vi ((wi (y + v)).fdiv (2 ^ min (Int.toNat 1) IntKind.i64.bits)),vi 0]) (by kernel_rfl) (bc (Zaj (fun h => d3 ((ZaX (ZaQ Zaa) (ZaQ Zaa)).1 h))) (bc rfl (bc rfl (bc rfl b0)))) q0 (cc (fun _ => (@evo37_b (x) (y) (z))) (cc (fun _ => (@evo37_b (u) (v) (w))) c0)) (by (try rw [w5]);all_goals exact H)
noncomputable abbrev zNpC9 (u:Int) (v:Int) (w:Int):=ag [vi u,vi v,vi w]
noncomputable abbrev zNpC10 (x:Int) (y:Int) (z:Int):=ag [vi x,vi y,vi z]
theorem pMid2 (x y z u v w:Int)  (dq:AV) (H :
  (((¬(Sp.pP x y z)) \/ (¬(Sp.pP u v w))) -> tu [vi 0,vi 11] = dq) /\
  (¬((¬(Sp.pP x y z)) \/ (¬(Sp.pP u v w))) -> (-9223372036854775808 <= z + w /\ z + w <= 9223372036854775807) /\
   tu [vi ((z + w).fdiv (2 ^ min (Int.toNat 1) IntKind.i64.bits)),vi 0] = dq)) :
 pMid2_at x y z u v w (Zae dq):=by
 unfold pMid2_at
 refine Zac (G:=Zab kp25 [(3,1,.call (vb (decide (Sp.pP x y z))) none),(3,5,.call (vb (decide (Sp.pP u v w))) none)] []) 10 [false] ⟨(atC (cd Try.f25) [1,1,0,1]),[(2,vi 2),(3,AV.ptr 0 0 0 0),(4,AV.ptr 1 0 0 0),(21,vb (bif !decide (Sp.pP x y z) then true else !decide (Sp.pP u v w)))],[⟨[(zNpC10 x y z)],3,0,false,false⟩,⟨[(zNpC9 u v w)],3,0,false,false⟩],[false == false,true,!((!decide (Sp.pP x y z)) == false && true) || true],[],[⟨true,false,35,[(zNpC10 x y z)],[],vb (decide (Sp.pP x y z)),[]⟩,⟨(!decide (Sp.pP x y z)) == false && true && true,false,35,[(zNpC9 u v w)],[],vb (decide (Sp.pP u v w)),[]⟩]⟩ (by kernel_rfl) (bc rfl (bc rfl (bc (Bool.or_true _) b0))) q0 (cc (fun _ => (@ev35 (x) (y) (z))) (cc (fun hc => ((@ev35 (u) (v) (w)):Ev M1 (Conf.pure 35 [(zNpC9 u v w)]) (vb (decide (Sp.pP u v w))) [])) c0)) ?_
 rcases xq H with ⟨d3,H⟩|⟨d3,H⟩
 ·exact Zag (G:=Zab kp25 [] []) 1000 [true] (tu [vi 0,vi 11]) (by kernel_rfl) (bc (Zak ((ZaX (ZaQ Zaa) (ZaQ Zaa)).2 d3)) b0) q0 c0 H
 ·obtain ⟨k4,H⟩:=H
  have w5:wi (z + w) = z + w:=wI64 k4
  exact Zag (G:=Zab kp25 [(5,1,.call (AV.ptr 0 0 0 2) none),(5,5,.call (AV.ptr 0 0 0 2) none)] [(5,[1005,1001])]) 1000 [false] (calls:=[⟨true,true,37,[AV.ptr 0 0 0 0,vi 2],[⟨[(zNpC10 x y z)],3,0,false,false⟩],AV.ptr 0 0 0 2,[⟨[(zNpC10 x y z)],3,0,false,false⟩]⟩,⟨true,true,37,[AV.ptr 0 0 0 0,vi 2],[⟨[(zNpC9 u v w)],3,0,false,false⟩],AV.ptr 0 0 0 2,[⟨[(zNpC9 u v w)],3,0,false,false⟩]⟩]) (tu [vi ((wi (z + w)).fdiv (2 ^ min (Int.toNat 1) IntKind.i64.bits)),vi 0]) (by kernel_rfl) (bc (Zaj (fun h => d3 ((ZaX (ZaQ Zaa) (ZaQ Zaa)).1 h))) (bc rfl (bc rfl (bc rfl b0)))) q0 (cc (fun _ => (@evo37_c (x) (y) (z))) (cc (fun _ => (@evo37_c (u) (v) (w))) c0)) (by (try rw [w5]);all_goals exact H)
noncomputable abbrev zNpC13 (u:Int) (v:Int) (w:Int):=ag [vi u,vi v,vi w]
noncomputable abbrev zNpC14 (x:Int) (y:Int) (z:Int):=ag [vi x,vi y,vi z]
theorem pMidR (x y z u v w a:Int)  (dq:AV) (H :
  (((a < 0) \/ (a > 2)) -> tu [vi 0,vi 1] = dq) /\
  (¬((a < 0) \/ (a > 2)) -> (((¬(Sp.pP x y z)) \/ (¬(Sp.pP u v w))) -> tu [vi 0,vi 11] = dq) /\
   (¬((¬(Sp.pP x y z)) \/ (¬(Sp.pP u v w))) -> (-9223372036854775808 <= Sp.alg x y z a + Sp.alg u v w a /\ Sp.alg x y z a + Sp.alg u v w a <= 9223372036854775807) /\
    (-40000000 <= Sp.alg x y z a + Sp.alg u v w a /\ Sp.alg x y z a + Sp.alg u v w a <= 40000000) /\
    tu [vi ((Sp.alg x y z a + Sp.alg u v w a) / 2),vi 0] = dq))) :
 pMidR_at x y z u v w a (Zae dq):=by
 unfold pMidR_at
 rcases xq H with ⟨d2,H⟩|⟨d2,H⟩
 ·exact Zag (G:=Zab kp26 [] []) 1000 [true] (tu [vi 0,vi 1]) (by kernel_rfl) (bc (Zak ((ZaX Zaa Zaa).2 d2)) b0) q0 c0 H
 ·refine Zac (G:=Zab kp26 [(3,1,.call (vb (decide (Sp.pP x y z))) none),(3,5,.call (vb (decide (Sp.pP u v w))) none)] []) 10 [false] ⟨(atC (cd Try.f26) [1,1,0,1]),[(2,vi a),(3,AV.ptr 0 0 0 0),(4,AV.ptr 1 0 0 0),(21,vb (bif !decide (Sp.pP x y z) then true else !decide (Sp.pP u v w)))],[⟨[(zNpC14 x y z)],3,0,false,false⟩,⟨[(zNpC13 u v w)],3,0,false,false⟩],[(bif decide (a < 0) then true else decide (a > 2)) == false,true,!((!decide (Sp.pP x y z)) == false && true) || true],[],[⟨true,false,51,[(zNpC14 x y z)],[],vb (decide (Sp.pP x y z)),[]⟩,⟨(!decide (Sp.pP x y z)) == false && true && true,false,51,[(zNpC13 u v w)],[],vb (decide (Sp.pP u v w)),[]⟩]⟩ (by kernel_rfl) (bc (Zaj (fun h => d2 ((ZaX Zaa Zaa).1 h))) (bc rfl (bc (Bool.or_true _) b0))) q0 (cc (fun _ => (@ev51 (x) (y) (z))) (cc (fun hc => ((@ev51 (u) (v) (w)):Ev M1 (Conf.pure 51 [(zNpC13 u v w)]) (vb (decide (Sp.pP u v w))) [])) c0)) ?_
  rcases xq H with ⟨d5,H⟩|⟨d5,H⟩
  ·exact Zag (G:=Zab kp26 [] []) 1000 [true] (tu [vi 0,vi 11]) (by kernel_rfl) (bc (Zak ((ZaX (ZaQ Zaa) (ZaQ Zaa)).2 d5)) b0) q0 c0 H
  ·obtain ⟨k6,H⟩:=H
   have w7:wi (Sp.alg x y z a + Sp.alg u v w a) = Sp.alg x y z a + Sp.alg u v w a:=wI64 k6
   obtain ⟨k8,H⟩:=H
   exact Zag (G:=Zab kp26 [(5,2,.call (vi (Sp.alg x y z a)) none),(5,5,.call (vi (Sp.alg u v w a)) none),(5,7,.call (vi ((Sp.alg x y z a + Sp.alg u v w a) / 2)) none)] []) 1000 [false] (calls:=[pc 57 [(zNpC14 x y z),vi a] (vi (Sp.alg x y z a)),pc 57 [(zNpC13 u v w),vi a] (vi (Sp.alg u v w a)),pc 66 [vi (wi (Sp.alg x y z a + Sp.alg u v w a))] (vi ((Sp.alg x y z a + Sp.alg u v w a) / 2))]) (tu [vi ((Sp.alg x y z a + Sp.alg u v w a) / 2),vi 0]) (by kernel_rfl) (bc (Zaj (fun h => d5 ((ZaX (ZaQ Zaa) (ZaQ Zaa)).1 h))) (bc rfl (bc rfl b0))) q0 (ce (@ev57 (x) (y) (z) (a)) (ce (@ev57 (u) (v) (w) (a)) (ce (by (try rw [w7]);all_goals exact (@ev66 (Sp.alg x y z a + Sp.alg u v w a) k8)) c0))) H
end Go.Av

namespace Go.Av
open Go.Proofs
namespace Sp
def wal (x y z a s r:Int):Int:=alg x y z a+s*rea a r
def Zb3 (x y z a s r:Int):Int:=if pW a s r then (if pP x y z then (if pM (wal x y z a s r) then 0 else 11) else 11) else 1
def ZdF (x y z a s r:Int):Int:=if Zb3 x y z a s r=0 then wal x y z a s r else 0
def Zc0 (x y z u v w a:Int):Int:=if 0<=a/\a<=2 then (if pP x y z/\pP u v w then 0 else 11) else 1
def ZdO (x y z u v w a:Int):Int:=if Zc0 x y z u v w a=0 then (alg x y z a+alg u v w a) / 2 else 0
end Sp
theorem alg_in {x y z:Int} (h:Sp.pP x y z) (a:Int):Sp.pM (Sp.alg x y z a):=by
 unfold Sp.alg
 split
 ·exact h.1
 ·split
  ·exact h.2.1
  ·exact h.2.2
theorem sr_in {a s r:Int} (h:Sp.pW a s r):(-10000000 <= s * Sp.rea a r /\ s * Sp.rea a r <= 10000000) /\ -10000000 <= s * r /\ s * r <= 10000000:=by
 obtain ⟨h1,h2,h3⟩:=h
 unfold Sp.rea
 rcases h2 with rfl | rfl <;> split <;> omega
theorem wall_end {x y z a s r c d:Int} {dq:AV} (hw:Sp.pW a s r) (hp:Sp.pP x y z) (hc:c = Sp.alg x y z a) (hd:d = s * Sp.rea a r) (hq:AV.tup [.int .i64 (Sp.ZdF x y z a s r),.int .i64 (Sp.Zb3 x y z a s r)] = dq) :
  (-9223372036854775808 <= d /\ d <= 9223372036854775807) /\ (-9223372036854775808 <= c + d /\ c + d <= 9223372036854775807) /\ ((¬Sp.pM (c + d)) -> AV.tup [.int .i64 0,.int .i64 11] = dq) /\ (¬(¬Sp.pM (c + d)) -> AV.tup [.int .i64 (c + d),.int .i64 0] = dq):=by
 have b1:=alg_in hp a
 have b2:=(sr_in hw).1
 have e:c + d = Sp.wal x y z a s r:=by unfold Sp.wal;rw [hc,hd]
 rw [e]
 unfold Sp.pM at b1
 refine ⟨by omega,by unfold Sp.wal;omega,fun k => ?_,fun k => ?_⟩
 ·have e:Sp.Zb3 x y z a s r = 11:=by unfold Sp.Zb3;rw [if_pos hw,if_pos hp,if_neg k]
  unfold Sp.ZdF at hq;rw [e] at hq;exact hq
 ·have e:Sp.Zb3 x y z a s r = 0:=by unfold Sp.Zb3;rw [if_pos hw,if_pos hp,if_pos (Classical.not_not.1 k)]
  unfold Sp.ZdF at hq;rw [e,if_pos rfl] at hq;exact hq
theorem wall_no {x y z a s r:Int} (h:¬Sp.pW a s r):Sp.ZdF x y z a s r = 0 /\ Sp.Zb3 x y z a s r = 1:=by
 have e:Sp.Zb3 x y z a s r = 1:=if_neg h
 unfold Sp.ZdF;rw [e];exact ⟨rfl,rfl⟩
theorem wall_out {x y z a s r:Int} (h:Sp.pW a s r) (k:¬Sp.pP x y z):Sp.ZdF x y z a s r = 0 /\ Sp.Zb3 x y z a s r = 11:=by
 have e:Sp.Zb3 x y z a s r = 11:=by unfold Sp.Zb3;rw [if_pos h,if_neg k]
 unfold Sp.ZdF;rw [e];exact ⟨rfl,rfl⟩
theorem ZgH {a s r:Int}:Sp.chk a s r = 0 ↔ Sp.pW a s r:=by
 unfold Sp.chk
 by_cases h:Sp.pW a s r
 ·rw [if_pos h];exact ⟨fun _ => h,fun _ => rfl⟩
 ·rw [if_neg h];exact ⟨fun k => absurd k (by decide),fun k => absurd k h⟩
theorem ev12 (x y z a s r:Int):Ev M1 (.pure 12 [.agg [.int .i64 x,.int .i64 y,.int .i64 z],.int .i64 a,.int .i64 s,.int .i64 r]) (.tup [.int .i64 (Sp.ZdF x y z a s r),.int .i64 (Sp.Zb3 x y z a s r)]) []:=by
 by_cases h:Sp.pW a s r
 ·have c:=ZgH.2 h
  have o:¬Sp.pP x y z -> AV.tup [.int .i64 0,.int .i64 11] = AV.tup [.int .i64 (Sp.ZdF x y z a s r),.int .i64 (Sp.Zb3 x y z a s r)]:=fun k => by
   rw [(wall_out h k).1,(wall_out h k).2]
  have ha:a = 0 \/ a = 1 \/ a = 2:=by have:=h.1;omega
  rcases ha with rfl | rfl | rfl
  ·exact call12 (pWall0 _ _ _ _ _ _ ⟨fun k => absurd c k,fun _ => ⟨o,fun k => wall_end h (Classical.not_not.1 k) rfl rfl rfl⟩⟩)
  ·exact call12 (pWall1 _ _ _ _ _ _ ⟨fun k => absurd c k,fun _ => ⟨o,fun k => wall_end h (Classical.not_not.1 k) rfl rfl rfl⟩⟩)
  ·exact call12 (pWall2 _ _ _ _ _ _ ⟨fun k => absurd c k,fun _ => ⟨o,fun k => wall_end h (Classical.not_not.1 k) rfl rfl rfl⟩⟩)
 ·have c:¬Sp.chk a s r = 0:=fun k => h (ZgH.1 k)
  refine call12 (pWallX _ _ _ _ _ _ _ ⟨fun _ => ?_,fun k => absurd c k⟩)
  rw [(wall_no h).1,(wall_no h).2,show Sp.chk a s r = 1 from if_neg h]
theorem half_i {x:Int}:x.fdiv (2 ^ min (Int.toNat 1) IntKind.i64.bits) = x / 2:=by
 have e:(2:Int) ^ min (Int.toNat 1) IntKind.i64.bits = 2:=rfl
 rw [e,Int.fdiv_eq_ediv_of_nonneg x (by omega)]
theorem mid_out {x y z u v w a:Int} (h:0 <= a /\ a <= 2) (k:(¬Sp.pP x y z) \/ ¬Sp.pP u v w):AV.tup [.int .i64 0,.int .i64 11] = AV.tup [.int .i64 (Sp.ZdO x y z u v w a),.int .i64 (Sp.Zc0 x y z u v w a)]:=by
 have e:Sp.Zc0 x y z u v w a = 11:=by unfold Sp.Zc0;rw [if_pos h,if_neg fun q => k.elim (fun m => m q.1) fun m => m q.2]
 unfold Sp.ZdO;rw [e];rfl
theorem mid_ok {x y z u v w a:Int} (h:0 <= a /\ a <= 2) (k:¬((¬Sp.pP x y z) \/ ¬Sp.pP u v w)):(-20000000 <= Sp.alg x y z a + Sp.alg u v w a /\ Sp.alg x y z a + Sp.alg u v w a <= 20000000) /\ AV.tup [.int .i64 ((Sp.alg x y z a + Sp.alg u v w a) / 2),.int .i64 0] = AV.tup [.int .i64 (Sp.ZdO x y z u v w a),.int .i64 (Sp.Zc0 x y z u v w a)]:=by
 have q:Sp.pP x y z /\ Sp.pP u v w:=⟨Classical.not_not.1 fun m => k (.inl m),Classical.not_not.1 fun m => k (.inr m)⟩
 have b1:=alg_in q.1 a
 have b2:=alg_in q.2 a
 unfold Sp.pM at b1 b2
 have e:Sp.Zc0 x y z u v w a = 0:=by unfold Sp.Zc0;rw [if_pos h,if_pos q]
 refine ⟨by omega,?_⟩
 unfold Sp.ZdO;rw [e,if_pos rfl]
theorem ev25 (x y z u v w a:Int):Ev M1 (.pure 25 [.agg [.int .i64 x,.int .i64 y,.int .i64 z],.agg [.int .i64 u,.int .i64 v,.int .i64 w],.int .i64 a]) (.tup [.int .i64 (Sp.ZdO x y z u v w a),.int .i64 (Sp.Zc0 x y z u v w a)]) []:=by
 by_cases h:0 <= a /\ a <= 2
 ·have ha:a = 0 \/ a = 1 \/ a = 2:=by omega
  rcases ha with rfl | rfl | rfl
  ·refine call25 (pMid0 _ _ _ _ _ _ _ ⟨mid_out h,fun k => ?_⟩)
   rw [half_i]
   have m:=mid_ok h k
   exact ⟨by have:=m.1;unfold Sp.alg at this;simp at this;omega,m.2⟩
  ·refine call25 (pMid1 _ _ _ _ _ _ _ ⟨mid_out h,fun k => ?_⟩)
   rw [half_i]
   have m:=mid_ok h k
   exact ⟨by have:=m.1;unfold Sp.alg at this;simp at this;omega,m.2⟩
  ·refine call25 (pMid2 _ _ _ _ _ _ _ ⟨mid_out h,fun k => ?_⟩)
   rw [half_i]
   have m:=mid_ok h k
   exact ⟨by have:=m.1;unfold Sp.alg at this;simp at this;omega,m.2⟩
 ·refine call25 (pMidX _ _ _ _ _ _ _ _ ⟨fun _ => ?_,fun k => by omega⟩)
  have e:Sp.Zc0 x y z u v w a = 1:=if_neg h
  unfold Sp.ZdO;rw [e];rfl
theorem ev26 (x y z u v w a:Int):Ev M1 (.pure 26 [.agg [.int .i64 x,.int .i64 y,.int .i64 z],.agg [.int .i64 u,.int .i64 v,.int .i64 w],.int .i64 a]) (.tup [.int .i64 (Sp.ZdO x y z u v w a),.int .i64 (Sp.Zc0 x y z u v w a)]) []:=by
 refine call26 (pMidR _ _ _ _ _ _ _ _ ⟨fun h => ?_,fun h => ⟨mid_out (by omega),fun k => ?_⟩⟩)
 ·have e:Sp.Zc0 x y z u v w a = 1:=if_neg (by omega)
  unfold Sp.ZdO;rw [e];rfl
 ·have m:=mid_ok (a:=a) (by omega) k
  exact ⟨by omega,by omega,m.2⟩
end Go.Av

namespace Go.Av
open Go.Proofs
set_option maxRecDepth 100000
def fi19:Fi:=⟨36,[.cell 8 48,.tmp 9]⟩
def kp19:List (Nat × List Nat):=[(0,[4,5,6,7,8]),(1,[6,7,8,10,11]),(2,[8,10,11,12,13]),(3,[8,10,12,31]),(4,[8,9]),(5,[8,9])]
def fi20:Fi:=⟨36,[.cell 8 48,.tmp 9]⟩
def kp20:List (Nat × List Nat):=[(0,[4,5,6,7,8]),(1,[6,7,8,10,11]),(2,[8,10,11,12,13]),(3,[8,10,12,31]),(4,[8,9]),(5,[8,9])]
def pHole_at (x1 x2 x3 x4 x5 x6 x7 x8 x9 x10 x11 x12:Int) (Q:AV->Heap->Prop):Prop:=Wp M1 (.run fi19 (atC (cd Try.f19) []) [(0,.agg [.int .i64 x1,.int .i64 x2,.int .i64 x3]),(1,.agg [.int .i64 x4,.int .i64 x5,.int .i64 x6]),(2,.agg [.int .i64 x7,.int .i64 x8,.int .i64 x9]),(3,.agg [.int .i64 x10,.int .i64 x11,.int .i64 x12])] []) Q
def pHoleR_at (x1 x2 x3 x4 x5 x6 x7 x8 x9 x10 x11 x12:Int) (Q:AV->Heap->Prop):Prop:=Wp M1 (.run fi20 (atC (cd Try.f20) []) [(0,.agg [.int .i64 x1,.int .i64 x2,.int .i64 x3]),(1,.agg [.int .i64 x4,.int .i64 x5,.int .i64 x6]),(2,.agg [.int .i64 x7,.int .i64 x8,.int .i64 x9]),(3,.agg [.int .i64 x10,.int .i64 x11,.int .i64 x12])] []) Q
theorem call19 {args:List AV} {d:AV} (h:wc M1 fi19 Try.f19 args d):Ev M1 (.pure 19 args) d []:=pcl _ _ (by kernel_rfl) h
theorem call20 {args:List AV} {d:AV} (h:wc M1 fi20 Try.f20 args d):Ev M1 (.pure 20 args) d []:=pcl _ _ (by kernel_rfl) h
theorem pHole (x1 x2 x3 x4 x5 x6 x7 x8 x9 x10 x11 x12:Int)  (dq:AV) (H :
  (((¬Sp.Zc0 x1 x2 x3 x4 x5 x6 0 = 0) \/ (¬Sp.Zc0 x7 x8 x9 x10 x11 x12 1 = 0)) -> tu [ag [vi 0,vi 0],vi 11] = dq) /\
  (¬((¬Sp.Zc0 x1 x2 x3 x4 x5 x6 0 = 0) \/ (¬Sp.Zc0 x7 x8 x9 x10 x11 x12 1 = 0)) -> tu [ag [vi (Sp.ZdO x1 x2 x3 x4 x5 x6 0),vi (Sp.ZdO x7 x8 x9 x10 x11 x12 1)],vi 0] = dq)) :
 pHole_at x1 x2 x3 x4 x5 x6 x7 x8 x9 x10 x11 x12 (Zae dq):=by
 unfold pHole_at
 refine Zac (G:=Zab kp19 [(1,2,.call (tu [vi (Sp.ZdO x1 x2 x3 x4 x5 x6 0),vi (Sp.Zc0 x1 x2 x3 x4 x5 x6 0)]) none),(2,2,.call (tu [vi (Sp.ZdO x7 x8 x9 x10 x11 x12 1),vi (Sp.Zc0 x7 x8 x9 x10 x11 x12 1)]) none)] []) 9 [] ⟨(atC (cd Try.f19) [1,1,1,0,1]),[(8,AV.ptr 4 0 0 0),(10,vi (Sp.ZdO x1 x2 x3 x4 x5 x6 0)),(12,vi (Sp.ZdO x7 x8 x9 x10 x11 x12 1)),(31,vb (bif Sp.Zc0 x1 x2 x3 x4 x5 x6 0 != 0 then true else Sp.Zc0 x7 x8 x9 x10 x11 x12 1 != 0))],[⟨[ag [vi x1,vi x2,vi x3]],3,0,false,false⟩,⟨[ag [vi x4,vi x5,vi x6]],3,0,false,false⟩,⟨[ag [vi x7,vi x8,vi x9]],3,0,false,false⟩,⟨[ag [vi x10,vi x11,vi x12]],3,0,false,false⟩,⟨[ag [vi 0,vi 0]],2,0,false,false⟩],_,[],_⟩ (by kernel_rfl) (bc rfl (bc rfl (bc rfl (bc rfl b0)))) q0 (ce (@ev25 (x1) (x2) (x3) (x4) (x5) (x6) (0)) (ce (@ev25 (x7) (x8) (x9) (x10) (x11) (x12) (1)) c0)) ?_
 rcases xq H with ⟨d2,H⟩|⟨d2,H⟩
 ·exact Zag (G:=Zab kp19 [] []) 1000 [true] (tu [ag [vi 0,vi 0],vi 11]) (by kernel_rfl) (bc (Zak ((ZaX i_ne i_ne).2 d2)) (bc rfl b0)) q0 c0 H
 ·exact Zag (G:=Zab kp19 [] []) 1000 [false] (tu [ag [vi (Sp.ZdO x1 x2 x3 x4 x5 x6 0),vi (Sp.ZdO x7 x8 x9 x10 x11 x12 1)],vi 0]) (by kernel_rfl) (bc (Zaj (fun h => d2 ((ZaX i_ne i_ne).1 h))) (bc rfl b0)) q0 c0 H
theorem pHoleR (x1 x2 x3 x4 x5 x6 x7 x8 x9 x10 x11 x12:Int)  (dq:AV) (H :
  (((¬Sp.Zc0 x1 x2 x3 x4 x5 x6 0 = 0) \/ (¬Sp.Zc0 x7 x8 x9 x10 x11 x12 1 = 0)) -> tu [ag [vi 0,vi 0],vi 11] = dq) /\
  (¬((¬Sp.Zc0 x1 x2 x3 x4 x5 x6 0 = 0) \/ (¬Sp.Zc0 x7 x8 x9 x10 x11 x12 1 = 0)) -> tu [ag [vi (Sp.ZdO x1 x2 x3 x4 x5 x6 0),vi (Sp.ZdO x7 x8 x9 x10 x11 x12 1)],vi 0] = dq)) :
 pHoleR_at x1 x2 x3 x4 x5 x6 x7 x8 x9 x10 x11 x12 (Zae dq):=by
 unfold pHoleR_at
 refine Zac (G:=Zab kp20 [(1,2,.call (tu [vi (Sp.ZdO x1 x2 x3 x4 x5 x6 0),vi (Sp.Zc0 x1 x2 x3 x4 x5 x6 0)]) none),(2,2,.call (tu [vi (Sp.ZdO x7 x8 x9 x10 x11 x12 1),vi (Sp.Zc0 x7 x8 x9 x10 x11 x12 1)]) none)] []) 9 [] ⟨(atC (cd Try.f20) [1,1,1,0,1]),[(8,AV.ptr 4 0 0 0),(10,vi (Sp.ZdO x1 x2 x3 x4 x5 x6 0)),(12,vi (Sp.ZdO x7 x8 x9 x10 x11 x12 1)),(31,vb (bif Sp.Zc0 x1 x2 x3 x4 x5 x6 0 != 0 then true else Sp.Zc0 x7 x8 x9 x10 x11 x12 1 != 0))],[⟨[ag [vi x1,vi x2,vi x3]],3,0,false,false⟩,⟨[ag [vi x4,vi x5,vi x6]],3,0,false,false⟩,⟨[ag [vi x7,vi x8,vi x9]],3,0,false,false⟩,⟨[ag [vi x10,vi x11,vi x12]],3,0,false,false⟩,⟨[ag [vi 0,vi 0]],2,0,false,false⟩],_,[],_⟩ (by kernel_rfl) (bc rfl (bc rfl (bc rfl (bc rfl b0)))) q0 (ce (@ev26 (x1) (x2) (x3) (x4) (x5) (x6) (0)) (ce (@ev26 (x7) (x8) (x9) (x10) (x11) (x12) (1)) c0)) ?_
 rcases xq H with ⟨d2,H⟩|⟨d2,H⟩
 ·exact Zag (G:=Zab kp20 [] []) 1000 [true] (tu [ag [vi 0,vi 0],vi 11]) (by kernel_rfl) (bc (Zak ((ZaX i_ne i_ne).2 d2)) (bc rfl b0)) q0 c0 H
 ·exact Zag (G:=Zab kp20 [] []) 1000 [false] (tu [ag [vi (Sp.ZdO x1 x2 x3 x4 x5 x6 0),vi (Sp.ZdO x7 x8 x9 x10 x11 x12 1)],vi 0]) (by kernel_rfl) (bc (Zaj (fun h => d2 ((ZaX i_ne i_ne).1 h))) (bc rfl b0)) q0 c0 H
end Go.Av

namespace Go.Av
open Go.Proofs
namespace Sp
def ZfF (x1 x2 x3 x4 x5 x6 x7 x8 x9 x10 x11 x12:Int):Int:=if Zc0 x1 x2 x3 x4 x5 x6 0=0/\Zc0 x7 x8 x9 x10 x11 x12 1=0 then 0 else 11
def holX (x1 x2 x3 x4 x5 x6 x7 x8 x9 x10 x11 x12:Int):Int:=if ZfF x1 x2 x3 x4 x5 x6 x7 x8 x9 x10 x11 x12=0 then ZdO x1 x2 x3 x4 x5 x6 0 else 0
def holY (x1 x2 x3 x4 x5 x6 x7 x8 x9 x10 x11 x12:Int):Int:=if ZfF x1 x2 x3 x4 x5 x6 x7 x8 x9 x10 x11 x12=0 then ZdO x7 x8 x9 x10 x11 x12 1 else 0
end Sp
theorem both_not {p q:Prop} (h:¬((¬p)\/(¬q))):p/\q:=⟨Classical.not_not.1 fun m=>h (.inl m),Classical.not_not.1 fun m=>h (.inr m)⟩
theorem not_both {p q:Prop} (h:(¬p)\/(¬q)):¬(p/\q):=fun k=>h.elim (fun m=>m k.1) fun m=>m k.2
theorem hol_1 {x1 x2 x3 x4 x5 x6 x7 x8 x9 x10 x11 x12:Int} (h:(¬Sp.Zc0 x1 x2 x3 x4 x5 x6 0 = 0) \/ ¬Sp.Zc0 x7 x8 x9 x10 x11 x12 1 = 0):AV.tup [.agg [.int .i64 0,.int .i64 0],.int .i64 11] = AV.tup [.agg [.int .i64 (Sp.holX x1 x2 x3 x4 x5 x6 x7 x8 x9 x10 x11 x12),.int .i64 (Sp.holY x1 x2 x3 x4 x5 x6 x7 x8 x9 x10 x11 x12)],.int .i64 (Sp.ZfF x1 x2 x3 x4 x5 x6 x7 x8 x9 x10 x11 x12)]:=by
 have e:Sp.ZfF x1 x2 x3 x4 x5 x6 x7 x8 x9 x10 x11 x12 = 11:=if_neg (not_both h)
 unfold Sp.holX Sp.holY;rw [e];rfl
theorem hol_2 {x1 x2 x3 x4 x5 x6 x7 x8 x9 x10 x11 x12:Int} (h:¬((¬Sp.Zc0 x1 x2 x3 x4 x5 x6 0 = 0) \/ ¬Sp.Zc0 x7 x8 x9 x10 x11 x12 1 = 0)):AV.tup [.agg [.int .i64 (Sp.ZdO x1 x2 x3 x4 x5 x6 0),.int .i64 (Sp.ZdO x7 x8 x9 x10 x11 x12 1)],.int .i64 0] = AV.tup [.agg [.int .i64 (Sp.holX x1 x2 x3 x4 x5 x6 x7 x8 x9 x10 x11 x12),.int .i64 (Sp.holY x1 x2 x3 x4 x5 x6 x7 x8 x9 x10 x11 x12)],.int .i64 (Sp.ZfF x1 x2 x3 x4 x5 x6 x7 x8 x9 x10 x11 x12)]:=by
 have e:Sp.ZfF x1 x2 x3 x4 x5 x6 x7 x8 x9 x10 x11 x12 = 0:=if_pos (both_not h)
 unfold Sp.holX Sp.holY;rw [e,if_pos rfl,if_pos rfl]
theorem ev19 (x1 x2 x3 x4 x5 x6 x7 x8 x9 x10 x11 x12:Int):Ev M1 (.pure 19 [.agg [.int .i64 x1,.int .i64 x2,.int .i64 x3],.agg [.int .i64 x4,.int .i64 x5,.int .i64 x6],.agg [.int .i64 x7,.int .i64 x8,.int .i64 x9],.agg [.int .i64 x10,.int .i64 x11,.int .i64 x12]]) (.tup [.agg [.int .i64 (Sp.holX x1 x2 x3 x4 x5 x6 x7 x8 x9 x10 x11 x12),.int .i64 (Sp.holY x1 x2 x3 x4 x5 x6 x7 x8 x9 x10 x11 x12)],.int .i64 (Sp.ZfF x1 x2 x3 x4 x5 x6 x7 x8 x9 x10 x11 x12)]) []:=
 call19 (pHole _ _ _ _ _ _ _ _ _ _ _ _ _ ⟨hol_1,hol_2⟩)
theorem ev20 (x1 x2 x3 x4 x5 x6 x7 x8 x9 x10 x11 x12:Int):Ev M1 (.pure 20 [.agg [.int .i64 x1,.int .i64 x2,.int .i64 x3],.agg [.int .i64 x4,.int .i64 x5,.int .i64 x6],.agg [.int .i64 x7,.int .i64 x8,.int .i64 x9],.agg [.int .i64 x10,.int .i64 x11,.int .i64 x12]]) (.tup [.agg [.int .i64 (Sp.holX x1 x2 x3 x4 x5 x6 x7 x8 x9 x10 x11 x12),.int .i64 (Sp.holY x1 x2 x3 x4 x5 x6 x7 x8 x9 x10 x11 x12)],.int .i64 (Sp.ZfF x1 x2 x3 x4 x5 x6 x7 x8 x9 x10 x11 x12)]) []:=
 call20 (pHoleR _ _ _ _ _ _ _ _ _ _ _ _ _ ⟨hol_1,hol_2⟩)
end Go.Av

namespace Go.Av
open Go.Proofs
set_option maxRecDepth 100000
def fi81:Fi:=⟨30,[.cell 4 28]⟩
def kp81:List (Nat × List Nat):=[(0,[0,1,4]),(1,[0,1,4,5]),(2,[0,1,4,5,17]),(3,[0,1,4,5]),(4,[4])]
def fi84:Fi:=⟨15,[.tmp 2]⟩
def kp84:List (Nat × List Nat):=[(0,[0]),(1,[2])]
def fi102:Fi:=⟨11,[.tmp 2]⟩
def kp102:List (Nat × List Nat):=[(0,[1]),(1,[1,3]),(2,[2]),(3,[6]),(4,[2]),(5,[2])]
def fi110:Fi:=⟨21,[.tmp 2]⟩
def kp110:List (Nat × List Nat):=[(0,[0]),(1,[0,14]),(2,[0]),(3,[2])]
def vTrim_at (fa:Bool) (a:List Int) (Q:AV->Heap->Prop):Prop:=Wp M1 (.run fi110 (atC (cd Try.f110) []) [(0,.vec fa 1 (a.map (.int .u32)))] []) Q
def Zc5 (fa:Bool) (a:List Int) (Q:AV->Heap->Prop):Prop:=Wp M1 (.run fi110 (atC (cd Try.f110) [1,0,0,0]) [(0,.vec fa 1 (a.map (.int .u32)))] []) Q
def Zge (s fa:Bool) (a:List Int) (Q:AV->Heap->Prop):Prop:=Wp M1 (.run fi81 (atC (cd Try.f81) []) [(0,.bool s),(1,.vec fa 1 (a.map (.int .u32)))] []) Q
def Zck (s fa:Bool) (a:List Int) (n:Int) (Q:AV->Heap->Prop):Prop:=Wp M1 (.run fi81 (atC (cd Try.f81) [1,1,0,0,0]) [(0,.bool s),(1,.vec fa 1 (a.map (.int .u32))),(4,.ptr 0 0 0 0),(5,.int .i64 n)] [⟨[.agg [.bool false,.vnil]],2,0,false,false⟩]) Q
def Ze8 (s:Bool) (Q:AV->Heap->Prop):Prop:=Wp M1 (.run fi81 (atC (cd Try.f81) []) [(0,.bool s),(1,.vnil)] []) Q
def Zc6 (s:Bool) (Q:AV->Heap->Prop):Prop:=Wp M1 (.run fi81 (atC (cd Try.f81) [1,1,0,0,0]) [(0,.bool s),(1,.vnil),(4,.ptr 0 0 0 0),(5,.int .i64 0)] [⟨[.agg [.bool false,.vnil]],2,0,false,false⟩]) Q
def vSplit_at (u:Int) (Q:AV->Heap->Prop):Prop:=Wp M1 (.run fi84 (atC (cd Try.f84) []) [(0,.int .u64 u)] []) Q
def vSign_at (fa:Bool) (v:Int) (Q:AV->Heap->Prop):Prop:=Wp M1 (.run fi102 (atC (cd Try.f102) []) [(0,bigA fa v)] []) Q
theorem call81 {args:List AV} {d:AV} (h:wc M1 fi81 Try.f81 args d):Ev M1 (.pure 81 args) d []:=pcl _ _ (by kernel_rfl) h
theorem call84 {args:List AV} {d:AV} (h:wc M1 fi84 Try.f84 args d):Ev M1 (.pure 84 args) d []:=pcl _ _ (by kernel_rfl) h
theorem call102 {args:List AV} {d:AV} (h:wc M1 fi102 Try.f102 args d):Ev M1 (.pure 102 args) d []:=pcl _ _ (by kernel_rfl) h
theorem call110 {args:List AV} {d:AV} (h:wc M1 fi110 Try.f110 args d):Ev M1 (.pure 110 args) d []:=pcl _ _ (by kernel_rfl) h
theorem vTrim (fa:Bool) (a:List Int)  (dq:AV) (H :
  Zc5 (fa) (a) (Zae dq)) :
 vTrim_at fa a (Zae dq):=by
 unfold vTrim_at
 exact Zac (G:=Zab kp110 [] []) 1000 [] ⟨(atC (cd Try.f110) [1,0,0,0]),[(0,AV.vec fa 1 (us a))],[],_,[],_⟩ (by kernel_rfl) b0 q0 c0 (H)
theorem vTrimA (fa:Bool) (a:List Int)  (dq:AV) (H :
  (-9223372036854775808 <= (↑a.length:Int) - 1 /\ (↑a.length:Int) - 1 <= 9223372036854775807) /\
  (((↑a.length:Int) > 0) -> (0 <= (↑a.length:Int) - 1)) /\
  (((↑a.length:Int) > 0) -> (((↑a.length:Int) - 1).toNat < a.length)) /\
  ((((↑a.length:Int) > 0) /\ (a.getD ((↑a.length:Int) - 1).toNat default = 0)) -> (0 <= (↑a.length:Int) - 1) /\
   (0 <= ((↑a.length:Int) - 1).toNat) /\
   (((↑a.length:Int) - 1).toNat <= a.length) /\
   Zc5 (fa && false) (List.drop 0 (List.take ((↑a.length:Int) - 1).toNat a)) (Zae dq)) /\
  (¬(((↑a.length:Int) > 0) /\ (a.getD ((↑a.length:Int) - 1).toNat default = 0)) -> Weak (AV.vec fa 1 (us a)) dq)) :
 Zc5 fa a (Zae dq):=by
 unfold Zc5
 have w1:(us a).length = a.length:=List.length_map ..
 obtain ⟨k2,H⟩:=H
 have w3:wi ((↑a.length:Int) - 1) = (↑a.length:Int) - 1:=wI64 k2
 have i4:(!(decide ((↑(us a).length:Int) > 0) == true && true) || decide (0 <= wi ((↑(us a).length:Int) - 1))) = true ↔ (((↑a.length:Int) > 0) -> (0 <= (↑a.length:Int) - 1)):=(by (try rw [w1]);(try rw [w3]);all_goals exact (ZeM (i_at (i_bt Zaa)) Zaa))
 obtain ⟨k5,H⟩:=H
 have i6:(!(decide ((↑(us a).length:Int) > 0) == true && true) || decide ((wi ((↑(us a).length:Int) - 1)).toNat < (us a).length)) = true ↔ (((↑a.length:Int) > 0) -> (((↑a.length:Int) - 1).toNat < a.length)):=(by (try rw [w1]);(try rw [w3]);all_goals exact (ZeM (i_at (i_bt Zaa)) Zaa))
 obtain ⟨k7,H⟩:=H
 have i9:(bif decide ((↑(us a).length:Int) > 0) then a.getD ((↑a.length:Int) - 1).toNat default == 0 else false) = true ↔ (((↑a.length:Int) > 0) /\ (a.getD ((↑a.length:Int) - 1).toNat default = 0)):=(by (try rw [w1]);all_goals exact (ZcW Zaa i_eq))
 refine Zac (G:=Zab kp110 [(1,9,.elem (vu (a.getD ((↑a.length:Int) - 1).toNat default)))] []) 3 [] ⟨(atC (cd Try.f110) [1,0,0,0,0,1]),[(0,AV.vec fa 1 (us a)),(14,vb (bif decide ((↑(us a).length:Int) > 0) then a.getD ((↑a.length:Int) - 1).toNat default == 0 else false))],[],_,[((decide ((↑(us a).length:Int) > 0) == true && true) = true -> (us a).get?Internal (wi ((↑(us a).length:Int) - 1)).toNat = some (vu (a.getD ((↑a.length:Int) - 1).toNat default)))],_⟩ (by kernel_rfl) (bc (i4.2 k5) (bc (i6.2 k7) b0)) (qc (by (try rw [w1]);(try rw [w3]);all_goals exact (fun h => Zap (k7 ((i_at (i_bt Zaa)).1 h)))) q0) c0 ?_
 rcases xq H with ⟨d10,H⟩|⟨d10,H⟩
 ·have i11:(decide (0 <= wi ((↑(us a).length:Int) - 1))) = true ↔ (0 <= (↑a.length:Int) - 1):=(by (try rw [w1]);(try rw [w3]);all_goals exact Zaa)
  obtain ⟨k12,H⟩:=H
  have i13:(decide (0 <= (wi ((↑(us a).length:Int) - 1)).toNat)) = true ↔ (0 <= ((↑a.length:Int) - 1).toNat):=(by (try rw [w1]);(try rw [w3]);all_goals exact Zaa)
  obtain ⟨k14,H⟩:=H
  have i15:(decide ((wi ((↑(us a).length:Int) - 1)).toNat <= (us a).length)) = true ↔ (((↑a.length:Int) - 1).toNat <= a.length):=(by (try rw [w1]);(try rw [w3]);all_goals exact Zaa)
  obtain ⟨k16,H⟩:=H
  have w17:List.take ((↑a.length:Int) - 1).toNat (us a) = us (List.take ((↑a.length:Int) - 1).toNat a):=(Zep rfl)
  have w18:List.drop 0 (us (List.take ((↑a.length:Int) - 1).toNat a)) = us (List.drop 0 (List.take ((↑a.length:Int) - 1).toNat a)):=(Zeq rfl)
  exact Zac (G:=Zab kp110 [] []) 1000 [true] ⟨(atC (cd Try.f110) [1,0,0,0]),[(0,AV.vec (fa && false) 1 (List.drop 0 (List.take (wi ((↑(us a).length:Int) - 1)).toNat (us a))))],[],_,[],_⟩ (by kernel_rfl) (bc (Zak (i9.2 d10)) (bc (i11.2 k12) (bc (i13.2 k14) (bc (i15.2 k16) b0)))) q0 c0 (by (try rw [w1]);(try rw [w3]);(try rw [w17]);(try rw [w18]);all_goals exact H)
 ·exact Zao (G:=Zab kp110 [] []) 1000 [false] (AV.vec fa 1 (us a)) (by kernel_rfl) (bc (Zaj (fun h => d10 (i9.1 h))) b0) q0 c0 H
theorem vSigned (s fa:Bool) (a:List Int)  (dq:AV) (H :
  Zck (s) (fa) (a) ((↑a.length:Int)) (Zae dq)) :
 Zge s fa a (Zae dq):=by
 unfold Zge
 have w1:(us a).length = a.length:=List.length_map ..
 exact Zac (G:=Zab kp81 [] []) 1000 [] ⟨(atC (cd Try.f81) [1,1,0,0,0]),[(0,vb s),(1,AV.vec fa 1 (us a)),(4,AV.ptr 0 0 0 0),(5,vi (↑(us a).length:Int))],[⟨[ag [vb false,AV.vnil]],2,0,false,false⟩],_,[],_⟩ (by kernel_rfl) b0 q0 c0 (by (try rw [w1]);all_goals exact H)
theorem vSignedA (s fa:Bool) (a:List Int) (n:Int)  (dq:AV) (H :
  (-9223372036854775808 <= n - 1 /\ n - 1 <= 9223372036854775807) /\
  ((n > 0) -> (0 <= n - 1)) /\
  ((n > 0) -> ((n - 1).toNat < a.length)) /\
  (((n > 0) /\ (a.getD (n - 1).toNat default = 0)) -> Zck (s) (fa) (a) (n - 1) (Zae dq)) /\
  (¬((n > 0) /\ (a.getD (n - 1).toNat default = 0)) -> (0 <= n) /\
   (0 <= n.toNat) /\
   (n.toNat <= a.length) /\
   (n = (↑n.toNat:Int)) /\
   Weak (ag [vb (bif s then decide (n > 0) else false),AV.vec true 1 (us (List.drop 0 (List.take n.toNat a)))]) dq)) :
 Zck s fa a n (Zae dq):=by
 unfold Zck
 obtain ⟨k1,H⟩:=H
 have w2:wi (n - 1) = n - 1:=wI64 k1
 have i3:(!(decide (n > 0) == true && true) || decide (0 <= wi (n - 1))) = true ↔ ((n > 0) -> (0 <= n - 1)):=(by (try rw [w2]);all_goals exact (ZeM (i_at (i_bt Zaa)) Zaa))
 obtain ⟨k4,H⟩:=H
 have w5:(us a).length = a.length:=List.length_map ..
 have i6:(!(decide (n > 0) == true && true) || decide ((wi (n - 1)).toNat < (us a).length)) = true ↔ ((n > 0) -> ((n - 1).toNat < a.length)):=(by (try rw [w2]);(try rw [w5]);all_goals exact (ZeM (i_at (i_bt Zaa)) Zaa))
 obtain ⟨k7,H⟩:=H
 refine Zac (G:=Zab kp81 [(2,7,.elem (vu (a.getD (n - 1).toNat default)))] []) 3 [] ⟨(atC (cd Try.f81) [1,1,0,0,0,0,1]),[(0,vb s),(1,AV.vec fa 1 (us a)),(4,AV.ptr 0 0 0 0),(5,vi n),(17,vb (bif decide (n > 0) then a.getD (n - 1).toNat default == 0 else false))],[⟨[ag [vb false,AV.vnil]],2,0,false,false⟩],_,[((decide (n > 0) == true && true) = true -> (us a).get?Internal (wi (n - 1)).toNat = some (vu (a.getD (n - 1).toNat default)))],_⟩ (by kernel_rfl) (bc (i3.2 k4) (bc (i6.2 k7) b0)) (qc (by (try rw [w2]);all_goals exact (fun h => Zap (k7 ((i_at (i_bt Zaa)).1 h)))) q0) c0 ?_
 rcases xq H with ⟨d10,H⟩|⟨d10,H⟩
 ·exact Zac (G:=Zab kp81 [] []) 1000 [true] ⟨(atC (cd Try.f81) [1,1,0,0,0]),[(0,vb s),(1,AV.vec fa 1 (us a)),(4,AV.ptr 0 0 0 0),(5,vi (wi (n - 1)))],[⟨[ag [vb false,AV.vnil]],2,0,false,false⟩],_,[],_⟩ (by kernel_rfl) (bc (Zak ((ZcW Zaa i_eq).2 d10)) b0) q0 c0 (by (try rw [w2]);all_goals exact H)
 ·obtain ⟨k12,k14,H⟩:=H
  have i15:(decide (n.toNat <= (us a).length)) = true ↔ (n.toNat <= a.length):=(by (try rw [w5]);all_goals exact Zaa)
  obtain ⟨k16,k18,H⟩:=H
  have w19:List.take n.toNat (us a) = us (List.take n.toNat a):=(Zep rfl)
  have w20:List.drop 0 (us (List.take n.toNat a)) = us (List.drop 0 (List.take n.toNat a)):=(Zeq rfl)
  exact Zao (G:=Zab kp81 [] []) 1000 [false] (ag [vb (bif s then decide (n > 0) else false),AV.vec true 1 (List.drop 0 (List.take n.toNat (us a)))]) (by kernel_rfl) (bc (Zaj (fun h => d10 ((ZcW Zaa i_eq).1 h))) (bc (Zaa.2 k12) (bc (Zaa.2 k14) (bc (i15.2 k16) (bc (i_eq.2 k18) (bc rfl (bc rfl b0))))))) q0 c0 (by (try rw [w19]);(try rw [w20]);all_goals exact H)
theorem vSigned0 (s:Bool)  (dq:AV) (H :
  Zc6 (s) (Zae dq)) :
 Ze8 s (Zae dq):=by
 unfold Ze8
 exact Zac (G:=Zab kp81 [] []) 1000 [] ⟨(atC (cd Try.f81) [1,1,0,0,0]),[(0,vb s),(1,AV.vnil),(4,AV.ptr 0 0 0 0),(5,vi 0)],[⟨[ag [vb false,AV.vnil]],2,0,false,false⟩],_,[],_⟩ (by kernel_rfl) b0 q0 c0 (H)
theorem vSigned0A (s:Bool)  (dq:AV) (H :
  Weak (ag [vb (bif s then false else false),AV.vnil]) dq) :
 Zc6 s (Zae dq):=by
 unfold Zc6
 exact Zao (G:=Zab kp81 [] []) 1000 [false] (ag [vb (bif s then false else false),AV.vnil]) (by kernel_rfl) (bc rfl (bc rfl (bc rfl (bc rfl (bc rfl (bc rfl (bc rfl (bc rfl b0)))))))) q0 c0 H
theorem vSplit (u:Int)  (dq:AV) (H :
  (0 <= u.tmod 1000000000 /\ u.tmod 1000000000 <= 4294967295) /\
  (0 <= u.tdiv 1000000000 /\ u.tdiv 1000000000 <= 18446744073709551615) /\
  (0 <= (u.tdiv 1000000000).tmod 1000000000 /\ (u.tdiv 1000000000).tmod 1000000000 <= 4294967295) /\
  (0 <= (u.tdiv 1000000000).tdiv 1000000000 /\ (u.tdiv 1000000000).tdiv 1000000000 <= 18446744073709551615) /\
  (0 <= (u.tdiv 1000000000).tdiv 1000000000 /\ (u.tdiv 1000000000).tdiv 1000000000 <= 4294967295) /\
  Weak (AV.vec true 1 [vu (u.tmod 1000000000),vu ((u.tdiv 1000000000).tmod 1000000000),vu ((u.tdiv 1000000000).tdiv 1000000000)]) dq) :
 vSplit_at u (Zae dq):=by
 unfold vSplit_at
 obtain ⟨k1,H⟩:=H
 have w2:wv (u.tmod 1000000000) = u.tmod 1000000000:=wU32 k1
 obtain ⟨k3,H⟩:=H
 have w4:wu (u.tdiv 1000000000) = u.tdiv 1000000000:=wU64 k3
 obtain ⟨k5,H⟩:=H
 have w6:wv ((u.tdiv 1000000000).tmod 1000000000) = (u.tdiv 1000000000).tmod 1000000000:=wU32 k5
 obtain ⟨k7,H⟩:=H
 have w8:wu ((u.tdiv 1000000000).tdiv 1000000000) = (u.tdiv 1000000000).tdiv 1000000000:=wU64 k7
 obtain ⟨k9,H⟩:=H
 have w10:wv ((u.tdiv 1000000000).tdiv 1000000000) = (u.tdiv 1000000000).tdiv 1000000000:=wU32 k9
 exact Zao (G:=Zab kp84 [] []) 1000 [] (AV.vec true 1 [vu (wv (u.tmod 1000000000)),vu (wv ((wu (u.tdiv 1000000000)).tmod 1000000000)),vu (wv (wu ((wu (u.tdiv 1000000000)).tdiv 1000000000)))]) (by kernel_rfl) (bc rfl (bc rfl (bc rfl (bc rfl (bc rfl b0))))) q0 c0 (by (try rw [w2]);(try rw [w4]);(try rw [w6]);(try rw [w8]);(try rw [w10]);all_goals exact H)
theorem vSign (fa:Bool) (v:Int)  (dq:AV) (H :
  ((Sp.Zad v = true) -> vi (-1) = dq) /\
  (¬(Sp.Zad v = true) -> (((↑(Sp.Zar v).length:Int) > 0) -> vi 1 = dq) /\
   (¬((↑(Sp.Zar v).length:Int) > 0) -> vi 0 = dq))) :
 vSign_at fa v (Zae dq):=by
 unfold vSign_at
 rcases xq H with ⟨d2,H⟩|⟨d2,H⟩
 ·exact Zag (G:=Zab kp102 [] []) 1000 [true] (asm:=[true,(Sp.Zad v) == true]) (vi (-1)) (by kernel_rfl) (bc rfl (bc (Zak ((Zdg _).2 d2)) b0)) q0 c0 H
 ·have w3:(us (Sp.Zar v)).length = (Sp.Zar v).length:=List.length_map ..
  have i4:(decide ((↑(us (Sp.Zar v)).length:Int) > 0)) = true ↔ ((↑(Sp.Zar v).length:Int) > 0):=(by (try rw [w3]);all_goals exact Zaa)
  rcases xq H with ⟨d5,H⟩|⟨d5,H⟩
  ·exact Zag (G:=Zab kp102 [] []) 1000 [false,true] (asm:=[true,(Sp.Zad v) == false,true,(decide ((↑(us (Sp.Zar v)).length:Int) > 0)) == true]) (vi 1) (by kernel_rfl) (bc rfl (bc (Zaj (fun h => d2 ((Zdg _).1 h))) (bc rfl (bc (Zak (i4.2 d5)) b0)))) q0 c0 H
  ·exact Zag (G:=Zab kp102 [] []) 1000 [false,false] (asm:=[true,(Sp.Zad v) == false,true,(decide ((↑(us (Sp.Zar v)).length:Int) > 0)) == false]) (vi 0) (by kernel_rfl) (bc rfl (bc (Zaj (fun h => d2 ((Zdg _).1 h))) (bc rfl (bc (Zaj (fun h => d5 (i4.1 h))) b0)))) q0 c0 H
end Go.Av

namespace Go.Av
open Go.Proofs
namespace Sp
def sg (s:Bool) (v:Nat):Int:=if s=true then -(v:Int) else v
def sgnI (v:Int):Int:=if v<0 then -1 else if v>0 then 1 else 0
def Zav (k:Nat):Prop:=k<=1000000
def ok (v:Int):Prop:=cnt v.natAbs<=1000000
end Sp
theorem Zb8 (f:Bool) (es:Nat) (xs:List AV):Weak (.vec f es xs) (.vec false es xs):=by
 cases f with
 | true => exact .full es xs
 | false => exact .refl _
theorem weak_big (b f:Bool) (xs:List AV):Weak (.agg [.bool b,.vec f 1 xs]) (.agg [.bool b,.vec false 1 xs]):=by
 refine .agg _ _ rfl fun i x y hx hy => ?_
 match i with
 | 0 => simp at hx hy;subst hx;subst hy;exact .refl _
 | 1 => simp at hx hy;subst hx;subst hy;exact Zb8 _ _ _
 | i + 2 => simp at hx
theorem Zbi (v:Int):(Sp.Zar v).length=Sp.cnt v.natAbs:=ZaB _
theorem Zam {v:Int}:Sp.Zad v=true ↔ v<0:=decide_eq_true_iff
theorem sg_limI (s:Bool) (v:Nat):Sp.Zar (Sp.sg s v) = Sp.lim v:=by
 unfold Sp.Zar Sp.sg
 cases s <;> simp
theorem sg_neg (s:Bool) (v:Nat):Sp.Zad (Sp.sg s v) = (bif s then decide (v ≠ 0) else false):=by
 unfold Sp.Zad Sp.sg
 cases s with
 | true =>
  rw [if_pos rfl,cond_true,decide_eq_decide];omega
 | false =>
  rw [if_neg (by simp),cond_false];simp
theorem big_sg (f s:Bool) (v:Nat):bigA f (Sp.sg s v) = .agg [.bool (bif s then decide (v ≠ 0) else false),.vec f 1 ((Sp.lim v).map (.int .u32))]:=by
 show AV.agg [.bool (Sp.Zad (Sp.sg s v)),.vec f 1 ((Sp.Zar (Sp.sg s v)).map (.int .u32))] = _
 rw [sg_limI,sg_neg]
theorem Ze1 {k v:Nat} (h:Sp.fits (k + 1) v):(Sp.Zaq (k + 1) v).getD k default = 0 ↔ Sp.fits k v:=by
 rw [Zat v (by omega),ZcG]
 have:=Zbr h
 generalize v / 1000000000 ^ k = t at this
 omega
theorem loopTrim:∀ (k:Nat) (fa:Bool) (v:Nat),k <= 1000000 -> Sp.fits k v -> Zc5 fa (Sp.Zaq k v) (Zae (usA false (Sp.lim v)))
 | 0,fa,v,hk,hf => by
  have h0:=Za1.1 hf
  subst h0
  rw [Zca]
  have hl:=Zah 0 0
  exact vTrimA _ _ _ ⟨by omega,fun h => by omega,fun h => by omega,fun h => by omega,fun _ => Zb8 _ _ _⟩
 | k + 1,fa,v,hk,hf => by
  have hl:=Zah (k + 1) v
  have e1:(((Sp.Zaq (k + 1) v).length:Int) - 1).toNat = k:=by omega
  refine vTrimA _ _ _ ⟨by omega,fun _ => by omega,fun _ => by omega,fun h => ?_,fun h => ?_⟩
  ·rw [e1] at h ⊢
   have h2:=(Ze1 hf).1 h.2
   refine ⟨by omega,by omega,by omega,?_⟩
   rw [List.drop_zero,limN_take]
   exact loopTrim k _ v (by omega) h2
  ·rw [e1] at h
   have h2:¬Sp.fits k v:=fun x => h ⟨by omega,(Ze1 hf).2 x⟩
   rw [lim_of hf (.inr (by simpa using h2))]
   exact Zb8 _ _ _
theorem trimN (fa:Bool) (k v:Nat) (h:Sp.Zav k /\ Sp.fits k v):Ev M1 (.pure 110 [usA fa (Sp.Zaq k v)]) (usA false (Sp.lim v)) []:=
 call110 (vTrim _ _ _ (loopTrim k fa v h.1 h.2))
theorem ZgB (s fa:Bool) (k v:Nat) (hk:k <= 1000000):∀ (n:Nat),n <= k -> Sp.fits n v -> Zck s fa (Sp.Zaq k v) n (Zae (bigA false (Sp.sg s v)))
 | 0,hn,hf => by
  have h0:=Za1.1 hf
  subst h0
  refine vSignedA _ _ _ _ _ ⟨by omega,fun h => by omega,fun h => by omega,fun h => by omega,fun _ => ⟨by omega,by omega,by omega,by omega,?_⟩⟩
  rw [big_sg,Zca]
  have e:(bif s then decide ((0:Int) > 0) else false) = (bif s then decide (0 ≠ 0) else false):=by cases s <;> simp
  rw [show ((0:Nat):Int) = 0 from rfl,e]
  exact weak_big _ _ _
 | n + 1,hn,hf => by
  have hl:=Zah k v
  have e1:(((n + 1:Nat):Int) - 1).toNat = n:=by omega
  have e2:((n + 1:Nat):Int) - 1 = (n:Nat):=by omega
  have top:(Sp.Zaq k v).getD n default = 0 ↔ Sp.fits n v:=by
   rw [Zat v (by omega),ZcG]
   have:=Zbr hf
   generalize v / 1000000000 ^ n = t at this
   omega
  refine vSignedA _ _ _ _ _ ⟨by omega,fun _ => by omega,fun _ => by omega,fun h => ?_,fun h => ?_⟩
  ·rw [e1] at h
   rw [e2]
   exact ZgB s fa k v hk n (by omega) (top.1 h.2)
  ·rw [e1] at h
   have h2:¬Sp.fits n v:=fun x => h ⟨by omega,top.2 x⟩
   have hv:v ≠ 0:=by rintro rfl;exact h2 (Zas.2 (by rw [Zbn];omega))
   refine ⟨by omega,by omega,by omega,by omega,?_⟩
   have hc:Sp.cnt v = n + 1:=by
    have a:=Zas.1 hf
    have b:¬Sp.cnt v <= n:=fun x => h2 (Zas.2 x)
    omega
   rw [big_sg,Int.toNat_natCast,List.drop_zero,<- hc,lim_limN (ZaS hf hn),hc]
   have e:(bif s then decide (((n + 1:Nat):Int) > 0) else false) = (bif s then decide (v ≠ 0) else false):=by
    have:((n + 1:Nat):Int) > 0:=by omega
    cases s <;> simp [hv]
   rw [e]
   exact weak_big _ _ _
theorem signedN (s fa:Bool) (k v:Nat) (h:Sp.Zav k /\ Sp.fits k v):Ev M1 (.pure 81 [.bool s,usA fa (Sp.Zaq k v)]) (bigA false (Sp.sg s v)) []:=by
 refine call81 (vSigned _ _ _ _ ?_)
 rw [Zah]
 exact ZgB s fa k v h.1 k (Nat.le_refl _) h.2
theorem ev81 (s fa:Bool) (k v:Nat) (h:Sp.Zav k/\Sp.fits k v):Ev M1 (.pure 81 [.bool s,usA fa (Sp.Zaq k v)]) (bigA false (Sp.sg s v)) []:=signedN s fa k v h
theorem ev81_a (s fa:Bool) (v:Int) (h:Sp.ok v):Ev M1 (.pure 81 [.bool s,usA fa (Sp.Zar v)]) (bigA false (Sp.sg s v.natAbs)) []:=signedN s fa _ _ ⟨h,Zaf _⟩
theorem ev84 (u:Int) (h:0 <= u /\ u <= 18446744073709551615):Ev M1 (.pure 84 [.int .u64 u]) (usA false (Sp.Zaq 3 u.toNat)) []:=by
 have e1:u.tmod 1000000000 = u % 1000000000:=Int.tmod_eq_emod_of_nonneg h.1
 have e2:u.tdiv 1000000000 = u / 1000000000:=Int.tdiv_eq_ediv_of_nonneg h.1
 have e3:(u / 1000000000).tmod 1000000000 = (u / 1000000000) % 1000000000:=Int.tmod_eq_emod_of_nonneg (by omega)
 have e4:(u / 1000000000).tdiv 1000000000 = (u / 1000000000) / 1000000000:=Int.tdiv_eq_ediv_of_nonneg (by omega)
 refine call84 (vSplit u _ ?_)
 rw [e1,e2,e3,e4]
 refine ⟨by omega,by omega,by omega,by omega,by omega,?_⟩
 have e:[AV.int .u32 (u % 1000000000),AV.int .u32 (u / 1000000000 % 1000000000),AV.int .u32 (u / 1000000000 / 1000000000)] = (Sp.Zaq 3 u.toNat).map (.int .u32):=by
  simp only [Sp.Zaq,List.map_cons,List.map_nil]
  have a1:((u.toNat % 1000000000:Nat):Int) = u % 1000000000:=by omega
  have a2:((u.toNat / 1000000000 % 1000000000:Nat):Int) = u / 1000000000 % 1000000000:=by omega
  have a3:((u.toNat / 1000000000 / 1000000000 % 1000000000:Nat):Int) = u / 1000000000 / 1000000000:=by omega
  rw [a1,a2,a3]
 rw [e]
 exact Zb8 _ _ _
theorem ev102 (fa:Bool) (v:Int):Ev M1 (.pure 102 [bigA fa v]) (.int .i64 (Sp.sgnI v)) []:=by
 have hl:=Zbi v
 refine call102 (vSign fa v _ ⟨fun h => ?_,fun h => ⟨fun k => ?_,fun k => ?_⟩⟩)
 ·rw [Zam] at h
  rw [Sp.sgnI,if_pos h]
 ·rw [Zam] at h
  have:v.natAbs ≠ 0:=fun e => by rw [hl,e,Zbn] at k;omega
  rw [Sp.sgnI,if_neg h,if_pos (by omega)]
 ·rw [Zam] at h
  have:v.natAbs = 0:=Zax.1 (by omega)
  rw [Sp.sgnI,if_neg h,if_neg (by omega)]
end Go.Av

namespace Go.Av
open Go.Proofs
set_option maxRecDepth 100000
def fi105:Fi:=⟨68,[.tmp 4]⟩
def kp105:List (Nat × List Nat):=[(0,[0,1]),(1,[0,1,5]),(2,[1,5,18,19,20]),(3,[1,5,18,19,20,21]),(4,[1,5,6,7,18,19,20]),(5,[1,5,6,7,8,18,19,20]),(6,[1,5,6,7,8,18,19,20,25,26,27]),(7,[1,5,6,7,8,18,19,20,25,26,27,28]),(8,[1,5,6,7,8,9,10,18,19,20,25,26,27]),(9,[1,5,6,7,9,11,18,19,20,25,26,27]),(10,[1,5,6,7,8,18,19,20,25,26,27]),(11,[1,5,6,7,8,18,19,20,25,26,27]),(12,[1,5,18,19,20]),(13,[1,5,18,19,20]),(14,[4])]
def Ze7 (fa fb:Bool) (a b:List Int) (Q:AV->Heap->Prop):Prop:=Wp M1 (.run fi105 (atC (cd Try.f105) []) [(0,.vec fa 1 (a.map (.int .u32))),(1,.vec fb 1 (b.map (.int .u32)))] []) Q
def Zce (fb fx:Bool) (b x o:List Int) (n i:Int) (Q:AV->Heap->Prop):Prop:=Wp M1 (.run fi105 (atC (cd Try.f105) [1,1,0,1,0,0]) [(1,.vec fb 1 (b.map (.int .u32))),(5,.row 0 0),(18,.vec fx 1 (x.map (.int .u32))),(19,.int .i64 n),(20,.int .i64 i)] [⟨o.map (.int .u32),1,0,false,true⟩]) Q
def Zcd (fb fx fy:Bool) (b x y o:List Int) (i0 x0 c n i m k:Int) (Q:AV->Heap->Prop):Prop:=Wp M1 (.run fi105 (atC (cd Try.f105) [1,1,0,1,0,0,1,1,0,0,1,1,0,1,0,0]) [(1,.vec fb 1 (b.map (.int .u32))),(5,.row 0 0),(6,.int .i64 i0),(7,.int .u32 x0),(8,.int .u64 c),(18,.vec fx 1 (x.map (.int .u32))),(19,.int .i64 n),(20,.int .i64 i),(25,.vec fy 1 (y.map (.int .u32))),(26,.int .i64 m),(27,.int .i64 k)] [⟨o.map (.int .u32),1,0,false,true⟩]) Q
theorem call105 {args:List AV} {d:AV} (h:wc M1 fi105 Try.f105 args d):Ev M1 (.pure 105 args) d []:=pcl _ _ (by kernel_rfl) h
theorem owncall105 {args:List AV} {L:Heap} {Q:AV -> Heap -> Prop} (h:Wp M1 (.run fi105 [.code (cd Try.f105)] (ZbE 0 args) L) Q):Wp M1 (.own 105 args L) Q:=
 own_wp Try.f105 fi105 (by kernel_rfl) (by kernel_rfl) (by kernel_rfl) (by kernel_rfl) h
theorem vTimes (fa fb:Bool) (a b:List Int)  (Q:AV -> Heap -> Prop) (H :
  (-9223372036854775808 <= (↑a.length:Int) + (↑b.length:Int) /\ (↑a.length:Int) + (↑b.length:Int) <= 9223372036854775807) /\
  (0 <= (↑a.length:Int) + (↑b.length:Int)) /\
  (((↑a.length:Int) + (↑b.length:Int)) * 4 <= 1099511627776) /\
  ((↑a.length:Int) + (↑b.length:Int) <= 1099511627776) /\
  Zce (fb) (fa) (b) (a) (List.replicate ((↑a.length:Int) + (↑b.length:Int)).toNat (0:Int)) ((↑a.length:Int)) (0) Q) :
 Ze7 fa fb a b Q:=by
 unfold Ze7
 have w1:(us a).length = a.length:=List.length_map ..
 have w2:(us b).length = b.length:=List.length_map ..
 obtain ⟨k3,H⟩:=H
 have w4:wi ((↑a.length:Int) + (↑b.length:Int)) = (↑a.length:Int) + (↑b.length:Int):=wI64 k3
 have i5:(decide (0 <= wi ((↑(us a).length:Int) + (↑(us b).length:Int)))) = true ↔ (0 <= (↑a.length:Int) + (↑b.length:Int)):=(by (try rw [w1]);(try rw [w2]);(try rw [w4]);all_goals exact Zaa)
 obtain ⟨k6,H⟩:=H
 have i7:(decide (wi ((↑(us a).length:Int) + (↑(us b).length:Int)) <= wi ((↑(us a).length:Int) + (↑(us b).length:Int)))) = true ↔ ((↑a.length:Int) + (↑b.length:Int) <= (↑a.length:Int) + (↑b.length:Int)):=(by (try rw [w1]);(try rw [w2]);(try rw [w4]);all_goals exact Zaa)
 have i8:(decide (wi ((↑(us a).length:Int) + (↑(us b).length:Int)) * 4 <= 1099511627776)) = true ↔ (((↑a.length:Int) + (↑b.length:Int)) * 4 <= 1099511627776):=(by (try rw [w1]);(try rw [w2]);(try rw [w4]);all_goals exact Zaa)
 obtain ⟨k9,H⟩:=H
 have i10:(decide (wi ((↑(us a).length:Int) + (↑(us b).length:Int)) <= 1099511627776)) = true ↔ ((↑a.length:Int) + (↑b.length:Int) <= 1099511627776):=(by (try rw [w1]);(try rw [w2]);(try rw [w4]);all_goals exact Zaa)
 obtain ⟨k11,H⟩:=H
 have w12:List.replicate ((↑a.length:Int) + (↑b.length:Int)).toNat (vu 0) = us (List.replicate ((↑a.length:Int) + (↑b.length:Int)).toNat (0:Int)):=(Zde rfl)
 exact Zac (G:=Zab kp105 [] []) 1000 [] ⟨(atC (cd Try.f105) [1,1,0,1,0,0]),[(1,AV.vec fb 1 (us b)),(5,AV.row 0 0),(18,AV.vec fa 1 (us a)),(19,vi (↑(us a).length:Int)),(20,vi 0)],[⟨List.replicate (wi ((↑(us a).length:Int) + (↑(us b).length:Int))).toNat (vu 0),1,0,false,true⟩],[decide (0 <= wi ((↑(us a).length:Int) + (↑(us b).length:Int))),decide (wi ((↑(us a).length:Int) + (↑(us b).length:Int)) <= wi ((↑(us a).length:Int) + (↑(us b).length:Int))),decide (wi ((↑(us a).length:Int) + (↑(us b).length:Int)) * 4 <= 1099511627776),decide (wi ((↑(us a).length:Int) + (↑(us b).length:Int)) <= 1099511627776)],[],_⟩ (by kernel_rfl) (bc (i5.2 k6) (bc (i7.2 (by omega)) (bc (i8.2 k9) (bc (i10.2 k11) b0)))) q0 c0 (by (try rw [w1]);(try rw [w2]);(try rw [w4]);(try rw [w12]);all_goals exact H)
theorem vTimesA (fb fx:Bool) (b x o:List Int) (n i:Int)  (Q:AV -> Heap -> Prop) (H :
  ((i < n) -> (0 <= i) /\
   (i.toNat < x.length) /\
   Zcd (fb) (fx) (fb) (b) (x) (b) (o) (i) (x.getD i.toNat default) (0) (n) (i) ((↑b.length:Int)) (0) Q) /\
  (¬(i < n) -> Q (AV.row 0 0) [{ elems:=us o,es:=1,ver:=0,frozen:=false,clean:=true }])) :
 Zce fb fx b x o n i Q:=by
 unfold Zce
 rcases xq H with ⟨d2,H⟩|⟨d2,H⟩
 ·obtain ⟨k4,H⟩:=H
  have w5:(us x).length = x.length:=List.length_map ..
  have i6:(decide (i.toNat < (us x).length)) = true ↔ (i.toNat < x.length):=(by (try rw [w5]);all_goals exact Zaa)
  obtain ⟨k7,H⟩:=H
  have w8:(us b).length = b.length:=List.length_map ..
  exact Zac (G:=Zab kp105 [(4,2,.elem (vu (x.getD i.toNat default)))] []) 1000 [true] ⟨(atC (cd Try.f105) [1,1,0,1,0,0,1,1,0,0,1,1,0,1,0,0]),[(1,AV.vec fb 1 (us b)),(5,AV.row 0 0),(6,vi i),(7,vu (x.getD i.toNat default)),(8,vw 0),(18,AV.vec fx 1 (us x)),(19,vi n),(20,vi i),(25,AV.vec fb 1 (us b)),(26,vi (↑(us b).length:Int)),(27,vi 0)],[⟨us o,1,0,false,true⟩],_,[((us x).get?Internal i.toNat = some (vu (x.getD i.toNat default)))],_⟩ (by kernel_rfl) (bc (Zak (Zaa.2 d2)) (bc (Zaa.2 k4) (bc (i6.2 k7) b0))) (qc (Zap k7) q0) c0 (by (try rw [w8]);all_goals exact H)
 ·exact ZbB (G:=Zab kp105 [] []) 1000 [false] (k:=((atC (cd Try.f105) [1,1,1,1])).tail) (env':=[(4,AV.row 0 0)]) (L':=[⟨us o,1,0,false,true⟩]) (asm:=[(decide (i < n)) == false]) (eqs:=[]) (calls:=[]) (AV.row 0 0) (by kernel_rfl) (by kernel_rfl) (Zal (Zaj (fun h => d2 (Zaa.1 h))) ZaP) Zba Zbb H
theorem vTimesB (fb fx fy:Bool) (b x y o:List Int) (i0 x0 c n i m k:Int)  (Q:AV -> Heap -> Prop) (H :
  ((k < m) -> (0 <= k) /\
   (k.toNat < y.length) /\
   (-9223372036854775808 <= i0 + k /\ i0 + k <= 9223372036854775807) /\
   (0 <= i0 + k) /\
   ((i0 + k).toNat < o.length) /\
   (0 <= o.getD (i0 + k).toNat default /\ o.getD (i0 + k).toNat default <= 18446744073709551615) /\
   (0 <= x0 /\ x0 <= 18446744073709551615) /\
   (0 <= y.getD k.toNat default /\ y.getD k.toNat default <= 18446744073709551615) /\
   (0 <= x0 * y.getD k.toNat default /\ x0 * y.getD k.toNat default <= 18446744073709551615) /\
   (0 <= o.getD (i0 + k).toNat default + x0 * y.getD k.toNat default /\ o.getD (i0 + k).toNat default + x0 * y.getD k.toNat default <= 18446744073709551615) /\
   (0 <= o.getD (i0 + k).toNat default + x0 * y.getD k.toNat default + c /\ o.getD (i0 + k).toNat default + x0 * y.getD k.toNat default + c <= 18446744073709551615) /\
   (0 <= (o.getD (i0 + k).toNat default + x0 * y.getD k.toNat default + c).tdiv 1000000000 /\ (o.getD (i0 + k).toNat default + x0 * y.getD k.toNat default + c).tdiv 1000000000 <= 18446744073709551615) /\
   (0 <= (o.getD (i0 + k).toNat default + x0 * y.getD k.toNat default + c).tmod 1000000000 /\ (o.getD (i0 + k).toNat default + x0 * y.getD k.toNat default + c).tmod 1000000000 <= 4294967295) /\
   (-9223372036854775808 <= k + 1 /\ k + 1 <= 9223372036854775807) /\
   Zcd (fb) (fx) (fy) (b) (x) (y) (o.set (i0 + k).toNat ((o.getD (i0 + k).toNat default + x0 * y.getD k.toNat default + c).tmod 1000000000)) (i0) (x0) ((o.getD (i0 + k).toNat default + x0 * y.getD k.toNat default + c).tdiv 1000000000) (n) (i) (m) (k + 1) Q) /\
  (¬(k < m) -> (-9223372036854775808 <= i0 + (↑b.length:Int) /\ i0 + (↑b.length:Int) <= 9223372036854775807) /\
   (0 <= i0 + (↑b.length:Int)) /\
   ((i0 + (↑b.length:Int)).toNat < o.length) /\
   (0 <= c /\ c <= 4294967295) /\
   (-9223372036854775808 <= i + 1 /\ i + 1 <= 9223372036854775807) /\
   Zce (fb) (fx) (b) (x) (o.set (i0 + (↑b.length:Int)).toNat c) (n) (i + 1) Q)) :
 Zcd fb fx fy b x y o i0 x0 c n i m k Q:=by
 unfold Zcd
 rcases xq H with ⟨d2,H⟩|⟨d2,H⟩
 ·obtain ⟨k4,H⟩:=H
  have w5:(us y).length = y.length:=List.length_map ..
  have i6:(decide (k.toNat < (us y).length)) = true ↔ (k.toNat < y.length):=(by (try rw [w5]);all_goals exact Zaa)
  obtain ⟨k7,k8,H⟩:=H
  have w9:wi (i0 + k) = i0 + k:=wI64 k8
  have i10:(decide (0 <= wi (i0 + k))) = true ↔ (0 <= i0 + k):=(by (try rw [w9]);all_goals exact Zaa)
  obtain ⟨k11,H⟩:=H
  have w12:(us o).length = o.length:=List.length_map ..
  have i13:(decide ((wi (i0 + k)).toNat < (us o).length)) = true ↔ ((i0 + k).toNat < o.length):=(by (try rw [w9]);(try rw [w12]);all_goals exact Zaa)
  obtain ⟨k14,k15,H⟩:=H
  have w16:wu (o.getD (i0 + k).toNat default) = o.getD (i0 + k).toNat default:=wU64 k15
  obtain ⟨k17,H⟩:=H
  have w18:wu x0 = x0:=wU64 k17
  obtain ⟨k19,H⟩:=H
  have w20:wu (y.getD k.toNat default) = y.getD k.toNat default:=wU64 k19
  obtain ⟨k21,H⟩:=H
  have w22:wu (x0 * y.getD k.toNat default) = x0 * y.getD k.toNat default:=wU64 k21
  obtain ⟨k23,H⟩:=H
  have w24:wu (o.getD (i0 + k).toNat default + x0 * y.getD k.toNat default) = o.getD (i0 + k).toNat default + x0 * y.getD k.toNat default:=wU64 k23
  obtain ⟨k25,H⟩:=H
  have w26:wu (o.getD (i0 + k).toNat default + x0 * y.getD k.toNat default + c) = o.getD (i0 + k).toNat default + x0 * y.getD k.toNat default + c:=wU64 k25
  have i27:(decide (0 <= wi (i0 + k))) = true ↔ (0 <= i0 + k):=(by (try rw [w9]);all_goals exact Zaa)
  have i28:(decide ((wi (i0 + k)).toNat < (us o).length)) = true ↔ ((i0 + k).toNat < o.length):=(by (try rw [w9]);(try rw [w12]);all_goals exact Zaa)
  obtain ⟨k29,H⟩:=H
  have w30:wu ((o.getD (i0 + k).toNat default + x0 * y.getD k.toNat default + c).tdiv 1000000000) = (o.getD (i0 + k).toNat default + x0 * y.getD k.toNat default + c).tdiv 1000000000:=wU64 k29
  obtain ⟨k31,H⟩:=H
  have w32:wv ((o.getD (i0 + k).toNat default + x0 * y.getD k.toNat default + c).tmod 1000000000) = (o.getD (i0 + k).toNat default + x0 * y.getD k.toNat default + c).tmod 1000000000:=wU32 k31
  have w33:(us o).set (i0 + k).toNat (vu ((o.getD (i0 + k).toNat default + x0 * y.getD k.toNat default + c).tmod 1000000000)) = us (o.set (i0 + k).toNat ((o.getD (i0 + k).toNat default + x0 * y.getD k.toNat default + c).tmod 1000000000)):=(ZaY rfl rfl)
  obtain ⟨k34,H⟩:=H
  have w35:wi (k + 1) = k + 1:=wI64 k34
  exact Zac (G:=Zab kp105 [(8,2,.elem (vu (y.getD k.toNat default))),(9,5,.elem (vu (o.getD (i0 + k).toNat default))),(10,10,.elem (vu (o.getD (i0 + k).toNat default)))] []) 1000 [true] ⟨(atC (cd Try.f105) [1,1,0,1,0,0,1,1,0,0,1,1,0,1,0,0]),[(1,AV.vec fb 1 (us b)),(5,AV.row 0 0),(6,vi i0),(7,vu x0),(8,vw (wu ((wu (wu (wu (o.getD (i0 + k).toNat default) + wu (wu x0 * wu (y.getD k.toNat default))) + c)).tdiv 1000000000))),(18,AV.vec fx 1 (us x)),(19,vi n),(20,vi i),(25,AV.vec fy 1 (us y)),(26,vi m),(27,vi (wi (k + 1)))],[⟨(us o).set (wi (i0 + k)).toNat (vu (wv ((wu (wu (wu (o.getD (i0 + k).toNat default) + wu (wu x0 * wu (y.getD k.toNat default))) + c)).tmod 1000000000))),1,0,false,true⟩],_,[((us y).get?Internal k.toNat = some (vu (y.getD k.toNat default))),((us o).get?Internal (wi (i0 + k)).toNat = some (vu (o.getD (i0 + k).toNat default))),((us o).get?Internal (wi (i0 + k)).toNat = some (vu (o.getD (i0 + k).toNat default)))],_⟩ (by kernel_rfl) (bc (Zak (Zaa.2 d2)) (bc (Zaa.2 k4) (bc (i6.2 k7) (bc rfl (bc (i10.2 k11) (bc (i13.2 k14) (bc rfl (bc rfl (bc rfl (bc rfl (bc (i27.2 k11) (bc (i28.2 k14) (bc rfl b0))))))))))))) (qc (Zap k7) (qc (by (try rw [w9]);all_goals exact (Zap k14)) (qc (by (try rw [w9]);all_goals exact (Zap k14)) q0))) c0 (by (try rw [w9]);(try rw [w16]);(try rw [w18]);(try rw [w20]);(try rw [w22]);(try rw [w24]);(try rw [w26]);(try rw [w30]);(try rw [w32]);(try rw [w33]);(try rw [w35]);all_goals exact H)
 ·have w36:(us b).length = b.length:=List.length_map ..
  obtain ⟨k37,H⟩:=H
  have w38:wi (i0 + (↑b.length:Int)) = i0 + (↑b.length:Int):=wI64 k37
  have i39:(decide (0 <= wi (i0 + (↑(us b).length:Int)))) = true ↔ (0 <= i0 + (↑b.length:Int)):=(by (try rw [w36]);(try rw [w38]);all_goals exact Zaa)
  obtain ⟨k40,H⟩:=H
  have w41:(us o).length = o.length:=List.length_map ..
  have i42:(decide ((wi (i0 + (↑(us b).length:Int))).toNat < (us o).length)) = true ↔ ((i0 + (↑b.length:Int)).toNat < o.length):=(by (try rw [w36]);(try rw [w38]);(try rw [w41]);all_goals exact Zaa)
  obtain ⟨k43,k44,H⟩:=H
  have w45:wv c = c:=wU32 k44
  have w46:(us o).set (i0 + (↑b.length:Int)).toNat (vu c) = us (o.set (i0 + (↑b.length:Int)).toNat c):=(ZaY rfl rfl)
  obtain ⟨k47,H⟩:=H
  have w48:wi (i + 1) = i + 1:=wI64 k47
  exact Zac (G:=Zab kp105 [(12,8,.elem (vu (o.getD (i0 + (↑b.length:Int)).toNat default)))] []) 1000 [false] ⟨(atC (cd Try.f105) [1,1,0,1,0,0]),[(1,AV.vec fb 1 (us b)),(5,AV.row 0 0),(18,AV.vec fx 1 (us x)),(19,vi n),(20,vi (wi (i + 1)))],[⟨(us o).set (wi (i0 + (↑(us b).length:Int))).toNat (vu (wv c)),1,0,false,true⟩],_,[((us o).get?Internal (wi (i0 + (↑(us b).length:Int))).toNat = some (vu (o.getD (i0 + (↑b.length:Int)).toNat default)))],_⟩ (by kernel_rfl) (bc (Zaj (fun h => d2 (Zaa.1 h))) (bc rfl (bc (i39.2 k40) (bc (i42.2 k43) (bc rfl b0))))) (qc (by (try rw [w36]);(try rw [w38]);all_goals exact (Zap k43)) q0) c0 (by (try rw [w36]);(try rw [w38]);(try rw [w45]);(try rw [w46]);(try rw [w48]);all_goals exact H)
end Go.Av

namespace Go.Av
open Go.Proofs
set_option maxRecDepth 100000
def fi85:Fi:=⟨45,[.tmp 4]⟩
def kp85:List (Nat × List Nat):=[(0,[0,1]),(1,[0,1]),(2,[0,1,14]),(3,[19]),(4,[4]),(5,[4]),(6,[0,1,5]),(7,[0,1,5,24]),(8,[0,1,5]),(9,[0,1,5,35]),(10,[4]),(11,[0,1,5,44]),(12,[4]),(13,[4])]
def fi108:Fi:=⟨53,[.tmp 4]⟩
def kp108:List (Nat × List Nat):=[(0,[0,1]),(1,[0,1,13]),(2,[0,1]),(3,[0,1,5]),(4,[0,1,5,6]),(5,[1,5,6,20,21,22]),(6,[1,5,6,20,21,22,23]),(7,[1,5,6,7,8,20,21,22]),(8,[1,5,7,8,20,21,22]),(9,[1,5,7,8,20,21,22,33]),(10,[1,5,8,20,21,22]),(11,[1,5,6,8,20,21,22]),(12,[1,5,6,8,20,21,22,41]),(13,[1,5,6,8,20,21,22]),(14,[1,5,6,20,21,22]),(15,[1,5,6,20,21,22]),(16,[4])]
def fi109:Fi:=⟨44,[.tmp 4]⟩
def kp109:List (Nat × List Nat):=[(0,[0,1]),(1,[0,1,5]),(2,[0,1,5,6]),(3,[1,5,6,13,14,15]),(4,[1,5,6,13,14,15,16]),(5,[1,5,6,7,8,13,14,15]),(6,[1,5,7,8,9,13,14,15]),(7,[1,5,7,8,9,13,14,15,24]),(8,[1,5,7,8,9,13,14,15]),(9,[1,5,6,7,8,9,13,14,15]),(10,[1,5,6,7,8,9,13,14,15,33]),(11,[1,5,6,7,8,9,13,14,15]),(12,[1,5,6,13,14,15]),(13,[1,5,6,13,14,15]),(14,[4])]
def fi118:Fi:=⟨44,[.tmp 4,.tmp 5]⟩
def kp118:List (Nat × List Nat):=[(0,[0,1]),(1,[0,1,6]),(2,[0,1,6,7]),(3,[0,1,6,7,8]),(4,[0,1,6,7,8,17]),(5,[0,1,6,7,8]),(6,[0,1,6,8,9]),(7,[0,1,6,7,8]),(8,[4,5])]
def Zfc (fa fb:Bool) (a b:List Int) (Q:AV->Heap->Prop):Prop:=Wp M1 (.run fi85 (atC (cd Try.f85) []) [(0,.vec fa 1 (a.map (.int .u32))),(1,.vec fb 1 (b.map (.int .u32)))] []) Q
def ZbT (fa fb:Bool) (a b:List Int) (i:Int) (Q:AV->Heap->Prop):Prop:=Wp M1 (.run fi85 (atC (cd Try.f85) [1,1,1,0,1,0,0]) [(0,.vec fa 1 (a.map (.int .u32))),(1,.vec fb 1 (b.map (.int .u32))),(5,.int .i64 i)] []) Q
def vPlus_at (fa fb:Bool) (a b:List Int) (Q:AV->Heap->Prop):Prop:=Wp M1 (.run fi108 (atC (cd Try.f108) []) [(0,.vec fa 1 (a.map (.int .u32))),(1,.vec fb 1 (b.map (.int .u32)))] []) Q
def ZbS (fb fx:Bool) (b x o:List Int) (c n i:Int) (v:Nat) (Q:AV->Heap->Prop):Prop:=Wp M1 (.run fi108 (atC (cd Try.f108) [1,1,1,1,0,1,0,0]) [(1,.vec fb 1 (b.map (.int .u32))),(5,.row 0 v),(6,.int .u32 c),(20,.vec fx 1 (x.map (.int .u32))),(21,.int .i64 n),(22,.int .i64 i)] [⟨o.map (.int .u32),1,v,false,true⟩]) Q
def vMinus_at (fa fb:Bool) (a b:List Int) (Q:AV->Heap->Prop):Prop:=Wp M1 (.run fi109 (atC (cd Try.f109) []) [(0,.vec fa 1 (a.map (.int .u32))),(1,.vec fb 1 (b.map (.int .u32)))] []) Q
def Zbf (fb fx:Bool) (b x o:List Int) (c n i:Int) (Q:AV->Heap->Prop):Prop:=Wp M1 (.run fi109 (atC (cd Try.f109) [1,1,1,0,1,0,0]) [(1,.vec fb 1 (b.map (.int .u32))),(5,.row 0 0),(6,.int .u32 c),(13,.vec fx 1 (x.map (.int .u32))),(14,.int .i64 n),(15,.int .i64 i)] [⟨o.map (.int .u32),1,0,false,true⟩]) Q
def Zgj (fa:Bool) (a:List Int) (d:Int) (Q:AV->Heap->Prop):Prop:=Wp M1 (.run fi118 (atC (cd Try.f118) []) [(0,.vec fa 1 (a.map (.int .u32))),(1,.int .u32 d)] []) Q
def ZbF (fa:Bool) (a o:List Int) (d r i:Int) (Q:AV->Heap->Prop):Prop:=Wp M1 (.run fi118 (atC (cd Try.f118) [1,1,1,0,1,0,0]) [(0,.vec fa 1 (a.map (.int .u32))),(1,.int .u32 d),(6,.row 0 0),(7,.int .u64 r),(8,.int .i64 i)] [⟨o.map (.int .u32),1,0,false,true⟩]) Q
theorem call85 {args:List AV} {d:AV} (h:wc M1 fi85 Try.f85 args d):Ev M1 (.pure 85 args) d []:=pcl _ _ (by kernel_rfl) h
theorem call108 {args:List AV} {d:AV} (h:wc M1 fi108 Try.f108 args d):Ev M1 (.pure 108 args) d []:=pcl _ _ (by kernel_rfl) h
theorem call109 {args:List AV} {d:AV} (h:wc M1 fi109 Try.f109 args d):Ev M1 (.pure 109 args) d []:=pcl _ _ (by kernel_rfl) h
theorem call118 {args:List AV} {d:AV} (h:wc M1 fi118 Try.f118 args d):Ev M1 (.pure 118 args) d []:=pcl _ _ (by kernel_rfl) h
theorem vCompare (fa fb:Bool) (a b:List Int)  (dq:AV) (H :
  ∃ (l1:List (Int)),
  (Ev M1 (Conf.pure 110 [AV.vec fa 1 (us a)]) (vf (us l1)) []) /\
  ∃ (l2:List (Int)),
  (Ev M1 (Conf.pure 110 [AV.vec fb 1 (us b)]) (vf (us l2)) []) /\
  ((¬(↑l1.length:Int) = (↑l2.length:Int)) -> (((↑l1.length:Int) < (↑l2.length:Int)) -> vi (-1) = dq) /\
   (¬((↑l1.length:Int) < (↑l2.length:Int)) -> vi 1 = dq)) /\
  (¬(¬(↑l1.length:Int) = (↑l2.length:Int)) -> (-9223372036854775808 <= (↑l1.length:Int) - 1 /\ (↑l1.length:Int) - 1 <= 9223372036854775807) /\
   ZbT (false) (false) (l1) (l2) ((↑l1.length:Int) - 1) (Zae dq))) :
 Zfc fa fb a b (Zae dq):=by
 unfold Zfc
 obtain ⟨l1,k1,l2,k2,H⟩:=H
 have w3:(us l1).length = l1.length:=List.length_map ..
 have w4:(us l2).length = l2.length:=List.length_map ..
 have i5:((↑(us l1).length:Int) != (↑(us l2).length:Int)) = true ↔ (¬(↑l1.length:Int) = (↑l2.length:Int)):=(by (try rw [w3]);(try rw [w4]);all_goals exact i_ne)
 refine Zac (G:=Zab kp85 [(1,1,.call (vf (us l1)) none),(1,3,.call (vf (us l2)) none)] []) 7 [] ⟨(atC (cd Try.f85) [1,1,0,1]),[(0,vf (us l1)),(1,vf (us l2)),(14,vb ((↑(us l1).length:Int) != (↑(us l2).length:Int)))],[],_,[],_⟩ (by kernel_rfl) b0 q0 (ce k1 (ce k2 c0)) ?_
 rcases xq H with ⟨d6,H⟩|⟨d6,H⟩
 ·have i7:(decide ((↑(us l1).length:Int) < (↑(us l2).length:Int))) = true ↔ ((↑l1.length:Int) < (↑l2.length:Int)):=(by (try rw [w3]);(try rw [w4]);all_goals exact Zaa)
  rcases xq H with ⟨d8,H⟩|⟨d8,H⟩
  ·exact Zag (G:=Zab kp85 [] []) 1000 [true,true] (vi (-1)) (by kernel_rfl) (bc (Zak (i5.2 d6)) (bc (Zak (i7.2 d8)) b0)) q0 c0 H
  ·exact Zag (G:=Zab kp85 [] []) 1000 [true,false] (vi 1) (by kernel_rfl) (bc (Zak (i5.2 d6)) (bc (Zaj (fun h => d8 (i7.1 h))) b0)) q0 c0 H
 ·obtain ⟨k9,H⟩:=H
  have w10:wi ((↑l1.length:Int) - 1) = (↑l1.length:Int) - 1:=wI64 k9
  exact Zac (G:=Zab kp85 [] []) 1000 [false] ⟨(atC (cd Try.f85) [1,1,1,0,1,0,0]),[(0,vf (us l1)),(1,vf (us l2)),(5,vi (wi ((↑(us l1).length:Int) - 1)))],[],_,[],_⟩ (by kernel_rfl) (bc (Zaj (fun h => d6 (i5.1 h))) b0) q0 c0 (by (try rw [w3]);(try rw [w10]);all_goals exact H)
theorem vCompareA (fa fb:Bool) (a b:List Int) (i:Int)  (dq:AV) (H :
  ((i >= 0) -> (0 <= i) /\
   (i.toNat < a.length) /\
   (i.toNat < b.length) /\
   ((a.getD i.toNat default < b.getD i.toNat default) -> vi (-1) = dq) /\
   (¬(a.getD i.toNat default < b.getD i.toNat default) -> ((a.getD i.toNat default > b.getD i.toNat default) -> vi 1 = dq) /\
    (¬(a.getD i.toNat default > b.getD i.toNat default) -> (-9223372036854775808 <= i - 1 /\ i - 1 <= 9223372036854775807) /\
     ZbT (fa) (fb) (a) (b) (i - 1) (Zae dq)))) /\
  (¬(i >= 0) -> vi 0 = dq)) :
 ZbT fa fb a b i (Zae dq):=by
 unfold ZbT
 rcases xq H with ⟨d2,H⟩|⟨d2,H⟩
 ·obtain ⟨k4,H⟩:=H
  have w5:(us a).length = a.length:=List.length_map ..
  have i6:(decide (i.toNat < (us a).length)) = true ↔ (i.toNat < a.length):=(by (try rw [w5]);all_goals exact Zaa)
  obtain ⟨k7,H⟩:=H
  have w9:(us b).length = b.length:=List.length_map ..
  have i10:(decide (i.toNat < (us b).length)) = true ↔ (i.toNat < b.length):=(by (try rw [w9]);all_goals exact Zaa)
  obtain ⟨k11,H⟩:=H
  refine Zac (G:=Zab kp85 [(9,3,.elem (vu (a.getD i.toNat default))),(9,7,.elem (vu (b.getD i.toNat default)))] []) 10 [true] ⟨(atC (cd Try.f85) [1,1,1,0,1,0,0,1,0,0,0,1]),[(0,AV.vec fa 1 (us a)),(1,AV.vec fb 1 (us b)),(5,vi i),(35,vb (decide (a.getD i.toNat default < b.getD i.toNat default)))],[],_,[((us a).get?Internal i.toNat = some (vu (a.getD i.toNat default))),((us b).get?Internal i.toNat = some (vu (b.getD i.toNat default)))],_⟩ (by kernel_rfl) (bc (Zak (Zaa.2 d2)) (bc (Zaa.2 k4) (bc (i6.2 k7) (bc (Zaa.2 k4) (bc (i10.2 k11) b0))))) (qc (Zap k7) (qc (Zap k11) q0)) c0 ?_
  rcases xq H with ⟨d13,H⟩|⟨d13,H⟩
  ·exact Zag (G:=Zab kp85 [] []) 1000 [true] (vi (-1)) (by kernel_rfl) (bc (Zak (Zaa.2 d13)) b0) q0 c0 H
  ·have i15:(decide (i.toNat < (us a).length)) = true ↔ (i.toNat < a.length):=(by (try rw [w5]);all_goals exact Zaa)
   have i17:(decide (i.toNat < (us b).length)) = true ↔ (i.toNat < b.length):=(by (try rw [w9]);all_goals exact Zaa)
   refine Zac (G:=Zab kp85 [(11,3,.elem (vu (a.getD i.toNat default))),(11,7,.elem (vu (b.getD i.toNat default)))] []) 4 [false] ⟨(atC (cd Try.f85) [1,1,1,0,1,0,0,1,0,0,1,1]),[(0,AV.vec fa 1 (us a)),(1,AV.vec fb 1 (us b)),(5,vi i),(44,vb (decide (a.getD i.toNat default > b.getD i.toNat default)))],[],_,[((us a).get?Internal i.toNat = some (vu (a.getD i.toNat default))),((us b).get?Internal i.toNat = some (vu (b.getD i.toNat default)))],_⟩ (by kernel_rfl) (bc (Zaj (fun h => d13 (Zaa.1 h))) (bc (Zaa.2 k4) (bc (i15.2 k7) (bc (Zaa.2 k4) (bc (i17.2 k11) b0))))) (qc (Zap k7) (qc (Zap k11) q0)) c0 ?_
   rcases xq H with ⟨d19,H⟩|⟨d19,H⟩
   ·exact Zag (G:=Zab kp85 [] []) 1000 [true] (vi 1) (by kernel_rfl) (bc (Zak (Zaa.2 d19)) b0) q0 c0 H
   ·obtain ⟨k20,H⟩:=H
    have w21:wi (i - 1) = i - 1:=wI64 k20
    exact Zac (G:=Zab kp85 [] []) 1000 [false] ⟨(atC (cd Try.f85) [1,1,1,0,1,0,0]),[(0,AV.vec fa 1 (us a)),(1,AV.vec fb 1 (us b)),(5,vi (wi (i - 1)))],[],_,[],_⟩ (by kernel_rfl) (bc (Zaj (fun h => d19 (Zaa.1 h))) b0) q0 c0 (by (try rw [w21]);all_goals exact H)
 ·exact Zag (G:=Zab kp85 [] []) 1000 [false] (vi 0) (by kernel_rfl) (bc (Zaj (fun h => d2 (Zaa.1 h))) b0) q0 c0 H
theorem vPlus (fa fb:Bool) (a b:List Int)  (dq:AV) (H :
  (((↑a.length:Int) < (↑b.length:Int)) -> (-9223372036854775808 <= (↑b.length:Int) + 1 /\ (↑b.length:Int) + 1 <= 9223372036854775807) /\
   (0 <= (↑b.length:Int) + 1) /\
   (((↑b.length:Int) + 1) * 4 <= 1099511627776) /\
   ((↑b.length:Int) + 1 <= 1099511627776) /\
   Wp M1 (.run fi108 (atC (cd Try.f108) [1,1,1,1,0,1,0,0]) [(1,AV.vec fa 1 (us a)),(5,AV.row 0 0),(6,vu 0),(20,AV.vec fb 1 (us b)),(21,vi (↑b.length:Int)),(22,vi 0)] [{ elems:=[],es:=1,ver:=0,frozen:=false,clean:=true }]) (Zae dq)) /\
  (¬((↑a.length:Int) < (↑b.length:Int)) -> (-9223372036854775808 <= (↑a.length:Int) + 1 /\ (↑a.length:Int) + 1 <= 9223372036854775807) /\
   (0 <= (↑a.length:Int) + 1) /\
   (((↑a.length:Int) + 1) * 4 <= 1099511627776) /\
   ((↑a.length:Int) + 1 <= 1099511627776) /\
   Wp M1 (.run fi108 (atC (cd Try.f108) [1,1,1,1,0,1,0,0]) [(1,AV.vec fb 1 (us b)),(5,AV.row 0 0),(6,vu 0),(20,AV.vec fa 1 (us a)),(21,vi (↑a.length:Int)),(22,vi 0)] [{ elems:=[],es:=1,ver:=0,frozen:=false,clean:=true }]) (Zae dq))) :
 vPlus_at fa fb a b (Zae dq):=by
 unfold vPlus_at
 have w1:(us a).length = a.length:=List.length_map ..
 have w2:(us b).length = b.length:=List.length_map ..
 have i3:(decide ((↑(us a).length:Int) < (↑(us b).length:Int))) = true ↔ ((↑a.length:Int) < (↑b.length:Int)):=(by (try rw [w1]);(try rw [w2]);all_goals exact Zaa)
 rcases xq H with ⟨d4,H⟩|⟨d4,H⟩
 ·obtain ⟨k5,H⟩:=H
  have w6:wi ((↑b.length:Int) + 1) = (↑b.length:Int) + 1:=wI64 k5
  have i7:(decide (0 <= wi ((↑(us b).length:Int) + 1))) = true ↔ (0 <= (↑b.length:Int) + 1):=(by (try rw [w2]);(try rw [w6]);all_goals exact Zaa)
  obtain ⟨k8,H⟩:=H
  have i9:(decide (wi ((↑(us b).length:Int) + 1) * 4 <= 1099511627776)) = true ↔ (((↑b.length:Int) + 1) * 4 <= 1099511627776):=(by (try rw [w2]);(try rw [w6]);all_goals exact Zaa)
  obtain ⟨k10,H⟩:=H
  have i11:(decide (wi ((↑(us b).length:Int) + 1) <= 1099511627776)) = true ↔ ((↑b.length:Int) + 1 <= 1099511627776):=(by (try rw [w2]);(try rw [w6]);all_goals exact Zaa)
  obtain ⟨k12,H⟩:=H
  have w13:[] = us []:=rfl
  exact Zac (G:=Zab kp108 [] []) 1000 [true] ⟨(atC (cd Try.f108) [1,1,1,1,0,1,0,0]),[(1,AV.vec fa 1 (us a)),(5,AV.row 0 0),(6,vu 0),(20,AV.vec fb 1 (us b)),(21,vi (↑(us b).length:Int)),(22,vi 0)],[⟨[],1,0,false,true⟩],_,[],_⟩ (by kernel_rfl) (bc (Zak (i3.2 d4)) (bc rfl (bc (i7.2 k8) (bc (i9.2 k10) (bc (i11.2 k12) b0))))) q0 c0 (by (try rw [w2]);(try rw [w13]);all_goals exact H)
 ·obtain ⟨k14,H⟩:=H
  have w15:wi ((↑a.length:Int) + 1) = (↑a.length:Int) + 1:=wI64 k14
  have i16:(decide (0 <= wi ((↑(us a).length:Int) + 1))) = true ↔ (0 <= (↑a.length:Int) + 1):=(by (try rw [w1]);(try rw [w15]);all_goals exact Zaa)
  obtain ⟨k17,H⟩:=H
  have i18:(decide (wi ((↑(us a).length:Int) + 1) * 4 <= 1099511627776)) = true ↔ (((↑a.length:Int) + 1) * 4 <= 1099511627776):=(by (try rw [w1]);(try rw [w15]);all_goals exact Zaa)
  obtain ⟨k19,H⟩:=H
  have i20:(decide (wi ((↑(us a).length:Int) + 1) <= 1099511627776)) = true ↔ ((↑a.length:Int) + 1 <= 1099511627776):=(by (try rw [w1]);(try rw [w15]);all_goals exact Zaa)
  obtain ⟨k21,H⟩:=H
  have w22:[] = us []:=rfl
  exact Zac (G:=Zab kp108 [] []) 1000 [false] ⟨(atC (cd Try.f108) [1,1,1,1,0,1,0,0]),[(1,AV.vec fb 1 (us b)),(5,AV.row 0 0),(6,vu 0),(20,AV.vec fa 1 (us a)),(21,vi (↑(us a).length:Int)),(22,vi 0)],[⟨[],1,0,false,true⟩],_,[],_⟩ (by kernel_rfl) (bc (Zaj (fun h => d4 (i3.1 h))) (bc rfl (bc (i16.2 k17) (bc (i18.2 k19) (bc (i20.2 k21) b0))))) q0 c0 (by (try rw [w1]);(try rw [w22]);all_goals exact H)
theorem vPlusA (fb fx:Bool) (b x o:List Int) (c n i:Int) (v:Nat)  (dq:AV) (H :
  ((i < n) -> (0 <= i) /\
   (i.toNat < x.length) /\
   (0 <= x.getD i.toNat default + c /\ x.getD i.toNat default + c <= 4294967295) /\
   ((i < (↑b.length:Int)) -> (i.toNat < b.length) /\
    (0 <= x.getD i.toNat default + c + b.getD i.toNat default /\ x.getD i.toNat default + c + b.getD i.toNat default <= 4294967295) /\
    ((x.getD i.toNat default + c + b.getD i.toNat default >= 1000000000) -> (0 <= x.getD i.toNat default + c + b.getD i.toNat default - 1000000000 /\ x.getD i.toNat default + c + b.getD i.toNat default - 1000000000 <= 4294967295) /\
     ((o.length + 1) * 4 <= 1099511627776) /\
     (-9223372036854775808 <= i + 1 /\ i + 1 <= 9223372036854775807) /\
     ZbS (fb) (fx) (b) (x) (o ++ [x.getD i.toNat default + c + b.getD i.toNat default - 1000000000]) (1) (n) (i + 1) (v + 1) (Zae dq)) /\
    (¬(x.getD i.toNat default + c + b.getD i.toNat default >= 1000000000) -> ((o.length + 1) * 4 <= 1099511627776) /\
     (-9223372036854775808 <= i + 1 /\ i + 1 <= 9223372036854775807) /\
     ZbS (fb) (fx) (b) (x) (o ++ [x.getD i.toNat default + c + b.getD i.toNat default]) (0) (n) (i + 1) (v + 1) (Zae dq))) /\
   (¬(i < (↑b.length:Int)) -> ((x.getD i.toNat default + c >= 1000000000) -> (0 <= x.getD i.toNat default + c - 1000000000 /\ x.getD i.toNat default + c - 1000000000 <= 4294967295) /\
     ((o.length + 1) * 4 <= 1099511627776) /\
     (-9223372036854775808 <= i + 1 /\ i + 1 <= 9223372036854775807) /\
     ZbS (fb) (fx) (b) (x) (o ++ [x.getD i.toNat default + c - 1000000000]) (1) (n) (i + 1) (v + 1) (Zae dq)) /\
    (¬(x.getD i.toNat default + c >= 1000000000) -> ((o.length + 1) * 4 <= 1099511627776) /\
     (-9223372036854775808 <= i + 1 /\ i + 1 <= 9223372036854775807) /\
     ZbS (fb) (fx) (b) (x) (o ++ [x.getD i.toNat default + c]) (0) (n) (i + 1) (v + 1) (Zae dq)))) /\
  (¬(i < n) -> ((o.length + 1) * 4 <= 1099511627776) /\
   Weak (vf (us (o ++ [c]))) dq)) :
 ZbS fb fx b x o c n i v (Zae dq):=by
 unfold ZbS
 rcases xq H with ⟨d2,H⟩|⟨d2,H⟩
 ·obtain ⟨k4,H⟩:=H
  have w5:(us x).length = x.length:=List.length_map ..
  have i6:(decide (i.toNat < (us x).length)) = true ↔ (i.toNat < x.length):=(by (try rw [w5]);all_goals exact Zaa)
  obtain ⟨k7,k8,H⟩:=H
  have w9:wv (x.getD i.toNat default + c) = x.getD i.toNat default + c:=wU32 k8
  have w10:(us b).length = b.length:=List.length_map ..
  have i11:(decide (i < (↑(us b).length:Int))) = true ↔ (i < (↑b.length:Int)):=(by (try rw [w10]);all_goals exact Zaa)
  refine Zac (G:=Zab kp108 [(7,2,.elem (vu (x.getD i.toNat default)))] []) 14 [true] ⟨(atC (cd Try.f108) [1,1,1,1,0,1,0,0,1,1,0,0,1,1,0,1]),[(1,AV.vec fb 1 (us b)),(5,AV.row 0 v),(7,vi i),(8,vu (wv (x.getD i.toNat default + c))),(20,AV.vec fx 1 (us x)),(21,vi n),(22,vi i),(33,vb (decide (i < (↑(us b).length:Int))))],[⟨us o,1,v,false,true⟩],_,[((us x).get?Internal i.toNat = some (vu (x.getD i.toNat default)))],_⟩ (by kernel_rfl) (bc (Zak (Zaa.2 d2)) (bc (Zaa.2 k4) (bc (i6.2 k7) b0))) (qc (Zap k7) q0) c0 ?_
  rcases xq H with ⟨d12,H⟩|⟨d12,H⟩
  ·have i14:(decide (i.toNat < (us b).length)) = true ↔ (i.toNat < b.length):=(by (try rw [w10]);all_goals exact Zaa)
   obtain ⟨k15,k16,H⟩:=H
   have w17:wv (x.getD i.toNat default + c + b.getD i.toNat default) = x.getD i.toNat default + c + b.getD i.toNat default:=wU32 k16
   have i18:(decide (wv (wv (x.getD i.toNat default + c) + b.getD i.toNat default) >= 1000000000)) = true ↔ (x.getD i.toNat default + c + b.getD i.toNat default >= 1000000000):=(by (try rw [w9]);(try rw [w17]);all_goals exact Zaa)
   refine Zac (G:=Zab kp108 [(10,4,.elem (vu (b.getD i.toNat default)))] []) 7 [true] ⟨(atC (cd Try.f108) [1,1,1,1,0,1,0,0,1,1,0,0,1,1,1,1,0,1]),[(1,AV.vec fb 1 (us b)),(5,AV.row 0 v),(6,vu 0),(8,vu (wv (wv (x.getD i.toNat default + c) + b.getD i.toNat default))),(20,AV.vec fx 1 (us x)),(21,vi n),(22,vi i),(41,vb (decide (wv (wv (x.getD i.toNat default + c) + b.getD i.toNat default) >= 1000000000)))],[⟨us o,1,v,false,true⟩],_,[((us b).get?Internal i.toNat = some (vu (b.getD i.toNat default)))],_⟩ (by kernel_rfl) (bc (Zak (i11.2 d12)) (bc (Zaa.2 k4) (bc (i14.2 k15) b0))) (qc (Zap k15) q0) c0 ?_
   rcases xq H with ⟨d19,H⟩|⟨d19,H⟩
   ·obtain ⟨k20,H⟩:=H
    have w21:wv (x.getD i.toNat default + c + b.getD i.toNat default - 1000000000) = x.getD i.toNat default + c + b.getD i.toNat default - 1000000000:=wU32 k20
    have w22:(us o).length = o.length:=List.length_map ..
    have i23:(decide (((us o).length + 1) * 4 <= 1099511627776)) = true ↔ ((o.length + 1) * 4 <= 1099511627776):=(by (try rw [w9]);(try rw [w17]);(try rw [w21]);(try rw [w22]);all_goals exact Zaa)
    obtain ⟨k24,H⟩:=H
    have w25:us o ++ [vu (x.getD i.toNat default + c + b.getD i.toNat default - 1000000000)] = us (o ++ [x.getD i.toNat default + c + b.getD i.toNat default - 1000000000]):=(ZfB rfl rfl)
    obtain ⟨k26,H⟩:=H
    have w27:wi (i + 1) = i + 1:=wI64 k26
    exact Zac (G:=Zab kp108 [] []) 1000 [true] ⟨(atC (cd Try.f108) [1,1,1,1,0,1,0,0]),[(1,AV.vec fb 1 (us b)),(5,AV.row 0 (v + 1)),(6,vu 1),(20,AV.vec fx 1 (us x)),(21,vi n),(22,vi (wi (i + 1)))],[⟨us o ++ [vu (wv (wv (wv (x.getD i.toNat default + c) + b.getD i.toNat default) - 1000000000))],1,v + 1,false,true⟩],[(decide (wv (wv (x.getD i.toNat default + c) + b.getD i.toNat default) >= 1000000000)) == true,v == v,decide (((us o).length + 1) * 4 <= 1099511627776)],[],_⟩ (by kernel_rfl) (bc (Zak (i18.2 d19)) (bc (beq_self_eq_true _) (bc (i23.2 k24) b0))) q0 c0 (by (try rw [w9]);(try rw [w17]);(try rw [w21]);(try rw [w25]);(try rw [w27]);all_goals exact H)
   ·have w28:(us o).length = o.length:=List.length_map ..
    have i29:(decide (((us o).length + 1) * 4 <= 1099511627776)) = true ↔ ((o.length + 1) * 4 <= 1099511627776):=(by (try rw [w9]);(try rw [w17]);(try rw [w28]);all_goals exact Zaa)
    obtain ⟨k30,H⟩:=H
    have w31:us o ++ [vu (x.getD i.toNat default + c + b.getD i.toNat default)] = us (o ++ [x.getD i.toNat default + c + b.getD i.toNat default]):=(ZfB rfl rfl)
    obtain ⟨k32,H⟩:=H
    have w33:wi (i + 1) = i + 1:=wI64 k32
    exact Zac (G:=Zab kp108 [] []) 1000 [false] ⟨(atC (cd Try.f108) [1,1,1,1,0,1,0,0]),[(1,AV.vec fb 1 (us b)),(5,AV.row 0 (v + 1)),(6,vu 0),(20,AV.vec fx 1 (us x)),(21,vi n),(22,vi (wi (i + 1)))],[⟨us o ++ [vu (wv (wv (x.getD i.toNat default + c) + b.getD i.toNat default))],1,v + 1,false,true⟩],[(decide (wv (wv (x.getD i.toNat default + c) + b.getD i.toNat default) >= 1000000000)) == false,v == v,decide (((us o).length + 1) * 4 <= 1099511627776)],[],_⟩ (by kernel_rfl) (bc (Zaj (fun h => d19 (i18.1 h))) (bc (beq_self_eq_true _) (bc (i29.2 k30) b0))) q0 c0 (by (try rw [w9]);(try rw [w17]);(try rw [w31]);(try rw [w33]);all_goals exact H)
  ·have i34:(decide (wv (x.getD i.toNat default + c) >= 1000000000)) = true ↔ (x.getD i.toNat default + c >= 1000000000):=(by (try rw [w9]);all_goals exact Zaa)
   rcases xq H with ⟨d35,H⟩|⟨d35,H⟩
   ·obtain ⟨k36,H⟩:=H
    have w37:wv (x.getD i.toNat default + c - 1000000000) = x.getD i.toNat default + c - 1000000000:=wU32 k36
    have w38:(us o).length = o.length:=List.length_map ..
    have i39:(decide (((us o).length + 1) * 4 <= 1099511627776)) = true ↔ ((o.length + 1) * 4 <= 1099511627776):=(by (try rw [w9]);(try rw [w37]);(try rw [w38]);all_goals exact Zaa)
    obtain ⟨k40,H⟩:=H
    have w41:us o ++ [vu (x.getD i.toNat default + c - 1000000000)] = us (o ++ [x.getD i.toNat default + c - 1000000000]):=(ZfB rfl rfl)
    obtain ⟨k42,H⟩:=H
    have w43:wi (i + 1) = i + 1:=wI64 k42
    exact Zac (G:=Zab kp108 [] []) 1000 [false,true] ⟨(atC (cd Try.f108) [1,1,1,1,0,1,0,0]),[(1,AV.vec fb 1 (us b)),(5,AV.row 0 (v + 1)),(6,vu 1),(20,AV.vec fx 1 (us x)),(21,vi n),(22,vi (wi (i + 1)))],[⟨us o ++ [vu (wv (wv (x.getD i.toNat default + c) - 1000000000))],1,v + 1,false,true⟩],[(decide (i < (↑(us b).length:Int))) == false,(decide (wv (x.getD i.toNat default + c) >= 1000000000)) == true,v == v,decide (((us o).length + 1) * 4 <= 1099511627776)],[],_⟩ (by kernel_rfl) (bc (Zaj (fun h => d12 (i11.1 h))) (bc (Zak (i34.2 d35)) (bc (beq_self_eq_true _) (bc (i39.2 k40) b0)))) q0 c0 (by (try rw [w9]);(try rw [w37]);(try rw [w41]);(try rw [w43]);all_goals exact H)
   ·have w44:(us o).length = o.length:=List.length_map ..
    have i45:(decide (((us o).length + 1) * 4 <= 1099511627776)) = true ↔ ((o.length + 1) * 4 <= 1099511627776):=(by (try rw [w9]);(try rw [w44]);all_goals exact Zaa)
    obtain ⟨k46,H⟩:=H
    have w47:us o ++ [vu (x.getD i.toNat default + c)] = us (o ++ [x.getD i.toNat default + c]):=(ZfB rfl rfl)
    obtain ⟨k48,H⟩:=H
    have w49:wi (i + 1) = i + 1:=wI64 k48
    exact Zac (G:=Zab kp108 [] []) 1000 [false,false] ⟨(atC (cd Try.f108) [1,1,1,1,0,1,0,0]),[(1,AV.vec fb 1 (us b)),(5,AV.row 0 (v + 1)),(6,vu 0),(20,AV.vec fx 1 (us x)),(21,vi n),(22,vi (wi (i + 1)))],[⟨us o ++ [vu (wv (x.getD i.toNat default + c))],1,v + 1,false,true⟩],[(decide (i < (↑(us b).length:Int))) == false,(decide (wv (x.getD i.toNat default + c) >= 1000000000)) == false,v == v,decide (((us o).length + 1) * 4 <= 1099511627776)],[],_⟩ (by kernel_rfl) (bc (Zaj (fun h => d12 (i11.1 h))) (bc (Zaj (fun h => d35 (i34.1 h))) (bc (beq_self_eq_true _) (bc (i45.2 k46) b0)))) q0 c0 (by (try rw [w9]);(try rw [w47]);(try rw [w49]);all_goals exact H)
 ·have w50:(us o).length = o.length:=List.length_map ..
  have i51:(decide (((us o).length + 1) * 4 <= 1099511627776)) = true ↔ ((o.length + 1) * 4 <= 1099511627776):=(by (try rw [w50]);all_goals exact Zaa)
  obtain ⟨k52,H⟩:=H
  have w53:us o ++ [vu c] = us (o ++ [c]):=(ZfB rfl rfl)
  exact ZbB (G:=Zab kp108 [] []) 1000 [false] (k:=((atC (cd Try.f108) [1,1,1,1,1,1])).tail) (env':=[(4,AV.row 0 (v + 1))]) (L':=[⟨us o ++ [vu c],1,v + 1,false,true⟩]) (asm:=[(decide (i < n)) == false,v == v,decide (((us o).length + 1) * 4 <= 1099511627776)]) (eqs:=[]) (calls:=[]) (AV.row 0 (v + 1)) (by kernel_rfl) (by kernel_rfl) (Zal (Zaj (fun h => d2 (Zaa.1 h))) (Zal (beq_self_eq_true _) (Zal (i51.2 k52) ZaP))) Zba Zbb (Zeh (d:=(vf (us o ++ [vu c]))) (bs:=[v + 1 == v + 1]) (by kernel_rfl) (by kernel_rfl) (Zal (beq_self_eq_true _) ZaP) (by kernel_rfl) (by (try rw [w53]);all_goals exact H))
theorem vMinus (fa fb:Bool) (a b:List Int)  (dq:AV) (H :
  (0 <= (↑a.length:Int)) /\
  ((↑a.length:Int) * 4 <= 1099511627776) /\
  ((↑a.length:Int) <= 1099511627776) /\
  Zbf (fb) (fa) (b) (a) (List.replicate (↑a.length:Int).toNat (0:Int)) (0) ((↑a.length:Int)) (0) (Zae dq)) :
 vMinus_at fa fb a b (Zae dq):=by
 unfold vMinus_at
 have w1:(us a).length = a.length:=List.length_map ..
 have i2:(decide (0 <= (↑(us a).length:Int))) = true ↔ (0 <= (↑a.length:Int)):=(by (try rw [w1]);all_goals exact Zaa)
 obtain ⟨k3,H⟩:=H
 have i4:(decide ((↑(us a).length:Int) <= (↑(us a).length:Int))) = true ↔ ((↑a.length:Int) <= (↑a.length:Int)):=(by (try rw [w1]);all_goals exact Zaa)
 have i5:(decide ((↑(us a).length:Int) * 4 <= 1099511627776)) = true ↔ ((↑a.length:Int) * 4 <= 1099511627776):=(by (try rw [w1]);all_goals exact Zaa)
 obtain ⟨k6,H⟩:=H
 have i7:(decide ((↑(us a).length:Int) <= 1099511627776)) = true ↔ ((↑a.length:Int) <= 1099511627776):=(by (try rw [w1]);all_goals exact Zaa)
 obtain ⟨k8,H⟩:=H
 have w9:List.replicate (↑a.length:Int).toNat (vu 0) = us (List.replicate (↑a.length:Int).toNat (0:Int)):=(Zde rfl)
 exact Zac (G:=Zab kp109 [] []) 1000 [] ⟨(atC (cd Try.f109) [1,1,1,0,1,0,0]),[(1,AV.vec fb 1 (us b)),(5,AV.row 0 0),(6,vu 0),(13,AV.vec fa 1 (us a)),(14,vi (↑(us a).length:Int)),(15,vi 0)],[⟨List.replicate (↑(us a).length:Int).toNat (vu 0),1,0,false,true⟩],[decide (0 <= (↑(us a).length:Int)),decide ((↑(us a).length:Int) <= (↑(us a).length:Int)),decide ((↑(us a).length:Int) * 4 <= 1099511627776),decide ((↑(us a).length:Int) <= 1099511627776)],[],_⟩ (by kernel_rfl) (bc (i2.2 k3) (bc (i4.2 (by omega)) (bc (i5.2 k6) (bc (i7.2 k8) b0)))) q0 c0 (by (try rw [w1]);(try rw [w9]);all_goals exact H)
theorem vMinusA (fb fx:Bool) (b x o:List Int) (c n i:Int)  (dq:AV) (H :
  ((i < n) -> (0 <= i) /\
   (i.toNat < x.length) /\
   ((i < (↑b.length:Int)) -> (i.toNat < b.length) /\
    (0 <= c + b.getD i.toNat default /\ c + b.getD i.toNat default <= 4294967295) /\
    ((x.getD i.toNat default < c + b.getD i.toNat default) -> (0 <= x.getD i.toNat default + 1000000000 /\ x.getD i.toNat default + 1000000000 <= 4294967295) /\
     (i.toNat < o.length) /\
     (0 <= x.getD i.toNat default + 1000000000 - (c + b.getD i.toNat default) /\ x.getD i.toNat default + 1000000000 - (c + b.getD i.toNat default) <= 4294967295) /\
     (-9223372036854775808 <= i + 1 /\ i + 1 <= 9223372036854775807) /\
     Zbf (fb) (fx) (b) (x) (o.set i.toNat (x.getD i.toNat default + 1000000000 - (c + b.getD i.toNat default))) (1) (n) (i + 1) (Zae dq)) /\
    (¬(x.getD i.toNat default < c + b.getD i.toNat default) -> (i.toNat < o.length) /\
     (0 <= x.getD i.toNat default - (c + b.getD i.toNat default) /\ x.getD i.toNat default - (c + b.getD i.toNat default) <= 4294967295) /\
     (-9223372036854775808 <= i + 1 /\ i + 1 <= 9223372036854775807) /\
     Zbf (fb) (fx) (b) (x) (o.set i.toNat (x.getD i.toNat default - (c + b.getD i.toNat default))) (0) (n) (i + 1) (Zae dq))) /\
   (¬(i < (↑b.length:Int)) -> ((x.getD i.toNat default < c) -> (0 <= x.getD i.toNat default + 1000000000 /\ x.getD i.toNat default + 1000000000 <= 4294967295) /\
     (i.toNat < o.length) /\
     (0 <= x.getD i.toNat default + 1000000000 - c /\ x.getD i.toNat default + 1000000000 - c <= 4294967295) /\
     (-9223372036854775808 <= i + 1 /\ i + 1 <= 9223372036854775807) /\
     Zbf (fb) (fx) (b) (x) (o.set i.toNat (x.getD i.toNat default + 1000000000 - c)) (1) (n) (i + 1) (Zae dq)) /\
    (¬(x.getD i.toNat default < c) -> (i.toNat < o.length) /\
     (0 <= x.getD i.toNat default - c /\ x.getD i.toNat default - c <= 4294967295) /\
     (-9223372036854775808 <= i + 1 /\ i + 1 <= 9223372036854775807) /\
     Zbf (fb) (fx) (b) (x) (o.set i.toNat (x.getD i.toNat default - c)) (0) (n) (i + 1) (Zae dq)))) /\
  (¬(i < n) -> Weak (vf (us o)) dq)) :
 Zbf fb fx b x o c n i (Zae dq):=by
 unfold Zbf
 rcases xq H with ⟨d2,H⟩|⟨d2,H⟩
 ·obtain ⟨k4,H⟩:=H
  have w5:(us x).length = x.length:=List.length_map ..
  have i6:(decide (i.toNat < (us x).length)) = true ↔ (i.toNat < x.length):=(by (try rw [w5]);all_goals exact Zaa)
  obtain ⟨k7,H⟩:=H
  have w8:(us b).length = b.length:=List.length_map ..
  have i9:(decide (i < (↑(us b).length:Int))) = true ↔ (i < (↑b.length:Int)):=(by (try rw [w8]);all_goals exact Zaa)
  refine Zac (G:=Zab kp109 [(5,2,.elem (vu (x.getD i.toNat default)))] []) 14 [true] ⟨(atC (cd Try.f109) [1,1,1,0,1,0,0,1,1,0,0,1,1,0,1]),[(1,AV.vec fb 1 (us b)),(5,AV.row 0 0),(7,vi i),(8,vu (x.getD i.toNat default)),(9,vu c),(13,AV.vec fx 1 (us x)),(14,vi n),(15,vi i),(24,vb (decide (i < (↑(us b).length:Int))))],[⟨us o,1,0,false,true⟩],_,[((us x).get?Internal i.toNat = some (vu (x.getD i.toNat default)))],_⟩ (by kernel_rfl) (bc (Zak (Zaa.2 d2)) (bc (Zaa.2 k4) (bc (i6.2 k7) b0))) (qc (Zap k7) q0) c0 ?_
  rcases xq H with ⟨d10,H⟩|⟨d10,H⟩
  ·have i12:(decide (i.toNat < (us b).length)) = true ↔ (i.toNat < b.length):=(by (try rw [w8]);all_goals exact Zaa)
   obtain ⟨k13,k14,H⟩:=H
   have w15:wv (c + b.getD i.toNat default) = c + b.getD i.toNat default:=wU32 k14
   have i16:(decide (x.getD i.toNat default < wv (c + b.getD i.toNat default))) = true ↔ (x.getD i.toNat default < c + b.getD i.toNat default):=(by (try rw [w15]);all_goals exact Zaa)
   refine Zac (G:=Zab kp109 [(8,4,.elem (vu (b.getD i.toNat default)))] []) 7 [true] ⟨(atC (cd Try.f109) [1,1,1,0,1,0,0,1,1,0,0,1,1,1,1,0,1]),[(1,AV.vec fb 1 (us b)),(5,AV.row 0 0),(6,vu 0),(7,vi i),(8,vu (x.getD i.toNat default)),(9,vu (wv (c + b.getD i.toNat default))),(13,AV.vec fx 1 (us x)),(14,vi n),(15,vi i),(33,vb (decide (x.getD i.toNat default < wv (c + b.getD i.toNat default))))],[⟨us o,1,0,false,true⟩],_,[((us b).get?Internal i.toNat = some (vu (b.getD i.toNat default)))],_⟩ (by kernel_rfl) (bc (Zak (i9.2 d10)) (bc (Zaa.2 k4) (bc (i12.2 k13) b0))) (qc (Zap k13) q0) c0 ?_
   rcases xq H with ⟨d17,H⟩|⟨d17,H⟩
   ·obtain ⟨k18,H⟩:=H
    have w19:wv (x.getD i.toNat default + 1000000000) = x.getD i.toNat default + 1000000000:=wU32 k18
    have w21:(us o).length = o.length:=List.length_map ..
    have i22:(decide (i.toNat < (us o).length)) = true ↔ (i.toNat < o.length):=(by (try rw [w21]);all_goals exact Zaa)
    obtain ⟨k23,k24,H⟩:=H
    have w25:wv (x.getD i.toNat default + 1000000000 - (c + b.getD i.toNat default)) = x.getD i.toNat default + 1000000000 - (c + b.getD i.toNat default):=wU32 k24
    have w26:(us o).set i.toNat (vu (x.getD i.toNat default + 1000000000 - (c + b.getD i.toNat default))) = us (o.set i.toNat (x.getD i.toNat default + 1000000000 - (c + b.getD i.toNat default))):=(ZaY rfl rfl)
    obtain ⟨k27,H⟩:=H
    have w28:wi (i + 1) = i + 1:=wI64 k27
    exact Zac (G:=Zab kp109 [(12,6,.elem (vu (o.getD i.toNat default)))] []) 1000 [true] ⟨(atC (cd Try.f109) [1,1,1,0,1,0,0]),[(1,AV.vec fb 1 (us b)),(5,AV.row 0 0),(6,vu 1),(13,AV.vec fx 1 (us x)),(14,vi n),(15,vi (wi (i + 1)))],[⟨(us o).set i.toNat (vu (wv (wv (x.getD i.toNat default + 1000000000) - wv (c + b.getD i.toNat default)))),1,0,false,true⟩],_,[((us o).get?Internal i.toNat = some (vu (o.getD i.toNat default)))],_⟩ (by kernel_rfl) (bc (Zak (i16.2 d17)) (bc rfl (bc (Zaa.2 k4) (bc (i22.2 k23) (bc rfl b0))))) (qc (Zap k23) q0) c0 (by (try rw [w15]);(try rw [w19]);(try rw [w25]);(try rw [w26]);(try rw [w28]);all_goals exact H)
   ·have w30:(us o).length = o.length:=List.length_map ..
    have i31:(decide (i.toNat < (us o).length)) = true ↔ (i.toNat < o.length):=(by (try rw [w30]);all_goals exact Zaa)
    obtain ⟨k32,k33,H⟩:=H
    have w34:wv (x.getD i.toNat default - (c + b.getD i.toNat default)) = x.getD i.toNat default - (c + b.getD i.toNat default):=wU32 k33
    have w35:(us o).set i.toNat (vu (x.getD i.toNat default - (c + b.getD i.toNat default))) = us (o.set i.toNat (x.getD i.toNat default - (c + b.getD i.toNat default))):=(ZaY rfl rfl)
    obtain ⟨k36,H⟩:=H
    have w37:wi (i + 1) = i + 1:=wI64 k36
    exact Zac (G:=Zab kp109 [(12,6,.elem (vu (o.getD i.toNat default)))] []) 1000 [false] ⟨(atC (cd Try.f109) [1,1,1,0,1,0,0]),[(1,AV.vec fb 1 (us b)),(5,AV.row 0 0),(6,vu 0),(13,AV.vec fx 1 (us x)),(14,vi n),(15,vi (wi (i + 1)))],[⟨(us o).set i.toNat (vu (wv (x.getD i.toNat default - wv (c + b.getD i.toNat default)))),1,0,false,true⟩],_,[((us o).get?Internal i.toNat = some (vu (o.getD i.toNat default)))],_⟩ (by kernel_rfl) (bc (Zaj (fun h => d17 (i16.1 h))) (bc rfl (bc (Zaa.2 k4) (bc (i31.2 k32) (bc rfl b0))))) (qc (Zap k32) q0) c0 (by (try rw [w15]);(try rw [w34]);(try rw [w35]);(try rw [w37]);all_goals exact H)
  ·rcases xq H with ⟨d39,H⟩|⟨d39,H⟩
   ·obtain ⟨k40,H⟩:=H
    have w41:wv (x.getD i.toNat default + 1000000000) = x.getD i.toNat default + 1000000000:=wU32 k40
    have w43:(us o).length = o.length:=List.length_map ..
    have i44:(decide (i.toNat < (us o).length)) = true ↔ (i.toNat < o.length):=(by (try rw [w43]);all_goals exact Zaa)
    obtain ⟨k45,k46,H⟩:=H
    have w47:wv (x.getD i.toNat default + 1000000000 - c) = x.getD i.toNat default + 1000000000 - c:=wU32 k46
    have w48:(us o).set i.toNat (vu (x.getD i.toNat default + 1000000000 - c)) = us (o.set i.toNat (x.getD i.toNat default + 1000000000 - c)):=(ZaY rfl rfl)
    obtain ⟨k49,H⟩:=H
    have w50:wi (i + 1) = i + 1:=wI64 k49
    exact Zac (G:=Zab kp109 [(12,6,.elem (vu (o.getD i.toNat default)))] []) 1000 [false,true] ⟨(atC (cd Try.f109) [1,1,1,0,1,0,0]),[(1,AV.vec fb 1 (us b)),(5,AV.row 0 0),(6,vu 1),(13,AV.vec fx 1 (us x)),(14,vi n),(15,vi (wi (i + 1)))],[⟨(us o).set i.toNat (vu (wv (wv (x.getD i.toNat default + 1000000000) - c))),1,0,false,true⟩],_,[((us o).get?Internal i.toNat = some (vu (o.getD i.toNat default)))],_⟩ (by kernel_rfl) (bc (Zaj (fun h => d10 (i9.1 h))) (bc (Zak (Zaa.2 d39)) (bc rfl (bc (Zaa.2 k4) (bc (i44.2 k45) (bc rfl b0)))))) (qc (Zap k45) q0) c0 (by (try rw [w41]);(try rw [w47]);(try rw [w48]);(try rw [w50]);all_goals exact H)
   ·have w52:(us o).length = o.length:=List.length_map ..
    have i53:(decide (i.toNat < (us o).length)) = true ↔ (i.toNat < o.length):=(by (try rw [w52]);all_goals exact Zaa)
    obtain ⟨k54,k55,H⟩:=H
    have w56:wv (x.getD i.toNat default - c) = x.getD i.toNat default - c:=wU32 k55
    have w57:(us o).set i.toNat (vu (x.getD i.toNat default - c)) = us (o.set i.toNat (x.getD i.toNat default - c)):=(ZaY rfl rfl)
    obtain ⟨k58,H⟩:=H
    have w59:wi (i + 1) = i + 1:=wI64 k58
    exact Zac (G:=Zab kp109 [(12,6,.elem (vu (o.getD i.toNat default)))] []) 1000 [false,false] ⟨(atC (cd Try.f109) [1,1,1,0,1,0,0]),[(1,AV.vec fb 1 (us b)),(5,AV.row 0 0),(6,vu 0),(13,AV.vec fx 1 (us x)),(14,vi n),(15,vi (wi (i + 1)))],[⟨(us o).set i.toNat (vu (wv (x.getD i.toNat default - c))),1,0,false,true⟩],_,[((us o).get?Internal i.toNat = some (vu (o.getD i.toNat default)))],_⟩ (by kernel_rfl) (bc (Zaj (fun h => d10 (i9.1 h))) (bc (Zaj (fun h => d39 (Zaa.1 h))) (bc rfl (bc (Zaa.2 k4) (bc (i53.2 k54) (bc rfl b0)))))) (qc (Zap k54) q0) c0 (by (try rw [w56]);(try rw [w57]);(try rw [w59]);all_goals exact H)
 ·exact ZbB (G:=Zab kp109 [] []) 1000 [false] (k:=((atC (cd Try.f109) [1,1,1,1,1])).tail) (env':=[(4,AV.row 0 0)]) (L':=[⟨us o,1,0,false,true⟩]) (asm:=[(decide (i < n)) == false]) (eqs:=[]) (calls:=[]) (AV.row 0 0) (by kernel_rfl) (by kernel_rfl) (Zal (Zaj (fun h => d2 (Zaa.1 h))) ZaP) Zba Zbb (Zeh (d:=(vf (us o))) (bs:=[0 == 0]) (by kernel_rfl) (by kernel_rfl) (Zal (beq_self_eq_true _) ZaP) (by kernel_rfl) H)
theorem vByWord (fa:Bool) (a:List Int) (d:Int)  (dq:AV) (H :
  (0 <= (↑a.length:Int)) /\
  ((↑a.length:Int) * 4 <= 1099511627776) /\
  ((↑a.length:Int) <= 1099511627776) /\
  (-9223372036854775808 <= (↑a.length:Int) - 1 /\ (↑a.length:Int) - 1 <= 9223372036854775807) /\
  ZbF (fa) (a) (List.replicate (↑a.length:Int).toNat (0:Int)) (d) (0) ((↑a.length:Int) - 1) (Zae dq)) :
 Zgj fa a d (Zae dq):=by
 unfold Zgj
 have w1:(us a).length = a.length:=List.length_map ..
 have i2:(decide (0 <= (↑(us a).length:Int))) = true ↔ (0 <= (↑a.length:Int)):=(by (try rw [w1]);all_goals exact Zaa)
 obtain ⟨k3,H⟩:=H
 have i4:(decide ((↑(us a).length:Int) <= (↑(us a).length:Int))) = true ↔ ((↑a.length:Int) <= (↑a.length:Int)):=(by (try rw [w1]);all_goals exact Zaa)
 have i5:(decide ((↑(us a).length:Int) * 4 <= 1099511627776)) = true ↔ ((↑a.length:Int) * 4 <= 1099511627776):=(by (try rw [w1]);all_goals exact Zaa)
 obtain ⟨k6,H⟩:=H
 have i7:(decide ((↑(us a).length:Int) <= 1099511627776)) = true ↔ ((↑a.length:Int) <= 1099511627776):=(by (try rw [w1]);all_goals exact Zaa)
 obtain ⟨k8,H⟩:=H
 have w9:List.replicate (↑a.length:Int).toNat (vu 0) = us (List.replicate (↑a.length:Int).toNat (0:Int)):=(Zde rfl)
 obtain ⟨k10,H⟩:=H
 have w11:wi ((↑a.length:Int) - 1) = (↑a.length:Int) - 1:=wI64 k10
 exact Zac (G:=Zab kp118 [] []) 1000 [] ⟨(atC (cd Try.f118) [1,1,1,0,1,0,0]),[(0,AV.vec fa 1 (us a)),(1,vu d),(6,AV.row 0 0),(7,vw 0),(8,vi (wi ((↑(us a).length:Int) - 1)))],[⟨List.replicate (↑(us a).length:Int).toNat (vu 0),1,0,false,true⟩],[decide (0 <= (↑(us a).length:Int)),decide ((↑(us a).length:Int) <= (↑(us a).length:Int)),decide ((↑(us a).length:Int) * 4 <= 1099511627776),decide ((↑(us a).length:Int) <= 1099511627776)],[],_⟩ (by kernel_rfl) (bc (i2.2 k3) (bc (i4.2 (by omega)) (bc (i5.2 k6) (bc (i7.2 k8) b0)))) q0 c0 (by (try rw [w1]);(try rw [w9]);(try rw [w11]);all_goals exact H)
theorem vByWordA (fa:Bool) (a o:List Int) (d r i:Int)  (dq:AV) (H :
  ((i >= 0) -> (0 <= i) /\
   (i.toNat < a.length) /\
   (0 <= r * 1000000000 /\ r * 1000000000 <= 18446744073709551615) /\
   (0 <= a.getD i.toNat default /\ a.getD i.toNat default <= 18446744073709551615) /\
   (0 <= r * 1000000000 + a.getD i.toNat default /\ r * 1000000000 + a.getD i.toNat default <= 18446744073709551615) /\
   (0 <= d /\ d <= 18446744073709551615) /\
   (¬d = 0) /\
   (i.toNat < o.length) /\
   (0 <= (r * 1000000000 + a.getD i.toNat default).tdiv d /\ (r * 1000000000 + a.getD i.toNat default).tdiv d <= 18446744073709551615) /\
   (0 <= (r * 1000000000 + a.getD i.toNat default).tdiv d /\ (r * 1000000000 + a.getD i.toNat default).tdiv d <= 4294967295) /\
   (-9223372036854775808 <= i - 1 /\ i - 1 <= 9223372036854775807) /\
   ZbF (fa) (a) (o.set i.toNat ((r * 1000000000 + a.getD i.toNat default).tdiv d)) (d) ((r * 1000000000 + a.getD i.toNat default).tmod d) (i - 1) (Zae dq)) /\
  (¬(i >= 0) -> (0 <= r /\ r <= 4294967295) /\
   Weak (tu [vf (us o),AV.vec true 1 [vu r]]) dq)) :
 ZbF fa a o d r i (Zae dq):=by
 unfold ZbF
 rcases xq H with ⟨d2,H⟩|⟨d2,H⟩
 ·obtain ⟨k4,H⟩:=H
  have w5:(us a).length = a.length:=List.length_map ..
  have i6:(decide (i.toNat < (us a).length)) = true ↔ (i.toNat < a.length):=(by (try rw [w5]);all_goals exact Zaa)
  obtain ⟨k7,k8,H⟩:=H
  have w9:wu (r * 1000000000) = r * 1000000000:=wU64 k8
  obtain ⟨k10,H⟩:=H
  have w11:wu (a.getD i.toNat default) = a.getD i.toNat default:=wU64 k10
  obtain ⟨k12,H⟩:=H
  have w13:wu (r * 1000000000 + a.getD i.toNat default) = r * 1000000000 + a.getD i.toNat default:=wU64 k12
  obtain ⟨k14,H⟩:=H
  have w15:wu d = d:=wU64 k14
  have i16:(!wu d == 0) = true ↔ (¬d = 0):=(by (try rw [w15]);all_goals exact Zc1)
  obtain ⟨k17,H⟩:=H
  have i18:(!wu d == 0) = true ↔ (¬d = 0):=(by (try rw [w15]);all_goals exact Zc1)
  have w20:(us o).length = o.length:=List.length_map ..
  have i21:(decide (i.toNat < (us o).length)) = true ↔ (i.toNat < o.length):=(by (try rw [w20]);all_goals exact Zaa)
  obtain ⟨k22,k23,H⟩:=H
  have w24:wu ((r * 1000000000 + a.getD i.toNat default).tdiv d) = (r * 1000000000 + a.getD i.toNat default).tdiv d:=wU64 k23
  obtain ⟨k25,H⟩:=H
  have w26:wv ((r * 1000000000 + a.getD i.toNat default).tdiv d) = (r * 1000000000 + a.getD i.toNat default).tdiv d:=wU32 k25
  have w27:(us o).set i.toNat (vu ((r * 1000000000 + a.getD i.toNat default).tdiv d)) = us (o.set i.toNat ((r * 1000000000 + a.getD i.toNat default).tdiv d)):=(ZaY rfl rfl)
  obtain ⟨k28,H⟩:=H
  have w29:wi (i - 1) = i - 1:=wI64 k28
  exact Zac (G:=Zab kp118 [(6,5,.elem (vu (a.getD i.toNat default))),(7,12,.elem (vu (o.getD i.toNat default)))] []) 1000 [true] ⟨(atC (cd Try.f118) [1,1,1,0,1,0,0]),[(0,AV.vec fa 1 (us a)),(1,vu d),(6,AV.row 0 0),(7,vw ((wu (wu (r * 1000000000) + wu (a.getD i.toNat default))).tmod (wu d))),(8,vi (wi (i - 1)))],[⟨(us o).set i.toNat (vu (wv (wu ((wu (wu (r * 1000000000) + wu (a.getD i.toNat default))).tdiv (wu d))))),1,0,false,true⟩],_,[((us a).get?Internal i.toNat = some (vu (a.getD i.toNat default))),((us o).get?Internal i.toNat = some (vu (o.getD i.toNat default)))],_⟩ (by kernel_rfl) (bc (Zak (Zaa.2 d2)) (bc (Zaa.2 k4) (bc (i6.2 k7) (bc (i16.2 k17) (bc (i18.2 k17) (bc rfl (bc (Zaa.2 k4) (bc (i21.2 k22) (bc rfl b0))))))))) (qc (Zap k7) (qc (Zap k22) q0)) c0 (by (try rw [w9]);(try rw [w11]);(try rw [w13]);(try rw [w15]);(try rw [w24]);(try rw [w26]);(try rw [w27]);(try rw [w29]);all_goals exact H)
 ·obtain ⟨k30,H⟩:=H
  have w31:wv r = r:=wU32 k30
  exact ZbB (G:=Zab kp118 [] []) 1000 [false] (k:=((atC (cd Try.f118) [1,1,1,1,1])).tail) (env':=[(4,AV.row 0 0),(5,AV.vec true 1 [vu (wv r)])]) (L':=[⟨us o,1,0,false,true⟩]) (asm:=[(decide (i >= 0)) == false]) (eqs:=[]) (calls:=[]) (tu [AV.row 0 0,AV.vec true 1 [vu (wv r)]]) (by kernel_rfl) (by kernel_rfl) (Zal (Zaj (fun h => d2 (Zaa.1 h))) ZaP) Zba Zbb (Zeh (d:=(tu [vf (us o),AV.vec true 1 [vu (wv r)]])) (bs:=[0 == 0]) (by kernel_rfl) (by kernel_rfl) (Zal (beq_self_eq_true _) ZaP) (by kernel_rfl) (by (try rw [w31]);all_goals exact H))
end Go.Av

namespace Go.Av
open Go.Proofs
theorem ZaR (v i:Nat):v / 1000000000 ^ i / 1000000000=v / 1000000000 ^ (i+1):=by rw [Nat.div_div_eq_div_mul,Nat.pow_succ]
theorem ZaA {n v i:Nat} (h:Sp.fits n v) (hi:n<=i):v / 1000000000 ^ i=0:=ZcG.1 (ZaS h hi)
theorem ZfA {fa fb:Bool} {n v w:Nat} {dq:AV} (hn:n <= 1000000) (hq:AV.int .i64 (Sp.sgnI ((v:Int) - w)) = dq):∀ (k:Nat),k <= n -> v / 1000000000 ^ k = w / 1000000000 ^ k -> ZbT fa fb (Sp.Zaq n v) (Sp.Zaq n w) ((k:Int) - 1) (Zae dq)
 | 0,hk,he => by
  have e:v = w:=by simpa using he
  refine vCompareA _ _ _ _ _ _ ⟨fun h => by omega,fun _ => ?_⟩
  rw [<- hq,e]
  congr 1
  unfold Sp.sgnI
  rw [if_neg (by omega),if_neg (by omega)]
 | k + 1,hk,he => by
  have e1:(((k + 1:Nat):Int) - 1) = (k:Nat):=by omega
  rw [e1]
  refine vCompareA _ _ _ _ _ _ ⟨fun _ => ?_,fun h => by omega⟩
  rw [Int.toNat_natCast,Zat v (show k < n by omega),Zat w (show k < n by omega),Zah,Zah]
  have s1:=ZaH v k
  have s2:=ZaH w k
  rw [<- he] at s2
  refine ⟨by omega,by omega,by omega,fun h => ?_,fun h => ⟨fun h2 => ?_,fun h2 => ⟨by omega,?_⟩⟩⟩
  ·have:=Ze3 (v:=v) (w:=w) (i:=k) (by omega)
   rw [<- hq];congr 1
   unfold Sp.sgnI
   rw [if_pos (by omega)]
  ·have:=Ze3 (v:=w) (w:=v) (i:=k) (by omega)
   rw [<- hq];congr 1
   unfold Sp.sgnI
   rw [if_neg (by omega),if_pos (by omega)]
  ·exact ZfA hn hq k (by omega) (by omega)
theorem compareN (fa fb:Bool) (n v m w:Nat) (h:Sp.Zav n /\ Sp.Zav m /\ Sp.fits n v /\ Sp.fits m w):Ev M1 (.pure 85 [usA fa (Sp.Zaq n v),usA fb (Sp.Zaq m w)]) (.int .i64 (Sp.sgnI ((v:Int) - w))) []:=by
 obtain ⟨h1,h2,h3,h4⟩:=h
 have c1:=Zas.1 h3
 have c2:=Zas.1 h4
 have h1':n <= 1000000:=h1
 have h2':m <= 1000000:=h2
 refine call85 (vCompare _ _ _ _ _ ⟨Sp.lim v,trimN fa n v ⟨h1,h3⟩,Sp.lim w,trimN fb m w ⟨h2,h4⟩,?_⟩)
 rw [ZaB,ZaB]
 refine ⟨fun h => ⟨fun k => ?_,fun k => ?_⟩,fun h => ⟨by omega,?_⟩⟩
 ·have:=cmp_len (v:=v) (w:=w) (by omega)
  congr 1
  unfold Sp.sgnI
  rw [if_pos (by omega)]
 ·have:=cmp_len (v:=w) (w:=v) (by omega)
  congr 1
  unfold Sp.sgnI
  rw [if_neg (by omega),if_pos (by omega)]
 ·have e:Sp.cnt w = Sp.cnt v:=by omega
  have hw:Sp.lim w = Sp.Zaq (Sp.cnt v) w:=by unfold Sp.lim;rw [e]
  rw [hw]
  refine ZfA (by omega) rfl (Sp.cnt v) (Nat.le_refl _) ?_
  rw [ZaA (Zaf v) (Nat.le_refl _),ZaA (Zaf w) (by omega)]
theorem ev85 (fa fb:Bool) (v w:Int) (h:Sp.ok v/\Sp.ok w):Ev M1 (.pure 85 [usA fa (Sp.Zar v),usA fb (Sp.Zar w)]) (.int .i64 (Sp.sgnI ((v.natAbs:Int)-w.natAbs))) []:=compareN fa fb _ _ _ _ ⟨h.1,h.2,Zaf _,Zaf _⟩
theorem loopPlus {fb fx:Bool} {n m v w:Nat} {dq:AV} (hn:n <= 1000000) (hmn:m <= n) (hv:Sp.fits n v) (hw:Sp.fits m w):∀ (k i:Nat) (o:List Int) (c:Nat) (r:Nat),i + k = n -> c <= 1 -> o.length <= 1000000 + i ->
  usA false (o ++ Sp.Zaq (k + 1) (v / 1000000000 ^ i + w / 1000000000 ^ i + c)) = dq -> ZbS fb fx (Sp.Zaq m w) (Sp.Zaq n v) o c n i r (Zae dq)
 | 0,i,o,c,r,hi,hc,hol,hq => by
  rw [ZaA hv (by omega),ZaA hw (by omega)] at hq
  have e:Sp.Zaq 1 (0 + 0 + c) = [(c:Int)]:=by simp [Sp.Zaq];omega
  rw [Nat.zero_add,e] at hq
  exact vPlusA _ _ _ _ _ _ _ _ _ _ ⟨fun h => by omega,fun _ => ⟨by omega,by rw [<- hq];exact .refl _⟩⟩
 | k + 1,i,o,c,r,hi,hc,hol,hq => by
  have gx:=Zat v (show i < n by omega)
  rw [plus_step,ZaR,ZaR] at hq
  have nxt:∀ (d:Int) (c':Nat),((v / 1000000000 ^ i % 1000000000 + w / 1000000000 ^ i % 1000000000 + c) % 1000000000:Nat) = d -> (v / 1000000000 ^ i % 1000000000 + w / 1000000000 ^ i % 1000000000 + c) / 1000000000 = c' -> c' <= 1 -> ZbS fb fx (Sp.Zaq m w) (Sp.Zaq n v) (o ++ [d]) c' n ((i:Int) + 1) (r + 1) (Zae dq):=by
   intro d c' hd hc' hc1
   refine loopPlus hn hmn hv hw k (i + 1) (o ++ [d]) c' (r + 1) (by omega) hc1 (by simp;omega) ?_
   rw [<- hq,hd,hc',List.append_assoc];rfl
  refine vPlusA _ _ _ _ _ _ _ _ _ _ ⟨fun _ => ?_,fun h => by omega⟩
  rw [Int.toNat_natCast,gx,Zah,Zah]
  by_cases him:i < m
  ·rw [Zat w him]
   generalize v / 1000000000 ^ i = V at nxt
   generalize w / 1000000000 ^ i = W at nxt
   refine ⟨by omega,by omega,by omega,fun _ => ⟨by omega,by omega,fun h => ⟨by omega,by omega,by omega,nxt _ 1 (by omega) (by omega) (by omega)⟩,fun h => ⟨by omega,by omega,nxt _ 0 (by omega) (by omega) (by omega)⟩⟩,fun h => by omega⟩
  ·have hW:=ZaA hw (show m <= i by omega)
   rw [hW] at nxt
   generalize v / 1000000000 ^ i = V at nxt
   refine ⟨by omega,by omega,by omega,fun h => by omega,fun _ => ⟨fun h => ⟨by omega,by omega,by omega,nxt _ 1 (by omega) (by omega) (by omega)⟩,fun h => ⟨by omega,by omega,nxt _ 0 (by omega) (by omega) (by omega)⟩⟩⟩
theorem ev108 (fa fb:Bool) (v w:Int) (h:Sp.ok v /\ Sp.ok w):Ev M1 (.pure 108 [usA fa (Sp.Zar v),usA fb (Sp.Zar w)]) (usA false (Sp.Zaq (max (Sp.cnt v.natAbs) (Sp.cnt w.natAbs) + 1) (v.natAbs + w.natAbs))) []:=by
 have h1:Sp.cnt v.natAbs <= 1000000:=h.1
 have h2:Sp.cnt w.natAbs <= 1000000:=h.2
 refine call108 (vPlus _ _ _ _ _ ?_)
 rw [Zbi,Zbi]
 refine ⟨fun k => ⟨by omega,by omega,by omega,by omega,?_⟩,fun k => ⟨by omega,by omega,by omega,by omega,?_⟩⟩
 ·have:=loopPlus (fb:=fa) (fx:=fb) (v:=w.natAbs) (w:=v.natAbs) (dq:=usA false (Sp.Zaq (max (Sp.cnt v.natAbs) (Sp.cnt w.natAbs) + 1) (v.natAbs + w.natAbs))) h2 (show Sp.cnt v.natAbs <= Sp.cnt w.natAbs by omega) (Zaf _) (Zaf _) (Sp.cnt w.natAbs) 0 [] 0 0 (by omega) (by omega) (by simp) (by
   rw [Nat.max_eq_right (by omega)];simp [Nat.add_comm])
  exact this
 ·have:=loopPlus (fb:=fb) (fx:=fa) (v:=v.natAbs) (w:=w.natAbs) (dq:=usA false (Sp.Zaq (max (Sp.cnt v.natAbs) (Sp.cnt w.natAbs) + 1) (v.natAbs + w.natAbs))) h1 (show Sp.cnt w.natAbs <= Sp.cnt v.natAbs by omega) (Zaf _) (Zaf _) (Sp.cnt v.natAbs) 0 [] 0 0 (by omega) (by omega) (by simp) (by
   rw [Nat.max_eq_left (by omega)];simp)
  exact this
theorem ZaN {o:List Int} {i:Nat} {d:Int} (h:i < o.length):(o.set i d).take (i + 1) = o.take i ++ [d]:=by
 rw [List.take_add_one,List.take_set_of_le (Nat.le_refl _),List.getElem?_set_self h];rfl
theorem Zfz {fb fx:Bool} {n m v w:Nat} {dq:AV} (hn:n <= 1000000) (hv:Sp.fits n v) (hw:Sp.fits m w) (hm:m <= 1000000):∀ (k i:Nat) (o:List Int) (c:Nat),i + k = n -> c <= 1 -> o.length = n -> w / 1000000000 ^ i + c <= v / 1000000000 ^ i ->
  usA false (o.take i ++ Sp.Zaq k (v / 1000000000 ^ i - w / 1000000000 ^ i - c)) = dq -> Zbf fb fx (Sp.Zaq m w) (Sp.Zaq n v) o c n i (Zae dq)
 | 0,i,o,c,hi,hc,hol,hle,hq => by
  rw [List.take_of_length_le (by omega),Sp.Zaq,List.append_nil] at hq
  exact vMinusA _ _ _ _ _ _ _ _ _ ⟨fun h => by omega,fun _ => by rw [<- hq];exact .refl _⟩
 | k + 1,i,o,c,hi,hc,hol,hle,hq => by
  have gx:=Zat v (show i < n by omega)
  obtain ⟨s1,s2⟩:=Zgy k (v / 1000000000 ^ i) (w / 1000000000 ^ i) c hle hc
  rw [ZaR,ZaR] at s1 s2
  have nxt1:v / 1000000000 ^ i % 1000000000 < w / 1000000000 ^ i % 1000000000 + c -> ∀ d:Int,((v / 1000000000 ^ i % 1000000000 + 1000000000 - (w / 1000000000 ^ i % 1000000000 + c):Nat):Int) = d -> Zbf fb fx (Sp.Zaq m w) (Sp.Zaq n v) (o.set i d) (1:Nat) n ((i:Int) + 1) (Zae dq):=by
   intro hlt d hd
   obtain ⟨t1,t2⟩:=s1 hlt
   refine Zfz hn hv hw hm k (i + 1) (o.set i d) 1 (by omega) (by omega) (by simpa using hol) t2 ?_
   rw [ZaN (by omega),<- hq,t1,hd,List.append_assoc];rfl
  have nxt0:¬v / 1000000000 ^ i % 1000000000 < w / 1000000000 ^ i % 1000000000 + c -> ∀ d:Int,((v / 1000000000 ^ i % 1000000000 - (w / 1000000000 ^ i % 1000000000 + c):Nat):Int) = d -> Zbf fb fx (Sp.Zaq m w) (Sp.Zaq n v) (o.set i d) (0:Nat) n ((i:Int) + 1) (Zae dq):=by
   intro hlt d hd
   obtain ⟨t1,t2⟩:=s2 hlt
   refine Zfz hn hv hw hm k (i + 1) (o.set i d) 0 (by omega) (by omega) (by simpa using hol) t2 ?_
   rw [ZaN (by omega),<- hq,t1,hd,List.append_assoc];rfl
  refine vMinusA _ _ _ _ _ _ _ _ _ ⟨fun _ => ?_,fun h => by omega⟩
  rw [Int.toNat_natCast,gx,Zah,Zah]
  by_cases him:i < m
  ·rw [Zat w him]
   generalize v / 1000000000 ^ i = V at nxt0 nxt1
   generalize w / 1000000000 ^ i = W at nxt0 nxt1
   exact ⟨by omega,by omega,fun _ => ⟨by omega,by omega,fun h => ⟨by omega,by omega,by omega,by omega,nxt1 (by omega) _ (by omega)⟩,fun h => ⟨by omega,by omega,by omega,nxt0 (by omega) _ (by omega)⟩⟩,fun h => by omega⟩
  ·have hW:=ZaA hw (show m <= i by omega)
   rw [hW] at nxt0 nxt1
   generalize v / 1000000000 ^ i = V at nxt0 nxt1
   exact ⟨by omega,by omega,fun h => by omega,fun _ => ⟨fun h => ⟨by omega,by omega,by omega,by omega,nxt1 (by omega) _ (by omega)⟩,fun h => ⟨by omega,by omega,by omega,nxt0 (by omega) _ (by omega)⟩⟩⟩
theorem ev109 (fa fb:Bool) (v w:Int) (h:Sp.ok v /\ Sp.ok w /\ w.natAbs <= v.natAbs):Ev M1 (.pure 109 [usA fa (Sp.Zar v),usA fb (Sp.Zar w)]) (usA false (Sp.Zaq (Sp.cnt v.natAbs) (v.natAbs - w.natAbs))) []:=by
 obtain ⟨h1,h2,h3⟩:=h
 have h1':Sp.cnt v.natAbs <= 1000000:=h1
 refine call109 (vMinus _ _ _ _ _ ?_)
 rw [Zbi,Int.toNat_natCast]
 refine ⟨by omega,by omega,by omega,?_⟩
 have:=Zfz (fb:=fb) (fx:=fa) (v:=v.natAbs) (w:=w.natAbs) (dq:=usA false (Sp.Zaq (Sp.cnt v.natAbs) (v.natAbs - w.natAbs))) h1' (Zaf _) (Zaf _) h2 (Sp.cnt v.natAbs) 0 (List.replicate (Sp.cnt v.natAbs) 0) 0 (by omega) (by omega) (by simp) (by simpa using h3) (by simp)
 exact this
theorem Zcb {o:List Int} {i:Nat} {d:Int} (h:i < o.length):(o.set i d).drop i = d :: o.drop (i + 1):=by
 rw [Zdh (by simpa using h),List.drop_set_of_lt (by omega)]
 congr 1
 rw [List.getD_eq_getElem?_getD,List.getElem?_set_self h];rfl
theorem ZgC {fa:Bool} {n v d:Nat} {dq:AV} (hn:n <= 1000000) (hd:0 < d /\ d < 1000000000) (hq:AV.tup [usA false (Sp.Zaq n (v / d)),usA false [((v % d:Nat):Int)]] = dq):∀ (i k:Nat) (o:List Int),i + k = n -> o.length = n -> o.drop i = Sp.Zaq k (v / 1000000000 ^ i / d) -> ZbF fa (Sp.Zaq n v) o d ((v / 1000000000 ^ i % d:Nat):Int) ((i:Int) - 1) (Zae dq)
 | 0,k,o,hi,hol,ho => by
  have hk:k = n:=by omega
  subst hk
  rw [List.drop_zero] at ho
  simp only [Nat.pow_zero,Nat.div_one] at ho ⊢
  have hm:=Nat.mod_lt v hd.1
  refine vByWordA _ _ _ _ _ _ _ ⟨fun h => by omega,fun _ => ⟨by omega,?_⟩⟩
  rw [ho,<- hq]
  refine .tup _ _ rfl fun i x y hx hy => ?_
  match i with
  | 0 => simp at hx hy;subst hx;subst hy;exact .refl _
  | 1 => simp at hx hy;subst hx;subst hy;exact Zb8 _ _ _
  | i + 2 => simp at hx
 | i + 1,k,o,hi,hol,ho => by
  have gx:=Zat v (show i < n by omega)
  have e1:(((i + 1:Nat):Int) - 1) = (i:Nat):=by omega
  have hs:=ZaH v i
  have hx:v / 1000000000 ^ i % 1000000000 < 1000000000:=Nat.mod_lt _ (by omega)
  obtain ⟨b1,b2,b3⟩:=Zco (v / 1000000000 ^ (i + 1)) (v / 1000000000 ^ i % 1000000000) d hx hd.1
  have hs':v / 1000000000 ^ i % 1000000000 + 1000000000 * (v / 1000000000 ^ (i + 1)) = v / 1000000000 ^ i:=by omega
  rw [hs'] at b1 b2
  have hr:=Nat.mod_lt (v / 1000000000 ^ (i + 1)) hd.1
  rw [e1]
  refine vByWordA _ _ _ _ _ _ _ ⟨fun _ => ?_,fun h => by omega⟩
  rw [Int.toNat_natCast,gx,Zah]
  have c1:((v / 1000000000 ^ (i + 1) % d:Nat):Int) * 1000000000 + ((v / 1000000000 ^ i % 1000000000:Nat):Int) = ((v / 1000000000 ^ (i + 1) % d * 1000000000 + v / 1000000000 ^ i % 1000000000:Nat):Int):=by omega
  obtain ⟨q0,hq0⟩:∃ q0,q0 = (v / 1000000000 ^ (i + 1) % d * 1000000000 + v / 1000000000 ^ i % 1000000000) / d:=⟨_,rfl⟩
  have c2:(((v / 1000000000 ^ (i + 1) % d * 1000000000 + v / 1000000000 ^ i % 1000000000:Nat):Int)).tdiv d = (q0:Nat):=by rw [hq0];exact (Int.ofNat_tdiv _ _).symm
  have c3:(((v / 1000000000 ^ (i + 1) % d * 1000000000 + v / 1000000000 ^ i % 1000000000:Nat):Int)).tmod d = ((v / 1000000000 ^ i % d:Nat):Int):=by rw [b2];exact (Int.ofNat_tmod _ _).symm
  rw [<- hq0] at b1 b3
  rw [c1,c2,c3]
  have main:ZbF fa (Sp.Zaq n v) (o.set i (q0:Nat)) d ((v / 1000000000 ^ i % d:Nat):Int) ((i:Int) - 1) (Zae dq):=by
   refine ZgC hn hd hq i (k + 1) _ (by omega) (by simpa using hol) ?_
   rw [Zcb (by omega),ho,Zaw,b1]
   generalize v / 1000000000 ^ (i + 1) / d = z
   have e2:(1000000000 * z + q0) % 1000000000 = q0:=by omega
   have e3:(1000000000 * z + q0) / 1000000000 = z:=by omega
   rw [e2,e3]
  have hx':((v / 1000000000 ^ i % 1000000000:Nat):Int) < 1000000000:=by omega
  have hr':((v / 1000000000 ^ (i + 1) % d:Nat):Int) < d:=by exact_mod_cast hr
  refine ⟨by omega,by omega,?_,by omega,?_,by omega,by omega,by omega,by omega,by omega,by omega,main⟩
  ·generalize v / 1000000000 ^ (i + 1) % d = R at hr'
   omega
  ·generalize v / 1000000000 ^ (i + 1) % d = R at hr'
   omega
theorem byWordN (fa:Bool) (n v d:Nat) (h:Sp.Zav n /\ Sp.fits n v /\ 0 < d /\ d < 1000000000):Ev M1 (.pure 118 [usA fa (Sp.Zaq n v),.int .u32 d]) (.tup [usA false (Sp.Zaq n (v / d)),usA false [((v % d:Nat):Int)]]) []:=by
 obtain ⟨h1,h2,h3,h4⟩:=h
 have h1':n <= 1000000:=h1
 refine call118 (vByWord _ _ _ _ ?_)
 rw [Zah,Int.toNat_natCast]
 refine ⟨by omega,by omega,by omega,by omega,?_⟩
 have e0:=ZaA h2 (Nat.le_refl n)
 have:=ZgC (fa:=fa) (v:=v) (dq:=.tup [usA false (Sp.Zaq n (v / d)),usA false [((v % d:Nat):Int)]]) h1' ⟨h3,h4⟩ rfl n 0 (List.replicate n 0) (by omega) (by simp) (by simp [Sp.Zaq])
 rw [e0,Nat.zero_mod] at this
 exact this
end Go.Av

namespace Go.Av
open Go.Proofs
namespace Sp
def zs (n:Nat):List Int:=List.replicate n 0
end Sp
theorem Zd3:∀ (n k v:Nat),Sp.fits n v -> Sp.Zaq (n + k) v = Sp.Zaq n v ++ Sp.zs k
 | n,0,v,_ => by simp [Sp.zs]
 | n,k + 1,v,h => by
  rw [<- Nat.add_assoc,Zdf,Zd3 n k v h,List.append_assoc]
  congr 1
  have e:v / 1000000000 ^ (n + k) = 0:=ZaA h (by omega)
  rw [e]
  unfold Sp.zs
  rw [<- List.replicate_append_replicate (n:=k) (m:=1)];rfl
theorem Zgz {fb fx fy:Bool} {b x:List Int} {m w xd n i K:Nat} {Q0:List Int} {Q:AV -> Heap -> Prop} (hm:m <= 1000000) (hi:i <= 1000000) (hK:K <= 1000000) (hb:b.length = m) (hx:xd < 1000000000) (hw:Sp.fits m w)
  (hq:∀ o:List Int,o = Q0 ++ Sp.zs K -> Zce fb fx b x o n ((i:Int) + 1) Q) :
  ∀ (r j:Nat) (o:List Int) (U c:Nat),j + r = m -> o.length = i + m + 1 + K -> c < 1000000000 -> Sp.fits r U -> o.drop (i + j) = Sp.Zaq r U ++ Sp.zs (K + 1) -> o.take (i + j) ++ Sp.Zaq (r + 1) (U + xd * (w / 1000000000 ^ j) + c) = Q0 ->
   Zcd fb fx fy b x (Sp.Zaq m w) o i xd c n i m j Q
 | 0,j,o,U,c,hj,hol,hc,hU,ho,hQ => by
  have hU0:=Za1.1 hU
  have hj':j = m:=by omega
  subst hj'
  rw [ZaA hw (Nat.le_refl _),hU0,Nat.mul_zero] at hQ
  have e:Sp.Zaq 1 (0 + 0 + c) = [(c:Int)]:=by simp [Sp.Zaq];omega
  rw [Nat.zero_add,e] at hQ
  rw [hU0,Sp.Zaq,List.nil_append] at ho
  refine vTimesB _ _ _ _ _ _ _ _ _ _ _ _ _ _ _ ⟨fun h => by omega,fun _ => ?_⟩
  rw [hb]
  have e1:((i:Int) + (j:Int)).toNat = i + j:=by omega
  rw [e1]
  refine ⟨by omega,by omega,by omega,by omega,by omega,hq _ ?_⟩
  have ho2:o.drop (i + j + 1) = Sp.zs K:=by
   rw [show i + j + 1 = 1 + (i + j) by omega,Nat.add_comm 1,<- List.drop_drop,ho];rfl
  rw [<- hQ,<- ho2]
  rw [List.set_eq_take_append_cons_drop,if_pos (by omega),List.append_assoc];rfl
 | r + 1,j,o,U,c,hj,hol,hc,hU,ho,hQ => by
  have gy:=Zat w (show j < m by omega)
  have e1:((i:Int) + (j:Int)).toNat = i + j:=by omega
  have hod:=Zdh (d:=o) (i:=i + j) (by omega)
  rw [ho,Zaw,List.cons_append] at hod
  obtain ⟨g1,g2⟩:=List.cons.inj hod
  have hu:U % 1000000000 < 1000000000:=Nat.mod_lt _ (by omega)
  have hy:w / 1000000000 ^ j % 1000000000 < 1000000000:=Nat.mod_lt _ (by omega)
  obtain ⟨w1,w2⟩:=Zgl hu hx hy hc
  rw [Zgm,ZaR] at hQ
  refine vTimesB _ _ _ _ _ _ _ _ _ _ _ _ _ _ _ ⟨fun _ => ?_,fun h => by omega⟩
  rw [Int.toNat_natCast,e1,gy,Zah,<- g1]
  have c1:((xd:Nat):Int) * ((w / 1000000000 ^ j % 1000000000:Nat):Int) = ((xd * (w / 1000000000 ^ j % 1000000000):Nat):Int):=(Int.natCast_mul _ _).symm
  rw [c1]
  have main:∀ d c':Int,d = (((U % 1000000000 + xd * (w / 1000000000 ^ j % 1000000000) + c) % 1000000000:Nat):Int) -> c' = (((U % 1000000000 + xd * (w / 1000000000 ^ j % 1000000000) + c) / 1000000000:Nat):Int) ->
    Zcd fb fx fy b x (Sp.Zaq m w) (o.set (i + j) d) i xd c' n i m ((j:Int) + 1) Q:=by
   intro d c' hd hc'
   subst hc'
   refine Zgz hm hi hK hb hx hw hq r (j + 1) _ (U / 1000000000) _ (by omega) (by simpa using hol) w2 (ZbC.1 hU) ?_ ?_
   ·rw [show i + (j + 1) = i + j + 1 by omega,List.drop_set_of_lt (by omega),<- g2]
   ·rw [show i + (j + 1) = i + j + 1 by omega,ZaN (by omega),<- hQ,hd,List.append_assoc];rfl
  generalize xd * (w / 1000000000 ^ j % 1000000000) = p at w1 w2 main
  have hu':((U % 1000000000:Nat):Int) < 1000000000:=by omega
  generalize U % 1000000000 = u at w1 w2 main hu'
  have c2:((u:Nat):Int) + ((p:Nat):Int) + ((c:Nat):Int) = ((u + p + c:Nat):Int):=by omega
  have c3:(((u + p + c:Nat):Int)).tdiv 1000000000 = (((u + p + c) / 1000000000:Nat):Int):=by
   rw [Int.tdiv_eq_ediv_of_nonneg (by omega)];omega
  have c4:(((u + p + c:Nat):Int)).tmod 1000000000 = (((u + p + c) % 1000000000:Nat):Int):=by
   rw [Int.tmod_eq_emod_of_nonneg (by omega)];omega
  rw [c2,c3,c4]
  exact ⟨by omega,by omega,by omega,by omega,by omega,by omega,by omega,by omega,by omega,by omega,by omega,by omega,by omega,by omega,main _ _ rfl rfl⟩
theorem ZgA {fb fx:Bool} {n m v w:Nat} {R:List Int} {Q:AV -> Heap -> Prop} (hn:n <= 1000000) (hm:m <= 1000000) (hv:Sp.fits n v) (hw:Sp.fits m w) (hq:Q (.row 0 0) [⟨R.map (.int .u32),1,0,false,true⟩]) :
  ∀ (k i:Nat) (o:List Int) (U:Nat),i + k = n -> o.length = n + m -> Sp.fits m U -> o.drop i = Sp.Zaq m U ++ Sp.zs k -> o.take i ++ Sp.Zaq (m + k) (U + v / 1000000000 ^ i * w) = R -> Zce fb fx (Sp.Zaq m w) (Sp.Zaq n v) o n i Q
 | 0,i,o,U,hi,hol,hU,ho,hR => by
  have hi':i = n:=by omega
  subst hi'
  rw [ZaA hv (Nat.le_refl _),Nat.zero_mul,Nat.add_zero,Nat.add_zero] at hR
  have e:Sp.Zaq m U ++ Sp.zs 0 = Sp.Zaq m U:=by simp [Sp.zs]
  rw [e] at ho
  rw [<- ho,List.take_append_drop] at hR
  exact vTimesA _ _ _ _ _ _ _ _ ⟨fun h => by omega,fun _ => by rw [hR];exact hq⟩
 | k + 1,i,o,U,hi,hol,hU,ho,hR => by
  have gx:=Zat v (show i < n by omega)
  have hx:v / 1000000000 ^ i % 1000000000 < 1000000000:=Nat.mod_lt _ (by omega)
  refine vTimesA _ _ _ _ _ _ _ _ ⟨fun _ => ?_,fun h => by omega⟩
  rw [Int.toNat_natCast,gx,Zah,Zah]
  refine ⟨by omega,by omega,?_⟩
  have hf:Sp.fits (m + 1) (U + v / 1000000000 ^ i % 1000000000 * w):=fits_mul rfl hU hw hx
  have hP:1000000000 ^ m = 1000000000 ^ m:=rfl
  have step:U + v / 1000000000 ^ i * w = U + v / 1000000000 ^ i % 1000000000 * w + 1000000000 * (v / 1000000000 ^ (i + 1) * w):=by
   have hs:=ZaH v i
   generalize v / 1000000000 ^ (i + 1) = V' at hs ⊢
   generalize v / 1000000000 ^ i % 1000000000 = d at hs ⊢
   rw [hs];grind
  refine Zgz (Q0:=o.take i ++ Sp.Zaq (m + 1) (U + v / 1000000000 ^ i % 1000000000 * w)) (K:=k) hm (by omega) (by omega) (Zah _ _) hx hw (fun o' ho' => ?_) m 0 o U 0 (by omega) (by omega) (by omega) hU ho (by simp)
  have hlen:(o.take i).length = i:=by rw [List.length_take];omega
  refine ZgA hn hm hv hw hq k (i + 1) o' ((U + v / 1000000000 ^ i % 1000000000 * w) / 1000000000) (by omega) ?_ (ZbC.1 hf) ?_ ?_
  ·rw [ho']
   simp only [List.length_append,hlen,Zah,Sp.zs,List.length_replicate]
   omega
  ·rw [ho',Zaw]
   have e1:i + 1 = (o.take i ++ [(((U + v / 1000000000 ^ i % 1000000000 * w) % 1000000000:Nat):Int)]).length:=by simp [hlen]
   rw [e1]
   have e2:o.take i ++ ((((U + v / 1000000000 ^ i % 1000000000 * w) % 1000000000:Nat):Int) :: Sp.Zaq m ((U + v / 1000000000 ^ i % 1000000000 * w) / 1000000000)) ++ Sp.zs k
     = (o.take i ++ [(((U + v / 1000000000 ^ i % 1000000000 * w) % 1000000000:Nat):Int)]) ++ (Sp.Zaq m ((U + v / 1000000000 ^ i % 1000000000 * w) / 1000000000) ++ Sp.zs k):=by simp
   rw [e2,List.drop_left]
  ·rw [<- hR,ho',Zaw,show m + (k + 1) = (m + k) + 1 by omega,Zaw (m + k)]
   have e1:i + 1 = (o.take i ++ [(((U + v / 1000000000 ^ i % 1000000000 * w) % 1000000000:Nat):Int)]).length:=by simp [hlen]
   have e2:o.take i ++ ((((U + v / 1000000000 ^ i % 1000000000 * w) % 1000000000:Nat):Int) :: Sp.Zaq m ((U + v / 1000000000 ^ i % 1000000000 * w) / 1000000000)) ++ Sp.zs k
     = (o.take i ++ [(((U + v / 1000000000 ^ i % 1000000000 * w) % 1000000000:Nat):Int)]) ++ (Sp.Zaq m ((U + v / 1000000000 ^ i % 1000000000 * w) / 1000000000) ++ Sp.zs k):=by simp
   rw [e2,e1,List.take_left,List.append_assoc]
   have e3:(U + v / 1000000000 ^ i * w) % 1000000000 = (U + v / 1000000000 ^ i % 1000000000 * w) % 1000000000:=by rw [step];omega
   have e4:(U + v / 1000000000 ^ i * w) / 1000000000 = (U + v / 1000000000 ^ i % 1000000000 * w) / 1000000000 + v / 1000000000 ^ (i + 1) * w:=by rw [step];omega
   rw [e3,e4,<- e1];rfl
theorem timesQ {Q:AV -> Heap -> Prop} (fa fb:Bool) (n v m w:Nat) (h:Sp.Zav n /\ Sp.Zav m /\ Sp.fits n v /\ Sp.fits m w) (hq:Q (.row 0 0) [⟨(Sp.Zaq (n + m) (v * w)).map (.int .u32),1,0,false,true⟩]):Ze7 fa fb (Sp.Zaq n v) (Sp.Zaq m w) Q:=by
 obtain ⟨h1,h2,h3,h4⟩:=h
 have h1':n <= 1000000:=h1
 have h2':m <= 1000000:=h2
 refine vTimes _ _ _ _ _ ?_
 rw [Zah,Zah]
 have e:((n:Int) + (m:Int)).toNat = n + m:=by omega
 rw [e]
 refine ⟨by omega,by omega,by omega,by omega,?_⟩
 have:=ZgA (fb:=fb) (fx:=fa) (R:=Sp.Zaq (n + m) (v * w)) (Q:=Q) h1' h2' h3 h4 hq n 0 (List.replicate (n + m) 0) 0 (by omega) (by simp) (Zas.2 (by rw [Zbn];omega)) (by
  rw [List.drop_zero,ZfC];unfold Sp.zs;rw [List.replicate_append_replicate,Nat.add_comm]) (by simp [Nat.add_comm])
 exact this
theorem timesN (fa fb:Bool) (n v m w:Nat) (h:Sp.Zav n /\ Sp.Zav m /\ Sp.fits n v /\ Sp.fits m w):Ev M1 (.pure 105 [usA fa (Sp.Zaq n v),usA fb (Sp.Zaq m w)]) (usA false (Sp.Zaq (n + m) (v * w))) []:=
 call105 (timesQ fa fb n v m w h ⟨_,rfl,⟨rfl,trivial⟩,rfl,.refl _⟩)
theorem evf105 (fa fb:Bool) (v:Nat) (s:Int) (h:Sp.Zav (Sp.cnt v) /\ 0 <= s /\ s < 1000000000):Ev M1 (.own 105 [usA fa (Sp.lim v),.vec fb 1 [.int .u32 s]] []) (.row 0 0) [⟨(Sp.Zaq (Sp.cnt v + 1) (v * s.toNat)).map (.int .u32),1,0,false,true⟩]:=by
 have e:[AV.int .u32 s] = (Sp.Zaq 1 s.toNat).map (.int .u32):=by
  simp only [Sp.Zaq,List.map_cons,List.map_nil]
  have:((s.toNat % 1000000000:Nat):Int) = s:=by omega
  rw [this]
 rw [e]
 exact owncall105 (timesQ fa fb _ v 1 s.toNat ⟨h.1,by unfold Sp.Zav;omega,Zaf _,by unfold Sp.fits;omega⟩ ⟨rfl,rfl⟩)
theorem ev105 (fa fb:Bool) (v w:Int) (h:Sp.ok v/\Sp.ok w):Ev M1 (.pure 105 [usA fa (Sp.Zar v),usA fb (Sp.Zar w)]) (usA false (Sp.Zaq (Sp.cnt v.natAbs+Sp.cnt w.natAbs) (v.natAbs*w.natAbs))) []:=timesN fa fb _ _ _ _ ⟨h.1,h.2,Zaf _,Zaf _⟩
theorem ZcH {n m v w:Nat} (hv:Sp.fits n v) (hw:Sp.fits m w):Sp.fits (n + m) (v * w):=by
 unfold Sp.fits at *
 rw [Nat.pow_add]
 exact Nat.mul_lt_mul'' hv hw
theorem Zd9 {n v w:Nat} (hv:Sp.fits n v) (hw:Sp.fits n w):Sp.fits (n + 1) (v + w):=by
 unfold Sp.fits at *
 rw [Nat.pow_succ];omega
end Go.Av

namespace Go.Av
open Go.Proofs
set_option maxRecDepth 100000
def fi42:Fi:=⟨10,[.cell 2 28]⟩
def kp42:List (Nat × List Nat):=[(0,[1,2]),(1,[2])]
def fi45:Fi:=⟨18,[.cell 4 28]⟩
def kp45:List (Nat × List Nat):=[(0,[2,3,4]),(1,[2,3,4]),(2,[4])]
def fi46:Fi:=⟨15,[.cell 2 28]⟩
def kp46:List (Nat × List Nat):=[(0,[0,2]),(1,[0,2,3]),(2,[0,2,3,7]),(3,[0,2,3]),(4,[2])]
def fi47:Fi:=⟨24,[.tmp 4]⟩
def kp47:List (Nat × List Nat):=[(0,[2,3]),(1,[2,3,9]),(2,[11]),(3,[4]),(4,[4]),(5,[2,3,13]),(6,[4]),(7,[4])]
def fi78:Fi:=⟨16,[.cell 4 28]⟩
def kp78:List (Nat × List Nat):=[(0,[2,3,4]),(1,[4])]
def fi83:Fi:=⟨34,[.cell 4 28]⟩
def kp83:List (Nat × List Nat):=[(0,[2,3,4]),(1,[2,3,4,9]),(2,[4]),(3,[2,3,4,23]),(4,[2,3,4]),(5,[4])]
def fi117:Fi:=⟨30,[.tmp 2,.tmp 3]⟩
def kp117:List (Nat × List Nat):=[(0,[1]),(1,[1,6]),(2,[1,6,7]),(3,[2,3]),(4,[1,6,9]),(5,[2,3]),(6,[1,16]),(7,[2,3]),(8,[2,3])]
def vWord_at (fa s:Bool) (a:List Int) (Q:AV->Heap->Prop):Prop:=Wp M1 (.run fi117 (atC (cd Try.f117) []) [(0,.agg [.bool s,.vec fa 1 (a.map (.int .u32))])] []) Q
def ZdS (n:Int) (Q:AV->Heap->Prop):Prop:=Wp M1 (.run fi46 (atC (cd Try.f46) []) [(0,.int .i64 n)] []) Q
def vSub_at (fa fb:Bool) (a b:Int) (Q:AV->Heap->Prop):Prop:=Wp M1 (.run fi45 (atC (cd Try.f45) []) [(0,bigA fa a),(1,bigA fb b)] []) Q
def vAdd_at (fa fb:Bool) (a b:Int) (Q:AV->Heap->Prop):Prop:=Wp M1 (.run fi83 (atC (cd Try.f83) []) [(0,bigA fa a),(1,bigA fb b)] []) Q
def vMul_at (fa fb:Bool) (a b:Int) (Q:AV->Heap->Prop):Prop:=Wp M1 (.run fi78 (atC (cd Try.f78) []) [(0,bigA fa a),(1,bigA fb b)] []) Q
def vNeg0_at (fa:Bool) (Q:AV->Heap->Prop):Prop:=Wp M1 (.run fi42 (atC (cd Try.f42) []) [(0,.agg [.bool false,.vec fa 1 []])] []) Q
def vNeg_at (s fa:Bool) (x:Int) (a:List Int) (Q:AV->Heap->Prop):Prop:=Wp M1 (.run fi42 (atC (cd Try.f42) []) [(0,.agg [.bool s,.vec fa 1 ((x::a).map (.int .u32))])] []) Q
def vCmp_at (fa fb:Bool) (a b:Int) (Q:AV->Heap->Prop):Prop:=Wp M1 (.run fi47 (atC (cd Try.f47) []) [(0,bigA fa a),(1,bigA fb b)] []) Q
theorem call42 {args:List AV} {d:AV} (h:wc M1 fi42 Try.f42 args d):Ev M1 (.pure 42 args) d []:=pcl _ _ (by kernel_rfl) h
theorem call45 {args:List AV} {d:AV} (h:wc M1 fi45 Try.f45 args d):Ev M1 (.pure 45 args) d []:=pcl _ _ (by kernel_rfl) h
theorem call46 {args:List AV} {d:AV} (h:wc M1 fi46 Try.f46 args d):Ev M1 (.pure 46 args) d []:=pcl _ _ (by kernel_rfl) h
theorem call47 {args:List AV} {d:AV} (h:wc M1 fi47 Try.f47 args d):Ev M1 (.pure 47 args) d []:=pcl _ _ (by kernel_rfl) h
theorem call78 {args:List AV} {d:AV} (h:wc M1 fi78 Try.f78 args d):Ev M1 (.pure 78 args) d []:=pcl _ _ (by kernel_rfl) h
theorem call83 {args:List AV} {d:AV} (h:wc M1 fi83 Try.f83 args d):Ev M1 (.pure 83 args) d []:=pcl _ _ (by kernel_rfl) h
theorem call117 {args:List AV} {d:AV} (h:wc M1 fi117 Try.f117 args d):Ev M1 (.pure 117 args) d []:=pcl _ _ (by kernel_rfl) h
theorem vWord (fa s:Bool) (a:List Int)  (dq:AV) (H :
  (((↑a.length:Int) = 0) -> tu [vw 0,vb true] = dq) /\
  (¬((↑a.length:Int) = 0) -> (((↑a.length:Int) = 1) -> (0 < a.length) /\
    (0 <= a.getD 0 default /\ a.getD 0 default <= 18446744073709551615) /\
    tu [vw (a.getD 0 default),vb true] = dq) /\
   (¬((↑a.length:Int) = 1) -> (((↑a.length:Int) = 2) -> (1 < a.length) /\
     (0 < a.length) /\
     (0 <= a.getD 1 default /\ a.getD 1 default <= 18446744073709551615) /\
     (0 <= a.getD 1 default * 1000000000 /\ a.getD 1 default * 1000000000 <= 18446744073709551615) /\
     (0 <= a.getD 0 default /\ a.getD 0 default <= 18446744073709551615) /\
     (0 <= a.getD 1 default * 1000000000 + a.getD 0 default /\ a.getD 1 default * 1000000000 + a.getD 0 default <= 18446744073709551615) /\
     tu [vw (a.getD 1 default * 1000000000 + a.getD 0 default),vb true] = dq) /\
    (¬((↑a.length:Int) = 2) -> tu [vw 0,vb false] = dq)))) :
 vWord_at fa s a (Zae dq):=by
 unfold vWord_at
 have w1:(us a).length = a.length:=List.length_map ..
 have i2:((↑(us a).length:Int) == 0) = true ↔ ((↑a.length:Int) = 0):=(by (try rw [w1]);all_goals exact i_eq)
 rcases xq H with ⟨d3,H⟩|⟨d3,H⟩
 ·exact Zag (G:=Zab kp117 [] []) 1000 [true] (tu [vw 0,vb true]) (by kernel_rfl) (bc rfl (bc (Zak (i2.2 d3)) b0)) q0 c0 H
 ·have i4:((↑(us a).length:Int) == 1) = true ↔ ((↑a.length:Int) = 1):=(by (try rw [w1]);all_goals exact i_eq)
  rcases xq H with ⟨d5,H⟩|⟨d5,H⟩
  ·have i6:(decide (0 < (us a).length)) = true ↔ (0 < a.length):=(by (try rw [w1]);all_goals exact Zaa)
   obtain ⟨k7,k8,H⟩:=H
   have w9:wu (a.getD 0 default) = a.getD 0 default:=wU64 k8
   exact Zag (G:=Zab kp117 [(5,3,.elem (vu (a.getD 0 default)))] []) 1000 [false,true] (eqs:=[((us a).get?Internal 0 = some (vu (a.getD 0 default)))]) (tu [vw (wu (a.getD 0 default)),vb true]) (by kernel_rfl) (bc rfl (bc (Zaj (fun h => d3 (i2.1 h))) (bc (Zak (i4.2 d5)) (bc rfl (bc rfl (bc (i6.2 k7) b0)))))) (qc (Zap k7) q0) c0 (by (try rw [w9]);all_goals exact H)
  ·have i10:((↑(us a).length:Int) == 2) = true ↔ ((↑a.length:Int) = 2):=(by (try rw [w1]);all_goals exact i_eq)
   rcases xq H with ⟨d11,H⟩|⟨d11,H⟩
   ·have i12:(decide (1 < (us a).length)) = true ↔ (1 < a.length):=(by (try rw [w1]);all_goals exact Zaa)
    obtain ⟨k13,H⟩:=H
    have i14:(decide (0 < (us a).length)) = true ↔ (0 < a.length):=(by (try rw [w1]);all_goals exact Zaa)
    obtain ⟨k15,k16,H⟩:=H
    have w17:wu (a.getD 1 default) = a.getD 1 default:=wU64 k16
    obtain ⟨k18,H⟩:=H
    have w19:wu (a.getD 1 default * 1000000000) = a.getD 1 default * 1000000000:=wU64 k18
    obtain ⟨k20,H⟩:=H
    have w21:wu (a.getD 0 default) = a.getD 0 default:=wU64 k20
    obtain ⟨k22,H⟩:=H
    have w23:wu (a.getD 1 default * 1000000000 + a.getD 0 default) = a.getD 1 default * 1000000000 + a.getD 0 default:=wU64 k22
    exact Zag (G:=Zab kp117 [(7,3,.elem (vu (a.getD 1 default))),(7,9,.elem (vu (a.getD 0 default)))] []) 1000 [false,false,true] (eqs:=[((us a).get?Internal 1 = some (vu (a.getD 1 default))),((us a).get?Internal 0 = some (vu (a.getD 0 default)))]) (tu [vw (wu (wu (wu (a.getD 1 default) * 1000000000) + wu (a.getD 0 default))),vb true]) (by kernel_rfl) (bc rfl (bc (Zaj (fun h => d3 (i2.1 h))) (bc (Zaj (fun h => d5 (i4.1 h))) (bc (Zak (i10.2 d11)) (bc rfl (bc rfl (bc (i12.2 k13) (bc rfl (bc rfl (bc (i14.2 k15) b0)))))))))) (qc (Zap k13) (qc (Zap k15) q0)) c0 (by (try rw [w17]);(try rw [w19]);(try rw [w21]);(try rw [w23]);all_goals exact H)
   ·exact Zag (G:=Zab kp117 [] []) 1000 [false,false,false] (tu [vw 0,vb false]) (by kernel_rfl) (bc rfl (bc (Zaj (fun h => d3 (i2.1 h))) (bc (Zaj (fun h => d5 (i4.1 h))) (bc (Zaj (fun h => d11 (i10.1 h))) b0)))) q0 c0 H
theorem vFromInt64 (n:Int)  (dq:AV) (H :
  ((n < 0) -> (0 <= IntKind.u64.wrap (0 - IntKind.u64.wrap n) /\ IntKind.u64.wrap (0 - IntKind.u64.wrap n) <= 18446744073709551615) /\
   (Sp.Zav 3 /\ Sp.fits 3 (IntKind.u64.wrap (0 - IntKind.u64.wrap n)).toNat) /\
   Weak (bigA false (Sp.sg (decide (n < 0)) (IntKind.u64.wrap (0 - IntKind.u64.wrap n)).toNat)) dq) /\
  (¬(n < 0) -> (0 <= IntKind.u64.wrap n /\ IntKind.u64.wrap n <= 18446744073709551615) /\
   (Sp.Zav 3 /\ Sp.fits 3 (IntKind.u64.wrap n).toNat) /\
   Weak (bigA false (Sp.sg (decide (n < 0)) (IntKind.u64.wrap n).toNat)) dq)) :
 ZdS n (Zae dq):=by
 unfold ZdS
 rcases xq H with ⟨d2,H⟩|⟨d2,H⟩
 ·obtain ⟨k3,k4,H⟩:=H
  exact Zao (G:=Zab kp46 [(4,3,.call (vf (us (Sp.Zaq 3 (wu (0 - wu n)).toNat))) none),(4,4,.call (bigA false (Sp.sg (decide (n < 0)) (wu (0 - wu n)).toNat)) none)] []) 1000 [true] (bigA false (Sp.sg (decide (n < 0)) (wu (0 - wu n)).toNat)) (by kernel_rfl) (bc (Zak (Zaa.2 d2)) (bc rfl b0)) q0 (ce (@ev84 (wu (0 - wu n)) k3) (ce (@ev81 (decide (n < 0)) (false) (3) ((wu (0 - wu n)).toNat) k4) c0)) H
 ·obtain ⟨k5,k6,H⟩:=H
  exact Zao (G:=Zab kp46 [(4,3,.call (vf (us (Sp.Zaq 3 (wu n).toNat))) none),(4,4,.call (bigA false (Sp.sg (decide (n < 0)) (wu n).toNat)) none)] []) 1000 [false] (bigA false (Sp.sg (decide (n < 0)) (wu n).toNat)) (by kernel_rfl) (bc (Zaj (fun h => d2 (Zaa.1 h))) (bc rfl b0)) q0 (ce (@ev84 (wu n) k5) (ce (@ev81 (decide (n < 0)) (false) (3) ((wu n).toNat) k6) c0)) H
theorem vSub (fa fb:Bool) (a b:Int)  (dq:AV) (H :
  ∃ (b1:Bool) (l1:List (Int)),
  (Ev M1 (Conf.pure 83 [bigA fa a,ag [vb (bif !Sp.Zad b then decide ((↑(Sp.Zar b).length:Int) > 0) else false),AV.vec fb 1 (us (Sp.Zar b))]]) (ag [vb b1,vf (us l1)]) []) /\
  Weak (ag [vb b1,vf (us l1)]) dq) :
 vSub_at fa fb a b (Zae dq):=by
 unfold vSub_at
 have w1:(us (Sp.Zar b)).length = (Sp.Zar b).length:=List.length_map ..
 obtain ⟨b1,l1,k2,H⟩:=H
 exact Zao (G:=Zab kp45 [(2,2,.call (ag [vb b1,vf (us l1)]) none)] []) 1000 [] (asm:=[true,!((!Sp.Zad b) == true && true) || true,true,true,true,true]) (calls:=[pc 83 [bigA fa a,ag [vb (bif !Sp.Zad b then decide ((↑(us (Sp.Zar b)).length:Int) > 0) else false),AV.vec fb 1 (us (Sp.Zar b))]] (ag [vb b1,vf (us l1)])]) (ag [vb b1,vf (us l1)]) (by kernel_rfl) (bc rfl (bc (Bool.or_true _) (bc rfl (bc rfl (bc rfl (bc rfl b0)))))) q0 (ce (by (try rw [w1]);all_goals exact k2) c0) H
theorem vAdd (fa fb:Bool) (a b:Int)  (dq:AV) (H :
  ((Sp.Zad a = Sp.Zad b) -> (Sp.ok a /\ Sp.ok b) /\
   (Sp.Zav (max (Sp.cnt a.natAbs) (Sp.cnt b.natAbs) + 1) /\ Sp.fits (max (Sp.cnt a.natAbs) (Sp.cnt b.natAbs) + 1) (a.natAbs + b.natAbs)) /\
   Weak (bigA false (Sp.sg (Sp.Zad a) (a.natAbs + b.natAbs))) dq) /\
  (¬(Sp.Zad a = Sp.Zad b) -> (Sp.ok a /\ Sp.ok b) /\
   ((Sp.sgnI ((↑a.natAbs:Int) - (↑b.natAbs:Int)) < 0) -> (Sp.ok b /\ Sp.ok a /\ a.natAbs <= b.natAbs) /\
    (Sp.Zav (Sp.cnt b.natAbs) /\ Sp.fits (Sp.cnt b.natAbs) (b.natAbs - a.natAbs)) /\
    Weak (bigA false (Sp.sg (Sp.Zad b) (b.natAbs - a.natAbs))) dq) /\
   (¬(Sp.sgnI ((↑a.natAbs:Int) - (↑b.natAbs:Int)) < 0) -> (Sp.ok a /\ Sp.ok b /\ b.natAbs <= a.natAbs) /\
    (Sp.Zav (Sp.cnt a.natAbs) /\ Sp.fits (Sp.cnt a.natAbs) (a.natAbs - b.natAbs)) /\
    Weak (bigA false (Sp.sg (Sp.Zad a) (a.natAbs - b.natAbs))) dq))) :
 vAdd_at fa fb a b (Zae dq):=by
 unfold vAdd_at
 rcases xq H with ⟨d2,H⟩|⟨d2,H⟩
 ·obtain ⟨k3,k4,H⟩:=H
  exact Zao (G:=Zab kp83 [(2,6,.call (vf (us (Sp.Zaq (max (Sp.cnt a.natAbs) (Sp.cnt b.natAbs) + 1) (a.natAbs + b.natAbs)))) none),(2,7,.call (bigA false (Sp.sg (Sp.Zad a) (a.natAbs + b.natAbs))) none)] []) 1000 [true] (bigA false (Sp.sg (Sp.Zad a) (a.natAbs + b.natAbs))) (by kernel_rfl) (bc rfl (bc rfl (bc (Zak (i_eq.2 d2)) (bc rfl (bc rfl (bc rfl (bc rfl b0))))))) q0 (ce (@ev108 (fa) (fb) (a) (b) k3) (ce (@ev81 (Sp.Zad a) (false) (max (Sp.cnt a.natAbs) (Sp.cnt b.natAbs) + 1) (a.natAbs + b.natAbs) k4) c0)) H
 ·obtain ⟨k5,H⟩:=H
  refine Zac (G:=Zab kp83 [(3,4,.call (vi (Sp.sgnI ((↑a.natAbs:Int) - (↑b.natAbs:Int)))) none)] []) 10 [false] ⟨(atC (cd Try.f83) [1,1,0,1]),[(2,AV.ptr 0 0 0 0),(3,AV.ptr 1 0 0 0),(4,AV.ptr 2 0 0 0),(23,vb (decide (Sp.sgnI ((↑a.natAbs:Int) - (↑b.natAbs:Int)) < 0)))],[⟨[bigA fa a],2,0,false,false⟩,⟨[bigA fb b],2,0,false,false⟩,⟨[ag [vb false,AV.vnil]],2,0,false,false⟩],_,[],_⟩ (by kernel_rfl) (bc rfl (bc rfl (bc (Zaj (fun h => d2 (i_eq.1 h))) (bc rfl (bc rfl b0))))) q0 (ce (@ev85 (fa) (fb) (a) (b) k5) c0) ?_
  rcases xq H with ⟨d7,H⟩|⟨d7,H⟩
  ·obtain ⟨k8,k9,H⟩:=H
   exact Zao (G:=Zab kp83 [(5,6,.call (vf (us (Sp.Zaq (Sp.cnt b.natAbs) (b.natAbs - a.natAbs)))) none),(5,7,.call (bigA false (Sp.sg (Sp.Zad b) (b.natAbs - a.natAbs))) none)] []) 1000 [true] (bigA false (Sp.sg (Sp.Zad b) (b.natAbs - a.natAbs))) (by kernel_rfl) (bc (Zak (Zaa.2 d7)) (bc rfl (bc rfl (bc rfl (bc rfl (bc rfl (bc rfl (bc rfl (bc rfl b0))))))))) q0 (ce (@ev109 (fb) (fa) (b) (a) k8) (ce (@ev81 (Sp.Zad b) (false) (Sp.cnt b.natAbs) (b.natAbs - a.natAbs) k9) c0)) H
  ·obtain ⟨k10,k11,H⟩:=H
   exact Zao (G:=Zab kp83 [(5,6,.call (vf (us (Sp.Zaq (Sp.cnt a.natAbs) (a.natAbs - b.natAbs)))) none),(5,7,.call (bigA false (Sp.sg (Sp.Zad a) (a.natAbs - b.natAbs))) none)] []) 1000 [false] (bigA false (Sp.sg (Sp.Zad a) (a.natAbs - b.natAbs))) (by kernel_rfl) (bc (Zaj (fun h => d7 (Zaa.1 h))) (bc rfl (bc rfl (bc rfl (bc rfl b0))))) q0 (ce (@ev109 (fa) (fb) (a) (b) k10) (ce (@ev81 (Sp.Zad a) (false) (Sp.cnt a.natAbs) (a.natAbs - b.natAbs) k11) c0)) H
theorem vMul (fa fb:Bool) (a b:Int)  (dq:AV) (H :
  (Sp.ok a /\ Sp.ok b) /\
  (Sp.Zav (Sp.cnt a.natAbs + Sp.cnt b.natAbs) /\ Sp.fits (Sp.cnt a.natAbs + Sp.cnt b.natAbs) (a.natAbs * b.natAbs)) /\
  Weak (bigA false (Sp.sg (!Sp.Zad a == Sp.Zad b) (a.natAbs * b.natAbs))) dq) :
 vMul_at fa fb a b (Zae dq):=by
 unfold vMul_at
 obtain ⟨k1,k2,H⟩:=H
 exact Zao (G:=Zab kp78 [(1,9,.call (vf (us (Sp.Zaq (Sp.cnt a.natAbs + Sp.cnt b.natAbs) (a.natAbs * b.natAbs)))) none),(1,10,.call (bigA false (Sp.sg (!Sp.Zad a == Sp.Zad b) (a.natAbs * b.natAbs))) none)] []) 1000 [] (bigA false (Sp.sg (!Sp.Zad a == Sp.Zad b) (a.natAbs * b.natAbs))) (by kernel_rfl) (bc rfl (bc rfl (bc rfl (bc rfl (bc rfl b0))))) q0 (ce (@ev105 (fa) (fb) (a) (b) k1) (ce (@ev81 (!Sp.Zad a == Sp.Zad b) (false) (Sp.cnt a.natAbs + Sp.cnt b.natAbs) (a.natAbs * b.natAbs) k2) c0)) H
theorem vNeg0 (fa:Bool)  (dq:AV) (H :
  ∃ (b2:Bool) (l2:List (Int)),
  (Ev M1 (Conf.pure 81 [vb true,AV.vnil]) (ag [vb b2,vf (us l2)]) []) /\
  Weak (ag [vb b2,vf (us l2)]) dq) :
 vNeg0_at fa (Zae dq):=by
 unfold vNeg0_at
 obtain ⟨b2,l2,k2,H⟩:=H
 exact Zao (G:=Zab kp42 [(1,6,.call (ag [vb b2,vf (us l2)]) none)] [(1,[3007,902006,4005,2004,2001])]) 1000 [] (ag [vb b2,vf (us l2)]) (by kernel_rfl) (bc rfl (bc rfl (bc rfl b0))) q0 (ce k2 c0) H
theorem vNeg (s fa:Bool) (x:Int) (a:List Int)  (dq:AV) (H :
  ∃ (b2:Bool) (l2:List (Int)),
  (Ev M1 (Conf.pure 81 [vb !s,vf (vu x :: us a)]) (ag [vb b2,vf (us l2)]) []) /\
  ((a.length + 1) * 4 <= 1099511627776) /\
  Weak (ag [vb b2,vf (us l2)]) dq) :
 vNeg_at s fa x a (Zae dq):=by
 unfold vNeg_at
 obtain ⟨b2,l2,k2,H⟩:=H
 have w3:(us a).length = a.length:=List.length_map ..
 have i4:(decide (((us a).length + 1) * 4 <= 1099511627776)) = true ↔ ((a.length + 1) * 4 <= 1099511627776):=(by (try rw [w3]);all_goals exact Zaa)
 obtain ⟨k5,H⟩:=H
 exact Zao (G:=Zab kp42 [(1,6,.call (ag [vb b2,vf (us l2)]) none)] [(1,[3007,6,4005,2004,2001])]) 1000 [] (ag [vb b2,vf (us l2)]) (by kernel_rfl) (bc rfl (bc rfl (bc (i4.2 k5) (bc rfl (bc rfl b0))))) q0 (ce k2 c0) H
theorem vCmp (fa fb:Bool) (a b:Int)  (dq:AV) (H :
  ((¬(Sp.Zad a = Sp.Zad b)) -> ((Sp.Zad a = true) -> vi (-1) = dq) /\
   (¬(Sp.Zad a = true) -> vi 1 = dq)) /\
  (¬(¬(Sp.Zad a = Sp.Zad b)) -> ((Sp.Zad a = true) -> (Sp.ok b /\ Sp.ok a) /\
    vi (Sp.sgnI ((↑b.natAbs:Int) - (↑a.natAbs:Int))) = dq) /\
   (¬(Sp.Zad a = true) -> (Sp.ok a /\ Sp.ok b) /\
    vi (Sp.sgnI ((↑a.natAbs:Int) - (↑b.natAbs:Int))) = dq))) :
 vCmp_at fa fb a b (Zae dq):=by
 unfold vCmp_at
 rcases xq H with ⟨d2,H⟩|⟨d2,H⟩
 ·rcases xq H with ⟨d4,H⟩|⟨d4,H⟩
  ·exact Zag (G:=Zab kp47 [] []) 1000 [true,true] (asm:=[true,true,(!Sp.Zad a == Sp.Zad b) == true,0 == 0,(Sp.Zad a) == true]) (vi (-1)) (by kernel_rfl) (bc rfl (bc rfl (bc (Zak ((ZaQ i_eq).2 d2)) (bc (beq_self_eq_true _) (bc (Zak ((Zdg _).2 d4)) b0))))) q0 c0 H
  ·exact Zag (G:=Zab kp47 [] []) 1000 [true,false] (asm:=[true,true,(!Sp.Zad a == Sp.Zad b) == true,0 == 0,(Sp.Zad a) == false]) (vi 1) (by kernel_rfl) (bc rfl (bc rfl (bc (Zak ((ZaQ i_eq).2 d2)) (bc (beq_self_eq_true _) (bc (Zaj (fun h => d4 ((Zdg _).1 h))) b0))))) q0 c0 H
 ·rcases xq H with ⟨d6,H⟩|⟨d6,H⟩
  ·obtain ⟨k7,H⟩:=H
   exact Zag (G:=Zab kp47 [(6,4,.call (vi (Sp.sgnI ((↑b.natAbs:Int) - (↑a.natAbs:Int)))) none)] []) 1000 [false,true] (asm:=[true,true,(!Sp.Zad a == Sp.Zad b) == false,0 == 0,(Sp.Zad a) == true,true,true]) (vi (Sp.sgnI ((↑b.natAbs:Int) - (↑a.natAbs:Int)))) (by kernel_rfl) (bc rfl (bc rfl (bc (Zaj (fun h => d2 ((ZaQ i_eq).1 h))) (bc (beq_self_eq_true _) (bc (Zak ((Zdg _).2 d6)) (bc rfl (bc rfl b0))))))) q0 (ce (@ev85 (fb) (fa) (b) (a) k7) c0) H
  ·obtain ⟨k8,H⟩:=H
   exact Zag (G:=Zab kp47 [(7,4,.call (vi (Sp.sgnI ((↑a.natAbs:Int) - (↑b.natAbs:Int)))) none)] []) 1000 [false,false] (asm:=[true,true,(!Sp.Zad a == Sp.Zad b) == false,0 == 0,(Sp.Zad a) == false,true,true]) (vi (Sp.sgnI ((↑a.natAbs:Int) - (↑b.natAbs:Int)))) (by kernel_rfl) (bc rfl (bc rfl (bc (Zaj (fun h => d2 ((ZaQ i_eq).1 h))) (bc (beq_self_eq_true _) (bc (Zaj (fun h => d6 ((Zdg _).1 h))) (bc rfl (bc rfl b0))))))) q0 (ce (@ev85 (fa) (fb) (a) (b) k8) c0) H
end Go.Av

namespace Go.Av
open Go.Proofs
namespace Sp
def okB (v:Int):Prop:=cnt v.natAbs<=400000
end Sp
theorem Zct {v:Int} (h:Sp.okB v):Sp.ok v:=by unfold Sp.okB at h;unfold Sp.ok;omega
theorem weak_bnil (b:Bool):Weak (.agg [.bool b,.vnil]) (.agg [.bool b,.vec false 1 []]):=by
 refine .agg _ _ rfl fun i x y hx hy => ?_
 match i with
 | 0 => simp at hx hy;subst hx;subst hy;exact .refl _
 | 1 => simp at hx hy;subst hx;subst hy;exact .vnil 1
 | i + 2 => simp at hx
theorem limI_neg (v:Int):Sp.Zar (-v)=Sp.Zar v:=by unfold Sp.Zar;rw [Int.natAbs_neg]
theorem sg_add {a b:Int} (h:Sp.Zad a = Sp.Zad b):Sp.sg (Sp.Zad a) (a.natAbs + b.natAbs) = a + b:=by
 unfold Sp.sg
 by_cases k:a < 0
 ·have kb:b < 0:=Zam.1 (by rw [<- h];exact Zam.2 k)
  rw [if_pos (Zam.2 k)];omega
 ·have kb:¬b < 0:=fun x => k (Zam.1 (by rw [h];exact Zam.2 x))
  rw [if_neg (fun x => k (Zam.1 x))];omega
theorem sg_sub {a b:Int} (h:¬Sp.Zad a = Sp.Zad b) (hl:b.natAbs <= a.natAbs):Sp.sg (Sp.Zad a) (a.natAbs - b.natAbs) = a + b:=by
 unfold Sp.sg
 by_cases k:a < 0
 ·have kb:¬b < 0:=fun x => h (by rw [Zam.2 k,Zam.2 x])
  rw [if_pos (Zam.2 k)];omega
 ·have kb:b < 0:=by
   by_cases kb:b < 0
   ·exact kb
   ·exact absurd (by rw [Bool.eq_false_iff.2 (fun x => k (Zam.1 x)),Bool.eq_false_iff.2 (fun x => kb (Zam.1 x))]) h
  rw [if_neg (fun x => k (Zam.1 x))];omega
theorem sg_mul (a b:Int):Sp.sg (!(Sp.Zad a == Sp.Zad b)) (a.natAbs * b.natAbs) = a * b:=by
 unfold Sp.sg
 have hm:((a.natAbs * b.natAbs:Nat):Int) = (a.natAbs:Int) * (b.natAbs:Int):=Int.natCast_mul _ _
 rw [hm]
 by_cases ka:a < 0
 ·have ea:(a.natAbs:Int) = -a:=by omega
  rw [Zam.2 ka,ea]
  by_cases kb:b < 0
  ·have eb:(b.natAbs:Int) = -b:=by omega
   rw [Zam.2 kb,eb,if_neg (by simp),Int.neg_mul_neg]
  ·have eb:(b.natAbs:Int) = b:=by omega
   rw [Bool.eq_false_iff.2 (fun x => kb (Zam.1 x)),eb,if_pos (by simp),Int.neg_mul,Int.neg_neg]
 ·have ea:(a.natAbs:Int) = a:=by omega
  rw [Bool.eq_false_iff.2 (fun x => ka (Zam.1 x)),ea]
  by_cases kb:b < 0
  ·have eb:(b.natAbs:Int) = -b:=by omega
   rw [Zam.2 kb,eb,if_pos (by simp),Int.mul_neg,Int.neg_neg]
  ·have eb:(b.natAbs:Int) = b:=by omega
   rw [Bool.eq_false_iff.2 (fun x => kb (Zam.1 x)),eb,if_neg (by simp)]
theorem Zbt {n:Int}:Sp.sgnI n < 0 ↔ n < 0:=by
 unfold Sp.sgnI
 (repeat' split) <;> omega
theorem ev83 (fa fb:Bool) (a b:Int) (h:Sp.okB a /\ Sp.okB b):Ev M1 (.pure 83 [bigA fa a,bigA fb b]) (bigA false (a + b)) []:=by
 obtain ⟨ha,hb⟩:=h
 have oa:=Zct ha
 have ob:=Zct hb
 unfold Sp.okB at ha hb
 refine call83 (vAdd _ _ _ _ _ ⟨fun h => ⟨⟨oa,ob⟩,⟨?_,?_⟩,?_⟩,fun h => ⟨⟨oa,ob⟩,fun k => ⟨⟨ob,oa,?_⟩,⟨ob,Zcn (Zaf _) (by omega)⟩,?_⟩,fun k => ⟨⟨oa,ob,?_⟩,⟨oa,Zcn (Zaf _) (by omega)⟩,?_⟩⟩⟩)
 ·unfold Sp.Zav;omega
 ·exact Zd9 (ZaS (Zaf _) (by omega)) (ZaS (Zaf _) (by omega))
 ·rw [sg_add h];exact .refl _
 ·rw [Zbt] at k;omega
 ·rw [Zbt] at k
  rw [sg_sub (fun x => h x.symm) (by omega),Int.add_comm];exact .refl _
 ·rw [Zbt] at k;omega
 ·rw [Zbt] at k
  rw [sg_sub h (by omega)];exact .refl _
theorem ev78 (fa fb:Bool) (a b:Int) (h:Sp.okB a /\ Sp.okB b):Ev M1 (.pure 78 [bigA fa a,bigA fb b]) (bigA false (a * b)) []:=by
 obtain ⟨ha,hb⟩:=h
 have oa:=Zct ha
 have ob:=Zct hb
 unfold Sp.okB at ha hb
 refine call78 (vMul _ _ _ _ _ ⟨⟨oa,ob⟩,⟨?_,ZcH (Zaf _) (Zaf _)⟩,?_⟩)
 ·unfold Sp.Zav;omega
 ·rw [sg_mul];exact .refl _
theorem ev47 (fa fb:Bool) (a b:Int) (h:Sp.okB a /\ Sp.okB b):Ev M1 (.pure 47 [bigA fa a,bigA fb b]) (.int .i64 (Sp.sgnI (a - b))) []:=by
 have oa:=Zct h.1
 have ob:=Zct h.2
 refine call47 (vCmp _ _ _ _ _ ⟨fun k => ⟨fun ka => ?_,fun ka => ?_⟩,fun k => ⟨fun ka => ⟨⟨ob,oa⟩,?_⟩,fun ka => ⟨⟨oa,ob⟩,?_⟩⟩⟩)
 ·have kb:¬b < 0:=fun x => k (by rw [ka,Zam.2 x])
  rw [Zam] at ka
  congr 1;unfold Sp.sgnI;rw [if_pos (by omega)]
 ·have kb:b < 0:=by
   by_cases kb:b < 0
   ·exact kb
   ·exact absurd (by rw [Bool.eq_false_iff.2 ka,Bool.eq_false_iff.2 (fun x => kb (Zam.1 x))]) k
  have ka:¬a < 0:=fun x => ka (Zam.2 x)
  congr 1;unfold Sp.sgnI;rw [if_neg (by omega),if_pos (by omega)]
 ·have k:=Classical.not_not.1 k
  have kb:=Zam.1 (k ▸ ka)
  rw [Zam] at ka
  congr 2;omega
 ·have k:=Classical.not_not.1 k
  have kb:¬b < 0:=fun x => ka (by rw [k];exact Zam.2 x)
  have ka:¬a < 0:=fun x => ka (Zam.2 x)
  congr 2;omega
theorem ev42 (fa:Bool) (v:Int) (h:Sp.okB v):Ev M1 (.pure 42 [bigA fa v]) (bigA false (-v)) []:=by
 have ov:=Zct h
 by_cases h0:v = 0
 ·subst h0
  have e1:Sp.Zad 0 = false:=rfl
  have e2:Sp.Zar 0 = []:=Zca
  have e3:bigA fa 0 = .agg [.bool false,.vec fa 1 []]:=by
   show AV.agg [.bool (Sp.Zad 0),.vec fa 1 ((Sp.Zar 0).map (.int .u32))] = _
   rw [e1,e2];rfl
  have e4:bigA false (-0) = .agg [.bool false,.vec false 1 []]:=by
   show AV.agg [.bool (Sp.Zad (-0)),.vec false 1 ((Sp.Zar (-0)).map (.int .u32))] = _
   rw [Int.neg_zero,e1,e2];rfl
  rw [e3,e4]
  refine call42 (vNeg0 fa _ ⟨false,[],?_,.refl _⟩)
  exact call81 (vSigned0 true _ (vSigned0A true _ (weak_bnil false)))
 ·have hne:Sp.Zar v ≠ []:=by
   intro e
   have:=Zbi v
   rw [e] at this
   exact h0 (Int.natAbs_eq_zero.1 (Zax.1 this.symm))
  obtain ⟨x,l,hl⟩:=List.exists_cons_of_ne_nil hne
  have es:=ev81_a (!Sp.Zad v) false v ov
  have e5:Sp.sg (!Sp.Zad v) v.natAbs = -v:=by
   unfold Sp.sg
   by_cases k:v < 0
   ·rw [Zam.2 k,if_neg (by simp)];omega
   ·rw [Bool.eq_false_iff.2 (fun x => k (Zam.1 x)),if_pos (by simp)];omega
  rw [e5] at es
  have hle:=Zbi v
  rw [hl] at hle
  simp only [List.length_cons] at hle
  unfold Sp.ok at ov
  have e6:bigA fa v = .agg [.bool (Sp.Zad v),.vec fa 1 ((x :: l).map (.int .u32))]:=by
   show AV.agg [.bool (Sp.Zad v),.vec fa 1 ((Sp.Zar v).map (.int .u32))] = _
   rw [hl]
  rw [hl] at es
  rw [e6]
  exact call42 (vNeg _ _ _ _ _ ⟨_,_,es,by omega,.refl _⟩)
theorem ev45 (fa fb:Bool) (a b:Int) (h:Sp.okB a /\ Sp.okB b):Ev M1 (.pure 45 [bigA fa a,bigA fb b]) (bigA false (a - b)) []:=by
 have hb:Sp.okB (-b):=by have:=h.2;unfold Sp.okB at *;rwa [Int.natAbs_neg]
 have ea:=ev83 fa fb a (-b) ⟨h.1,hb⟩
 have e1:Sp.Zad (-b) = (bif !Sp.Zad b then decide (((Sp.Zar b).length:Int) > 0) else false):=by
  have hl:=Zbi b
  unfold Sp.Zad
  by_cases k:b < 0
  ·simp [k];omega
  ·have:decide (b < 0) = false:=by simp [k]
   rw [this,Bool.not_false,cond_true,decide_eq_decide,hl]
   have:=Zax (v:=b.natAbs)
   omega
 have e2:bigA fb (-b) = .agg [.bool (bif !Sp.Zad b then decide (((Sp.Zar b).length:Int) > 0) else false),.vec fb 1 ((Sp.Zar b).map (.int .u32))]:=by
  show AV.agg [.bool (Sp.Zad (-b)),.vec fb 1 ((Sp.Zar (-b)).map (.int .u32))] = _
  rw [e1,limI_neg]
 rw [e2] at ea
 exact call45 (vSub _ _ _ _ _ ⟨_,_,ea,.refl _⟩)
theorem wrap_neg {n:Int} (h:-9223372036854775808 <= n /\ n < 0):IntKind.u64.wrap n = n + 18446744073709551616:=by
 have e1:(2:Int) ^ IntKind.u64.bits = 18446744073709551616:=rfl
 have e3:IntKind.u64.signed = false:=rfl
 simp only [IntKind.wrap,e1,e3,Bool.false_and,Bool.false_eq_true,if_false]
 omega
theorem fits3 {u:Nat} (h:u <= 18446744073709551615):Sp.fits 3 u:=by
 unfold Sp.fits
 have:(1000000000:Nat) ^ 3 = 1000000000000000000000000000:=by decide
 omega
def Sp.inI (n:Int):Prop:=-9223372036854775808<=n/\n<=9223372036854775807
theorem ev46 (n:Int) (h:Sp.inI n):Ev M1 (.pure 46 [.int .i64 n]) (bigA false n) []:=by
 unfold Sp.inI at h
 refine call46 (vFromInt64 n _ ⟨fun k => ?_,fun k => ?_⟩)
 ·have e1:IntKind.u64.wrap (0 - IntKind.u64.wrap n) = -n:=by
   rw [wrap_neg ⟨h.1,k⟩]
   have e1:(2:Int) ^ IntKind.u64.bits = 18446744073709551616:=rfl
   have e3:IntKind.u64.signed = false:=rfl
   simp only [IntKind.wrap,e1,e3,Bool.false_and,Bool.false_eq_true,if_false]
   omega
  have e2:Sp.sg (decide (n < 0)) (-n).toNat = n:=by unfold Sp.sg;rw [if_pos (by simpa using k)];omega
  rw [e1,e2]
  exact ⟨by omega,⟨by unfold Sp.Zav;omega,fits3 (by omega)⟩,.refl _⟩
 ·have e1:IntKind.u64.wrap n = n:=wU64 ⟨by omega,by omega⟩
  have e2:Sp.sg (decide (n < 0)) n.toNat = n:=by unfold Sp.sg;rw [if_neg (by simpa using k)];omega
  rw [e1,e2]
  exact ⟨by omega,⟨by unfold Sp.Zav;omega,fits3 (by omega)⟩,.refl _⟩
end Go.Av

namespace Go.Av
open Go.Proofs
set_option maxRecDepth 100000
def fi119:Fi:=⟨62,[.tmp 6]⟩
def kp119:List (Nat × List Nat):=[(0,[0,1,2]),(1,[0,1,2,7,8]),(2,[0,1,2,7,8,14,15]),(3,[0,1,2,7,8,14,15,16]),(4,[0,1,2,7,8,9,14,15]),(5,[0,1,2,8,9,10,14,15]),(6,[0,1,2,8,9,10,14,15,22]),(7,[0,1,2,8,9,10,14,15]),(8,[0,1,2,7,8,9,10,14,15]),(9,[0,1,2,7,9,11,14,15]),(10,[0,1,2,7,8,9,11,14,15]),(11,[0,1,2,7,8,9,11,12,14,15]),(12,[0,1,2,7,8,9,11,12,14,15,45]),(13,[0,1,2,7,8,9,11,12,14,15]),(14,[0,1,2,7,8,14,15]),(15,[0,1,2,7,8,14,15]),(16,[6])]
def fi120:Fi:=⟨37,[]⟩
def kp120:List (Nat × List Nat):=[(0,[0,1,4]),(1,[0,1,4,8,9]),(2,[0,1,4,8,9,10]),(3,[0,1,4,5,8,9]),(4,[0,1,5,6,8,9]),(5,[0,1,5,6,8,9,21]),(6,[0,1,5,6,8,9]),(7,[0,1,4,5,6,8,9]),(8,[0,1,4,5,6,8,9,29]),(9,[0,1,4,5,6,8,9]),(10,[0,1,4,8,9]),(11,[0,1,4,8,9])]
def ZeA (u b:List Int) (fb:Bool) (v lo len:Nat) (g:Int) (Q:AV->Heap->Prop):Prop:=Wp M1 (.run fi119 (atC (cd Try.f119) []) [(0,.ref 0 v lo len),(1,.vec fb 1 (b.map (.int .u32))),(2,.int .u64 g)] [⟨u.map (.int .u32),1,v,false,true⟩]) Q
def ZaT (u b:List Int) (fb:Bool) (v lo len:Nat) (g c w n i:Int) (Q:AV->Heap->Prop):Prop:=Wp M1 (.run fi119 (atC (cd Try.f119) [1,1,0,1,0,0]) [(0,.ref 0 v lo len),(1,.vec fb 1 (b.map (.int .u32))),(2,.int .u64 g),(7,.int .u64 c),(8,.int .u64 w),(14,.int .i64 n),(15,.int .i64 i)] [⟨u.map (.int .u32),1,v,false,true⟩]) Q
def Ze9 (u b:List Int) (fb:Bool) (v lo len:Nat) (Q:AV->Heap->Prop):Prop:=Wp M1 (.run fi120 (atC (cd Try.f120) []) [(0,.ref 0 v lo len),(1,.vec fb 1 (b.map (.int .u32)))] [⟨u.map (.int .u32),1,v,false,true⟩]) Q
def Za0 (u b:List Int) (fb:Bool) (v lo len:Nat) (c n i:Int) (Q:AV->Heap->Prop):Prop:=Wp M1 (.run fi120 (atC (cd Try.f120) [1,1,0,0]) [(0,.ref 0 v lo len),(1,.vec fb 1 (b.map (.int .u32))),(4,.int .u32 c),(8,.int .i64 n),(9,.int .i64 i)] [⟨u.map (.int .u32),1,v,false,true⟩]) Q
theorem owncall119 {args:List AV} {L:Heap} {Q:AV -> Heap -> Prop} (h:Wp M1 (.run fi119 [.code (cd Try.f119)] (ZbE 0 args) L) Q):Wp M1 (.own 119 args L) Q:=
 own_wp Try.f119 fi119 (by kernel_rfl) (by kernel_rfl) (by kernel_rfl) (by kernel_rfl) h
theorem owncall120 {args:List AV} {L:Heap} {Q:AV -> Heap -> Prop} (h:Wp M1 (.run fi120 [.code (cd Try.f120)] (ZbE 0 args) L) Q):Wp M1 (.own 120 args L) Q:=
 own_wp Try.f120 fi120 (by kernel_rfl) (by kernel_rfl) (by kernel_rfl) (by kernel_rfl) h
theorem vSubtract (u b:List Int) (fb:Bool) (v lo len:Nat) (g:Int)  (Q:AV -> Heap -> Prop) (H :
  ZaT (u) (b) (fb) (v) (lo) (len) (g) (0) (0) ((↑len:Int)) (0) Q) :
 ZeA u b fb v lo len g Q:=by
 unfold ZeA
 exact Zac (G:=Zab kp119 [] []) 1000 [] ⟨(atC (cd Try.f119) [1,1,0,1,0,0]),[(0,AV.ref 0 v lo len),(1,AV.vec fb 1 (us b)),(2,vw g),(7,vw 0),(8,vw 0),(14,vi (↑len:Int)),(15,vi 0)],[⟨us u,1,v,false,true⟩],[v == v],[],_⟩ (by kernel_rfl) (bc (beq_self_eq_true _) b0) q0 c0 (H)
noncomputable abbrev ZeK (u:List Int) (lo:Nat) (i:Int):=vu (u.getD (lo+i.toNat) default)
theorem Zgd (u b:List Int) (fb:Bool) (v lo len:Nat) (g c w n i:Int)  (Q:AV -> Heap -> Prop) (H :
  ((i < n) -> ((i < (↑b.length:Int)) -> (0 <= i) /\
    (i.toNat < b.length) /\
    (0 <= b.getD i.toNat default /\ b.getD i.toNat default <= 18446744073709551615) /\
    (0 <= b.getD i.toNat default * g /\ b.getD i.toNat default * g <= 18446744073709551615) /\
    (0 <= c + b.getD i.toNat default * g /\ c + b.getD i.toNat default * g <= 18446744073709551615) /\
    (0 <= (c + b.getD i.toNat default * g).tdiv 1000000000 /\ (c + b.getD i.toNat default * g).tdiv 1000000000 <= 18446744073709551615) /\
    (0 <= (c + b.getD i.toNat default * g).tmod 1000000000 + w /\ (c + b.getD i.toNat default * g).tmod 1000000000 + w <= 18446744073709551615) /\
    (i.toNat < len) /\
    (lo + i.toNat < u.length) /\
    (0 <= u.getD (lo + i.toNat) default /\ u.getD (lo + i.toNat) default <= 18446744073709551615) /\
    ((u.getD (lo + i.toNat) default < (c + b.getD i.toNat default * g).tmod 1000000000 + w) -> (0 <= u.getD (lo + i.toNat) default + 1000000000 /\ u.getD (lo + i.toNat) default + 1000000000 <= 18446744073709551615) /\
     (0 <= u.getD (lo + i.toNat) default + 1000000000 - ((c + b.getD i.toNat default * g).tmod 1000000000 + w) /\ u.getD (lo + i.toNat) default + 1000000000 - ((c + b.getD i.toNat default * g).tmod 1000000000 + w) <= 18446744073709551615) /\
     (0 <= u.getD (lo + i.toNat) default + 1000000000 - ((c + b.getD i.toNat default * g).tmod 1000000000 + w) /\ u.getD (lo + i.toNat) default + 1000000000 - ((c + b.getD i.toNat default * g).tmod 1000000000 + w) <= 4294967295) /\
     (-9223372036854775808 <= i + 1 /\ i + 1 <= 9223372036854775807) /\
     ZaT (u.set (lo + i.toNat) (u.getD (lo + i.toNat) default + 1000000000 - ((c + b.getD i.toNat default * g).tmod 1000000000 + w))) (b) (fb) (v) (lo) (len) (g) ((c + b.getD i.toNat default * g).tdiv 1000000000) (1) (n) (i + 1) Q) /\
    (¬(u.getD (lo + i.toNat) default < (c + b.getD i.toNat default * g).tmod 1000000000 + w) -> (0 <= u.getD (lo + i.toNat) default - ((c + b.getD i.toNat default * g).tmod 1000000000 + w) /\ u.getD (lo + i.toNat) default - ((c + b.getD i.toNat default * g).tmod 1000000000 + w) <= 18446744073709551615) /\
     (0 <= u.getD (lo + i.toNat) default - ((c + b.getD i.toNat default * g).tmod 1000000000 + w) /\ u.getD (lo + i.toNat) default - ((c + b.getD i.toNat default * g).tmod 1000000000 + w) <= 4294967295) /\
     (-9223372036854775808 <= i + 1 /\ i + 1 <= 9223372036854775807) /\
     ZaT (u.set (lo + i.toNat) (u.getD (lo + i.toNat) default - ((c + b.getD i.toNat default * g).tmod 1000000000 + w))) (b) (fb) (v) (lo) (len) (g) ((c + b.getD i.toNat default * g).tdiv 1000000000) (0) (n) (i + 1) Q)) /\
   (¬(i < (↑b.length:Int)) -> (0 <= c.tdiv 1000000000 /\ c.tdiv 1000000000 <= 18446744073709551615) /\
    (0 <= c.tmod 1000000000 + w /\ c.tmod 1000000000 + w <= 18446744073709551615) /\
    (0 <= i) /\
    (i.toNat < len) /\
    (lo + i.toNat < u.length) /\
    (0 <= u.getD (lo + i.toNat) default /\ u.getD (lo + i.toNat) default <= 18446744073709551615) /\
    ((u.getD (lo + i.toNat) default < c.tmod 1000000000 + w) -> (0 <= u.getD (lo + i.toNat) default + 1000000000 /\ u.getD (lo + i.toNat) default + 1000000000 <= 18446744073709551615) /\
     (0 <= u.getD (lo + i.toNat) default + 1000000000 - (c.tmod 1000000000 + w) /\ u.getD (lo + i.toNat) default + 1000000000 - (c.tmod 1000000000 + w) <= 18446744073709551615) /\
     (0 <= u.getD (lo + i.toNat) default + 1000000000 - (c.tmod 1000000000 + w) /\ u.getD (lo + i.toNat) default + 1000000000 - (c.tmod 1000000000 + w) <= 4294967295) /\
     (-9223372036854775808 <= i + 1 /\ i + 1 <= 9223372036854775807) /\
     ZaT (u.set (lo + i.toNat) (u.getD (lo + i.toNat) default + 1000000000 - (c.tmod 1000000000 + w))) (b) (fb) (v) (lo) (len) (g) (c.tdiv 1000000000) (1) (n) (i + 1) Q) /\
    (¬(u.getD (lo + i.toNat) default < c.tmod 1000000000 + w) -> (0 <= u.getD (lo + i.toNat) default - (c.tmod 1000000000 + w) /\ u.getD (lo + i.toNat) default - (c.tmod 1000000000 + w) <= 18446744073709551615) /\
     (0 <= u.getD (lo + i.toNat) default - (c.tmod 1000000000 + w) /\ u.getD (lo + i.toNat) default - (c.tmod 1000000000 + w) <= 4294967295) /\
     (-9223372036854775808 <= i + 1 /\ i + 1 <= 9223372036854775807) /\
     ZaT (u.set (lo + i.toNat) (u.getD (lo + i.toNat) default - (c.tmod 1000000000 + w))) (b) (fb) (v) (lo) (len) (g) (c.tdiv 1000000000) (0) (n) (i + 1) Q))) /\
  (¬(i < n) -> Q (vb (bif decide (w > 0) then true else decide (c > 0))) [{ elems:=us u,es:=1,ver:=v,frozen:=false,clean:=true }])) :
 ZaT u b fb v lo len g c w n i Q:=by
 unfold ZaT
 rcases xq H with ⟨d2,H⟩|⟨d2,H⟩
 ·have w3:(us b).length = b.length:=List.length_map ..
  have i4:(decide (i < (↑(us b).length:Int))) = true ↔ (i < (↑b.length:Int)):=(by (try rw [w3]);all_goals exact Zaa)
  rcases xq H with ⟨d5,H⟩|⟨d5,H⟩
  ·obtain ⟨k7,H⟩:=H
   have i8:(decide (i.toNat < (us b).length)) = true ↔ (i.toNat < b.length):=(by (try rw [w3]);all_goals exact Zaa)
   obtain ⟨k9,k10,H⟩:=H
   have w11:wu (b.getD i.toNat default) = b.getD i.toNat default:=wU64 k10
   obtain ⟨k12,H⟩:=H
   have w13:wu (b.getD i.toNat default * g) = b.getD i.toNat default * g:=wU64 k12
   obtain ⟨k14,H⟩:=H
   have w15:wu (c + b.getD i.toNat default * g) = c + b.getD i.toNat default * g:=wU64 k14
   obtain ⟨k16,H⟩:=H
   have w17:wu ((c + b.getD i.toNat default * g).tdiv 1000000000) = (c + b.getD i.toNat default * g).tdiv 1000000000:=wU64 k16
   obtain ⟨k18,H⟩:=H
   have w19:wu ((c + b.getD i.toNat default * g).tmod 1000000000 + w) = (c + b.getD i.toNat default * g).tmod 1000000000 + w:=wU64 k18
   obtain ⟨k22,k23,k24,H⟩:=H
   have w25:wu (u.getD (lo + i.toNat) default) = u.getD (lo + i.toNat) default:=wU64 k24
   have i26:(decide (wu (u.getD (lo + i.toNat) default) < wu ((wu (c + wu (wu (b.getD i.toNat default) * g))).tmod 1000000000 + w))) = true ↔ (u.getD (lo + i.toNat) default < (c + b.getD i.toNat default * g).tmod 1000000000 + w):=(by (try rw [w11]);(try rw [w13]);(try rw [w15]);(try rw [w19]);(try rw [w25]);all_goals exact Zaa)
   refine Zac (G:=Zab kp119 [(7,4,.elem (vu (b.getD i.toNat default))),(11,3,.elem (ZeK u lo i))] []) 27 [true,true] ⟨(atC (cd Try.f119) [1,1,0,1,0,0,1,1,0,0,1,1,1,1,1,1,1,0,1]),[(0,AV.ref 0 v lo len),(1,AV.vec fb 1 (us b)),(2,vw g),(7,vw (wu ((wu (c + wu (wu (b.getD i.toNat default) * g))).tdiv 1000000000))),(8,vw 0),(9,vi i),(11,vw (wu ((wu (c + wu (wu (b.getD i.toNat default) * g))).tmod 1000000000 + w))),(12,vw (wu (u.getD (lo + i.toNat) default))),(14,vi n),(15,vi i),(45,vb (decide (wu (u.getD (lo + i.toNat) default) < wu ((wu (c + wu (wu (b.getD i.toNat default) * g))).tmod 1000000000 + w))))],[⟨us u,1,v,false,true⟩],[(decide (i < n)) == true,(decide (i < (↑(us b).length:Int))) == true,decide (0 <= i),decide (i.toNat < (us b).length),true,true,v == v,decide (0 <= i),decide (i.toNat < len),v == v],[((us b).get?Internal i.toNat = some (vu (b.getD i.toNat default))),((us u).get?Internal (lo + i.toNat) = some (ZeK u lo i))],_⟩ (by kernel_rfl) (bc (Zak (Zaa.2 d2)) (bc (Zak (i4.2 d5)) (bc (Zaa.2 k7) (bc (i8.2 k9) (bc rfl (bc rfl (bc (beq_self_eq_true _) (bc (Zaa.2 k7) (bc (Zaa.2 k22) (bc (beq_self_eq_true _) b0)))))))))) (qc (Zap k9) (qc (Zap k23) q0)) c0 ?_
   rcases xq H with ⟨d27,H⟩|⟨d27,H⟩
   ·obtain ⟨k28,H⟩:=H
    have w29:wu (u.getD (lo + i.toNat) default + 1000000000) = u.getD (lo + i.toNat) default + 1000000000:=wU64 k28
    obtain ⟨k32,H⟩:=H
    have w33:wu (u.getD (lo + i.toNat) default + 1000000000 - ((c + b.getD i.toNat default * g).tmod 1000000000 + w)) = u.getD (lo + i.toNat) default + 1000000000 - ((c + b.getD i.toNat default * g).tmod 1000000000 + w):=wU64 k32
    obtain ⟨k34,H⟩:=H
    have w35:wv (u.getD (lo + i.toNat) default + 1000000000 - ((c + b.getD i.toNat default * g).tmod 1000000000 + w)) = u.getD (lo + i.toNat) default + 1000000000 - ((c + b.getD i.toNat default * g).tmod 1000000000 + w):=wU32 k34
    have w36:(us u).set (lo + i.toNat) (vu (u.getD (lo + i.toNat) default + 1000000000 - ((c + b.getD i.toNat default * g).tmod 1000000000 + w))) = us (u.set (lo + i.toNat) (u.getD (lo + i.toNat) default + 1000000000 - ((c + b.getD i.toNat default * g).tmod 1000000000 + w))):=(ZaY rfl rfl)
    obtain ⟨k37,H⟩:=H
    have w38:wi (i + 1) = i + 1:=wI64 k37
    exact Zac (G:=Zab kp119 [(14,7,.elem (ZeK u lo i))] []) 1000 [true] ⟨(atC (cd Try.f119) [1,1,0,1,0,0]),[(0,AV.ref 0 v lo len),(1,AV.vec fb 1 (us b)),(2,vw g),(7,vw (wu ((wu (c + wu (wu (b.getD i.toNat default) * g))).tdiv 1000000000))),(8,vw 1),(14,vi n),(15,vi (wi (i + 1)))],[⟨(us u).set (lo + i.toNat) (vu (wv (wu (wu (wu (u.getD (lo + i.toNat) default) + 1000000000) - wu ((wu (c + wu (wu (b.getD i.toNat default) * g))).tmod 1000000000 + w))))),1,v,false,true⟩],[(decide (wu (u.getD (lo + i.toNat) default) < wu ((wu (c + wu (wu (b.getD i.toNat default) * g))).tmod 1000000000 + w))) == true,v == v,decide (0 <= i),decide (i.toNat < len),v == v],[((us u).get?Internal (lo + i.toNat) = some (ZeK u lo i))],_⟩ (by kernel_rfl) (bc (Zak (i26.2 d27)) (bc (beq_self_eq_true _) (bc (Zaa.2 k7) (bc (Zaa.2 k22) (bc (beq_self_eq_true _) b0))))) (qc (Zap k23) q0) c0 (by (try rw [w11]);(try rw [w13]);(try rw [w15]);(try rw [w17]);(try rw [w19]);(try rw [w25]);(try rw [w29]);(try rw [w33]);(try rw [w35]);(try rw [w36]);(try rw [w38]);all_goals exact H)
   ·obtain ⟨k41,H⟩:=H
    have w42:wu (u.getD (lo + i.toNat) default - ((c + b.getD i.toNat default * g).tmod 1000000000 + w)) = u.getD (lo + i.toNat) default - ((c + b.getD i.toNat default * g).tmod 1000000000 + w):=wU64 k41
    obtain ⟨k43,H⟩:=H
    have w44:wv (u.getD (lo + i.toNat) default - ((c + b.getD i.toNat default * g).tmod 1000000000 + w)) = u.getD (lo + i.toNat) default - ((c + b.getD i.toNat default * g).tmod 1000000000 + w):=wU32 k43
    have w45:(us u).set (lo + i.toNat) (vu (u.getD (lo + i.toNat) default - ((c + b.getD i.toNat default * g).tmod 1000000000 + w))) = us (u.set (lo + i.toNat) (u.getD (lo + i.toNat) default - ((c + b.getD i.toNat default * g).tmod 1000000000 + w))):=(ZaY rfl rfl)
    obtain ⟨k46,H⟩:=H
    have w47:wi (i + 1) = i + 1:=wI64 k46
    exact Zac (G:=Zab kp119 [(14,7,.elem (ZeK u lo i))] []) 1000 [false] ⟨(atC (cd Try.f119) [1,1,0,1,0,0]),[(0,AV.ref 0 v lo len),(1,AV.vec fb 1 (us b)),(2,vw g),(7,vw (wu ((wu (c + wu (wu (b.getD i.toNat default) * g))).tdiv 1000000000))),(8,vw 0),(14,vi n),(15,vi (wi (i + 1)))],[⟨(us u).set (lo + i.toNat) (vu (wv (wu (wu (u.getD (lo + i.toNat) default) - wu ((wu (c + wu (wu (b.getD i.toNat default) * g))).tmod 1000000000 + w))))),1,v,false,true⟩],[(decide (wu (u.getD (lo + i.toNat) default) < wu ((wu (c + wu (wu (b.getD i.toNat default) * g))).tmod 1000000000 + w))) == false,v == v,decide (0 <= i),decide (i.toNat < len),v == v],[((us u).get?Internal (lo + i.toNat) = some (ZeK u lo i))],_⟩ (by kernel_rfl) (bc (Zaj (fun h => d27 (i26.1 h))) (bc (beq_self_eq_true _) (bc (Zaa.2 k7) (bc (Zaa.2 k22) (bc (beq_self_eq_true _) b0))))) (qc (Zap k23) q0) c0 (by (try rw [w11]);(try rw [w13]);(try rw [w15]);(try rw [w17]);(try rw [w19]);(try rw [w25]);(try rw [w42]);(try rw [w44]);(try rw [w45]);(try rw [w47]);all_goals exact H)
  ·obtain ⟨k48,H⟩:=H
   have w49:wu (c.tdiv 1000000000) = c.tdiv 1000000000:=wU64 k48
   obtain ⟨k50,H⟩:=H
   have w51:wu (c.tmod 1000000000 + w) = c.tmod 1000000000 + w:=wU64 k50
   obtain ⟨k53,k55,k56,k57,H⟩:=H
   have w58:wu (u.getD (lo + i.toNat) default) = u.getD (lo + i.toNat) default:=wU64 k57
   have i59:(decide (wu (u.getD (lo + i.toNat) default) < wu (c.tmod 1000000000 + w))) = true ↔ (u.getD (lo + i.toNat) default < c.tmod 1000000000 + w):=(by (try rw [w51]);(try rw [w58]);all_goals exact Zaa)
   refine Zac (G:=Zab kp119 [(11,3,.elem (ZeK u lo i))] []) 27 [true,false] ⟨(atC (cd Try.f119) [1,1,0,1,0,0,1,1,0,0,1,1,1,1,1,1,1,0,1]),[(0,AV.ref 0 v lo len),(1,AV.vec fb 1 (us b)),(2,vw g),(7,vw (wu (c.tdiv 1000000000))),(8,vw 0),(9,vi i),(11,vw (wu (c.tmod 1000000000 + w))),(12,vw (wu (u.getD (lo + i.toNat) default))),(14,vi n),(15,vi i),(45,vb (decide (wu (u.getD (lo + i.toNat) default) < wu (c.tmod 1000000000 + w))))],[⟨us u,1,v,false,true⟩],[(decide (i < n)) == true,(decide (i < (↑(us b).length:Int))) == false,true,true,v == v,decide (0 <= i),decide (i.toNat < len),v == v],[((us u).get?Internal (lo + i.toNat) = some (ZeK u lo i))],_⟩ (by kernel_rfl) (bc (Zak (Zaa.2 d2)) (bc (Zaj (fun h => d5 (i4.1 h))) (bc rfl (bc rfl (bc (beq_self_eq_true _) (bc (Zaa.2 k53) (bc (Zaa.2 k55) (bc (beq_self_eq_true _) b0)))))))) (qc (Zap k56) q0) c0 ?_
   rcases xq H with ⟨d60,H⟩|⟨d60,H⟩
   ·obtain ⟨k61,H⟩:=H
    have w62:wu (u.getD (lo + i.toNat) default + 1000000000) = u.getD (lo + i.toNat) default + 1000000000:=wU64 k61
    obtain ⟨k65,H⟩:=H
    have w66:wu (u.getD (lo + i.toNat) default + 1000000000 - (c.tmod 1000000000 + w)) = u.getD (lo + i.toNat) default + 1000000000 - (c.tmod 1000000000 + w):=wU64 k65
    obtain ⟨k67,H⟩:=H
    have w68:wv (u.getD (lo + i.toNat) default + 1000000000 - (c.tmod 1000000000 + w)) = u.getD (lo + i.toNat) default + 1000000000 - (c.tmod 1000000000 + w):=wU32 k67
    have w69:(us u).set (lo + i.toNat) (vu (u.getD (lo + i.toNat) default + 1000000000 - (c.tmod 1000000000 + w))) = us (u.set (lo + i.toNat) (u.getD (lo + i.toNat) default + 1000000000 - (c.tmod 1000000000 + w))):=(ZaY rfl rfl)
    obtain ⟨k70,H⟩:=H
    have w71:wi (i + 1) = i + 1:=wI64 k70
    exact Zac (G:=Zab kp119 [(14,7,.elem (ZeK u lo i))] []) 1000 [true] ⟨(atC (cd Try.f119) [1,1,0,1,0,0]),[(0,AV.ref 0 v lo len),(1,AV.vec fb 1 (us b)),(2,vw g),(7,vw (wu (c.tdiv 1000000000))),(8,vw 1),(14,vi n),(15,vi (wi (i + 1)))],[⟨(us u).set (lo + i.toNat) (vu (wv (wu (wu (wu (u.getD (lo + i.toNat) default) + 1000000000) - wu (c.tmod 1000000000 + w))))),1,v,false,true⟩],[(decide (wu (u.getD (lo + i.toNat) default) < wu (c.tmod 1000000000 + w))) == true,v == v,decide (0 <= i),decide (i.toNat < len),v == v],[((us u).get?Internal (lo + i.toNat) = some (ZeK u lo i))],_⟩ (by kernel_rfl) (bc (Zak (i59.2 d60)) (bc (beq_self_eq_true _) (bc (Zaa.2 k53) (bc (Zaa.2 k55) (bc (beq_self_eq_true _) b0))))) (qc (Zap k56) q0) c0 (by (try rw [w49]);(try rw [w51]);(try rw [w58]);(try rw [w62]);(try rw [w66]);(try rw [w68]);(try rw [w69]);(try rw [w71]);all_goals exact H)
   ·obtain ⟨k74,H⟩:=H
    have w75:wu (u.getD (lo + i.toNat) default - (c.tmod 1000000000 + w)) = u.getD (lo + i.toNat) default - (c.tmod 1000000000 + w):=wU64 k74
    obtain ⟨k76,H⟩:=H
    have w77:wv (u.getD (lo + i.toNat) default - (c.tmod 1000000000 + w)) = u.getD (lo + i.toNat) default - (c.tmod 1000000000 + w):=wU32 k76
    have w78:(us u).set (lo + i.toNat) (vu (u.getD (lo + i.toNat) default - (c.tmod 1000000000 + w))) = us (u.set (lo + i.toNat) (u.getD (lo + i.toNat) default - (c.tmod 1000000000 + w))):=(ZaY rfl rfl)
    obtain ⟨k79,H⟩:=H
    have w80:wi (i + 1) = i + 1:=wI64 k79
    exact Zac (G:=Zab kp119 [(14,7,.elem (ZeK u lo i))] []) 1000 [false] ⟨(atC (cd Try.f119) [1,1,0,1,0,0]),[(0,AV.ref 0 v lo len),(1,AV.vec fb 1 (us b)),(2,vw g),(7,vw (wu (c.tdiv 1000000000))),(8,vw 0),(14,vi n),(15,vi (wi (i + 1)))],[⟨(us u).set (lo + i.toNat) (vu (wv (wu (wu (u.getD (lo + i.toNat) default) - wu (c.tmod 1000000000 + w))))),1,v,false,true⟩],[(decide (wu (u.getD (lo + i.toNat) default) < wu (c.tmod 1000000000 + w))) == false,v == v,decide (0 <= i),decide (i.toNat < len),v == v],[((us u).get?Internal (lo + i.toNat) = some (ZeK u lo i))],_⟩ (by kernel_rfl) (bc (Zaj (fun h => d60 (i59.1 h))) (bc (beq_self_eq_true _) (bc (Zaa.2 k53) (bc (Zaa.2 k55) (bc (beq_self_eq_true _) b0))))) (qc (Zap k56) q0) c0 (by (try rw [w49]);(try rw [w51]);(try rw [w58]);(try rw [w75]);(try rw [w77]);(try rw [w78]);(try rw [w80]);all_goals exact H)
 ·exact ZbB (G:=Zab kp119 [] []) 1000 [false] (k:=((atC (cd Try.f119) [1,1,1,1])).tail) (env':=[(6,vb (bif decide (w > 0) then true else decide (c > 0)))]) (L':=[⟨us u,1,v,false,true⟩]) (asm:=[(decide (i < n)) == false]) (eqs:=[]) (calls:=[]) (vb (bif decide (w > 0) then true else decide (c > 0))) (by kernel_rfl) (by kernel_rfl) (Zal (Zaj (fun h => d2 (Zaa.1 h))) ZaP) Zba Zbb H
theorem vRestore (u b:List Int) (fb:Bool) (v lo len:Nat)  (Q:AV -> Heap -> Prop) (H :
  Za0 (u) (b) (fb) (v) (lo) (len) (0) ((↑len:Int)) (0) Q) :
 Ze9 u b fb v lo len Q:=by
 unfold Ze9
 exact Zac (G:=Zab kp120 [] []) 1000 [] ⟨(atC (cd Try.f120) [1,1,0,0]),[(0,AV.ref 0 v lo len),(1,AV.vec fb 1 (us b)),(4,vu 0),(8,vi (↑len:Int)),(9,vi 0)],[⟨us u,1,v,false,true⟩],[v == v],[],_⟩ (by kernel_rfl) (bc (beq_self_eq_true _) b0) q0 c0 (H)
noncomputable abbrev Zf6 (u:List Int) (lo:Nat) (i:Int):=vu (u.getD (lo+i.toNat) default)
theorem vRestoreA (u b:List Int) (fb:Bool) (v lo len:Nat) (c n i:Int)  (Q:AV -> Heap -> Prop) (H :
  ((i < n) -> (0 <= i) /\
   (i.toNat < len) /\
   (lo + i.toNat < u.length) /\
   (0 <= u.getD (lo + i.toNat) default + c /\ u.getD (lo + i.toNat) default + c <= 4294967295) /\
   ((i < (↑b.length:Int)) -> (i.toNat < b.length) /\
    (0 <= u.getD (lo + i.toNat) default + c + b.getD i.toNat default /\ u.getD (lo + i.toNat) default + c + b.getD i.toNat default <= 4294967295) /\
    ((u.getD (lo + i.toNat) default + c + b.getD i.toNat default >= 1000000000) -> (0 <= u.getD (lo + i.toNat) default + c + b.getD i.toNat default - 1000000000 /\ u.getD (lo + i.toNat) default + c + b.getD i.toNat default - 1000000000 <= 4294967295) /\
     (-9223372036854775808 <= i + 1 /\ i + 1 <= 9223372036854775807) /\
     Za0 (u.set (lo + i.toNat) (u.getD (lo + i.toNat) default + c + b.getD i.toNat default - 1000000000)) (b) (fb) (v) (lo) (len) (1) (n) (i + 1) Q) /\
    (¬(u.getD (lo + i.toNat) default + c + b.getD i.toNat default >= 1000000000) -> (-9223372036854775808 <= i + 1 /\ i + 1 <= 9223372036854775807) /\
     Za0 (u.set (lo + i.toNat) (u.getD (lo + i.toNat) default + c + b.getD i.toNat default)) (b) (fb) (v) (lo) (len) (0) (n) (i + 1) Q)) /\
   (¬(i < (↑b.length:Int)) -> ((u.getD (lo + i.toNat) default + c >= 1000000000) -> (0 <= u.getD (lo + i.toNat) default + c - 1000000000 /\ u.getD (lo + i.toNat) default + c - 1000000000 <= 4294967295) /\
     (-9223372036854775808 <= i + 1 /\ i + 1 <= 9223372036854775807) /\
     Za0 (u.set (lo + i.toNat) (u.getD (lo + i.toNat) default + c - 1000000000)) (b) (fb) (v) (lo) (len) (1) (n) (i + 1) Q) /\
    (¬(u.getD (lo + i.toNat) default + c >= 1000000000) -> (-9223372036854775808 <= i + 1 /\ i + 1 <= 9223372036854775807) /\
     Za0 (u.set (lo + i.toNat) (u.getD (lo + i.toNat) default + c)) (b) (fb) (v) (lo) (len) (0) (n) (i + 1) Q))) /\
  (¬(i < n) -> Q (tu []) [{ elems:=us u,es:=1,ver:=v,frozen:=false,clean:=true }])) :
 Za0 u b fb v lo len c n i Q:=by
 unfold Za0
 rcases xq H with ⟨d2,H⟩|⟨d2,H⟩
 ·obtain ⟨k4,k6,k7,k8,H⟩:=H
  have w9:wv (u.getD (lo + i.toNat) default + c) = u.getD (lo + i.toNat) default + c:=wU32 k8
  have w10:(us b).length = b.length:=List.length_map ..
  have i11:(decide (i < (↑(us b).length:Int))) = true ↔ (i < (↑b.length:Int)):=(by (try rw [w10]);all_goals exact Zaa)
  refine Zac (G:=Zab kp120 [(4,3,.elem (Zf6 u lo i))] []) 14 [true] ⟨(atC (cd Try.f120) [1,1,0,0,1,1,0,0,1,1,0,1]),[(0,AV.ref 0 v lo len),(1,AV.vec fb 1 (us b)),(5,vi i),(6,vu (wv (u.getD (lo + i.toNat) default + c))),(8,vi n),(9,vi i),(21,vb (decide (i < (↑(us b).length:Int))))],[⟨us u,1,v,false,true⟩],[(decide (i < n)) == true,v == v,decide (0 <= i),decide (i.toNat < len),v == v],[((us u).get?Internal (lo + i.toNat) = some (Zf6 u lo i))],_⟩ (by kernel_rfl) (bc (Zak (Zaa.2 d2)) (bc (beq_self_eq_true _) (bc (Zaa.2 k4) (bc (Zaa.2 k6) (bc (beq_self_eq_true _) b0))))) (qc (Zap k7) q0) c0 ?_
  rcases xq H with ⟨d12,H⟩|⟨d12,H⟩
  ·have i14:(decide (i.toNat < (us b).length)) = true ↔ (i.toNat < b.length):=(by (try rw [w10]);all_goals exact Zaa)
   obtain ⟨k15,k16,H⟩:=H
   have w17:wv (u.getD (lo + i.toNat) default + c + b.getD i.toNat default) = u.getD (lo + i.toNat) default + c + b.getD i.toNat default:=wU32 k16
   have i18:(decide (wv (wv (u.getD (lo + i.toNat) default + c) + b.getD i.toNat default) >= 1000000000)) = true ↔ (u.getD (lo + i.toNat) default + c + b.getD i.toNat default >= 1000000000):=(by (try rw [w9]);(try rw [w17]);all_goals exact Zaa)
   refine Zac (G:=Zab kp120 [(6,4,.elem (vu (b.getD i.toNat default)))] []) 7 [true] ⟨(atC (cd Try.f120) [1,1,0,0,1,1,0,0,1,1,1,1,0,1]),[(0,AV.ref 0 v lo len),(1,AV.vec fb 1 (us b)),(4,vu 0),(5,vi i),(6,vu (wv (wv (u.getD (lo + i.toNat) default + c) + b.getD i.toNat default))),(8,vi n),(9,vi i),(29,vb (decide (wv (wv (u.getD (lo + i.toNat) default + c) + b.getD i.toNat default) >= 1000000000)))],[⟨us u,1,v,false,true⟩],_,[((us b).get?Internal i.toNat = some (vu (b.getD i.toNat default)))],_⟩ (by kernel_rfl) (bc (Zak (i11.2 d12)) (bc (Zaa.2 k4) (bc (i14.2 k15) b0))) (qc (Zap k15) q0) c0 ?_
   rcases xq H with ⟨d19,H⟩|⟨d19,H⟩
   ·obtain ⟨k20,H⟩:=H
    have w21:wv (u.getD (lo + i.toNat) default + c + b.getD i.toNat default - 1000000000) = u.getD (lo + i.toNat) default + c + b.getD i.toNat default - 1000000000:=wU32 k20
    have w24:(us u).set (lo + i.toNat) (vu (u.getD (lo + i.toNat) default + c + b.getD i.toNat default - 1000000000)) = us (u.set (lo + i.toNat) (u.getD (lo + i.toNat) default + c + b.getD i.toNat default - 1000000000)):=(ZaY rfl rfl)
    obtain ⟨k25,H⟩:=H
    have w26:wi (i + 1) = i + 1:=wI64 k25
    exact Zac (G:=Zab kp120 [(10,4,.elem (Zf6 u lo i))] []) 1000 [true] ⟨(atC (cd Try.f120) [1,1,0,0]),[(0,AV.ref 0 v lo len),(1,AV.vec fb 1 (us b)),(4,vu 1),(8,vi n),(9,vi (wi (i + 1)))],[⟨(us u).set (lo + i.toNat) (vu (wv (wv (wv (u.getD (lo + i.toNat) default + c) + b.getD i.toNat default) - 1000000000))),1,v,false,true⟩],[(decide (wv (wv (u.getD (lo + i.toNat) default + c) + b.getD i.toNat default) >= 1000000000)) == true,v == v,decide (0 <= i),decide (i.toNat < len),v == v],[((us u).get?Internal (lo + i.toNat) = some (Zf6 u lo i))],_⟩ (by kernel_rfl) (bc (Zak (i18.2 d19)) (bc (beq_self_eq_true _) (bc (Zaa.2 k4) (bc (Zaa.2 k6) (bc (beq_self_eq_true _) b0))))) (qc (Zap k7) q0) c0 (by (try rw [w9]);(try rw [w17]);(try rw [w21]);(try rw [w24]);(try rw [w26]);all_goals exact H)
   ·have w29:(us u).set (lo + i.toNat) (vu (u.getD (lo + i.toNat) default + c + b.getD i.toNat default)) = us (u.set (lo + i.toNat) (u.getD (lo + i.toNat) default + c + b.getD i.toNat default)):=(ZaY rfl rfl)
    obtain ⟨k30,H⟩:=H
    have w31:wi (i + 1) = i + 1:=wI64 k30
    exact Zac (G:=Zab kp120 [(10,4,.elem (Zf6 u lo i))] []) 1000 [false] ⟨(atC (cd Try.f120) [1,1,0,0]),[(0,AV.ref 0 v lo len),(1,AV.vec fb 1 (us b)),(4,vu 0),(8,vi n),(9,vi (wi (i + 1)))],[⟨(us u).set (lo + i.toNat) (vu (wv (wv (u.getD (lo + i.toNat) default + c) + b.getD i.toNat default))),1,v,false,true⟩],[(decide (wv (wv (u.getD (lo + i.toNat) default + c) + b.getD i.toNat default) >= 1000000000)) == false,v == v,decide (0 <= i),decide (i.toNat < len),v == v],[((us u).get?Internal (lo + i.toNat) = some (Zf6 u lo i))],_⟩ (by kernel_rfl) (bc (Zaj (fun h => d19 (i18.1 h))) (bc (beq_self_eq_true _) (bc (Zaa.2 k4) (bc (Zaa.2 k6) (bc (beq_self_eq_true _) b0))))) (qc (Zap k7) q0) c0 (by (try rw [w9]);(try rw [w17]);(try rw [w29]);(try rw [w31]);all_goals exact H)
  ·have i32:(decide (wv (u.getD (lo + i.toNat) default + c) >= 1000000000)) = true ↔ (u.getD (lo + i.toNat) default + c >= 1000000000):=(by (try rw [w9]);all_goals exact Zaa)
   rcases xq H with ⟨d33,H⟩|⟨d33,H⟩
   ·obtain ⟨k34,H⟩:=H
    have w35:wv (u.getD (lo + i.toNat) default + c - 1000000000) = u.getD (lo + i.toNat) default + c - 1000000000:=wU32 k34
    have w38:(us u).set (lo + i.toNat) (vu (u.getD (lo + i.toNat) default + c - 1000000000)) = us (u.set (lo + i.toNat) (u.getD (lo + i.toNat) default + c - 1000000000)):=(ZaY rfl rfl)
    obtain ⟨k39,H⟩:=H
    have w40:wi (i + 1) = i + 1:=wI64 k39
    exact Zac (G:=Zab kp120 [(10,4,.elem (Zf6 u lo i))] []) 1000 [false,true] ⟨(atC (cd Try.f120) [1,1,0,0]),[(0,AV.ref 0 v lo len),(1,AV.vec fb 1 (us b)),(4,vu 1),(8,vi n),(9,vi (wi (i + 1)))],[⟨(us u).set (lo + i.toNat) (vu (wv (wv (u.getD (lo + i.toNat) default + c) - 1000000000))),1,v,false,true⟩],[(decide (i < (↑(us b).length:Int))) == false,(decide (wv (u.getD (lo + i.toNat) default + c) >= 1000000000)) == true,v == v,decide (0 <= i),decide (i.toNat < len),v == v],[((us u).get?Internal (lo + i.toNat) = some (Zf6 u lo i))],_⟩ (by kernel_rfl) (bc (Zaj (fun h => d12 (i11.1 h))) (bc (Zak (i32.2 d33)) (bc (beq_self_eq_true _) (bc (Zaa.2 k4) (bc (Zaa.2 k6) (bc (beq_self_eq_true _) b0)))))) (qc (Zap k7) q0) c0 (by (try rw [w9]);(try rw [w35]);(try rw [w38]);(try rw [w40]);all_goals exact H)
   ·have w43:(us u).set (lo + i.toNat) (vu (u.getD (lo + i.toNat) default + c)) = us (u.set (lo + i.toNat) (u.getD (lo + i.toNat) default + c)):=(ZaY rfl rfl)
    obtain ⟨k44,H⟩:=H
    have w45:wi (i + 1) = i + 1:=wI64 k44
    exact Zac (G:=Zab kp120 [(10,4,.elem (Zf6 u lo i))] []) 1000 [false,false] ⟨(atC (cd Try.f120) [1,1,0,0]),[(0,AV.ref 0 v lo len),(1,AV.vec fb 1 (us b)),(4,vu 0),(8,vi n),(9,vi (wi (i + 1)))],[⟨(us u).set (lo + i.toNat) (vu (wv (u.getD (lo + i.toNat) default + c))),1,v,false,true⟩],[(decide (i < (↑(us b).length:Int))) == false,(decide (wv (u.getD (lo + i.toNat) default + c) >= 1000000000)) == false,v == v,decide (0 <= i),decide (i.toNat < len),v == v],[((us u).get?Internal (lo + i.toNat) = some (Zf6 u lo i))],_⟩ (by kernel_rfl) (bc (Zaj (fun h => d12 (i11.1 h))) (bc (Zaj (fun h => d33 (i32.1 h))) (bc (beq_self_eq_true _) (bc (Zaa.2 k4) (bc (Zaa.2 k6) (bc (beq_self_eq_true _) b0)))))) (qc (Zap k7) q0) c0 (by (try rw [w9]);(try rw [w43]);(try rw [w45]);all_goals exact H)
 ·exact path_end (G:=Zab kp120 [] []) 1000 [false] (env':=[(0,AV.ref 0 v lo len),(1,AV.vec fb 1 (us b)),(4,vu c),(8,vi n),(9,vi i),(10,vb (decide (i < n)))]) (L':=[⟨us u,1,v,false,true⟩]) (asm:=[(decide (i < n)) == false]) (eqs:=[]) (calls:=[]) (tu []) (by kernel_rfl) (by kernel_rfl) (Zal (Zaj (fun h => d2 (Zaa.1 h))) ZaP) Zba Zbb H
end Go.Av

namespace Go.Av
open Go.Proofs
namespace Sp
def Zed:Nat -> Int -> List Int
 | 0,_ => []
 | n + 1,z => z % 1000000000 :: Zed n (z / 1000000000)
def ZaZ (u:List Int) (lo len:Nat) (z:Int):List Int:=u.take lo++(Zed len z++u.drop (lo+len))
def win (u:List Int) (lo len:Nat):Nat:=valL ((u.drop lo).take len)
def okL (l:List Int):Prop:=∀ x ∈ l,0<=x/\x<1000000000
end Sp
abbrev urow (u:List Int) (v:Nat):Row:=⟨u.map (.int .u32),1,v,false,true⟩
theorem ZeY:∀ (n v:Nat),Sp.Zed n v = Sp.Zaq n v
 | 0,v => rfl
 | n + 1,v => by
  rw [Sp.Zed,Zaw,<- ZeY n]
  congr 1
theorem ZeZ:∀ (n:Nat) (z:Int),(Sp.Zed n z).length = n
 | 0,z => rfl
 | n + 1,z => by simp [Sp.Zed,ZeZ n]
theorem limZ_ok:∀ (n:Nat) (z:Int),Sp.okL (Sp.Zed n z)
 | 0,z => by intro x hx;simp [Sp.Zed] at hx
 | n + 1,z => by
  intro x hx
  rcases List.mem_cons.1 hx with rfl | hx
  ·omega
  ·exact limZ_ok n _ x hx
theorem ZeE {u l:List Int} {i:Nat} {x:Int} (hi:i < u.length) (h:u.drop i = x :: l):u.getD i default = x /\ u.drop (i + 1) = l:=by
 rw [Zdh hi] at h
 exact List.cons.inj h
theorem loopSub {fb:Bool} {m V g v lo:Nat} {rest R:List Int} {neg:Prop} [Decidable neg] {Q:AV -> Heap -> Prop} (hm:m <= 1000000) (hlo:lo <= 10000000) (hg:g < 1000000000) (hV:Sp.fits m V) (hQ:Q (.bool (decide neg)) [urow R v]) :
    ∀ (k i:Nat) (u:List Int) (W c w:Nat),i + k = m + 1 -> u.length = lo + (m + 1) + rest.length -> u.drop (lo + i) = Sp.Zaq k W ++ rest -> Sp.fits k W -> c < 1000000000 -> w <= 1 ->
      (((W:Int) - ((V / 1000000000 ^ i * g:Nat):Int) - c - w < 0) ↔ neg) -> u.take (lo + i) ++ (Sp.Zed k ((W:Int) - ((V / 1000000000 ^ i * g:Nat):Int) - c - w) ++ rest) = R ->
      ZaT u (Sp.Zaq m V) fb v lo (m + 1) g c w ((m + 1:Nat):Int) i Q
  | 0,i,u,W,c,w,hi,hul,hud,hW,hc,hw,hneg,hR => by
    have hW0:=Za1.1 hW
    rw [ZaA hV (by omega),Nat.zero_mul,hW0] at hneg
    rw [Sp.Zed,List.nil_append] at hR
    rw [Sp.Zaq,List.nil_append] at hud
    have e:u = R:=by rw [<- hR,<- hud,List.take_append_drop]
    refine Zgd _ _ _ _ _ _ _ _ _ _ _ _ ⟨fun h => by omega,fun _ => ?_⟩
    have eb:(bif decide ((w:Int) > 0) then true else decide ((c:Int) > 0)) = decide neg:=by
      rw [<- decide_eq_decide.2 hneg]
      by_cases h1:(w:Int) > 0
      · rw [decide_eq_true h1,cond_true];symm;rw [decide_eq_true_iff];omega
      · rw [decide_eq_false h1,cond_false,decide_eq_decide];omega
    rw [eb,e];exact hQ
  | k + 1,i,u,W,c,w,hi,hul,hud,hW,hc,hw,hneg,hR => by
    rw [Zaw,List.cons_append] at hud
    obtain ⟨gu,hud'⟩:=ZeE (by omega) hud
    have hp:=Zd2 g (V / 1000000000 ^ i)
    rw [Nat.mul_comm g (V / 1000000000 ^ i),ZaR] at hp
    rw [Nat.mul_comm g (V / 1000000000 ^ (i + 1)),Nat.mul_comm g (V / 1000000000 ^ i % 1000000000)] at hp
    have hd:V / 1000000000 ^ i % 1000000000 < 1000000000:=Nat.mod_lt _ (by omega)
    have hpb:V / 1000000000 ^ i % 1000000000 * g <= 999999999 * 999999999:=Nat.mul_le_mul (by omega) (by omega)
    have nxt:∀ (x:Int) (c' w':Nat),c' = (c + V / 1000000000 ^ i % 1000000000 * g) / 1000000000 ->
        ((((W % 1000000000:Nat):Int) < (((c + V / 1000000000 ^ i % 1000000000 * g) % 1000000000 + w:Nat):Int) /\ w' = 1 /\ x = ((W % 1000000000:Nat):Int) + 1000000000 - (((c + V / 1000000000 ^ i % 1000000000 * g) % 1000000000 + w:Nat):Int)) \/
         (¬((W % 1000000000:Nat):Int) < (((c + V / 1000000000 ^ i % 1000000000 * g) % 1000000000 + w:Nat):Int) /\ w' = 0 /\ x = ((W % 1000000000:Nat):Int) - (((c + V / 1000000000 ^ i % 1000000000 * g) % 1000000000 + w:Nat):Int))) ->
        ZaT (u.set (lo + i) x) (Sp.Zaq m V) fb v lo (m + 1) g c' w' ((m + 1:Nat):Int) ((i:Int) + 1) Q:=by
      intro x c' w' hc' hx
      have key:((W:Int) - ((V / 1000000000 ^ i * g:Nat):Int) - c - w) % 1000000000 = x /\ ((W:Int) - ((V / 1000000000 ^ i * g:Nat):Int) - c - w) / 1000000000 = ((W / 1000000000:Nat):Int) - ((V / 1000000000 ^ (i + 1) * g:Nat):Int) - c' - w':=by
        generalize V / 1000000000 ^ i * g = a at hp
        generalize V / 1000000000 ^ (i + 1) * g = b at hp
        generalize V / 1000000000 ^ i % 1000000000 * g = p at hp hpb hc' hx
        subst hc'
        rcases hx with ⟨h1,rfl,rfl⟩ | ⟨h1,rfl,rfl⟩ <;> omega
      refine loopSub hm hlo hg hV hQ k (i + 1) _ (W / 1000000000) c' w' (by omega) (by simpa using hul) ?_ (ZbC.1 hW) ?_ ?_ ?_ ?_
      · rw [show lo + (i + 1) = lo + i + 1 by omega,List.drop_set_of_lt (by omega)];exact hud'
      · rw [hc']
        generalize V / 1000000000 ^ i % 1000000000 * g = p at hpb
        omega
      · rcases hx with ⟨_,h,_⟩ | ⟨_,h,_⟩ <;> omega
      · rw [<- hneg,<- key.2];omega
      · rw [show lo + (i + 1) = lo + i + 1 by omega,ZaN (by omega),<- hR,Sp.Zed,key.1,key.2,List.append_assoc];rfl
    refine Zgd _ _ _ _ _ _ _ _ _ _ _ _ ⟨fun _ => ?_,fun h => by omega⟩
    rw [Int.toNat_natCast,gu,Zah]
    have hWm:W % 1000000000 < 1000000000:=Nat.mod_lt _ (by omega)
    by_cases him:i < m
    · rw [Zat V him]
      have c1:((V / 1000000000 ^ i % 1000000000:Nat):Int) * (g:Int) = ((V / 1000000000 ^ i % 1000000000 * g:Nat):Int):=(Int.natCast_mul _ _).symm
      rw [c1]
      have hd':((V / 1000000000 ^ i % 1000000000:Nat):Int) < 1000000000:=by omega
      have hd0:(0:Int) <= ((V / 1000000000 ^ i % 1000000000:Nat):Int):=by omega
      generalize ((V / 1000000000 ^ i % 1000000000:Nat):Int) = dI at hd' hd0
      generalize V / 1000000000 ^ i % 1000000000 * g = p at hpb nxt
      have c2:((c:Nat):Int) + ((p:Nat):Int) = ((c + p:Nat):Int):=by omega
      have c3:(((c + p:Nat):Int)).tdiv 1000000000 = (((c + p) / 1000000000:Nat):Int):=by rw [Int.tdiv_eq_ediv_of_nonneg (by omega)];omega
      have c4:(((c + p:Nat):Int)).tmod 1000000000 = (((c + p) % 1000000000:Nat):Int):=by rw [Int.tmod_eq_emod_of_nonneg (by omega)];omega
      rw [c2,c3,c4]
      have c5:(((c + p) % 1000000000:Nat):Int) + (w:Int) = (((c + p) % 1000000000 + w:Nat):Int):=by omega
      rw [c5]
      have hy:(c + p) % 1000000000 + w <= 1000000000:=by omega
      refine ⟨fun _ => ⟨by omega,by omega,by omega,by omega,by omega,by omega,by omega,by omega,by omega,by omega,fun h => ⟨by omega,by omega,by omega,by omega,nxt _ _ 1 rfl (.inl ⟨h,rfl,rfl⟩)⟩,fun h => ⟨by omega,by omega,by omega,nxt _ _ 0 rfl (.inr ⟨h,rfl,rfl⟩)⟩⟩,fun h => by omega⟩
    · have hV0:=ZaA hV (show m <= i by omega)
      rw [hV0,Nat.zero_mod,Nat.zero_mul] at nxt
      simp only [Nat.add_zero] at nxt
      have c3:((c:Nat):Int).tdiv 1000000000 = ((c / 1000000000:Nat):Int):=by rw [Int.tdiv_eq_ediv_of_nonneg (by omega)];omega
      have c4:((c:Nat):Int).tmod 1000000000 = ((c % 1000000000:Nat):Int):=by rw [Int.tmod_eq_emod_of_nonneg (by omega)];omega
      rw [c3,c4]
      have c5:((c % 1000000000:Nat):Int) + (w:Int) = ((c % 1000000000 + w:Nat):Int):=by omega
      rw [c5]
      have hy:c % 1000000000 + w <= 1000000000:=by omega
      refine ⟨fun h => by omega,fun _ => ⟨by omega,by omega,by omega,by omega,by omega,by omega,fun h => ⟨by omega,by omega,by omega,by omega,nxt _ _ 1 rfl (.inl ⟨h,rfl,rfl⟩)⟩,fun h => ⟨by omega,by omega,by omega,nxt _ _ 0 rfl (.inr ⟨h,rfl,rfl⟩)⟩⟩⟩
theorem win_drop {u:List Int} {lo len:Nat} (hu:Sp.okL u) (hl:lo + len <= u.length):u.drop lo = Sp.Zaq len (Sp.win u lo len) ++ u.drop (lo + len) /\ Sp.fits len (Sp.win u lo len):=by
 have hok:∀ x ∈ (u.drop lo).take len,0 <= x /\ x < 1000000000:=fun x hx => hu x (List.mem_of_mem_drop (List.mem_of_mem_take hx))
 obtain ⟨h1,h2⟩:=Ze0 _ hok
 have hlen:((u.drop lo).take len).length = len:=by rw [List.length_take,List.length_drop];omega
 rw [hlen] at h1 h2
 refine ⟨?_,h2⟩
 unfold Sp.win
 rw [<- h1]
 conv => lhs;rw [<- List.take_append_drop len (u.drop lo),List.drop_drop]
theorem evo119 (u b:List Int) (fb:Bool) (v lo len:Nat) (g:Int) (h:Sp.okL u /\ Sp.okL b /\ lo + len <= u.length /\ len = b.length + 1 /\ u.length <= 1000000 /\ 0 <= g /\ g < 1000000000) :
  Ev M1 (.own 119 [.ref 0 v lo len,usA fb b,.int .u64 g] [urow u v]) (.bool (decide ((Sp.win u lo len:Int) - g * (valL b:Nat) < 0))) [urow (Sp.ZaZ u lo len ((Sp.win u lo len:Int) - g * (valL b:Nat))) v]:=by
 obtain ⟨hu,hb,h1,h2,h3,h4,h5⟩:=h
 obtain ⟨b1,b2⟩:=Ze0 b hb
 obtain ⟨w1,w2⟩:=win_drop hu h1
 subst h2
 obtain ⟨gn,rfl⟩:=Int.eq_ofNat_of_zero_le h4
 refine owncall119 (vSubtract _ _ _ _ _ _ _ _ ?_)
 generalize hV:valL b = V at b1 b2
 rw [b1]
 have e0:((V / 1000000000 ^ 0 * gn:Nat):Int) = (gn:Int) * (V:Int):=by rw [Nat.pow_zero,Nat.div_one,Nat.mul_comm,Int.natCast_mul]
 have:=loopSub (fb:=fb) (m:=b.length) (V:=V) (g:=gn) (v:=v) (lo:=lo) (rest:=u.drop (lo + (b.length + 1))) (R:=Sp.ZaZ u lo (b.length + 1) ((Sp.win u lo (b.length + 1):Int) - (gn:Int) * (V:Int))) (neg:=(Sp.win u lo (b.length + 1):Int) - (gn:Int) * (V:Int) < 0)
  (Q:=isR (.bool (decide ((Sp.win u lo (b.length + 1):Int) - (gn:Int) * (V:Int) < 0))) [urow (Sp.ZaZ u lo (b.length + 1) ((Sp.win u lo (b.length + 1):Int) - (gn:Int) * (V:Int))) v]) (by omega) (by omega) (by omega) b2 ⟨rfl,rfl⟩
  (b.length + 1) 0 u (Sp.win u lo (b.length + 1)) 0 0 (by omega) (by rw [List.length_drop];omega) w1 w2 (by omega) (by omega) (by rw [e0];simp) (by rw [e0];simp [Sp.ZaZ])
 rw [Zah] at *
 exact this
end Go.Av

namespace Go.Av
open Go.Proofs
theorem limZ_add:∀ (n:Nat) (a b c:Int),Sp.Zed n a = Sp.Zed n b -> Sp.Zed n (a + c) = Sp.Zed n (b + c)
 | 0,a,b,c,_ => rfl
 | n + 1,a,b,c,h => by
  rw [Sp.Zed,Sp.Zed] at h
  obtain ⟨h1,h2⟩:=List.cons.inj h
  rw [Sp.Zed,Sp.Zed]
  have e1:(a + c) % 1000000000 = (b + c) % 1000000000:=by omega
  have e2:(a + c) / 1000000000 = a / 1000000000 + (a % 1000000000 + c) / 1000000000:=by omega
  have e3:(b + c) / 1000000000 = b / 1000000000 + (a % 1000000000 + c) / 1000000000:=by omega
  rw [e1,e2,e3,limZ_add n _ _ _ h2]
theorem loopRes {fb:Bool} {m V v lo:Nat} {rest R:List Int} {Q:AV -> Heap -> Prop} (hm:m <= 1000000) (hlo:lo <= 10000000) (hV:Sp.fits m V) (hQ:Q (.tup []) [urow R v]) :
  ∀ (k i:Nat) (u:List Int) (z:Int) (c:Nat),i + k = m + 1 -> u.length = lo + (m + 1) + rest.length -> u.drop (lo + i) = Sp.Zed k z ++ rest -> c <= 1 ->
   u.take (lo + i) ++ (Sp.Zed k (z + ((V / 1000000000 ^ i:Nat):Int) + c) ++ rest) = R -> Za0 u (Sp.Zaq m V) fb v lo (m + 1) c ((m + 1:Nat):Int) i Q
 | 0,i,u,z,c,hi,hul,hud,hc,hR => by
  rw [Sp.Zed,List.nil_append] at hR hud
  have e:u = R:=by rw [<- hR,<- hud,List.take_append_drop]
  exact vRestoreA _ _ _ _ _ _ _ _ _ _ ⟨fun h => by omega,fun _ => by rw [e];exact hQ⟩
 | k + 1,i,u,z,c,hi,hul,hud,hc,hR => by
  rw [Sp.Zed,List.cons_append] at hud
  obtain ⟨gu,hud'⟩:=ZeE (by omega) hud
  have hn:=ZaR V i
  have nxt:∀ (x:Int) (c':Nat),(z % 1000000000 + c + ((V / 1000000000 ^ i % 1000000000:Nat):Int) >= 1000000000 /\ c' = 1 /\ x = z % 1000000000 + c + ((V / 1000000000 ^ i % 1000000000:Nat):Int) - 1000000000 \/ ¬z % 1000000000 + c + ((V / 1000000000 ^ i % 1000000000:Nat):Int) >= 1000000000 /\ c' = 0 /\ x = z % 1000000000 + c + ((V / 1000000000 ^ i % 1000000000:Nat):Int)) ->
    Za0 (u.set (lo + i) x) (Sp.Zaq m V) fb v lo (m + 1) c' ((m + 1:Nat):Int) ((i:Int) + 1) Q:=by
   intro x c' hx
   have key:(z + ((V / 1000000000 ^ i:Nat):Int) + c) % 1000000000 = x /\ (z + ((V / 1000000000 ^ i:Nat):Int) + c) / 1000000000 = z / 1000000000 + ((V / 1000000000 ^ (i + 1):Nat):Int) + c':=by
    generalize V / 1000000000 ^ (i + 1) = b at hn
    generalize V / 1000000000 ^ i = a at hn hx
    subst hn
    rcases hx with ⟨h1,rfl,rfl⟩ | ⟨h1,rfl,rfl⟩ <;> omega
   refine loopRes hm hlo hV hQ k (i + 1) _ (z / 1000000000) c' (by omega) (by simpa using hul) ?_ (by omega) ?_
   ·rw [show lo + (i + 1) = lo + i + 1 by omega,List.drop_set_of_lt (by omega)];exact hud'
   ·rw [show lo + (i + 1) = lo + i + 1 by omega,ZaN (by omega),<- hR,Sp.Zed,key.1,key.2,List.append_assoc];rfl
  refine vRestoreA _ _ _ _ _ _ _ _ _ _ ⟨fun _ => ?_,fun h => by omega⟩
  rw [Int.toNat_natCast,gu,Zah]
  by_cases him:i < m
  ·rw [Zat V him]
   have hd:((V / 1000000000 ^ i % 1000000000:Nat):Int) < 1000000000:=by omega
   have hd0:(0:Int) <= ((V / 1000000000 ^ i % 1000000000:Nat):Int):=by omega
   generalize ((V / 1000000000 ^ i % 1000000000:Nat):Int) = d at hd hd0 nxt
   exact ⟨by omega,by omega,by omega,by omega,fun _ => ⟨by omega,by omega,fun h => ⟨by omega,by omega,nxt _ 1 (.inl ⟨h,rfl,rfl⟩)⟩,fun h => ⟨by omega,nxt _ 0 (.inr ⟨h,rfl,rfl⟩)⟩⟩,fun h => by omega⟩
  ·have hV0:=ZaA hV (show m <= i by omega)
   rw [hV0,Nat.zero_mod] at nxt
   simp only [Int.ofNat_zero,Int.add_zero] at nxt
   exact ⟨by omega,by omega,by omega,by omega,fun h => by omega,fun _ => ⟨fun h => ⟨by omega,by omega,nxt _ 1 (.inl ⟨h,rfl,rfl⟩)⟩,fun h => ⟨by omega,nxt _ 0 (.inr ⟨h,rfl,rfl⟩)⟩⟩⟩
theorem evo120 (u b:List Int) (fb:Bool) (v lo len:Nat) (h:Sp.okL u /\ Sp.okL b /\ lo + len <= u.length /\ len = b.length + 1 /\ u.length <= 1000000) :
  Ev M1 (.own 120 [.ref 0 v lo len,usA fb b] [urow u v]) (.tup []) [urow (Sp.ZaZ u lo len ((Sp.win u lo len:Int) + (valL b:Nat))) v]:=by
 obtain ⟨hu,hb,h1,h2,h3⟩:=h
 obtain ⟨b1,b2⟩:=Ze0 b hb
 obtain ⟨w1,w2⟩:=win_drop hu h1
 subst h2
 refine owncall120 (vRestore _ _ _ _ _ _ _ ?_)
 generalize hV:valL b = V at b1 b2
 rw [b1]
 have:=loopRes (fb:=fb) (m:=b.length) (V:=V) (v:=v) (lo:=lo) (rest:=u.drop (lo + (b.length + 1))) (R:=Sp.ZaZ u lo (b.length + 1) ((Sp.win u lo (b.length + 1):Int) + (V:Int)))
  (Q:=isR (.tup []) [urow (Sp.ZaZ u lo (b.length + 1) ((Sp.win u lo (b.length + 1):Int) + (V:Int))) v]) (by omega) (by omega) b2 ⟨rfl,rfl⟩
  (b.length + 1) 0 u (Sp.win u lo (b.length + 1)) 0 (by omega) (by rw [List.length_drop];omega) (by rw [ZeY];exact w1) (by omega) (by simp [Sp.ZaZ])
 rw [Zah] at *
 exact this
theorem lim_ok (v:Nat):Sp.okL (Sp.lim v):=limN_ok _ _
theorem ZeS {u:List Int} {lo len:Nat} {z:Int} (h:lo + len <= u.length):(Sp.ZaZ u lo len z).length = u.length:=by
 unfold Sp.ZaZ
 simp only [List.length_append,List.length_take,ZeZ,List.length_drop]
 omega
theorem rowZ_ok {u:List Int} {lo len:Nat} {z:Int} (h:Sp.okL u):Sp.okL (Sp.ZaZ u lo len z):=by
 intro x hx
 unfold Sp.ZaZ at hx
 rcases List.mem_append.1 hx with hx | hx
 ·exact h x (List.mem_of_mem_take hx)
 ·rcases List.mem_append.1 hx with hx | hx
  ·exact limZ_ok _ _ x hx
  ·exact h x (List.mem_of_mem_drop hx)
theorem rowZ_again {u:List Int} {lo len:Nat} {z c:Int} (h:lo + len <= u.length) (hu:Sp.okL u):Sp.ZaZ (Sp.ZaZ u lo len z) lo len ((Sp.win (Sp.ZaZ u lo len z) lo len:Int) + c) = Sp.ZaZ u lo len (z + c):=by
 have hw:=win_drop (rowZ_ok (lo:=lo) (len:=len) (z:=z) hu) (by rw [ZeS h];exact h)
 have e1:(Sp.ZaZ u lo len z).take lo = u.take lo:=by
  unfold Sp.ZaZ
  rw [List.take_append_of_le_length (by rw [List.length_take];omega),List.take_take]
  congr 1;omega
 have e2:(Sp.ZaZ u lo len z).drop lo = Sp.Zed len z ++ u.drop (lo + len):=by
  unfold Sp.ZaZ
  rw [List.drop_append_of_le_length (by rw [List.length_take];omega),List.drop_of_length_le (by rw [List.length_take];omega),List.nil_append]
 have e3:(Sp.ZaZ u lo len z).drop (lo + len) = u.drop (lo + len):=by
  rw [<- List.drop_drop,e2,List.drop_append_of_le_length (by rw [ZeZ];omega),List.drop_of_length_le (by rw [ZeZ];omega),List.nil_append]
 have e4:Sp.Zed len (Sp.win (Sp.ZaZ u lo len z) lo len:Int) = Sp.Zed len z:=by
  have:=hw.1
  rw [e2,e3] at this
  rw [ZeY]
  exact (List.append_cancel_right this).symm
 show (Sp.ZaZ u lo len z).take lo ++ (Sp.Zed len ((Sp.win (Sp.ZaZ u lo len z) lo len:Int) + c) ++ (Sp.ZaZ u lo len z).drop (lo + len)) = _
 rw [e1,e3,limZ_add len _ z c e4]
 rfl
end Go.Av

namespace Go.Av
open Go.Proofs
set_option maxRecDepth 100000
def fi107:Fi:=⟨179,[.tmp 4,.tmp 5]⟩
def ZcQ:List (Nat × List Nat):=[(0,[0,1]),(1,[0,1]),(2,[0,1,23]),(3,[4,5]),(4,[0,1,34]),(5,[4,5]),(6,[0,1,6]),(7,[0,1,6,7]),(8,[1,6,7,8]),(9,[6,7,8,9]),(10,[6,7,8,9,10]),(11,[6,7,8,9,10,11]),(12,[6,7,8,9,10,11,70]),(13,[6,7,8,9,10,11]),(14,[6,7,8,9,10,11,12]),(15,[6,7,8,9,10,11,13,14]),(16,[6,7,8,9,10,11,13,14,129]),(17,[6,7,8,9,10,11,13,14]),(18,[6,7,8,9,10,11,13,14]),(19,[6,7,8,9,10,11,13,14,141]),(20,[6,7,8,9,10,11,13,151]),(21,[6,7,8,9,10,11,13]),(22,[6,7,8,9,10,11,13]),(23,[6,7,8,9,10,11]),(24,[10,15]),(25,[4,5])]
def Zfb (fa fb:Bool) (a b:List Int) (Q:AV->Heap->Prop):Prop:=Wp M1 (.run fi107 (atC (cd Try.f107) []) [(0,.vec fa 1 (a.map (.int .u32))),(1,.vec fb 1 (b.map (.int .u32)))] []) Q
def Zfa (fa fb:Bool) (a b:List Int) (Q:AV->Heap->Prop):Prop:=Wp M1 (.run fi107 (atC (cd Try.f107) []) [(0,.vec fa 1 (a.map (.int .u32))),(1,.vec fb 1 (b.map (.int .u32)))] []) Q
def ZaJ (u b q:List Int) (fb:Bool) (v:Nat) (n s k:Int) (Q:AV->Heap->Prop):Prop:=Wp M1 (.run fi107 (atC (cd Try.f107) [1,1,1,1,1,1,1,1,1,0,1,0,0]) [(6,.int .i64 n),(7,.int .u32 s),(8,.row 0 v),(9,.vec fb 1 (b.map (.int .u32))),(10,.row 1 0),(11,.int .i64 k)] [⟨u.map (.int .u32),1,v,false,true⟩,⟨q.map (.int .u32),1,0,false,true⟩]) Q
def Zcl (u b q:List Int) (fb:Bool) (v:Nat) (n s k:Int) (g r:Int) (Q:AV->Heap->Prop):Prop:=Wp M1 (.run fi107 (atC (cd Try.f107) [1,1,1,1,1,1,1,1,1,0,1,0,0,1,0,0,1,1,0,0,0]) [(6,.int .i64 n),(7,.int .u32 s),(8,.row 0 v),(9,.vec fb 1 (b.map (.int .u32))),(10,.row 1 0),(11,.int .i64 k),(13,.int .u64 g),(14,.int .u64 r)] [⟨u.map (.int .u32),1,v,false,true⟩,⟨q.map (.int .u32),1,0,false,true⟩]) Q
theorem call107 {args:List AV} {d:AV} (h:wc M1 fi107 Try.f107 args d):Ev M1 (.pure 107 args) d []:=pcl _ _ (by kernel_rfl) h
theorem vDivide0 (fa fb:Bool) (a b:List Int)  (dq:AV) (H :
  (Ev M1 (Conf.pure 110 [AV.vec fa 1 (us a)]) (vf []) []) /\
  ∃ (l1:List (Int)),
  (Ev M1 (Conf.pure 110 [AV.vec fb 1 (us b)]) (vf (us l1)) []) /\
  (((↑l1.length:Int) = 1) -> ∃ (l2:List (Int)) (l3:List (Int)),
   (Ev M1 (Conf.pure 118 [vf [],vu (l1.getD 0 default)]) (tu [vf (us l2),vf (us l3)]) []) /\
   (0 < l1.length) /\
   Weak (tu [vf (us l2),vf (us l3)]) dq) /\
  (¬((↑l1.length:Int) = 1) -> (Ev M1 (Conf.pure 85 [vf [],vf (us l1)]) (vi (-1)) []) /\
   Weak (tu [AV.vnil,AV.vnil]) dq)) :
 Zfb fa fb a b (Zae dq):=by
 unfold Zfb
 obtain ⟨k1,l1,k2,H⟩:=H
 have w3:(us l1).length = l1.length:=List.length_map ..
 have i4:((↑(us l1).length:Int) == 1) = true ↔ ((↑l1.length:Int) = 1):=(by (try rw [w3]);all_goals exact i_eq)
 refine Zac (G:=Zab ZcQ [(1,1,.call (.vec false 1 []) none),(1,3,.call (vf (us l1)) none)] []) 7 [] ⟨(atC (cd Try.f107) [1,1,0,1]),[(0,vf []),(1,vf (us l1)),(23,vb ((↑(us l1).length:Int) == 1))],[],_,[],_⟩ (by kernel_rfl) b0 q0 (ce k1 (ce k2 c0)) ?_
 rcases xq H with ⟨d5,H⟩|⟨d5,H⟩
 ·obtain ⟨l2,l3,k6,H⟩:=H
  have i7:(decide (0 < (us l1).length)) = true ↔ (0 < l1.length):=(by (try rw [w3]);all_goals exact Zaa)
  obtain ⟨k8,H⟩:=H
  exact Zao (G:=Zab ZcQ [(3,3,.elem (vu (l1.getD 0 default))),(3,4,.call (tu [vf (us l2),vf (us l3)]) none)] []) 1000 [true] (eqs:=[((us l1).get?Internal 0 = some (vu (l1.getD 0 default)))]) (tu [vf (us l2),vf (us l3)]) (by kernel_rfl) (bc (Zak (i4.2 d5)) (bc rfl (bc (i7.2 k8) b0))) (qc (Zap k8) q0) (ce k6 c0) H
 ·obtain ⟨k9,H⟩:=H
  exact Zao (G:=Zab ZcQ [(4,2,.call (.int .i64 (-1)) none)] []) 1000 [false,true] (tu [AV.vnil,AV.vnil]) (by kernel_rfl) (bc (Zaj (fun h => d5 (i4.1 h))) (bc rfl b0)) q0 (ce k9 c0) H
noncomputable abbrev zNvF1 (x:Int) (l:List Int):=vu x::us l
theorem vDivideC (fa fb:Bool) (a b:List Int) (x:Int) (l ul:List Int) (dq:AV) (H :
  (Ev M1 (Conf.pure 110 [AV.vec fa 1 (us a)]) (vf (vu x :: us l)) []) /\
  ∃ (l1:List (Int)),
  (Ev M1 (Conf.pure 110 [AV.vec fb 1 (us b)]) (vf (us l1)) []) /\
  (((↑l1.length:Int) = 1) -> ∃ (l2:List (Int)) (l3:List (Int)),
   (Ev M1 (Conf.pure 118 [vf (vu x :: us l),vu (l1.getD 0 default)]) (tu [vf (us l2),vf (us l3)]) []) /\
   (0 < l1.length) /\
   Weak (tu [vf (us l2),vf (us l3)]) dq) /\
  (¬((↑l1.length:Int) = 1) -> ∃ (n1:Int),
   (Ev M1 (Conf.pure 85 [vf (vu x :: us l),vf (us l1)]) (vi n1) []) /\
   ((n1 < 0) -> ((l.length + 1) * 4 <= 1099511627776) /\
    Weak (tu [AV.vnil,vf (vu x :: us l)]) dq) /\
   (¬(n1 < 0) -> (-9223372036854775808 <= (↑l1.length:Int) - 1 /\ (↑l1.length:Int) - 1 <= 9223372036854775807) /\
    (0 <= (↑l1.length:Int) - 1) /\
    (((↑l1.length:Int) - 1).toNat < l1.length) /\
    (0 <= l1.getD ((↑l1.length:Int) - 1).toNat default /\ l1.getD ((↑l1.length:Int) - 1).toNat default <= 18446744073709551615) /\
    (0 <= l1.getD ((↑l1.length:Int) - 1).toNat default + 1 /\ l1.getD ((↑l1.length:Int) - 1).toNat default + 1 <= 18446744073709551615) /\
    (¬l1.getD ((↑l1.length:Int) - 1).toNat default + 1 = 0) /\
    (0 <= Int.tdiv 1000000000 (l1.getD ((↑l1.length:Int) - 1).toNat default + 1) /\ Int.tdiv 1000000000 (l1.getD ((↑l1.length:Int) - 1).toNat default + 1) <= 18446744073709551615) /\
    (0 <= Int.tdiv 1000000000 (l1.getD ((↑l1.length:Int) - 1).toNat default + 1) /\ Int.tdiv 1000000000 (l1.getD ((↑l1.length:Int) - 1).toNat default + 1) <= 4294967295) /\
    (Ev M1 (Conf.own 105 [vf (vu x :: us l),AV.vec true 1 [vu (Int.tdiv 1000000000 (l1.getD ((↑l1.length:Int) - 1).toNat default + 1))]] []) (AV.row 0 0) [{ elems:=us ul,es:=1,ver:=0,frozen:=false,clean:=true }]) /\
    ((ul.length + 1) * 4 <= 1099511627776) /\
    ∃ (l4:List (Int)),
    (Ev M1 (Conf.pure 105 [vf (us l1),AV.vec true 1 [vu (Int.tdiv 1000000000 (l1.getD ((↑l1.length:Int) - 1).toNat default + 1))]]) (vf (us l4)) []) /\
    ∃ (l5:List (Int)),
    (Ev M1 (Conf.pure 110 [vf (us l4)]) (vf (us l5)) []) /\
    (-9223372036854775808 <= (↑(ul ++ [0]).length:Int) - (↑l1.length:Int) /\ (↑(ul ++ [0]).length:Int) - (↑l1.length:Int) <= 9223372036854775807) /\
    (0 <= (↑(ul ++ [0]).length:Int) - (↑l1.length:Int)) /\
    (((↑(ul ++ [0]).length:Int) - (↑l1.length:Int)) * 4 <= 1099511627776) /\
    ((↑(ul ++ [0]).length:Int) - (↑l1.length:Int) <= 1099511627776) /\
    (-9223372036854775808 <= (↑(ul ++ [0]).length:Int) - (↑l1.length:Int) - 1 /\ (↑(ul ++ [0]).length:Int) - (↑l1.length:Int) - 1 <= 9223372036854775807) /\
    ZaJ (ul ++ [0]) (l5) (List.replicate ((↑(ul ++ [0]).length:Int) - (↑l1.length:Int)).toNat (0:Int)) (false) (1) ((↑l1.length:Int)) (Int.tdiv 1000000000 (l1.getD ((↑l1.length:Int) - 1).toNat default + 1)) ((↑(ul ++ [0]).length:Int) - (↑l1.length:Int) - 1) (Zae dq)))) :
 Zfa fa fb a b (Zae dq):=by
 unfold Zfa
 obtain ⟨k1,l1,k2,H⟩:=H
 have w3:(us l1).length = l1.length:=List.length_map ..
 have i4:((↑(us l1).length:Int) == 1) = true ↔ ((↑l1.length:Int) = 1):=(by (try rw [w3]);all_goals exact i_eq)
 refine Zac (G:=Zab ZcQ [(1,1,.call (.vec false 1 ((x :: l).map (.int .u32))) none),(1,3,.call (vf (us l1)) none)] []) 7 [] ⟨(atC (cd Try.f107) [1,1,0,1]),[(0,vf (zNvF1 x l)),(1,vf (us l1)),(23,vb ((↑(us l1).length:Int) == 1))],[],_,[],_⟩ (by kernel_rfl) b0 q0 (ce k1 (ce k2 c0)) ?_
 rcases xq H with ⟨d5,H⟩|⟨d5,H⟩
 ·obtain ⟨l2,l3,k6,H⟩:=H
  have i7:(decide (0 < (us l1).length)) = true ↔ (0 < l1.length):=(by (try rw [w3]);all_goals exact Zaa)
  obtain ⟨k8,H⟩:=H
  exact Zao (G:=Zab ZcQ [(3,3,.elem (vu (l1.getD 0 default))),(3,4,.call (tu [vf (us l2),vf (us l3)]) none)] []) 1000 [true] (eqs:=[((us l1).get?Internal 0 = some (vu (l1.getD 0 default)))]) (tu [vf (us l2),vf (us l3)]) (by kernel_rfl) (bc (Zak (i4.2 d5)) (bc rfl (bc (i7.2 k8) b0))) (qc (Zap k8) q0) (ce k6 c0) H
 ·obtain ⟨n1,k9,H⟩:=H
  refine Zac (G:=Zab ZcQ [(4,2,.call (vi n1) none)] []) 5 [false] ⟨(atC (cd Try.f107) [1,1,1,0,1]),[(0,vf (zNvF1 x l)),(1,vf (us l1)),(34,vb (decide (n1 < 0)))],[],_,[],_⟩ (by kernel_rfl) (bc (Zaj (fun h => d5 (i4.1 h))) b0) q0 (ce k9 c0) ?_
  rcases xq H with ⟨d11,H⟩|⟨d11,H⟩
  ·have w12:(us l).length = l.length:=List.length_map ..
   have i13:(decide (((us l).length + 1) * 4 <= 1099511627776)) = true ↔ ((l.length + 1) * 4 <= 1099511627776):=(by (try rw [w12]);all_goals exact Zaa)
   obtain ⟨k14,H⟩:=H
   exact ZbB (G:=Zab ZcQ [] []) 1000 [true] (k:=((atC (cd Try.f107) [1,1,1,0,1,0,1])).tail) (env':=[(4,AV.vnil),(5,AV.row 0 0)]) (L':=[⟨vu x :: us l,1,0,false,true⟩]) (asm:=[(decide (n1 < 0)) == true,decide (((us l).length + 1) * 4 <= 1099511627776)]) (eqs:=[]) (calls:=[]) (tu [AV.vnil,AV.row 0 0]) (by kernel_rfl) (by kernel_rfl) (Zal (Zak (Zaa.2 d11)) (Zal (i13.2 k14) ZaP)) Zba Zbb (Zeh (d:=(tu [AV.vnil,vf (zNvF1 x l)])) (bs:=[0 == 0]) (by kernel_rfl) (by kernel_rfl) (Zal (beq_self_eq_true _) ZaP) (by kernel_rfl) H)
  ·obtain ⟨k15,H⟩:=H
   have w16:wi ((↑l1.length:Int) - 1) = (↑l1.length:Int) - 1:=wI64 k15
   have i17:(decide (0 <= wi ((↑(us l1).length:Int) - 1))) = true ↔ (0 <= (↑l1.length:Int) - 1):=(by (try rw [w3]);(try rw [w16]);all_goals exact Zaa)
   obtain ⟨k18,H⟩:=H
   have i19:(decide ((wi ((↑(us l1).length:Int) - 1)).toNat < (us l1).length)) = true ↔ (((↑l1.length:Int) - 1).toNat < l1.length):=(by (try rw [w3]);(try rw [w16]);all_goals exact Zaa)
   obtain ⟨k20,k21,H⟩:=H
   have w22:wu (l1.getD ((↑l1.length:Int) - 1).toNat default) = l1.getD ((↑l1.length:Int) - 1).toNat default:=wU64 k21
   obtain ⟨k23,H⟩:=H
   have w24:wu (l1.getD ((↑l1.length:Int) - 1).toNat default + 1) = l1.getD ((↑l1.length:Int) - 1).toNat default + 1:=wU64 k23
   have i25:(!wu (wu (l1.getD ((↑l1.length:Int) - 1).toNat default) + 1) == 0) = true ↔ (¬l1.getD ((↑l1.length:Int) - 1).toNat default + 1 = 0):=(by (try rw [w22]);(try rw [w24]);all_goals exact Zc1)
   obtain ⟨k26,k27,H⟩:=H
   have w28:wu (Int.tdiv 1000000000 (l1.getD ((↑l1.length:Int) - 1).toNat default + 1)) = Int.tdiv 1000000000 (l1.getD ((↑l1.length:Int) - 1).toNat default + 1):=wU64 k27
   obtain ⟨k29,H⟩:=H
   have w30:wv (Int.tdiv 1000000000 (l1.getD ((↑l1.length:Int) - 1).toNat default + 1)) = Int.tdiv 1000000000 (l1.getD ((↑l1.length:Int) - 1).toNat default + 1):=wU32 k29
   obtain ⟨k31,H⟩:=H
   have w32:(us ul).length = ul.length:=List.length_map ..
   have i33:(decide (((us ul).length + 1) * 4 <= 1099511627776)) = true ↔ ((ul.length + 1) * 4 <= 1099511627776):=(by (try rw [w32]);all_goals exact Zaa)
   obtain ⟨k34,H⟩:=H
   have w35:us ul ++ [vu 0] = us (ul ++ [0]):=(ZfB rfl rfl)
   obtain ⟨l4,k36,l5,k37,H⟩:=H
   have w38:(us (ul ++ [0])).length = (ul ++ [0]).length:=List.length_map ..
   obtain ⟨k39,H⟩:=H
   have w40:wi ((↑(ul ++ [0]).length:Int) - (↑l1.length:Int)) = (↑(ul ++ [0]).length:Int) - (↑l1.length:Int):=wI64 k39
   have i41:(decide (0 <= wi ((↑(us ul ++ [vu 0]).length:Int) - (↑(us l1).length:Int)))) = true ↔ (0 <= (↑(ul ++ [0]).length:Int) - (↑l1.length:Int)):=(by (try rw [w3]);(try rw [w35]);(try rw [w38]);(try rw [w40]);all_goals exact Zaa)
   obtain ⟨k42,H⟩:=H
   have i43:(decide (wi ((↑(us ul ++ [vu 0]).length:Int) - (↑(us l1).length:Int)) <= wi ((↑(us ul ++ [vu 0]).length:Int) - (↑(us l1).length:Int)))) = true ↔ ((↑(ul ++ [0]).length:Int) - (↑l1.length:Int) <= (↑(ul ++ [0]).length:Int) - (↑l1.length:Int)):=(by (try rw [w3]);(try rw [w35]);(try rw [w38]);(try rw [w40]);all_goals exact Zaa)
   have i44:(decide (wi ((↑(us ul ++ [vu 0]).length:Int) - (↑(us l1).length:Int)) * 4 <= 1099511627776)) = true ↔ (((↑(ul ++ [0]).length:Int) - (↑l1.length:Int)) * 4 <= 1099511627776):=(by (try rw [w3]);(try rw [w35]);(try rw [w38]);(try rw [w40]);all_goals exact Zaa)
   obtain ⟨k45,H⟩:=H
   have i46:(decide (wi ((↑(us ul ++ [vu 0]).length:Int) - (↑(us l1).length:Int)) <= 1099511627776)) = true ↔ ((↑(ul ++ [0]).length:Int) - (↑l1.length:Int) <= 1099511627776):=(by (try rw [w3]);(try rw [w35]);(try rw [w38]);(try rw [w40]);all_goals exact Zaa)
   obtain ⟨k47,H⟩:=H
   have w48:List.replicate ((↑(ul ++ [0]).length:Int) - (↑l1.length:Int)).toNat (vu 0) = us (List.replicate ((↑(ul ++ [0]).length:Int) - (↑l1.length:Int)).toNat (0:Int)):=(Zde rfl)
   obtain ⟨k49,H⟩:=H
   have w50:wi ((↑(ul ++ [0]).length:Int) - (↑l1.length:Int) - 1) = (↑(ul ++ [0]).length:Int) - (↑l1.length:Int) - 1:=wI64 k49
   exact Zac (G:=Zab ZcQ [(7,4,.elem (vu (l1.getD ((↑l1.length:Int) - 1).toNat default))),(8,3,(.call (.row 0 0) (some [⟨ul.map (.int .u32),1,0,false,true⟩]):Ans)),(9,3,.call (vf (us l4)) none),(9,4,.call (vf (us l5)) none)] []) 1000 [false] ⟨(atC (cd Try.f107) [1,1,1,1,1,1,1,1,1,0,1,0,0]),[(6,vi (↑(us l1).length:Int)),(7,vu (wv (wu (Int.tdiv 1000000000 (wu (wu (l1.getD ((↑l1.length:Int) - 1).toNat default) + 1)))))),(8,AV.row 0 1),(9,vf (us l5)),(10,AV.row 1 0),(11,vi (wi (wi ((↑(us ul ++ [vu 0]).length:Int) - (↑(us l1).length:Int)) - 1)))],[⟨us ul ++ [vu 0],1,1,false,true⟩,⟨List.replicate (wi ((↑(us ul ++ [vu 0]).length:Int) - (↑(us l1).length:Int))).toNat (vu 0),1,0,false,true⟩],[(decide (n1 < 0)) == false,decide (0 <= wi ((↑(us l1).length:Int) - 1)),decide ((wi ((↑(us l1).length:Int) - 1)).toNat < (us l1).length),!wu (wu (l1.getD ((↑l1.length:Int) - 1).toNat default) + 1) == 0,scalarL (us ul),true,decide (((us ul).length + 1) * 4 <= 1099511627776),true,decide (0 <= wi ((↑(us ul ++ [vu 0]).length:Int) - (↑(us l1).length:Int))),decide (wi ((↑(us ul ++ [vu 0]).length:Int) - (↑(us l1).length:Int)) <= wi ((↑(us ul ++ [vu 0]).length:Int) - (↑(us l1).length:Int))),decide (wi ((↑(us ul ++ [vu 0]).length:Int) - (↑(us l1).length:Int)) * 4 <= 1099511627776),decide (wi ((↑(us ul ++ [vu 0]).length:Int) - (↑(us l1).length:Int)) <= 1099511627776),true],[((us l1).get?Internal (wi ((↑(us l1).length:Int) - 1)).toNat = some (vu (l1.getD ((↑l1.length:Int) - 1).toNat default)))],[⟨true,true,105,[vf (zNvF1 x l),AV.vec true 1 [vu (wv (wu (Int.tdiv 1000000000 (wu (wu (l1.getD ((↑l1.length:Int) - 1).toNat default) + 1)))))]],[],AV.row 0 0,[⟨us ul,1,0,false,true⟩]⟩,⟨true,false,105,[vf (us l1),AV.vec true 1 [vu (wv (wu (Int.tdiv 1000000000 (wu (wu (l1.getD ((↑l1.length:Int) - 1).toNat default) + 1)))))]],[],vf (us l4),[]⟩,⟨true,false,110,[vf (us l4)],[],vf (us l5),[]⟩]⟩ (by kernel_rfl) (bc (Zaj (fun h => d11 (Zaa.1 h))) (bc (i17.2 k18) (bc (i19.2 k20) (bc (i25.2 k26) (bc (by first | exact sc_int _ | exact sc_bool _) (bc rfl (bc (i33.2 k34) (bc rfl (bc (i41.2 k42) (bc (i43.2 (by omega)) (bc (i44.2 k45) (bc (i46.2 k47) (bc rfl b0))))))))))))) (qc (by (try rw [w3]);(try rw [w16]);all_goals exact (Zap k20)) q0) (cc (fun _ => (by (try rw [w22]);(try rw [w24]);(try rw [w28]);(try rw [w30]);all_goals exact k31)) (cc (fun _ => (by (try rw [w22]);(try rw [w24]);(try rw [w28]);(try rw [w30]);all_goals exact k36)) (cc (fun _ => k37) c0))) (by (try rw [w3]);(try rw [w22]);(try rw [w24]);(try rw [w28]);(try rw [w30]);(try rw [w35]);(try rw [w38]);(try rw [w40]);(try rw [w48]);(try rw [w50]);all_goals exact H)
noncomputable abbrev zNvF2 (b:List Int) (n:Int):=vu (b.getD (n-1).toNat default)
theorem vDivideK (u b q:List Int) (fb:Bool) (v:Nat) (n s k:Int)  (dq:AV) (H :
  ((k >= 0) -> (-9223372036854775808 <= k + n /\ k + n <= 9223372036854775807) /\
   (-9223372036854775808 <= k + n - 1 /\ k + n - 1 <= 9223372036854775807) /\
   (0 <= k + n) /\
   ((k + n).toNat < u.length) /\
   (0 <= k + n - 1) /\
   ((k + n - 1).toNat < u.length) /\
   (0 <= u.getD (k + n).toNat default /\ u.getD (k + n).toNat default <= 18446744073709551615) /\
   (0 <= u.getD (k + n).toNat default * 1000000000 /\ u.getD (k + n).toNat default * 1000000000 <= 18446744073709551615) /\
   (0 <= u.getD (k + n - 1).toNat default /\ u.getD (k + n - 1).toNat default <= 18446744073709551615) /\
   (0 <= u.getD (k + n).toNat default * 1000000000 + u.getD (k + n - 1).toNat default /\ u.getD (k + n).toNat default * 1000000000 + u.getD (k + n - 1).toNat default <= 18446744073709551615) /\
   (-9223372036854775808 <= n - 1 /\ n - 1 <= 9223372036854775807) /\
   (0 <= n - 1) /\
   ((n - 1).toNat < b.length) /\
   (0 <= b.getD (n - 1).toNat default /\ b.getD (n - 1).toNat default <= 18446744073709551615) /\
   (¬b.getD (n - 1).toNat default = 0) /\
   (0 <= (u.getD (k + n).toNat default * 1000000000 + u.getD (k + n - 1).toNat default).tdiv (b.getD (n - 1).toNat default) /\ (u.getD (k + n).toNat default * 1000000000 + u.getD (k + n - 1).toNat default).tdiv (b.getD (n - 1).toNat default) <= 18446744073709551615) /\
   Zcl (u) (b) (q) (fb) (v) (n) (s) (k) ((u.getD (k + n).toNat default * 1000000000 + u.getD (k + n - 1).toNat default).tdiv (b.getD (n - 1).toNat default)) ((u.getD (k + n).toNat default * 1000000000 + u.getD (k + n - 1).toNat default).tmod (b.getD (n - 1).toNat default)) (Zae dq)) /\
  (¬(k >= 0) -> ∃ (l1:List (Int)),
   (Ev M1 (Conf.pure 110 [vf (us (List.take (n.toNat - 0) (List.drop 0 u)))]) (vf (us l1)) []) /\
   ∃ (l2:List (Int)) (l3:List (Int)),
   (Ev M1 (Conf.pure 118 [vf (us l1),vu s]) (tu [vf (us l2),vf (us l3)]) []) /\
   (0 <= n) /\
   (0 <= n.toNat) /\
   (n.toNat <= u.length) /\
   Weak (tu [vf (us q),vf (us l2)]) dq)) :
 ZaJ u b q fb v n s k (Zae dq):=by
 unfold ZaJ
 rcases xq H with ⟨d2,H⟩|⟨d2,H⟩
 ·obtain ⟨k3,H⟩:=H
  have w4:wi (k + n) = k + n:=wI64 k3
  obtain ⟨k5,H⟩:=H
  have w6:wi (k + n - 1) = k + n - 1:=wI64 k5
  have i7:(decide (0 <= wi (k + n))) = true ↔ (0 <= k + n):=(by (try rw [w4]);all_goals exact Zaa)
  obtain ⟨k8,H⟩:=H
  have w9:(us u).length = u.length:=List.length_map ..
  have i10:(decide ((wi (k + n)).toNat < (us u).length)) = true ↔ ((k + n).toNat < u.length):=(by (try rw [w4]);(try rw [w9]);all_goals exact Zaa)
  obtain ⟨k11,H⟩:=H
  have i12:(decide (0 <= wi (wi (k + n) - 1))) = true ↔ (0 <= k + n - 1):=(by (try rw [w4]);(try rw [w6]);all_goals exact Zaa)
  obtain ⟨k13,H⟩:=H
  have i14:(decide ((wi (wi (k + n) - 1)).toNat < (us u).length)) = true ↔ ((k + n - 1).toNat < u.length):=(by (try rw [w4]);(try rw [w6]);(try rw [w9]);all_goals exact Zaa)
  obtain ⟨k15,k16,H⟩:=H
  have w17:wu (u.getD (k + n).toNat default) = u.getD (k + n).toNat default:=wU64 k16
  obtain ⟨k18,H⟩:=H
  have w19:wu (u.getD (k + n).toNat default * 1000000000) = u.getD (k + n).toNat default * 1000000000:=wU64 k18
  obtain ⟨k20,H⟩:=H
  have w21:wu (u.getD (k + n - 1).toNat default) = u.getD (k + n - 1).toNat default:=wU64 k20
  obtain ⟨k22,H⟩:=H
  have w23:wu (u.getD (k + n).toNat default * 1000000000 + u.getD (k + n - 1).toNat default) = u.getD (k + n).toNat default * 1000000000 + u.getD (k + n - 1).toNat default:=wU64 k22
  obtain ⟨k24,H⟩:=H
  have w25:wi (n - 1) = n - 1:=wI64 k24
  have i26:(decide (0 <= wi (n - 1))) = true ↔ (0 <= n - 1):=(by (try rw [w25]);all_goals exact Zaa)
  obtain ⟨k27,H⟩:=H
  have w28:(us b).length = b.length:=List.length_map ..
  have i29:(decide ((wi (n - 1)).toNat < (us b).length)) = true ↔ ((n - 1).toNat < b.length):=(by (try rw [w25]);(try rw [w28]);all_goals exact Zaa)
  obtain ⟨k30,k31,H⟩:=H
  have w32:wu (b.getD (n - 1).toNat default) = b.getD (n - 1).toNat default:=wU64 k31
  have i33:(!wu (b.getD (n - 1).toNat default) == 0) = true ↔ (¬b.getD (n - 1).toNat default = 0):=(by (try rw [w32]);all_goals exact Zc1)
  obtain ⟨k34,H⟩:=H
  have i35:(decide (0 <= wi (n - 1))) = true ↔ (0 <= n - 1):=(by (try rw [w25]);all_goals exact Zaa)
  have i36:(decide ((wi (n - 1)).toNat < (us b).length)) = true ↔ ((n - 1).toNat < b.length):=(by (try rw [w25]);(try rw [w28]);all_goals exact Zaa)
  have i37:(!wu (b.getD (n - 1).toNat default) == 0) = true ↔ (¬b.getD (n - 1).toNat default = 0):=(by (try rw [w32]);all_goals exact Zc1)
  obtain ⟨k38,H⟩:=H
  have w39:wu ((u.getD (k + n).toNat default * 1000000000 + u.getD (k + n - 1).toNat default).tdiv (b.getD (n - 1).toNat default)) = (u.getD (k + n).toNat default * 1000000000 + u.getD (k + n - 1).toNat default).tdiv (b.getD (n - 1).toNat default):=wU64 k38
  exact Zac (G:=Zab ZcQ [(14,5,.elem (vu (u.getD (k + n).toNat default))),(14,14,.elem (vu (u.getD (k + n - 1).toNat default))),(15,5,.elem (zNvF2 b n)),(15,13,.elem (zNvF2 b n))] []) 1000 [true] ⟨(atC (cd Try.f107) [1,1,1,1,1,1,1,1,1,0,1,0,0,1,0,0,1,1,0,0,0]),[(6,vi n),(7,vu s),(8,AV.row 0 v),(9,AV.vec fb 1 (us b)),(10,AV.row 1 0),(11,vi k),(13,vw (wu ((wu (wu (wu (u.getD (k + n).toNat default) * 1000000000) + wu (u.getD (k + n - 1).toNat default))).tdiv (wu (b.getD (n - 1).toNat default))))),(14,vw ((wu (wu (wu (u.getD (k + n).toNat default) * 1000000000) + wu (u.getD (k + n - 1).toNat default))).tmod (wu (b.getD (n - 1).toNat default))))],[⟨us u,1,v,false,true⟩,⟨us q,1,0,false,true⟩],[(decide (k >= 0)) == true,v == v,decide (0 <= wi (k + n)),decide ((wi (k + n)).toNat < (us u).length),v == v,v == v,decide (0 <= wi (wi (k + n) - 1)),decide ((wi (wi (k + n) - 1)).toNat < (us u).length),v == v,decide (0 <= wi (n - 1)),decide ((wi (n - 1)).toNat < (us b).length),!wu (b.getD (n - 1).toNat default) == 0,decide (0 <= wi (n - 1)),decide ((wi (n - 1)).toNat < (us b).length),!wu (b.getD (n - 1).toNat default) == 0],[((us u).get?Internal (wi (k + n)).toNat = some (vu (u.getD (k + n).toNat default))),((us u).get?Internal (wi (wi (k + n) - 1)).toNat = some (vu (u.getD (k + n - 1).toNat default))),((us b).get?Internal (wi (n - 1)).toNat = some (zNvF2 b n)),((us b).get?Internal (wi (n - 1)).toNat = some (zNvF2 b n))],_⟩ (by kernel_rfl) (bc (Zak (Zaa.2 d2)) (bc (beq_self_eq_true _) (bc (i7.2 k8) (bc (i10.2 k11) (bc (beq_self_eq_true _) (bc (beq_self_eq_true _) (bc (i12.2 k13) (bc (i14.2 k15) (bc (beq_self_eq_true _) (bc (i26.2 k27) (bc (i29.2 k30) (bc (i33.2 k34) (bc (i35.2 k27) (bc (i36.2 k30) (bc (i37.2 k34) b0))))))))))))))) (qc (by (try rw [w4]);all_goals exact (Zap k11)) (qc (by (try rw [w4]);(try rw [w6]);all_goals exact (Zap k15)) (qc (by (try rw [w25]);all_goals exact (Zap k30)) (qc (by (try rw [w25]);all_goals exact (Zap k30)) q0)))) c0 (by (try rw [w17]);(try rw [w19]);(try rw [w21]);(try rw [w23]);(try rw [w32]);(try rw [w39]);all_goals exact H)
 ·have w40:List.drop 0 (us u) = us (List.drop 0 u):=(Zeq rfl)
  have w41:List.take (n.toNat - 0) (us (List.drop 0 u)) = us (List.take (n.toNat - 0) (List.drop 0 u)):=(Zep rfl)
  obtain ⟨l1,k42,l2,l3,k43,k45,k47,H⟩:=H
  have w48:(us u).length = u.length:=List.length_map ..
  have i49:(decide (n.toNat <= (us u).length)) = true ↔ (n.toNat <= u.length):=(by (try rw [w48]);all_goals exact Zaa)
  obtain ⟨k50,H⟩:=H
  exact ZbB (G:=Zab ZcQ [(24,3,.call (vf (us l1)) none),(24,5,.call (tu [vf (us l2),vf (us l3)]) none)] []) 1000 [false] (k:=((atC (cd Try.f107) [1,1,1,1,1,1,1,1,1,1,1,1])).tail) (env':=[(4,AV.row 1 0),(5,vf (us l2))]) (L':=[⟨us u,1,v,true,true⟩,⟨us q,1,0,false,true⟩]) (asm:=[(decide (k >= 0)) == false,v == v,decide (0 <= n),decide (0 <= n.toNat),decide (n.toNat <= (us u).length),v == v]) (eqs:=[]) (calls:=[⟨true,false,110,[vf (List.take (n.toNat - 0) (List.drop 0 (us u)))],[],vf (us l1),[]⟩,⟨true,false,118,[vf (us l1),vu s],[],tu [vf (us l2),vf (us l3)],[]⟩]) (tu [AV.row 1 0,vf (us l2)]) (by kernel_rfl) (by kernel_rfl) (Zal (Zaj (fun h => d2 (Zaa.1 h))) (Zal (beq_self_eq_true _) (Zal (Zaa.2 k45) (Zal (Zaa.2 k47) (Zal (i49.2 k50) (Zal (beq_self_eq_true _) ZaP)))))) Zba (Zb2 (fun _ => (by (try rw [w40]);(try rw [w41]);all_goals exact k42)) (Zb2 (fun _ => k43) Zbb)) (Zeh (d:=(tu [vf (us q),vf (us l2)])) (bs:=[0 == 0]) (by kernel_rfl) (by kernel_rfl) (Zal (beq_self_eq_true _) ZaP) (by kernel_rfl) H)
noncomputable abbrev zNvF3 (g:Int) (b:List Int) (n:Int) (r:Int) (u:List Int) (k:Int):=wu (g*wu (b.getD (n-2).toNat default))>wu (wu (r*1000000000)+wu (u.getD (k+n-2).toNat default))
theorem vDivideG (u b q:List Int) (fb:Bool) (v:Nat) (n s k:Int) (g r:Int)  (dq:AV) (H :
  (-9223372036854775808 <= n - 2 /\ n - 2 <= 9223372036854775807) /\
  (-9223372036854775808 <= k + n /\ k + n <= 9223372036854775807) /\
  (-9223372036854775808 <= k + n - 2 /\ k + n - 2 <= 9223372036854775807) /\
  ((¬(g >= 1000000000)) -> (0 <= n - 2)) /\
  ((¬(g >= 1000000000)) -> ((n - 2).toNat < b.length)) /\
  ((¬(g >= 1000000000)) -> (0 <= k + n - 2)) /\
  ((¬(g >= 1000000000)) -> ((k + n - 2).toNat < u.length)) /\
  (((g >= 1000000000) \/ (IntKind.u64.wrap (g * IntKind.u64.wrap (b.getD (n - 2).toNat default)) > IntKind.u64.wrap (IntKind.u64.wrap (r * 1000000000) + IntKind.u64.wrap (u.getD (k + n - 2).toNat default)))) -> (0 <= g - 1 /\ g - 1 <= 18446744073709551615) /\
   (-9223372036854775808 <= n - 1 /\ n - 1 <= 9223372036854775807) /\
   (0 <= n - 1) /\
   ((n - 1).toNat < b.length) /\
   (0 <= b.getD (n - 1).toNat default /\ b.getD (n - 1).toNat default <= 18446744073709551615) /\
   (0 <= r + b.getD (n - 1).toNat default /\ r + b.getD (n - 1).toNat default <= 18446744073709551615) /\
   ((r + b.getD (n - 1).toNat default >= 1000000000) -> (-9223372036854775808 <= k + n + 1 /\ k + n + 1 <= 9223372036854775807) /\
    (Sp.okL u /\ Sp.okL b /\ k.toNat + ((k + n + 1).toNat - k.toNat) <= u.length /\ (k + n + 1).toNat - k.toNat = b.length + 1 /\ u.length <= 1000000 /\ 0 <= g - 1 /\ g - 1 < 1000000000) /\
    (0 <= k) /\
    (0 <= k + n + 1) /\
    (k.toNat <= (k + n + 1).toNat) /\
    ((k + n + 1).toNat <= u.length) /\
    (((↑(Sp.win u k.toNat ((k + n + 1).toNat - k.toNat)):Int) - (g - 1) * (↑(valL b):Int) < 0) -> (0 <= g - 1 - 1 /\ g - 1 - 1 <= 18446744073709551615) /\
     (Sp.okL (Sp.ZaZ u k.toNat ((k + n + 1).toNat - k.toNat) ((↑(Sp.win u k.toNat ((k + n + 1).toNat - k.toNat)):Int) - (g - 1) * (↑(valL b):Int))) /\ Sp.okL b /\ k.toNat + ((k + n + 1).toNat - k.toNat) <= (Sp.ZaZ u k.toNat ((k + n + 1).toNat - k.toNat) ((↑(Sp.win u k.toNat ((k + n + 1).toNat - k.toNat)):Int) - (g - 1) * (↑(valL b):Int))).length /\ (k + n + 1).toNat - k.toNat = b.length + 1 /\ (Sp.ZaZ u k.toNat ((k + n + 1).toNat - k.toNat) ((↑(Sp.win u k.toNat ((k + n + 1).toNat - k.toNat)):Int) - (g - 1) * (↑(valL b):Int))).length <= 1000000) /\
     ((k + n + 1).toNat <= (Sp.ZaZ u k.toNat ((k + n + 1).toNat - k.toNat) ((↑(Sp.win u k.toNat ((k + n + 1).toNat - k.toNat)):Int) - (g - 1) * (↑(valL b):Int))).length) /\
     (k.toNat < q.length) /\
     (0 <= g - 1 - 1 /\ g - 1 - 1 <= 4294967295) /\
     (-9223372036854775808 <= k - 1 /\ k - 1 <= 9223372036854775807) /\
     ZaJ (Sp.ZaZ (Sp.ZaZ u k.toNat ((k + n + 1).toNat - k.toNat) ((↑(Sp.win u k.toNat ((k + n + 1).toNat - k.toNat)):Int) - (g - 1) * (↑(valL b):Int))) k.toNat ((k + n + 1).toNat - k.toNat) ((↑(Sp.win (Sp.ZaZ u k.toNat ((k + n + 1).toNat - k.toNat) ((↑(Sp.win u k.toNat ((k + n + 1).toNat - k.toNat)):Int) - (g - 1) * (↑(valL b):Int))) k.toNat ((k + n + 1).toNat - k.toNat)):Int) + (↑(valL b):Int))) (b) (q.set k.toNat (g - 1 - 1)) (fb) (v) (n) (s) (k - 1) (Zae dq)) /\
    (¬((↑(Sp.win u k.toNat ((k + n + 1).toNat - k.toNat)):Int) - (g - 1) * (↑(valL b):Int) < 0) -> (k.toNat < q.length) /\
     (0 <= g - 1 /\ g - 1 <= 4294967295) /\
     (-9223372036854775808 <= k - 1 /\ k - 1 <= 9223372036854775807) /\
     ZaJ (Sp.ZaZ u k.toNat ((k + n + 1).toNat - k.toNat) ((↑(Sp.win u k.toNat ((k + n + 1).toNat - k.toNat)):Int) - (g - 1) * (↑(valL b):Int))) (b) (q.set k.toNat (g - 1)) (fb) (v) (n) (s) (k - 1) (Zae dq))) /\
   (¬(r + b.getD (n - 1).toNat default >= 1000000000) -> Zcl (u) (b) (q) (fb) (v) (n) (s) (k) (g - 1) (r + b.getD (n - 1).toNat default) (Zae dq))) /\
  (¬((g >= 1000000000) \/ (IntKind.u64.wrap (g * IntKind.u64.wrap (b.getD (n - 2).toNat default)) > IntKind.u64.wrap (IntKind.u64.wrap (r * 1000000000) + IntKind.u64.wrap (u.getD (k + n - 2).toNat default)))) -> (-9223372036854775808 <= k + n + 1 /\ k + n + 1 <= 9223372036854775807) /\
   (Sp.okL u /\ Sp.okL b /\ k.toNat + ((k + n + 1).toNat - k.toNat) <= u.length /\ (k + n + 1).toNat - k.toNat = b.length + 1 /\ u.length <= 1000000 /\ 0 <= g /\ g < 1000000000) /\
   (0 <= k) /\
   (0 <= k + n + 1) /\
   (k.toNat <= (k + n + 1).toNat) /\
   ((k + n + 1).toNat <= u.length) /\
   (((↑(Sp.win u k.toNat ((k + n + 1).toNat - k.toNat)):Int) - g * (↑(valL b):Int) < 0) -> (0 <= g - 1 /\ g - 1 <= 18446744073709551615) /\
    (Sp.okL (Sp.ZaZ u k.toNat ((k + n + 1).toNat - k.toNat) ((↑(Sp.win u k.toNat ((k + n + 1).toNat - k.toNat)):Int) - g * (↑(valL b):Int))) /\ Sp.okL b /\ k.toNat + ((k + n + 1).toNat - k.toNat) <= (Sp.ZaZ u k.toNat ((k + n + 1).toNat - k.toNat) ((↑(Sp.win u k.toNat ((k + n + 1).toNat - k.toNat)):Int) - g * (↑(valL b):Int))).length /\ (k + n + 1).toNat - k.toNat = b.length + 1 /\ (Sp.ZaZ u k.toNat ((k + n + 1).toNat - k.toNat) ((↑(Sp.win u k.toNat ((k + n + 1).toNat - k.toNat)):Int) - g * (↑(valL b):Int))).length <= 1000000) /\
    ((k + n + 1).toNat <= (Sp.ZaZ u k.toNat ((k + n + 1).toNat - k.toNat) ((↑(Sp.win u k.toNat ((k + n + 1).toNat - k.toNat)):Int) - g * (↑(valL b):Int))).length) /\
    (k.toNat < q.length) /\
    (0 <= g - 1 /\ g - 1 <= 4294967295) /\
    (-9223372036854775808 <= k - 1 /\ k - 1 <= 9223372036854775807) /\
    ZaJ (Sp.ZaZ (Sp.ZaZ u k.toNat ((k + n + 1).toNat - k.toNat) ((↑(Sp.win u k.toNat ((k + n + 1).toNat - k.toNat)):Int) - g * (↑(valL b):Int))) k.toNat ((k + n + 1).toNat - k.toNat) ((↑(Sp.win (Sp.ZaZ u k.toNat ((k + n + 1).toNat - k.toNat) ((↑(Sp.win u k.toNat ((k + n + 1).toNat - k.toNat)):Int) - g * (↑(valL b):Int))) k.toNat ((k + n + 1).toNat - k.toNat)):Int) + (↑(valL b):Int))) (b) (q.set k.toNat (g - 1)) (fb) (v) (n) (s) (k - 1) (Zae dq)) /\
   (¬((↑(Sp.win u k.toNat ((k + n + 1).toNat - k.toNat)):Int) - g * (↑(valL b):Int) < 0) -> (k.toNat < q.length) /\
    (0 <= g /\ g <= 4294967295) /\
    (-9223372036854775808 <= k - 1 /\ k - 1 <= 9223372036854775807) /\
    ZaJ (Sp.ZaZ u k.toNat ((k + n + 1).toNat - k.toNat) ((↑(Sp.win u k.toNat ((k + n + 1).toNat - k.toNat)):Int) - g * (↑(valL b):Int))) (b) (q.set k.toNat g) (fb) (v) (n) (s) (k - 1) (Zae dq)))) :
 Zcl u b q fb v n s k g r (Zae dq):=by
 unfold Zcl
 obtain ⟨k1,H⟩:=H
 have w2:wi (n - 2) = n - 2:=wI64 k1
 obtain ⟨k3,H⟩:=H
 have w4:wi (k + n) = k + n:=wI64 k3
 obtain ⟨k5,H⟩:=H
 have w6:wi (k + n - 2) = k + n - 2:=wI64 k5
 have i7:(!(decide (g >= 1000000000) == false && true) || decide (0 <= wi (n - 2))) = true ↔ ((¬(g >= 1000000000)) -> (0 <= n - 2)):=(by (try rw [w2]);all_goals exact (ZeM (i_at (i_bf Zaa)) Zaa))
 obtain ⟨k8,H⟩:=H
 have w9:(us b).length = b.length:=List.length_map ..
 have i10:(!(decide (g >= 1000000000) == false && true) || decide ((wi (n - 2)).toNat < (us b).length)) = true ↔ ((¬(g >= 1000000000)) -> ((n - 2).toNat < b.length)):=(by (try rw [w2]);(try rw [w9]);all_goals exact (ZeM (i_at (i_bf Zaa)) Zaa))
 obtain ⟨k11,H⟩:=H
 have i13:(!(decide (g >= 1000000000) == false && true) || decide (0 <= wi (wi (k + n) - 2))) = true ↔ ((¬(g >= 1000000000)) -> (0 <= k + n - 2)):=(by (try rw [w4]);(try rw [w6]);all_goals exact (ZeM (i_at (i_bf Zaa)) Zaa))
 obtain ⟨k14,H⟩:=H
 have w15:(us u).length = u.length:=List.length_map ..
 have i16:(!(decide (g >= 1000000000) == false && true) || decide ((wi (wi (k + n) - 2)).toNat < (us u).length)) = true ↔ ((¬(g >= 1000000000)) -> ((k + n - 2).toNat < u.length)):=(by (try rw [w4]);(try rw [w6]);(try rw [w15]);all_goals exact (ZeM (i_at (i_bf Zaa)) Zaa))
 obtain ⟨k17,H⟩:=H
 refine Zac (G:=Zab ZcQ [(16,8,.elem (vu (b.getD (n - 2).toNat default))),(16,19,.elem (vu (u.getD (k + n - 2).toNat default)))] []) 3 [] ⟨(atC (cd Try.f107) [1,1,1,1,1,1,1,1,1,0,1,0,0,1,0,0,1,1,0,0,0,0,1]),[(6,vi n),(7,vu s),(8,AV.row 0 v),(9,AV.vec fb 1 (us b)),(10,AV.row 1 0),(11,vi k),(13,vw g),(14,vw r),(129,vb (bif decide (g >= 1000000000) then true else decide (zNvF3 g b n r u k)))],[⟨us u,1,v,false,true⟩,⟨us q,1,0,false,true⟩],[!(decide (g >= 1000000000) == false && true) || decide (0 <= wi (n - 2)),!(decide (g >= 1000000000) == false && true) || decide ((wi (n - 2)).toNat < (us b).length),!(decide (g >= 1000000000) == false && true) || v == v,!(decide (g >= 1000000000) == false && true) || decide (0 <= wi (wi (k + n) - 2)),!(decide (g >= 1000000000) == false && true) || decide ((wi (wi (k + n) - 2)).toNat < (us u).length),!(decide (g >= 1000000000) == false && true) || v == v],[((decide (g >= 1000000000) == false && true) = true -> (us b).get?Internal (wi (n - 2)).toNat = some (vu (b.getD (n - 2).toNat default))),((decide (g >= 1000000000) == false && true) = true -> (us u).get?Internal (wi (wi (k + n) - 2)).toNat = some (vu (u.getD (k + n - 2).toNat default)))],_⟩ (by kernel_rfl) (bc (i7.2 k8) (bc (i10.2 k11) (bc ((ZeM (i_at (i_bf Zaa)) i_eq).2 (fun _ => rfl)) (bc (i13.2 k14) (bc (i16.2 k17) (bc ((ZeM (i_at (i_bf Zaa)) i_eq).2 (fun _ => rfl)) b0)))))) (qc (by (try rw [w2]);all_goals exact (fun h => Zap (k11 ((i_at (i_bf Zaa)).1 h)))) (qc (by (try rw [w4]);(try rw [w6]);all_goals exact (fun h => Zap (k17 ((i_at (i_bf Zaa)).1 h)))) q0)) c0 ?_
 rcases xq H with ⟨d22,H⟩|⟨d22,H⟩
 ·obtain ⟨k23,H⟩:=H
  have w24:wu (g - 1) = g - 1:=wU64 k23
  obtain ⟨k25,H⟩:=H
  have w26:wi (n - 1) = n - 1:=wI64 k25
  have i27:(decide (0 <= wi (n - 1))) = true ↔ (0 <= n - 1):=(by (try rw [w26]);all_goals exact Zaa)
  obtain ⟨k28,H⟩:=H
  have i29:(decide ((wi (n - 1)).toNat < (us b).length)) = true ↔ ((n - 1).toNat < b.length):=(by (try rw [w9]);(try rw [w26]);all_goals exact Zaa)
  obtain ⟨k30,k31,H⟩:=H
  have w32:wu (b.getD (n - 1).toNat default) = b.getD (n - 1).toNat default:=wU64 k31
  obtain ⟨k33,H⟩:=H
  have w34:wu (r + b.getD (n - 1).toNat default) = r + b.getD (n - 1).toNat default:=wU64 k33
  have i35:(decide (wu (r + wu (b.getD (n - 1).toNat default)) >= 1000000000)) = true ↔ (r + b.getD (n - 1).toNat default >= 1000000000):=(by (try rw [w32]);(try rw [w34]);all_goals exact Zaa)
  refine Zac (G:=Zab ZcQ [(18,5,.elem (vu (b.getD (n - 1).toNat default)))] []) 9 [true] ⟨(atC (cd Try.f107) [1,1,1,1,1,1,1,1,1,0,1,0,0,1,0,0,1,1,0,0,0,1,0,1,1,1]),[(6,vi n),(7,vu s),(8,AV.row 0 v),(9,AV.vec fb 1 (us b)),(10,AV.row 1 0),(11,vi k),(13,vw (wu (g - 1))),(14,vw (wu (r + wu (b.getD (n - 1).toNat default)))),(141,vb (decide (wu (r + wu (b.getD (n - 1).toNat default)) >= 1000000000)))],[⟨us u,1,v,false,true⟩,⟨us q,1,0,false,true⟩],_,[((us b).get?Internal (wi (n - 1)).toNat = some (vu (b.getD (n - 1).toNat default)))],_⟩ (by kernel_rfl) (bc (Zak ((ZaX Zaa Zaa).2 d22)) (bc (i27.2 k28) (bc (i29.2 k30) b0))) (qc (by (try rw [w26]);all_goals exact (Zap k30)) q0) c0 ?_
  rcases xq H with ⟨d36,H⟩|⟨d36,H⟩
  ·obtain ⟨k37,H⟩:=H
   have w38:wi (k + n + 1) = k + n + 1:=wI64 k37
   obtain ⟨k39,k41,H⟩:=H
   have i42:(decide (0 <= wi (wi (k + n) + 1))) = true ↔ (0 <= k + n + 1):=(by (try rw [w4]);(try rw [w38]);all_goals exact Zaa)
   obtain ⟨k43,H⟩:=H
   have i44:(decide (k.toNat <= (wi (wi (k + n) + 1)).toNat)) = true ↔ (k.toNat <= (k + n + 1).toNat):=(by (try rw [w4]);(try rw [w38]);all_goals exact Zaa)
   obtain ⟨k45,H⟩:=H
   have i46:(decide ((wi (wi (k + n) + 1)).toNat <= (us u).length)) = true ↔ ((k + n + 1).toNat <= u.length):=(by (try rw [w4]);(try rw [w15]);(try rw [w38]);all_goals exact Zaa)
   obtain ⟨k47,H⟩:=H
   refine Zac (G:=Zab ZcQ [(20,9,.call (vb (decide ((↑(Sp.win u k.toNat ((k + n + 1).toNat - k.toNat)):Int) - (g - 1) * (↑(valL b):Int) < 0))) (some [⟨us (Sp.ZaZ u k.toNat ((k + n + 1).toNat - k.toNat) ((↑(Sp.win u k.toNat ((k + n + 1).toNat - k.toNat)):Int) - (g - 1) * (↑(valL b):Int))),1,v,false,true⟩]))] []) 5 [true] ⟨(atC (cd Try.f107) [1,1,1,1,1,1,1,1,1,0,1,0,0,1,0,0,1,1,1,0,1]),[(6,vi n),(7,vu s),(8,AV.row 0 v),(9,AV.vec fb 1 (us b)),(10,AV.row 1 0),(11,vi k),(13,vw (wu (g - 1))),(151,vb (decide ((↑(Sp.win u k.toNat ((k + n + 1).toNat - k.toNat)):Int) - (g - 1) * (↑(valL b):Int) < 0)))],[⟨us (Sp.ZaZ u k.toNat ((k + n + 1).toNat - k.toNat) ((↑(Sp.win u k.toNat ((k + n + 1).toNat - k.toNat)):Int) - (g - 1) * (↑(valL b):Int))),1,v,false,true⟩,⟨us q,1,0,false,true⟩],[(decide (wu (r + wu (b.getD (n - 1).toNat default)) >= 1000000000)) == true,v == v,decide (0 <= k),decide (0 <= wi (wi (k + n) + 1)),decide (k.toNat <= (wi (wi (k + n) + 1)).toNat),decide ((wi (wi (k + n) + 1)).toNat <= (us u).length)],[],[⟨true,true,119,[AV.ref 0 v k.toNat ((wi (wi (k + n) + 1)).toNat - k.toNat),AV.vec fb 1 (us b),vw (wu (g - 1))],[⟨us u,1,v,false,true⟩],vb (decide ((↑(Sp.win u k.toNat ((k + n + 1).toNat - k.toNat)):Int) - (g - 1) * (↑(valL b):Int) < 0)),[⟨us (Sp.ZaZ u k.toNat ((k + n + 1).toNat - k.toNat) ((↑(Sp.win u k.toNat ((k + n + 1).toNat - k.toNat)):Int) - (g - 1) * (↑(valL b):Int))),1,v,false,true⟩]⟩]⟩ (by kernel_rfl) (bc (Zak (i35.2 d36)) (bc (beq_self_eq_true _) (bc (Zaa.2 k41) (bc (i42.2 k43) (bc (i44.2 k45) (bc (i46.2 k47) b0)))))) q0 (cc (fun _ => (by (try rw [w4]);(try rw [w24]);(try rw [w38]);all_goals exact (@evo119 (u) (b) (fb) (v) (k.toNat) ((k + n + 1).toNat - k.toNat) (g - 1) k39))) c0) ?_
   rcases xq H with ⟨d49,H⟩|⟨d49,H⟩
   ·obtain ⟨k50,H⟩:=H
    have w51:wu (g - 1 - 1) = g - 1 - 1:=wU64 k50
    obtain ⟨k52,H⟩:=H
    have i54:(decide (0 <= wi (wi (k + n) + 1))) = true ↔ (0 <= k + n + 1):=(by (try rw [w4]);(try rw [w38]);all_goals exact Zaa)
    have i55:(decide (k.toNat <= (wi (wi (k + n) + 1)).toNat)) = true ↔ (k.toNat <= (k + n + 1).toNat):=(by (try rw [w4]);(try rw [w38]);all_goals exact Zaa)
    have w56:(us (Sp.ZaZ u k.toNat ((k + n + 1).toNat - k.toNat) ((↑(Sp.win u k.toNat ((k + n + 1).toNat - k.toNat)):Int) - (g - 1) * (↑(valL b):Int)))).length = (Sp.ZaZ u k.toNat ((k + n + 1).toNat - k.toNat) ((↑(Sp.win u k.toNat ((k + n + 1).toNat - k.toNat)):Int) - (g - 1) * (↑(valL b):Int))).length:=List.length_map ..
    have i57:(decide ((wi (wi (k + n) + 1)).toNat <= (us (Sp.ZaZ u k.toNat ((k + n + 1).toNat - k.toNat) ((↑(Sp.win u k.toNat ((k + n + 1).toNat - k.toNat)):Int) - (g - 1) * (↑(valL b):Int)))).length)) = true ↔ ((k + n + 1).toNat <= (Sp.ZaZ u k.toNat ((k + n + 1).toNat - k.toNat) ((↑(Sp.win u k.toNat ((k + n + 1).toNat - k.toNat)):Int) - (g - 1) * (↑(valL b):Int))).length):=(by (try rw [w4]);(try rw [w38]);(try rw [w56]);all_goals exact Zaa)
    obtain ⟨k58,H⟩:=H
    have w60:(us q).length = q.length:=List.length_map ..
    have i61:(decide (k.toNat < (us q).length)) = true ↔ (k.toNat < q.length):=(by (try rw [w60]);all_goals exact Zaa)
    obtain ⟨k62,k63,H⟩:=H
    have w64:wv (g - 1 - 1) = g - 1 - 1:=wU32 k63
    have w65:(us q).set k.toNat (vu (g - 1 - 1)) = us (q.set k.toNat (g - 1 - 1)):=(ZaY rfl rfl)
    obtain ⟨k66,H⟩:=H
    have w67:wi (k - 1) = k - 1:=wI64 k66
    exact Zac (G:=Zab ZcQ [(22,8,.call (tu []) (some [⟨us (Sp.ZaZ (Sp.ZaZ u k.toNat ((k + n + 1).toNat - k.toNat) ((↑(Sp.win u k.toNat ((k + n + 1).toNat - k.toNat)):Int) - (g - 1) * (↑(valL b):Int))) k.toNat ((k + n + 1).toNat - k.toNat) ((↑(Sp.win (Sp.ZaZ u k.toNat ((k + n + 1).toNat - k.toNat) ((↑(Sp.win u k.toNat ((k + n + 1).toNat - k.toNat)):Int) - (g - 1) * (↑(valL b):Int))) k.toNat ((k + n + 1).toNat - k.toNat)):Int) + (↑(valL b):Int))),1,v,false,true⟩])),(23,5,.elem (vu (q.getD k.toNat default)))] []) 1000 [true] ⟨(atC (cd Try.f107) [1,1,1,1,1,1,1,1,1,0,1,0,0]),[(6,vi n),(7,vu s),(8,AV.row 0 v),(9,AV.vec fb 1 (us b)),(10,AV.row 1 0),(11,vi (wi (k - 1)))],[⟨us (Sp.ZaZ (Sp.ZaZ u k.toNat ((k + n + 1).toNat - k.toNat) ((↑(Sp.win u k.toNat ((k + n + 1).toNat - k.toNat)):Int) - (g - 1) * (↑(valL b):Int))) k.toNat ((k + n + 1).toNat - k.toNat) ((↑(Sp.win (Sp.ZaZ u k.toNat ((k + n + 1).toNat - k.toNat) ((↑(Sp.win u k.toNat ((k + n + 1).toNat - k.toNat)):Int) - (g - 1) * (↑(valL b):Int))) k.toNat ((k + n + 1).toNat - k.toNat)):Int) + (↑(valL b):Int))),1,v,false,true⟩,⟨(us q).set k.toNat (vu (wv (wu (wu (g - 1) - 1)))),1,0,false,true⟩],[(decide ((↑(Sp.win u k.toNat ((k + n + 1).toNat - k.toNat)):Int) - (g - 1) * (↑(valL b):Int) < 0)) == true,v == v,decide (0 <= k),decide (0 <= wi (wi (k + n) + 1)),decide (k.toNat <= (wi (wi (k + n) + 1)).toNat),decide ((wi (wi (k + n) + 1)).toNat <= (us (Sp.ZaZ u k.toNat ((k + n + 1).toNat - k.toNat) ((↑(Sp.win u k.toNat ((k + n + 1).toNat - k.toNat)):Int) - (g - 1) * (↑(valL b):Int)))).length),true,decide (0 <= k),decide (k.toNat < (us q).length),true],[((us q).get?Internal k.toNat = some (vu (q.getD k.toNat default)))],[⟨true,true,120,[AV.ref 0 v k.toNat ((wi (wi (k + n) + 1)).toNat - k.toNat),AV.vec fb 1 (us b)],[⟨us (Sp.ZaZ u k.toNat ((k + n + 1).toNat - k.toNat) ((↑(Sp.win u k.toNat ((k + n + 1).toNat - k.toNat)):Int) - (g - 1) * (↑(valL b):Int))),1,v,false,true⟩],tu [],[⟨us (Sp.ZaZ (Sp.ZaZ u k.toNat ((k + n + 1).toNat - k.toNat) ((↑(Sp.win u k.toNat ((k + n + 1).toNat - k.toNat)):Int) - (g - 1) * (↑(valL b):Int))) k.toNat ((k + n + 1).toNat - k.toNat) ((↑(Sp.win (Sp.ZaZ u k.toNat ((k + n + 1).toNat - k.toNat) ((↑(Sp.win u k.toNat ((k + n + 1).toNat - k.toNat)):Int) - (g - 1) * (↑(valL b):Int))) k.toNat ((k + n + 1).toNat - k.toNat)):Int) + (↑(valL b):Int))),1,v,false,true⟩]⟩]⟩ (by kernel_rfl) (bc (Zak (Zaa.2 d49)) (bc (beq_self_eq_true _) (bc (Zaa.2 k41) (bc (i54.2 k43) (bc (i55.2 k45) (bc (i57.2 k58) (bc rfl (bc (Zaa.2 k41) (bc (i61.2 k62) (bc rfl b0)))))))))) (qc (Zap k62) q0) (cc (fun _ => (by (try rw [w4]);(try rw [w38]);all_goals exact (@evo120 (Sp.ZaZ u k.toNat ((k + n + 1).toNat - k.toNat) ((↑(Sp.win u k.toNat ((k + n + 1).toNat - k.toNat)):Int) - (g - 1) * (↑(valL b):Int))) (b) (fb) (v) (k.toNat) ((k + n + 1).toNat - k.toNat) k52))) c0) (by (try rw [w24]);(try rw [w51]);(try rw [w64]);(try rw [w65]);(try rw [w67]);all_goals exact H)
   ·have w69:(us q).length = q.length:=List.length_map ..
    have i70:(decide (k.toNat < (us q).length)) = true ↔ (k.toNat < q.length):=(by (try rw [w69]);all_goals exact Zaa)
    obtain ⟨k71,k72,H⟩:=H
    have w73:wv (g - 1) = g - 1:=wU32 k72
    have w74:(us q).set k.toNat (vu (g - 1)) = us (q.set k.toNat (g - 1)):=(ZaY rfl rfl)
    obtain ⟨k75,H⟩:=H
    have w76:wi (k - 1) = k - 1:=wI64 k75
    exact Zac (G:=Zab ZcQ [(23,5,.elem (vu (q.getD k.toNat default)))] []) 1000 [false] ⟨(atC (cd Try.f107) [1,1,1,1,1,1,1,1,1,0,1,0,0]),[(6,vi n),(7,vu s),(8,AV.row 0 v),(9,AV.vec fb 1 (us b)),(10,AV.row 1 0),(11,vi (wi (k - 1)))],[⟨us (Sp.ZaZ u k.toNat ((k + n + 1).toNat - k.toNat) ((↑(Sp.win u k.toNat ((k + n + 1).toNat - k.toNat)):Int) - (g - 1) * (↑(valL b):Int))),1,v,false,true⟩,⟨(us q).set k.toNat (vu (wv (wu (g - 1)))),1,0,false,true⟩],_,[((us q).get?Internal k.toNat = some (vu (q.getD k.toNat default)))],_⟩ (by kernel_rfl) (bc (Zaj (fun h => d49 (Zaa.1 h))) (bc rfl (bc (Zaa.2 k41) (bc (i70.2 k71) (bc rfl b0))))) (qc (Zap k71) q0) c0 (by (try rw [w24]);(try rw [w73]);(try rw [w74]);(try rw [w76]);all_goals exact H)
  ·exact Zac (G:=Zab ZcQ [] []) 1000 [false] ⟨(atC (cd Try.f107) [1,1,1,1,1,1,1,1,1,0,1,0,0,1,0,0,1,1,0,0,0]),[(6,vi n),(7,vu s),(8,AV.row 0 v),(9,AV.vec fb 1 (us b)),(10,AV.row 1 0),(11,vi k),(13,vw (wu (g - 1))),(14,vw (wu (r + wu (b.getD (n - 1).toNat default)))),(141,vb (decide (wu (r + wu (b.getD (n - 1).toNat default)) >= 1000000000)))],[⟨us u,1,v,false,true⟩,⟨us q,1,0,false,true⟩],_,[],_⟩ (by kernel_rfl) (bc (Zaj (fun h => d36 (i35.1 h))) b0) q0 c0 (by (try rw [w24]);(try rw [w32]);(try rw [w34]);all_goals exact Wp.less [6,7,8,9,10,11,13,14] (H))
 ·obtain ⟨k77,H⟩:=H
  have w78:wi (k + n + 1) = k + n + 1:=wI64 k77
  obtain ⟨k79,k81,H⟩:=H
  have i82:(decide (0 <= wi (wi (k + n) + 1))) = true ↔ (0 <= k + n + 1):=(by (try rw [w4]);(try rw [w78]);all_goals exact Zaa)
  obtain ⟨k83,H⟩:=H
  have i84:(decide (k.toNat <= (wi (wi (k + n) + 1)).toNat)) = true ↔ (k.toNat <= (k + n + 1).toNat):=(by (try rw [w4]);(try rw [w78]);all_goals exact Zaa)
  obtain ⟨k85,H⟩:=H
  have i86:(decide ((wi (wi (k + n) + 1)).toNat <= (us u).length)) = true ↔ ((k + n + 1).toNat <= u.length):=(by (try rw [w4]);(try rw [w15]);(try rw [w78]);all_goals exact Zaa)
  obtain ⟨k87,H⟩:=H
  refine Zac (G:=Zab ZcQ [(20,9,.call (vb (decide ((↑(Sp.win u k.toNat ((k + n + 1).toNat - k.toNat)):Int) - g * (↑(valL b):Int) < 0))) (some [⟨us (Sp.ZaZ u k.toNat ((k + n + 1).toNat - k.toNat) ((↑(Sp.win u k.toNat ((k + n + 1).toNat - k.toNat)):Int) - g * (↑(valL b):Int))),1,v,false,true⟩]))] []) 5 [false] ⟨(atC (cd Try.f107) [1,1,1,1,1,1,1,1,1,0,1,0,0,1,0,0,1,1,1,0,1]),[(6,vi n),(7,vu s),(8,AV.row 0 v),(9,AV.vec fb 1 (us b)),(10,AV.row 1 0),(11,vi k),(13,vw g),(151,vb (decide ((↑(Sp.win u k.toNat ((k + n + 1).toNat - k.toNat)):Int) - g * (↑(valL b):Int) < 0)))],[⟨us (Sp.ZaZ u k.toNat ((k + n + 1).toNat - k.toNat) ((↑(Sp.win u k.toNat ((k + n + 1).toNat - k.toNat)):Int) - g * (↑(valL b):Int))),1,v,false,true⟩,⟨us q,1,0,false,true⟩],[(bif decide (g >= 1000000000) then true else decide (zNvF3 g b n r u k)) == false,v == v,decide (0 <= k),decide (0 <= wi (wi (k + n) + 1)),decide (k.toNat <= (wi (wi (k + n) + 1)).toNat),decide ((wi (wi (k + n) + 1)).toNat <= (us u).length)],[],[⟨true,true,119,[AV.ref 0 v k.toNat ((wi (wi (k + n) + 1)).toNat - k.toNat),AV.vec fb 1 (us b),vw g],[⟨us u,1,v,false,true⟩],vb (decide ((↑(Sp.win u k.toNat ((k + n + 1).toNat - k.toNat)):Int) - g * (↑(valL b):Int) < 0)),[⟨us (Sp.ZaZ u k.toNat ((k + n + 1).toNat - k.toNat) ((↑(Sp.win u k.toNat ((k + n + 1).toNat - k.toNat)):Int) - g * (↑(valL b):Int))),1,v,false,true⟩]⟩]⟩ (by kernel_rfl) (bc (Zaj (fun h => d22 ((ZaX Zaa Zaa).1 h))) (bc (beq_self_eq_true _) (bc (Zaa.2 k81) (bc (i82.2 k83) (bc (i84.2 k85) (bc (i86.2 k87) b0)))))) q0 (cc (fun _ => (by (try rw [w4]);(try rw [w78]);all_goals exact (@evo119 (u) (b) (fb) (v) (k.toNat) ((k + n + 1).toNat - k.toNat) (g) k79))) c0) ?_
  rcases xq H with ⟨d89,H⟩|⟨d89,H⟩
  ·obtain ⟨k90,H⟩:=H
   have w91:wu (g - 1) = g - 1:=wU64 k90
   obtain ⟨k92,H⟩:=H
   have i94:(decide (0 <= wi (wi (k + n) + 1))) = true ↔ (0 <= k + n + 1):=(by (try rw [w4]);(try rw [w78]);all_goals exact Zaa)
   have i95:(decide (k.toNat <= (wi (wi (k + n) + 1)).toNat)) = true ↔ (k.toNat <= (k + n + 1).toNat):=(by (try rw [w4]);(try rw [w78]);all_goals exact Zaa)
   have w96:(us (Sp.ZaZ u k.toNat ((k + n + 1).toNat - k.toNat) ((↑(Sp.win u k.toNat ((k + n + 1).toNat - k.toNat)):Int) - g * (↑(valL b):Int)))).length = (Sp.ZaZ u k.toNat ((k + n + 1).toNat - k.toNat) ((↑(Sp.win u k.toNat ((k + n + 1).toNat - k.toNat)):Int) - g * (↑(valL b):Int))).length:=List.length_map ..
   have i97:(decide ((wi (wi (k + n) + 1)).toNat <= (us (Sp.ZaZ u k.toNat ((k + n + 1).toNat - k.toNat) ((↑(Sp.win u k.toNat ((k + n + 1).toNat - k.toNat)):Int) - g * (↑(valL b):Int)))).length)) = true ↔ ((k + n + 1).toNat <= (Sp.ZaZ u k.toNat ((k + n + 1).toNat - k.toNat) ((↑(Sp.win u k.toNat ((k + n + 1).toNat - k.toNat)):Int) - g * (↑(valL b):Int))).length):=(by (try rw [w4]);(try rw [w78]);(try rw [w96]);all_goals exact Zaa)
   obtain ⟨k98,H⟩:=H
   have w100:(us q).length = q.length:=List.length_map ..
   have i101:(decide (k.toNat < (us q).length)) = true ↔ (k.toNat < q.length):=(by (try rw [w100]);all_goals exact Zaa)
   obtain ⟨k102,k103,H⟩:=H
   have w104:wv (g - 1) = g - 1:=wU32 k103
   have w105:(us q).set k.toNat (vu (g - 1)) = us (q.set k.toNat (g - 1)):=(ZaY rfl rfl)
   obtain ⟨k106,H⟩:=H
   have w107:wi (k - 1) = k - 1:=wI64 k106
   exact Zac (G:=Zab ZcQ [(22,8,.call (tu []) (some [⟨us (Sp.ZaZ (Sp.ZaZ u k.toNat ((k + n + 1).toNat - k.toNat) ((↑(Sp.win u k.toNat ((k + n + 1).toNat - k.toNat)):Int) - g * (↑(valL b):Int))) k.toNat ((k + n + 1).toNat - k.toNat) ((↑(Sp.win (Sp.ZaZ u k.toNat ((k + n + 1).toNat - k.toNat) ((↑(Sp.win u k.toNat ((k + n + 1).toNat - k.toNat)):Int) - g * (↑(valL b):Int))) k.toNat ((k + n + 1).toNat - k.toNat)):Int) + (↑(valL b):Int))),1,v,false,true⟩])),(23,5,.elem (vu (q.getD k.toNat default)))] []) 1000 [true] ⟨(atC (cd Try.f107) [1,1,1,1,1,1,1,1,1,0,1,0,0]),[(6,vi n),(7,vu s),(8,AV.row 0 v),(9,AV.vec fb 1 (us b)),(10,AV.row 1 0),(11,vi (wi (k - 1)))],[⟨us (Sp.ZaZ (Sp.ZaZ u k.toNat ((k + n + 1).toNat - k.toNat) ((↑(Sp.win u k.toNat ((k + n + 1).toNat - k.toNat)):Int) - g * (↑(valL b):Int))) k.toNat ((k + n + 1).toNat - k.toNat) ((↑(Sp.win (Sp.ZaZ u k.toNat ((k + n + 1).toNat - k.toNat) ((↑(Sp.win u k.toNat ((k + n + 1).toNat - k.toNat)):Int) - g * (↑(valL b):Int))) k.toNat ((k + n + 1).toNat - k.toNat)):Int) + (↑(valL b):Int))),1,v,false,true⟩,⟨(us q).set k.toNat (vu (wv (wu (g - 1)))),1,0,false,true⟩],[(decide ((↑(Sp.win u k.toNat ((k + n + 1).toNat - k.toNat)):Int) - g * (↑(valL b):Int) < 0)) == true,v == v,decide (0 <= k),decide (0 <= wi (wi (k + n) + 1)),decide (k.toNat <= (wi (wi (k + n) + 1)).toNat),decide ((wi (wi (k + n) + 1)).toNat <= (us (Sp.ZaZ u k.toNat ((k + n + 1).toNat - k.toNat) ((↑(Sp.win u k.toNat ((k + n + 1).toNat - k.toNat)):Int) - g * (↑(valL b):Int)))).length),true,decide (0 <= k),decide (k.toNat < (us q).length),true],[((us q).get?Internal k.toNat = some (vu (q.getD k.toNat default)))],[⟨true,true,120,[AV.ref 0 v k.toNat ((wi (wi (k + n) + 1)).toNat - k.toNat),AV.vec fb 1 (us b)],[⟨us (Sp.ZaZ u k.toNat ((k + n + 1).toNat - k.toNat) ((↑(Sp.win u k.toNat ((k + n + 1).toNat - k.toNat)):Int) - g * (↑(valL b):Int))),1,v,false,true⟩],tu [],[⟨us (Sp.ZaZ (Sp.ZaZ u k.toNat ((k + n + 1).toNat - k.toNat) ((↑(Sp.win u k.toNat ((k + n + 1).toNat - k.toNat)):Int) - g * (↑(valL b):Int))) k.toNat ((k + n + 1).toNat - k.toNat) ((↑(Sp.win (Sp.ZaZ u k.toNat ((k + n + 1).toNat - k.toNat) ((↑(Sp.win u k.toNat ((k + n + 1).toNat - k.toNat)):Int) - g * (↑(valL b):Int))) k.toNat ((k + n + 1).toNat - k.toNat)):Int) + (↑(valL b):Int))),1,v,false,true⟩]⟩]⟩ (by kernel_rfl) (bc (Zak (Zaa.2 d89)) (bc (beq_self_eq_true _) (bc (Zaa.2 k81) (bc (i94.2 k83) (bc (i95.2 k85) (bc (i97.2 k98) (bc rfl (bc (Zaa.2 k81) (bc (i101.2 k102) (bc rfl b0)))))))))) (qc (Zap k102) q0) (cc (fun _ => (by (try rw [w4]);(try rw [w78]);all_goals exact (@evo120 (Sp.ZaZ u k.toNat ((k + n + 1).toNat - k.toNat) ((↑(Sp.win u k.toNat ((k + n + 1).toNat - k.toNat)):Int) - g * (↑(valL b):Int))) (b) (fb) (v) (k.toNat) ((k + n + 1).toNat - k.toNat) k92))) c0) (by (try rw [w91]);(try rw [w104]);(try rw [w105]);(try rw [w107]);all_goals exact H)
  ·have w109:(us q).length = q.length:=List.length_map ..
   have i110:(decide (k.toNat < (us q).length)) = true ↔ (k.toNat < q.length):=(by (try rw [w109]);all_goals exact Zaa)
   obtain ⟨k111,k112,H⟩:=H
   have w113:wv g = g:=wU32 k112
   have w114:(us q).set k.toNat (vu g) = us (q.set k.toNat g):=(ZaY rfl rfl)
   obtain ⟨k115,H⟩:=H
   have w116:wi (k - 1) = k - 1:=wI64 k115
   exact Zac (G:=Zab ZcQ [(23,5,.elem (vu (q.getD k.toNat default)))] []) 1000 [false] ⟨(atC (cd Try.f107) [1,1,1,1,1,1,1,1,1,0,1,0,0]),[(6,vi n),(7,vu s),(8,AV.row 0 v),(9,AV.vec fb 1 (us b)),(10,AV.row 1 0),(11,vi (wi (k - 1)))],[⟨us (Sp.ZaZ u k.toNat ((k + n + 1).toNat - k.toNat) ((↑(Sp.win u k.toNat ((k + n + 1).toNat - k.toNat)):Int) - g * (↑(valL b):Int))),1,v,false,true⟩,⟨(us q).set k.toNat (vu (wv g)),1,0,false,true⟩],_,[((us q).get?Internal k.toNat = some (vu (q.getD k.toNat default)))],_⟩ (by kernel_rfl) (bc (Zaj (fun h => d89 (Zaa.1 h))) (bc rfl (bc (Zaa.2 k81) (bc (i110.2 k111) (bc rfl b0))))) (qc (Zap k111) q0) c0 (by (try rw [w113]);(try rw [w114]);(try rw [w116]);all_goals exact H)
end Go.Av

namespace Go.Av
open Go.Proofs
theorem Zdu:∀ (a b x:Nat),Sp.Zaq (a + b) x = Sp.Zaq a x ++ Sp.Zaq b (x / 1000000000 ^ a)
 | 0,b,x => by simp [Sp.Zaq]
 | a + 1,b,x => by
  rw [show a + 1 + b = (a + b) + 1 by omega,Zaw,Zaw,Zdu a b,List.cons_append,Nat.div_div_eq_div_mul,Nat.pow_succ,Nat.mul_comm (1000000000 ^ a)]
theorem limN_mod:∀ (a x:Nat),Sp.Zaq a (x % 1000000000 ^ a) = Sp.Zaq a x
 | 0,x => rfl
 | a + 1,x => by
  rw [Zaw,Zaw]
  have e1:x % 1000000000 ^ (a + 1) % 1000000000 = x % 1000000000:=Nat.mod_mod_of_dvd _ ⟨1000000000 ^ a,by rw [Nat.pow_succ,Nat.mul_comm]⟩
  have e2:x % 1000000000 ^ (a + 1) / 1000000000 = x / 1000000000 % 1000000000 ^ a:=by rw [Nat.pow_succ,Nat.mul_comm,Nat.mod_mul_right_div_self]
  rw [e1,e2,limN_mod a]
theorem limN_low (a x y:Nat):Sp.Zaq a (x % 1000000000 ^ a + 1000000000 ^ a * y) = Sp.Zaq a x:=by
 rw [<- limN_mod a (x % 1000000000 ^ a + 1000000000 ^ a * y),Nat.add_mul_mod_self_left,Nat.mod_mod,limN_mod]
theorem limN_more' (n m v:Nat) (h:Sp.fits n v) (hm:n <= m):Sp.Zaq m v = Sp.Zaq n v ++ Sp.zs (m - n):=by
 obtain ⟨d,rfl⟩:=Nat.exists_eq_add_of_le hm
 rw [Zd3 n d v h,Nat.add_sub_cancel_left]
theorem rowZ_lim {L U lo len:Nat} {Z:Nat} (hl:lo + len <= L) (hU:Sp.fits (lo + len) U) (hZ:Sp.fits len Z):Sp.ZaZ (Sp.Zaq L U) lo len (Z:Int) = Sp.Zaq L (U % 1000000000 ^ lo + 1000000000 ^ lo * Z):=by
 have e:L = lo + (len + (L - lo - len)):=by omega
 unfold Sp.ZaZ
 rw [ZeY,Zd4 _ _ _ hl,ZaA hU (Nat.le_refl _),ZfC]
 conv => rhs;rw [e]
 rw [Zdu,limN_low]
 have e2:(U % 1000000000 ^ lo + 1000000000 ^ lo * Z) / 1000000000 ^ lo = Z:=by
  rw [Nat.add_mul_div_left _ _ (Nat.pow_pos (by omega)),Nat.div_eq_of_lt (Nat.mod_lt _ (Nat.pow_pos (by omega))),Nat.zero_add]
 rw [e2,Zd3 len _ Z hZ]
 have e3:(Sp.Zaq L U).take lo = Sp.Zaq lo U:=by
  conv => lhs;rw [e,Zdu]
  rw [List.take_append_of_le_length (by rw [Zah];omega),List.take_of_length_le (by rw [Zah];omega)]
 rw [e3,show L - (lo + len) = L - lo - len by omega];rfl
theorem win_lim {L U lo len:Nat} (hl:lo + len <= L) (hU:Sp.fits (lo + len) U):Sp.win (Sp.Zaq L U) lo len = U / 1000000000 ^ lo:=by
 have hf:Sp.fits len (U / 1000000000 ^ lo):=by
  rw [ZcG,Nat.div_div_eq_div_mul,<- Nat.pow_add]
  exact ZaA hU (Nat.le_refl _)
 unfold Sp.win
 rw [Zd4 _ _ _ (by omega),limN_more' len (L - lo) _ hf (by omega),List.take_append_of_le_length (by rw [Zah];omega),List.take_of_length_le (by rw [Zah];omega),val_limN _ _ hf]
theorem limN_okL (n v:Nat):Sp.okL (Sp.Zaq n v):=limN_ok n v
def AfterG (u b q:List Int) (fb:Bool) (v:Nat) (n s k g:Int) (dq:AV):Prop:=
 (-9223372036854775808 <= k + n + 1 /\ k + n + 1 <= 9223372036854775807) /\
 (Sp.okL u /\ Sp.okL b /\ k.toNat + ((k + n + 1).toNat - k.toNat) <= u.length /\ (k + n + 1).toNat - k.toNat = b.length + 1 /\ u.length <= 1000000 /\ 0 <= g /\ g < 1000000000) /\
 (0 <= k) /\ (0 <= k + n + 1) /\ (k.toNat <= (k + n + 1).toNat) /\ ((k + n + 1).toNat <= u.length) /\
 (((Sp.win u k.toNat ((k + n + 1).toNat - k.toNat):Int) - g * (valL b:Nat) < 0) -> (0 <= g - 1 /\ g - 1 <= 18446744073709551615) /\
  (Sp.okL (Sp.ZaZ u k.toNat ((k + n + 1).toNat - k.toNat) ((Sp.win u k.toNat ((k + n + 1).toNat - k.toNat):Int) - g * (valL b:Nat))) /\ Sp.okL b /\ k.toNat + ((k + n + 1).toNat - k.toNat) <= (Sp.ZaZ u k.toNat ((k + n + 1).toNat - k.toNat) ((Sp.win u k.toNat ((k + n + 1).toNat - k.toNat):Int) - g * (valL b:Nat))).length /\ (k + n + 1).toNat - k.toNat = b.length + 1 /\ (Sp.ZaZ u k.toNat ((k + n + 1).toNat - k.toNat) ((Sp.win u k.toNat ((k + n + 1).toNat - k.toNat):Int) - g * (valL b:Nat))).length <= 1000000) /\
  ((k + n + 1).toNat <= (Sp.ZaZ u k.toNat ((k + n + 1).toNat - k.toNat) ((Sp.win u k.toNat ((k + n + 1).toNat - k.toNat):Int) - g * (valL b:Nat))).length) /\
  (k.toNat < q.length) /\ (0 <= g - 1 /\ g - 1 <= 4294967295) /\ (-9223372036854775808 <= k - 1 /\ k - 1 <= 9223372036854775807) /\
  ZaJ (Sp.ZaZ (Sp.ZaZ u k.toNat ((k + n + 1).toNat - k.toNat) ((Sp.win u k.toNat ((k + n + 1).toNat - k.toNat):Int) - g * (valL b:Nat))) k.toNat ((k + n + 1).toNat - k.toNat) ((Sp.win (Sp.ZaZ u k.toNat ((k + n + 1).toNat - k.toNat) ((Sp.win u k.toNat ((k + n + 1).toNat - k.toNat):Int) - g * (valL b:Nat))) k.toNat ((k + n + 1).toNat - k.toNat):Int) + (valL b:Nat))) b (q.set k.toNat (g - 1)) fb v n s (k - 1) (Zae dq)) /\
 (¬((Sp.win u k.toNat ((k + n + 1).toNat - k.toNat):Int) - g * (valL b:Nat) < 0) -> (k.toNat < q.length) /\ (0 <= g /\ g <= 4294967295) /\ (-9223372036854775808 <= k - 1 /\ k - 1 <= 9223372036854775807) /\
  ZaJ (Sp.ZaZ u k.toNat ((k + n + 1).toNat - k.toNat) ((Sp.win u k.toNat ((k + n + 1).toNat - k.toNat):Int) - g * (valL b:Nat))) b (q.set k.toNat g) fb v n s (k - 1) (Zae dq))
theorem afterG {q:List Int} {fb:Bool} {v n k L U V g:Nat} {s:Int} {dq:AV} (hL:L <= 1000000) (hkn:k + n + 1 <= L) (hq:q.length <= 1000000 /\ k < q.length) (hV0:0 < V) (hV:Sp.fits n V) (hU:Sp.fits (k + (n + 1)) U) (hg:g < 1000000000) (h1:U / 1000000000 ^ k / V <= g) (h2:g <= U / 1000000000 ^ k / V + 1)
  (cont:ZaJ (Sp.Zaq L (U % 1000000000 ^ k + 1000000000 ^ k * (U / 1000000000 ^ k % V))) (Sp.Zaq n V) (q.set k ((U / 1000000000 ^ k / V:Nat):Int)) fb v n s ((k:Int) - 1) (Zae dq)) :
  AfterG (Sp.Zaq L U) (Sp.Zaq n V) q fb v n s k g dq:=by
 unfold AfterG
 have e1:((k:Int) + n + 1).toNat - (k:Int).toNat = n + 1:=by omega
 rw [e1,Int.toNat_natCast,win_lim (by omega) hU,val_limN n V hV]
 have hok:=limN_okL L U
 have hlen:=Zah L U
 have hdm:=Nat.div_add_mod (U / 1000000000 ^ k) V
 have hml:=Nat.mod_lt (U / 1000000000 ^ k) hV0
 have hfm:Sp.fits (n + 1) (U / 1000000000 ^ k % V):=ZaS (Zcn hV (Nat.le_of_lt hml)) (by omega)
 have hrow:=rowZ_lim (L:=L) (U:=U) (lo:=k) (len:=n + 1) (by omega) hU hfm
 have hgV:(g:Int) * (V:Int) = ((g * V:Nat):Int):=(Int.natCast_mul _ _).symm
 rw [hgV]
 generalize hW:U / 1000000000 ^ k = W at hdm hml h1 h2 hrow cont
 have hq1:W / V * V + W % V = W:=by rw [Nat.mul_comm];exact hdm
 generalize W / V = q0 at hq1 h1 h2 cont
 generalize W % V = r0 at hq1 hml hrow cont
 refine ⟨by omega,⟨hok,limN_okL n V,by omega,by rw [Zah],by omega,by omega,by omega⟩,by omega,by omega,by omega,by omega,fun hneg => ?_,fun hneg => ?_⟩
 ·have hg1:g = q0 + 1:=by
   rcases Nat.lt_or_ge q0 g with k1 | k1
   ·omega
   ·have:g = q0:=by omega
    subst this
    omega
  have hgw:g * V = q0 * V + V:=by rw [hg1,Nat.succ_mul]
  have ez:(W:Int) - ((g * V:Nat):Int) + (V:Int) = (r0:Int):=by omega
  have eg:(g:Int) - 1 = (q0:Int):=by omega
  rw [rowZ_again (by omega) hok,ez,hrow,eg]
  refine ⟨by omega,⟨rowZ_ok hok,limN_okL n V,by rw [ZeS (by omega)];omega,by rw [Zah],by rw [ZeS (by omega)];omega⟩,by rw [ZeS (by omega)];omega,by omega,by omega,by omega,cont⟩
 ·have hg1:g = q0:=by
   rcases Nat.lt_or_ge q0 g with k1 | k1
   ·exfalso
    have:g = q0 + 1:=by omega
    have hgw:g * V = q0 * V + V:=by rw [this,Nat.succ_mul]
    omega
   ·omega
  subst hg1
  have ez:(W:Int) - ((g * V:Nat):Int) = (r0:Int):=by omega
  rw [ez,hrow]
  exact ⟨by omega,by omega,by omega,cont⟩
theorem loopG {q:List Int} {fb:Bool} {v n k L U V:Nat} {s:Int} {dq:AV} (hn:2 <= n) (hL:L <= 1000000) (hkn:k + n + 1 <= L) (hq:q.length <= 1000000 /\ k < q.length) (hV:Sp.fits n V) (hU:Sp.fits (k + (n + 1)) U) (hE:Est (1000000000 ^ (n - 2)) (U / 1000000000 ^ k) V)
  (cont:ZaJ (Sp.Zaq L (U % 1000000000 ^ k + 1000000000 ^ k * (U / 1000000000 ^ k % V))) (Sp.Zaq n V) (q.set k ((U / 1000000000 ^ k / V:Nat):Int)) fb v n s ((k:Int) - 1) (Zae dq)) :
  ∀ (g r:Nat),g * (V / 1000000000 ^ (n - 2) / 1000000000) + r = U / 1000000000 ^ k / 1000000000 ^ (n - 2) / 1000000000 -> U / 1000000000 ^ k / V <= g -> r < 1000000000 -> g < 18446744073709551615 -> Zcl (Sp.Zaq L U) (Sp.Zaq n V) q fb v n s k g r (Zae dq):=by
 have hV0:=hE.V0
 have more:=fun g r => hE.more (g:=g) (r:=r)
 have less:=fun g r => hE.less (g:=g) (r:=r)
 have small:=fun g r => hE.small (g:=g) (r:=r)
 have b1:(Sp.Zaq n V).getD (n - 1) default = ((V / 1000000000 ^ (n - 2) / 1000000000:Nat):Int):=by
  rw [Zat V (by omega),ZaR,show n - 2 + 1 = n - 1 by omega]
  have:=Zbr (n:=n - 1) (v:=V) (by rw [show n - 1 + 1 = n by omega];exact hV)
  rw [Nat.mod_eq_of_lt this]
 have b2:(Sp.Zaq n V).getD (n - 2) default = ((V / 1000000000 ^ (n - 2) % 1000000000:Nat):Int):=Zat V (by omega)
 have u2:(Sp.Zaq L U).getD (k + n - 2) default = ((U / 1000000000 ^ k / 1000000000 ^ (n - 2) % 1000000000:Nat):Int):=by
  rw [Zat U (by omega),Nat.div_div_eq_div_mul,<- Nat.pow_add,show k + (n - 2) = k + n - 2 by omega]
 have hv1:V / 1000000000 ^ (n - 2) / 1000000000 < 1000000000:=by
  rw [ZaR,show n - 2 + 1 = n - 1 by omega]
  exact Zbr (by rw [show n - 1 + 1 = n by omega];exact hV)
 have e1:((n:Int) - 1).toNat = n - 1:=by omega
 have e2:((n:Int) - 2).toNat = n - 2:=by omega
 have e3:((k:Int) + n - 2).toNat = k + n - 2:=by omega
 have after:∀ g:Nat,g < 1000000000 -> U / 1000000000 ^ k / V <= g -> g <= U / 1000000000 ^ k / V + 1 -> AfterG (Sp.Zaq L U) (Sp.Zaq n V) q fb v n s k g dq:=fun g h0 h1 h2 => afterG hL hkn hq hV0 hV hU h0 h1 h2 cont
 clear cont hE hV0
 generalize V / 1000000000 ^ (n - 2) = d at *
 generalize U / 1000000000 ^ k / 1000000000 ^ (n - 2) = x at *
 generalize U / 1000000000 ^ k / V = q0 at *
 have htest:∀ g r:Nat,r < 1000000000 -> (((((g:Nat):Int) >= 1000000000) \/ (IntKind.u64.wrap (((g:Nat):Int) * IntKind.u64.wrap ((Sp.Zaq n V).getD ((n:Int) - 2).toNat default)) > IntKind.u64.wrap (IntKind.u64.wrap ((r:Int) * 1000000000) + IntKind.u64.wrap ((Sp.Zaq L U).getD ((k:Int) + n - 2).toNat default)))) ↔
   (g >= 1000000000 \/ g * (d % 1000000000) > r * 1000000000 + x % 1000000000)):=by
  intro g r hr
  rw [e2,e3,b2,u2]
  have hv2:d % 1000000000 < 1000000000:=Nat.mod_lt _ (by omega)
  have hu2:x % 1000000000 < 1000000000:=Nat.mod_lt _ (by omega)
  generalize d % 1000000000 = v2 at hv2
  generalize x % 1000000000 = x2 at hu2
  rw [wU64 (n:=(v2:Int)) (by omega),wU64 (n:=(x2:Int)) (by omega),wU64 (n:=(r:Int) * 1000000000) (by omega),wU64 (n:=(r:Int) * 1000000000 + (x2:Int)) (by omega)]
  by_cases hbig:g >= 1000000000
  ·exact ⟨fun _ => .inl hbig,fun _ => .inl (by omega)⟩
  ·have hm:((g:Nat):Int) * (v2:Int) = ((g * v2:Nat):Int):=(Int.natCast_mul _ _).symm
   have hle:g * v2 <= 1000000000 * 1000000000:=Nat.mul_le_mul (by omega) (by omega)
   rw [hm,wU64 (by omega)]
   constructor
   ·rintro (h | h)
    ·exact absurd (by omega) hbig
    ·right;omega
   ·rintro (h | h)
    ·exact absurd h hbig
    ·right;omega
 intro g
 induction g with
 | zero =>
  intro r hgr hqg hr hgb
  have hno:¬(0 >= 1000000000 \/ 0 * (d % 1000000000) > r * 1000000000 + x % 1000000000):=fun h => by have:=more 0 r hgr h;omega
  exact vDivideG _ _ _ _ _ _ _ _ _ _ _ ⟨by omega,by omega,by omega,fun _ => by omega,fun _ => by rw [Zah];omega,fun _ => by omega,fun _ => by rw [Zah];omega,fun h => absurd ((htest 0 r hr).1 h) hno,fun _ => after 0 (by omega) hqg (less 0 r hgr (by omega))⟩
 | succ g ih =>
  intro r hgr hqg hr hgb
  refine vDivideG _ _ _ _ _ _ _ _ _ _ _ ⟨by omega,by omega,by omega,fun _ => by omega,fun _ => by rw [Zah];omega,fun _ => by omega,fun _ => by rw [Zah];omega,fun h => ?_,fun h => ?_⟩
  ·have ht:=(htest (g + 1) r hr).1 h
   have hlt:=more (g + 1) r hgr ht
   have hgr':g * (d / 1000000000) + (r + d / 1000000000) = x / 1000000000:=by rw [<- hgr,Nat.succ_mul];omega
   have eg:((g + 1:Nat):Int) - 1 = (g:Int):=by omega
   rw [e1,b1,eg]
   have er:(r:Int) + ((d / 1000000000:Nat):Int) = ((r + d / 1000000000:Nat):Int):=by omega
   rw [er]
   refine ⟨by omega,by omega,by omega,by rw [Zah];omega,by omega,by omega,fun hbr => ?_,fun hbr => ?_⟩
   ·have hsm:=small g _ hgr' (by omega)
    refine after g hsm (by omega) (less g _ hgr' ?_)
    have:g * (d % 1000000000) <= 1000000000 * 1000000000:=Nat.mul_le_mul (by omega) (by omega)
    omega
   ·exact ih _ hgr' (by omega) (by omega) (by omega)
  ·have ht:¬(g + 1 >= 1000000000 \/ (g + 1) * (d % 1000000000) > r * 1000000000 + x % 1000000000):=fun y => h ((htest (g + 1) r hr).2 y)
   exact after (g + 1) (by omega) hqg (less (g + 1) r hgr (by omega))
end Go.Av
