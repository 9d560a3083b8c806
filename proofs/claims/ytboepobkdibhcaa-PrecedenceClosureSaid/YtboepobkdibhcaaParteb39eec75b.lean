/- PART 5 of the texts of a claim, joined by a program: what each part shows stands at its head. -/
import Derived.Test.YtboepobkdibhcaaPart90d3038187

namespace Go.Av
open Go.Proofs
set_option maxRecDepth 100000
def fi29:Fi:=⟨44,[.tmp 4,.tmp 5]⟩
def kp29:List (Nat × List Nat):=[(0,[0,1]),(1,[0,1,6]),(2,[0,1,6,15]),(3,[4,5]),(4,[0,7]),(5,[0,7,8]),(6,[0,7,8,9]),(7,[0,7,8,9,22]),(8,[0,7,8,9]),(9,[0,7,8,9,10]),(10,[0,7,8,9,10,27]),(11,[0,7,8,9,10]),(12,[0,7,8,9,10,36]),(13,[0,7,8,9,10]),(14,[4,5])]
def fi31:Fi:=⟨73,[.tmp 4,.tmp 5]⟩
def kp31:List (Nat × List Nat):=[(0,[0,1]),(1,[0,1,6,7]),(2,[0,1,6,7,20]),(3,[4,5]),(4,[0,6,8]),(5,[0,6,8,9]),(6,[0,6,8,9,10]),(7,[0,6,8,9,10,28]),(8,[0,6,8,9,10]),(9,[0,6,8,9,10,11]),(10,[0,6,8,9,10,11,12]),(11,[0,6,8,9,10,11,12,33]),(12,[0,6,8,9,10,11,12]),(13,[0,6,8,9,10,11,12]),(14,[0,6,8,9,10,64]),(15,[0,6,8,9,10]),(16,[4,5])]
def fi46:Fi:=⟨29,[.tmp 4]⟩
def kp46:List (Nat × List Nat):=[(0,[0,1]),(1,[0,1,5]),(2,[0,1,5,8,9]),(3,[0,1,5,8,9,10]),(4,[0,1,5,6,8,9]),(5,[0,1,5,6,8,9,12,13]),(6,[0,1,5,6,8,9,12,13,14]),(7,[0,1,5,6,7,8,9,12,13]),(8,[0,1,5,6,7,8,9,12,13,19]),(9,[0,1,5,6,8,9,12,13]),(10,[0,1,5,6,8,9,12,13]),(11,[0,1,5,8,9]),(12,[4])]
def co1_at (n:Int) (fm:Bool) (T:List Bw) (Q:AV->Heap->Prop):Prop:=Wp M1 (.run fi46 (atC (cd Try.f46) []) [(0,.int .i64 n),(1,.func (.func 47) [] [.eptr 1 [.vec fm 1 (T.map Bw.a)] 0 0])] []) Q
def Zew (n:Int) (fm:Bool) (T:List Bw) (m a:Int) (Q:AV->Heap->Prop):Prop:=Wp M1 (.run fi46 (atC (cd Try.f46) [1,1,0,1,0,0]) [(0,.int .i64 n),(1,.func (.func 47) [] [.eptr 1 [.vec fm 1 (T.map Bw.a)] 0 0]),(5,.vnil),(8,.int .i64 m),(9,.int .i64 a)] []) Q
def Zeb (n:Int) (fm:Bool) (T:List Bw) (m a k b:Int) (Q:AV->Heap->Prop):Prop:=Wp M1 (.run fi46 (atC (cd Try.f46) [1,1,0,1,0,0,1,1,0,0,1,1,0,0]) [(0,.int .i64 n),(1,.func (.func 47) [] [.eptr 1 [.vec fm 1 (T.map Bw.a)] 0 0]),(5,.vnil),(6,.int .i64 a),(8,.int .i64 m),(9,.int .i64 a),(12,.int .i64 k),(13,.int .i64 b)] []) Q
def co1R_at (n:Int) (fm:Bool) (T:List Bw) (P:List Pr) (v:Nat) (m a:Int) (Q:AV->Heap->Prop):Prop:=Wp M1 (.run fi46 (atC (cd Try.f46) [1,1,0,1,0,0]) [(0,.int .i64 n),(1,.func (.func 47) [] [.eptr 1 [.vec fm 1 (T.map Bw.a)] 0 0]),(5,.row 0 v),(8,.int .i64 m),(9,.int .i64 a)] [⟨P.map Pr.v,2,v,false,true⟩]) Q
def ZcH (n:Int) (fm:Bool) (T:List Bw) (P:List Pr) (v:Nat) (m a k b:Int) (Q:AV->Heap->Prop):Prop:=Wp M1 (.run fi46 (atC (cd Try.f46) [1,1,0,1,0,0,1,1,0,0,1,1,0,0]) [(0,.int .i64 n),(1,.func (.func 47) [] [.eptr 1 [.vec fm 1 (T.map Bw.a)] 0 0]),(5,.row 0 v),(6,.int .i64 a),(8,.int .i64 m),(9,.int .i64 a),(12,.int .i64 k),(13,.int .i64 b)] [⟨P.map Pr.v,2,v,false,true⟩]) Q
def co2_at (n:Int) (fm:Bool) (T:List Bw) (Q:AV->Heap->Prop):Prop:=Wp M1 (.run fi46 (atC (cd Try.f46) []) [(0,.int .i64 n),(1,.func (.func 48) [] [.eptr 1 [.vec fm 1 (T.map Bw.a)] 0 0,.eptr 1 [.int .i64 n] 0 0])] []) Q
def Zev (n:Int) (fm:Bool) (T:List Bw) (m a:Int) (Q:AV->Heap->Prop):Prop:=Wp M1 (.run fi46 (atC (cd Try.f46) [1,1,0,1,0,0]) [(0,.int .i64 n),(1,.func (.func 48) [] [.eptr 1 [.vec fm 1 (T.map Bw.a)] 0 0,.eptr 1 [.int .i64 n] 0 0]),(5,.vnil),(8,.int .i64 m),(9,.int .i64 a)] []) Q
def Zea (n:Int) (fm:Bool) (T:List Bw) (m a k b:Int) (Q:AV->Heap->Prop):Prop:=Wp M1 (.run fi46 (atC (cd Try.f46) [1,1,0,1,0,0,1,1,0,0,1,1,0,0]) [(0,.int .i64 n),(1,.func (.func 48) [] [.eptr 1 [.vec fm 1 (T.map Bw.a)] 0 0,.eptr 1 [.int .i64 n] 0 0]),(5,.vnil),(6,.int .i64 a),(8,.int .i64 m),(9,.int .i64 a),(12,.int .i64 k),(13,.int .i64 b)] []) Q
def co2R_at (n:Int) (fm:Bool) (T:List Bw) (P:List Pr) (v:Nat) (m a:Int) (Q:AV->Heap->Prop):Prop:=Wp M1 (.run fi46 (atC (cd Try.f46) [1,1,0,1,0,0]) [(0,.int .i64 n),(1,.func (.func 48) [] [.eptr 1 [.vec fm 1 (T.map Bw.a)] 0 0,.eptr 1 [.int .i64 n] 0 0]),(5,.row 0 v),(8,.int .i64 m),(9,.int .i64 a)] [⟨P.map Pr.v,2,v,false,true⟩]) Q
def ZcG (n:Int) (fm:Bool) (T:List Bw) (P:List Pr) (v:Nat) (m a k b:Int) (Q:AV->Heap->Prop):Prop:=Wp M1 (.run fi46 (atC (cd Try.f46) [1,1,0,1,0,0,1,1,0,0,1,1,0,0]) [(0,.int .i64 n),(1,.func (.func 48) [] [.eptr 1 [.vec fm 1 (T.map Bw.a)] 0 0,.eptr 1 [.int .i64 n] 0 0]),(5,.row 0 v),(6,.int .i64 a),(8,.int .i64 m),(9,.int .i64 a),(12,.int .i64 k),(13,.int .i64 b)] [⟨P.map Pr.v,2,v,false,true⟩]) Q
def rCl_at (n:Int) (f:Bool) (ps:List Pr) (Q:AV->Heap->Prop):Prop:=Wp M1 (.run fi29 (atC (cd Try.f29) []) [(0,.int .i64 n),(1,.vec f 2 (ps.map Pr.v))] []) Q
def Zel (n:Int) (fm:Bool) (T:List Bw) (a:Int) (Q:AV->Heap->Prop):Prop:=Wp M1 (.run fi29 (atC (cd Try.f29) [1,1,1,1,0,1,0,0]) [(0,.int .i64 n),(7,.vec fm 1 (T.map Bw.a)),(8,.vnil),(9,.int .i64 a)] []) Q
def ZdT (n:Int) (fm:Bool) (T:List Bw) (a b:Int) (Q:AV->Heap->Prop):Prop:=Wp M1 (.run fi29 (atC (cd Try.f29) [1,1,1,1,0,1,0,0,1,0,0,1,0,0]) [(0,.int .i64 n),(7,.vec fm 1 (T.map Bw.a)),(8,.vnil),(9,.int .i64 a),(10,.int .i64 b)] []) Q
def rClR_at (n:Int) (fm:Bool) (T:List Bw) (P:List Pr) (v:Nat) (a:Int) (Q:AV->Heap->Prop):Prop:=Wp M1 (.run fi29 (atC (cd Try.f29) [1,1,1,1,0,1,0,0]) [(0,.int .i64 n),(7,.vec fm 1 (T.map Bw.a)),(8,.row 0 v),(9,.int .i64 a)] [⟨P.map Pr.v,2,v,false,true⟩]) Q
def ZcB (n:Int) (fm:Bool) (T:List Bw) (P:List Pr) (v:Nat) (a b:Int) (Q:AV->Heap->Prop):Prop:=Wp M1 (.run fi29 (atC (cd Try.f29) [1,1,1,1,0,1,0,0,1,0,0,1,0,0]) [(0,.int .i64 n),(7,.vec fm 1 (T.map Bw.a)),(8,.row 0 v),(9,.int .i64 a),(10,.int .i64 b)] [⟨P.map Pr.v,2,v,false,true⟩]) Q
def rRe_at (n:Int) (f:Bool) (ps:List Pr) (Q:AV->Heap->Prop):Prop:=Wp M1 (.run fi31 (atC (cd Try.f31) []) [(0,.int .i64 n),(1,.vec f 2 (ps.map Pr.v))] []) Q
def Zek (n:Int) (g:Bool) (G:List Pr) (fm:Bool) (T:List Bw) (i:Int) (Q:AV->Heap->Prop):Prop:=Wp M1 (.run fi31 (atC (cd Try.f31) [1,1,1,1,1,0,1,0,0]) [(0,.int .i64 n),(6,.vec g 2 (G.map Pr.v)),(8,.vec fm 1 (T.map Bw.a)),(9,.vnil),(10,.int .i64 i)] []) Q
def ZdS (n:Int) (g:Bool) (G:List Pr) (fm:Bool) (T:List Bw) (i:Int) (w:Bool) (c:Int) (Q:AV->Heap->Prop):Prop:=Wp M1 (.run fi31 (atC (cd Try.f31) [1,1,1,1,1,0,1,0,0,1,0,0,1,0,1,0,0]) [(0,.int .i64 n),(6,.vec g 2 (G.map Pr.v)),(8,.vec fm 1 (T.map Bw.a)),(9,.vnil),(10,.int .i64 i),(11,.bool w),(12,.int .i64 c)] []) Q
def ZcA (n:Int) (g:Bool) (G:List Pr) (fm:Bool) (T:List Bw) (P:List Pr) (v:Nat) (i:Int) (Q:AV->Heap->Prop):Prop:=Wp M1 (.run fi31 (atC (cd Try.f31) [1,1,1,1,1,0,1,0,0]) [(0,.int .i64 n),(6,.vec g 2 (G.map Pr.v)),(8,.vec fm 1 (T.map Bw.a)),(9,.row 0 v),(10,.int .i64 i)] [⟨P.map Pr.v,2,v,false,true⟩]) Q
def ZdR (n:Int) (g:Bool) (G:List Pr) (fm:Bool) (T:List Bw) (P:List Pr) (v:Nat) (i:Int) (w:Bool) (c:Int) (Q:AV->Heap->Prop):Prop:=Wp M1 (.run fi31 (atC (cd Try.f31) [1,1,1,1,1,0,1,0,0,1,0,0,1,0,1,0,0]) [(0,.int .i64 n),(6,.vec g 2 (G.map Pr.v)),(8,.vec fm 1 (T.map Bw.a)),(9,.row 0 v),(10,.int .i64 i),(11,.bool w),(12,.int .i64 c)] [⟨P.map Pr.v,2,v,false,true⟩]) Q
theorem call29 {args:List AV} {d:AV} (h:wc M1 fi29 Try.f29 args d):Ev M1 (.pure 29 args) d []:=pcl _ _ (by kernel_rfl) h
theorem call31 {args:List AV} {d:AV} (h:wc M1 fi31 Try.f31 args d):Ev M1 (.pure 31 args) d []:=pcl _ _ (by kernel_rfl) h
theorem call46 {args:List AV} {d:AV} (h:wc M1 fi46 Try.f46 args d):Ev M1 (.pure 46 args) d []:=pcl _ _ (by kernel_rfl) h
theorem co1 (n:Int) (fm:Bool) (T:List Bw)  (dq:AV) (H :
  Zew (n) (fm) (T) (n) (0) (Zaf dq)) :
 co1_at n fm T (Zaf dq):=by
 unfold co1_at
 exact Zab (G:=Zae kp46 [] []) 1000 [] ⟨(atC (cd Try.f46) [1,1,0,1,0,0]),[(0,vi n),(1,AV.func (Fn.func 47) [] [AV.eptr 1 [AV.vec fm 1 (List.map Bw.a T)] 0 0]),(5,AV.vnil),(8,vi n),(9,vi 0)],[],_,[],_⟩ (by kernel_rfl) b0 q0 c0 (H)
theorem co1N (n:Int) (fm:Bool) (T:List Bw) (m a:Int)  (dq:AV) (H :
  ((a < m) -> Zeb (n) (fm) (T) (m) (a) (n) (0) (Zaf dq)) /\
  (¬(a < m) -> Weak (AV.vnil) dq)) :
 Zew n fm T m a (Zaf dq):=by
 unfold Zew
 rcases xq H with ⟨d2,H⟩|⟨d2,H⟩
 ·exact Zab (G:=Zae kp46 [] []) 1000 [true] ⟨(atC (cd Try.f46) [1,1,0,1,0,0,1,1,0,0,1,1,0,0]),[(0,vi n),(1,AV.func (Fn.func 47) [] [AV.eptr 1 [AV.vec fm 1 (List.map Bw.a T)] 0 0]),(5,AV.vnil),(6,vi a),(8,vi m),(9,vi a),(12,vi n),(13,vi 0)],[],_,[],_⟩ (by kernel_rfl) (bc (Zar (Zaa.2 d2)) b0) q0 c0 (H)
 ·exact Zbf (G:=Zae kp46 [] []) 1000 [false] (AV.vnil) (by kernel_rfl) (bc (Zaq (fun h => d2 (Zaa.1 h))) b0) q0 c0 H
theorem co1Ni (n:Int) (fm:Bool) (T:List Bw) (m a k b:Int)  (dq:AV) (H :
  ((b < k) -> (Sp.inT T a b) /\
   ((Sp.tg T a b = true) -> (-9223372036854775808 <= b + 1 /\ b + 1 <= 9223372036854775807) /\
    ZcH (n) (fm) (T) ([{ a:=a,b:=b }]) (0) (m) (a) (k) (b + 1) (Zaf dq)) /\
   (¬(Sp.tg T a b = true) -> (-9223372036854775808 <= b + 1 /\ b + 1 <= 9223372036854775807) /\
    Zeb (n) (fm) (T) (m) (a) (k) (b + 1) (Zaf dq))) /\
  (¬(b < k) -> (-9223372036854775808 <= a + 1 /\ a + 1 <= 9223372036854775807) /\
   Zew (n) (fm) (T) (m) (a + 1) (Zaf dq))) :
 Zeb n fm T m a k b (Zaf dq):=by
 unfold Zeb
 rcases xq H with ⟨d2,H⟩|⟨d2,H⟩
 ·obtain ⟨k3,H⟩:=H
  refine Zab (G:=Zae kp46 [(8,3,.call (vb (Sp.tg T a b)) none)] []) 11 [true] ⟨(atC (cd Try.f46) [1,1,0,1,0,0,1,1,0,0,1,1,0,0,1,1,0,0,1,1]),[(0,vi n),(1,AV.func (Fn.func 47) [] [AV.eptr 1 [AV.vec fm 1 (List.map Bw.a T)] 0 0]),(5,AV.vnil),(6,vi a),(7,vi b),(8,vi m),(9,vi a),(12,vi k),(13,vi b),(19,vb (Sp.tg T a b))],[],_,[],_⟩ (by kernel_rfl) (bc (Zar (Zaa.2 d2)) b0) q0 (ce (@ev47 (a) (b) (fm) (T) k3) c0) ?_
  rcases xq H with ⟨d5,H⟩|⟨d5,H⟩
  ·obtain ⟨k6,H⟩:=H
   have w7:wi (b + 1) = b + 1:=wI64 k6
   have w8:[ag [vi a,vi b]] = List.map Pr.v [{ a:=a,b:=b }]:=rfl
   exact Zab (G:=Zae kp46 [] []) 1000 [true] ⟨(atC (cd Try.f46) [1,1,0,1,0,0,1,1,0,0,1,1,0,0]),[(0,vi n),(1,AV.func (Fn.func 47) [] [AV.eptr 1 [AV.vec fm 1 (List.map Bw.a T)] 0 0]),(5,AV.row 0 0),(6,vi a),(8,vi m),(9,vi a),(12,vi k),(13,vi (wi (b + 1)))],[⟨[ag [vi a,vi b]],2,0,false,true⟩],[(Sp.tg T a b) == true,true],[],_⟩ (by kernel_rfl) (bc (Zar ((Zag _).2 d5)) (bc rfl b0)) q0 c0 (by (try rw [w7]);(try rw [w8]);all_goals exact H)
  ·obtain ⟨k9,H⟩:=H
   have w10:wi (b + 1) = b + 1:=wI64 k9
   exact Zab (G:=Zae kp46 [] []) 1000 [false] ⟨(atC (cd Try.f46) [1,1,0,1,0,0,1,1,0,0,1,1,0,0]),[(0,vi n),(1,AV.func (Fn.func 47) [] [AV.eptr 1 [AV.vec fm 1 (List.map Bw.a T)] 0 0]),(5,AV.vnil),(6,vi a),(8,vi m),(9,vi a),(12,vi k),(13,vi (wi (b + 1)))],[],[(Sp.tg T a b) == false],[],_⟩ (by kernel_rfl) (bc (Zaq (fun h => d5 ((Zag _).1 h))) b0) q0 c0 (by (try rw [w10]);all_goals exact H)
 ·obtain ⟨k11,H⟩:=H
  have w12:wi (a + 1) = a + 1:=wI64 k11
  exact Zab (G:=Zae kp46 [] []) 1000 [false] ⟨(atC (cd Try.f46) [1,1,0,1,0,0]),[(0,vi n),(1,AV.func (Fn.func 47) [] [AV.eptr 1 [AV.vec fm 1 (List.map Bw.a T)] 0 0]),(5,AV.vnil),(8,vi m),(9,vi (wi (a + 1)))],[],_,[],_⟩ (by kernel_rfl) (bc (Zaq (fun h => d2 (Zaa.1 h))) b0) q0 c0 (by (try rw [w12]);all_goals exact H)
theorem co1R (n:Int) (fm:Bool) (T:List Bw) (P:List Pr) (v:Nat) (m a:Int)  (dq:AV) (H :
  ((a < m) -> ZcH (n) (fm) (T) (P) (v) (m) (a) (n) (0) (Zaf dq)) /\
  (¬(a < m) -> Weak (AV.vec false 2 (List.map Pr.v P)) dq)) :
 co1R_at n fm T P v m a (Zaf dq):=by
 unfold co1R_at
 rcases xq H with ⟨d2,H⟩|⟨d2,H⟩
 ·exact Zab (G:=Zae kp46 [] []) 1000 [true] ⟨(atC (cd Try.f46) [1,1,0,1,0,0,1,1,0,0,1,1,0,0]),[(0,vi n),(1,AV.func (Fn.func 47) [] [AV.eptr 1 [AV.vec fm 1 (List.map Bw.a T)] 0 0]),(5,AV.row 0 v),(6,vi a),(8,vi m),(9,vi a),(12,vi n),(13,vi 0)],[⟨List.map Pr.v P,2,v,false,true⟩],_,[],_⟩ (by kernel_rfl) (bc (Zar (Zaa.2 d2)) b0) q0 c0 (H)
 ·exact ZaW (G:=Zae kp46 [] []) 1000 [false] (k:=((atC (cd Try.f46) [1,1,1,1])).tail) (env':=[(4,AV.row 0 v)]) (L':=[⟨List.map Pr.v P,2,v,false,true⟩]) (asm:=[(decide (a < m)) == false]) (eqs:=[]) (calls:=[]) (AV.row 0 v) (by kernel_rfl) (by kernel_rfl) (Zam (Zaq (fun h => d2 (Zaa.1 h))) Zas) ZaQ ZaR (Zdu (d:=(AV.vec false 2 (List.map Pr.v P))) (bs:=[v == v]) (by kernel_rfl) (by kernel_rfl) (Zam (beq_self_eq_true _) Zas) (by kernel_rfl) H)
theorem co1Ri (n:Int) (fm:Bool) (T:List Bw) (P:List Pr) (v:Nat) (m a k b:Int)  (dq:AV) (H :
  ((b < k) -> (Sp.inT T a b) /\
   ((Sp.tg T a b = true) -> ((P.length + 1) * 16 <= 1099511627776) /\
    (-9223372036854775808 <= b + 1 /\ b + 1 <= 9223372036854775807) /\
    ZcH (n) (fm) (T) (P ++ [{ a:=a,b:=b }]) (v + 1) (m) (a) (k) (b + 1) (Zaf dq)) /\
   (¬(Sp.tg T a b = true) -> (-9223372036854775808 <= b + 1 /\ b + 1 <= 9223372036854775807) /\
    ZcH (n) (fm) (T) (P) (v) (m) (a) (k) (b + 1) (Zaf dq))) /\
  (¬(b < k) -> (-9223372036854775808 <= a + 1 /\ a + 1 <= 9223372036854775807) /\
   co1R_at (n) (fm) (T) (P) (v) (m) (a + 1) (Zaf dq))) :
 ZcH n fm T P v m a k b (Zaf dq):=by
 unfold ZcH
 rcases xq H with ⟨d2,H⟩|⟨d2,H⟩
 ·obtain ⟨k3,H⟩:=H
  refine Zab (G:=Zae kp46 [(8,3,.call (vb (Sp.tg T a b)) none)] []) 11 [true] ⟨(atC (cd Try.f46) [1,1,0,1,0,0,1,1,0,0,1,1,0,0,1,1,0,0,1,1]),[(0,vi n),(1,AV.func (Fn.func 47) [] [AV.eptr 1 [AV.vec fm 1 (List.map Bw.a T)] 0 0]),(5,AV.row 0 v),(6,vi a),(7,vi b),(8,vi m),(9,vi a),(12,vi k),(13,vi b),(19,vb (Sp.tg T a b))],[⟨List.map Pr.v P,2,v,false,true⟩],_,[],_⟩ (by kernel_rfl) (bc (Zar (Zaa.2 d2)) b0) q0 (ce (@ev47 (a) (b) (fm) (T) k3) c0) ?_
  rcases xq H with ⟨d5,H⟩|⟨d5,H⟩
  ·have w6:(List.map Pr.v P).length = P.length:=List.length_map ..
   have i7:(decide (((List.map Pr.v P).length + 1) * 16 <= 1099511627776)) = true ↔ ((P.length + 1) * 16 <= 1099511627776):=(by (try rw [w6]);all_goals exact Zaa)
   obtain ⟨k8,H⟩:=H
   have w9:List.map Pr.v P ++ [ag [vi a,vi b]] = List.map Pr.v (P ++ [{ a:=a,b:=b }]):=(Zd2 rfl rfl)
   obtain ⟨k10,H⟩:=H
   have w11:wi (b + 1) = b + 1:=wI64 k10
   exact Zab (G:=Zae kp46 [] []) 1000 [true] ⟨(atC (cd Try.f46) [1,1,0,1,0,0,1,1,0,0,1,1,0,0]),[(0,vi n),(1,AV.func (Fn.func 47) [] [AV.eptr 1 [AV.vec fm 1 (List.map Bw.a T)] 0 0]),(5,AV.row 0 (v + 1)),(6,vi a),(8,vi m),(9,vi a),(12,vi k),(13,vi (wi (b + 1)))],[⟨List.map Pr.v P ++ [ag [vi a,vi b]],2,v + 1,false,true⟩],[(Sp.tg T a b) == true,v == v,decide (((List.map Pr.v P).length + 1) * 16 <= 1099511627776)],[],_⟩ (by kernel_rfl) (bc (Zar ((Zag _).2 d5)) (bc (beq_self_eq_true _) (bc (i7.2 k8) b0))) q0 c0 (by (try rw [w9]);(try rw [w11]);all_goals exact H)
  ·obtain ⟨k12,H⟩:=H
   have w13:wi (b + 1) = b + 1:=wI64 k12
   exact Zab (G:=Zae kp46 [] []) 1000 [false] ⟨(atC (cd Try.f46) [1,1,0,1,0,0,1,1,0,0,1,1,0,0]),[(0,vi n),(1,AV.func (Fn.func 47) [] [AV.eptr 1 [AV.vec fm 1 (List.map Bw.a T)] 0 0]),(5,AV.row 0 v),(6,vi a),(8,vi m),(9,vi a),(12,vi k),(13,vi (wi (b + 1)))],[⟨List.map Pr.v P,2,v,false,true⟩],[(Sp.tg T a b) == false],[],_⟩ (by kernel_rfl) (bc (Zaq (fun h => d5 ((Zag _).1 h))) b0) q0 c0 (by (try rw [w13]);all_goals exact H)
 ·obtain ⟨k14,H⟩:=H
  have w15:wi (a + 1) = a + 1:=wI64 k14
  exact Zab (G:=Zae kp46 [] []) 1000 [false] ⟨(atC (cd Try.f46) [1,1,0,1,0,0]),[(0,vi n),(1,AV.func (Fn.func 47) [] [AV.eptr 1 [AV.vec fm 1 (List.map Bw.a T)] 0 0]),(5,AV.row 0 v),(8,vi m),(9,vi (wi (a + 1)))],[⟨List.map Pr.v P,2,v,false,true⟩],_,[],_⟩ (by kernel_rfl) (bc (Zaq (fun h => d2 (Zaa.1 h))) b0) q0 c0 (by (try rw [w15]);all_goals exact H)
theorem co2 (n:Int) (fm:Bool) (T:List Bw)  (dq:AV) (H :
  Zev (n) (fm) (T) (n) (0) (Zaf dq)) :
 co2_at n fm T (Zaf dq):=by
 unfold co2_at
 exact Zab (G:=Zae kp46 [] []) 1000 [] ⟨(atC (cd Try.f46) [1,1,0,1,0,0]),[(0,vi n),(1,AV.func (Fn.func 48) [] [AV.eptr 1 [AV.vec fm 1 (List.map Bw.a T)] 0 0,AV.eptr 1 [vi n] 0 0]),(5,AV.vnil),(8,vi n),(9,vi 0)],[],_,[],_⟩ (by kernel_rfl) b0 q0 c0 (H)
theorem co2N (n:Int) (fm:Bool) (T:List Bw) (m a:Int)  (dq:AV) (H :
  ((a < m) -> Zea (n) (fm) (T) (m) (a) (n) (0) (Zaf dq)) /\
  (¬(a < m) -> Weak (AV.vnil) dq)) :
 Zev n fm T m a (Zaf dq):=by
 unfold Zev
 rcases xq H with ⟨d2,H⟩|⟨d2,H⟩
 ·exact Zab (G:=Zae kp46 [] []) 1000 [true] ⟨(atC (cd Try.f46) [1,1,0,1,0,0,1,1,0,0,1,1,0,0]),[(0,vi n),(1,AV.func (Fn.func 48) [] [AV.eptr 1 [AV.vec fm 1 (List.map Bw.a T)] 0 0,AV.eptr 1 [vi n] 0 0]),(5,AV.vnil),(6,vi a),(8,vi m),(9,vi a),(12,vi n),(13,vi 0)],[],_,[],_⟩ (by kernel_rfl) (bc (Zar (Zaa.2 d2)) b0) q0 c0 (H)
 ·exact Zbf (G:=Zae kp46 [] []) 1000 [false] (AV.vnil) (by kernel_rfl) (bc (Zaq (fun h => d2 (Zaa.1 h))) b0) q0 c0 H
theorem co2Ni (n:Int) (fm:Bool) (T:List Bw) (m a k b:Int)  (dq:AV) (H :
  ((b < k) -> (Sp.inN n T a b) /\
   ((Sp.red T a b = true) -> (-9223372036854775808 <= b + 1 /\ b + 1 <= 9223372036854775807) /\
    ZcG (n) (fm) (T) ([{ a:=a,b:=b }]) (0) (m) (a) (k) (b + 1) (Zaf dq)) /\
   (¬(Sp.red T a b = true) -> (-9223372036854775808 <= b + 1 /\ b + 1 <= 9223372036854775807) /\
    Zea (n) (fm) (T) (m) (a) (k) (b + 1) (Zaf dq))) /\
  (¬(b < k) -> (-9223372036854775808 <= a + 1 /\ a + 1 <= 9223372036854775807) /\
   Zev (n) (fm) (T) (m) (a + 1) (Zaf dq))) :
 Zea n fm T m a k b (Zaf dq):=by
 unfold Zea
 rcases xq H with ⟨d2,H⟩|⟨d2,H⟩
 ·obtain ⟨k3,H⟩:=H
  refine Zab (G:=Zae kp46 [(8,3,.call (vb (Sp.red T a b)) none)] []) 11 [true] ⟨(atC (cd Try.f46) [1,1,0,1,0,0,1,1,0,0,1,1,0,0,1,1,0,0,1,1]),[(0,vi n),(1,AV.func (Fn.func 48) [] [AV.eptr 1 [AV.vec fm 1 (List.map Bw.a T)] 0 0,AV.eptr 1 [vi n] 0 0]),(5,AV.vnil),(6,vi a),(7,vi b),(8,vi m),(9,vi a),(12,vi k),(13,vi b),(19,vb (Sp.red T a b))],[],_,[],_⟩ (by kernel_rfl) (bc (Zar (Zaa.2 d2)) b0) q0 (ce (@ev48 (n) (a) (b) (fm) (T) k3) c0) ?_
  rcases xq H with ⟨d5,H⟩|⟨d5,H⟩
  ·obtain ⟨k6,H⟩:=H
   have w7:wi (b + 1) = b + 1:=wI64 k6
   have w8:[ag [vi a,vi b]] = List.map Pr.v [{ a:=a,b:=b }]:=rfl
   exact Zab (G:=Zae kp46 [] []) 1000 [true] ⟨(atC (cd Try.f46) [1,1,0,1,0,0,1,1,0,0,1,1,0,0]),[(0,vi n),(1,AV.func (Fn.func 48) [] [AV.eptr 1 [AV.vec fm 1 (List.map Bw.a T)] 0 0,AV.eptr 1 [vi n] 0 0]),(5,AV.row 0 0),(6,vi a),(8,vi m),(9,vi a),(12,vi k),(13,vi (wi (b + 1)))],[⟨[ag [vi a,vi b]],2,0,false,true⟩],[(Sp.red T a b) == true,true],[],_⟩ (by kernel_rfl) (bc (Zar ((Zag _).2 d5)) (bc rfl b0)) q0 c0 (by (try rw [w7]);(try rw [w8]);all_goals exact H)
  ·obtain ⟨k9,H⟩:=H
   have w10:wi (b + 1) = b + 1:=wI64 k9
   exact Zab (G:=Zae kp46 [] []) 1000 [false] ⟨(atC (cd Try.f46) [1,1,0,1,0,0,1,1,0,0,1,1,0,0]),[(0,vi n),(1,AV.func (Fn.func 48) [] [AV.eptr 1 [AV.vec fm 1 (List.map Bw.a T)] 0 0,AV.eptr 1 [vi n] 0 0]),(5,AV.vnil),(6,vi a),(8,vi m),(9,vi a),(12,vi k),(13,vi (wi (b + 1)))],[],[(Sp.red T a b) == false],[],_⟩ (by kernel_rfl) (bc (Zaq (fun h => d5 ((Zag _).1 h))) b0) q0 c0 (by (try rw [w10]);all_goals exact H)
 ·obtain ⟨k11,H⟩:=H
  have w12:wi (a + 1) = a + 1:=wI64 k11
  exact Zab (G:=Zae kp46 [] []) 1000 [false] ⟨(atC (cd Try.f46) [1,1,0,1,0,0]),[(0,vi n),(1,AV.func (Fn.func 48) [] [AV.eptr 1 [AV.vec fm 1 (List.map Bw.a T)] 0 0,AV.eptr 1 [vi n] 0 0]),(5,AV.vnil),(8,vi m),(9,vi (wi (a + 1)))],[],_,[],_⟩ (by kernel_rfl) (bc (Zaq (fun h => d2 (Zaa.1 h))) b0) q0 c0 (by (try rw [w12]);all_goals exact H)
theorem co2R (n:Int) (fm:Bool) (T:List Bw) (P:List Pr) (v:Nat) (m a:Int)  (dq:AV) (H :
  ((a < m) -> ZcG (n) (fm) (T) (P) (v) (m) (a) (n) (0) (Zaf dq)) /\
  (¬(a < m) -> Weak (AV.vec false 2 (List.map Pr.v P)) dq)) :
 co2R_at n fm T P v m a (Zaf dq):=by
 unfold co2R_at
 rcases xq H with ⟨d2,H⟩|⟨d2,H⟩
 ·exact Zab (G:=Zae kp46 [] []) 1000 [true] ⟨(atC (cd Try.f46) [1,1,0,1,0,0,1,1,0,0,1,1,0,0]),[(0,vi n),(1,AV.func (Fn.func 48) [] [AV.eptr 1 [AV.vec fm 1 (List.map Bw.a T)] 0 0,AV.eptr 1 [vi n] 0 0]),(5,AV.row 0 v),(6,vi a),(8,vi m),(9,vi a),(12,vi n),(13,vi 0)],[⟨List.map Pr.v P,2,v,false,true⟩],_,[],_⟩ (by kernel_rfl) (bc (Zar (Zaa.2 d2)) b0) q0 c0 (H)
 ·exact ZaW (G:=Zae kp46 [] []) 1000 [false] (k:=((atC (cd Try.f46) [1,1,1,1])).tail) (env':=[(4,AV.row 0 v)]) (L':=[⟨List.map Pr.v P,2,v,false,true⟩]) (asm:=[(decide (a < m)) == false]) (eqs:=[]) (calls:=[]) (AV.row 0 v) (by kernel_rfl) (by kernel_rfl) (Zam (Zaq (fun h => d2 (Zaa.1 h))) Zas) ZaQ ZaR (Zdu (d:=(AV.vec false 2 (List.map Pr.v P))) (bs:=[v == v]) (by kernel_rfl) (by kernel_rfl) (Zam (beq_self_eq_true _) Zas) (by kernel_rfl) H)
theorem co2Ri (n:Int) (fm:Bool) (T:List Bw) (P:List Pr) (v:Nat) (m a k b:Int)  (dq:AV) (H :
  ((b < k) -> (Sp.inN n T a b) /\
   ((Sp.red T a b = true) -> ((P.length + 1) * 16 <= 1099511627776) /\
    (-9223372036854775808 <= b + 1 /\ b + 1 <= 9223372036854775807) /\
    ZcG (n) (fm) (T) (P ++ [{ a:=a,b:=b }]) (v + 1) (m) (a) (k) (b + 1) (Zaf dq)) /\
   (¬(Sp.red T a b = true) -> (-9223372036854775808 <= b + 1 /\ b + 1 <= 9223372036854775807) /\
    ZcG (n) (fm) (T) (P) (v) (m) (a) (k) (b + 1) (Zaf dq))) /\
  (¬(b < k) -> (-9223372036854775808 <= a + 1 /\ a + 1 <= 9223372036854775807) /\
   co2R_at (n) (fm) (T) (P) (v) (m) (a + 1) (Zaf dq))) :
 ZcG n fm T P v m a k b (Zaf dq):=by
 unfold ZcG
 rcases xq H with ⟨d2,H⟩|⟨d2,H⟩
 ·obtain ⟨k3,H⟩:=H
  refine Zab (G:=Zae kp46 [(8,3,.call (vb (Sp.red T a b)) none)] []) 11 [true] ⟨(atC (cd Try.f46) [1,1,0,1,0,0,1,1,0,0,1,1,0,0,1,1,0,0,1,1]),[(0,vi n),(1,AV.func (Fn.func 48) [] [AV.eptr 1 [AV.vec fm 1 (List.map Bw.a T)] 0 0,AV.eptr 1 [vi n] 0 0]),(5,AV.row 0 v),(6,vi a),(7,vi b),(8,vi m),(9,vi a),(12,vi k),(13,vi b),(19,vb (Sp.red T a b))],[⟨List.map Pr.v P,2,v,false,true⟩],_,[],_⟩ (by kernel_rfl) (bc (Zar (Zaa.2 d2)) b0) q0 (ce (@ev48 (n) (a) (b) (fm) (T) k3) c0) ?_
  rcases xq H with ⟨d5,H⟩|⟨d5,H⟩
  ·have w6:(List.map Pr.v P).length = P.length:=List.length_map ..
   have i7:(decide (((List.map Pr.v P).length + 1) * 16 <= 1099511627776)) = true ↔ ((P.length + 1) * 16 <= 1099511627776):=(by (try rw [w6]);all_goals exact Zaa)
   obtain ⟨k8,H⟩:=H
   have w9:List.map Pr.v P ++ [ag [vi a,vi b]] = List.map Pr.v (P ++ [{ a:=a,b:=b }]):=(Zd2 rfl rfl)
   obtain ⟨k10,H⟩:=H
   have w11:wi (b + 1) = b + 1:=wI64 k10
   exact Zab (G:=Zae kp46 [] []) 1000 [true] ⟨(atC (cd Try.f46) [1,1,0,1,0,0,1,1,0,0,1,1,0,0]),[(0,vi n),(1,AV.func (Fn.func 48) [] [AV.eptr 1 [AV.vec fm 1 (List.map Bw.a T)] 0 0,AV.eptr 1 [vi n] 0 0]),(5,AV.row 0 (v + 1)),(6,vi a),(8,vi m),(9,vi a),(12,vi k),(13,vi (wi (b + 1)))],[⟨List.map Pr.v P ++ [ag [vi a,vi b]],2,v + 1,false,true⟩],[(Sp.red T a b) == true,v == v,decide (((List.map Pr.v P).length + 1) * 16 <= 1099511627776)],[],_⟩ (by kernel_rfl) (bc (Zar ((Zag _).2 d5)) (bc (beq_self_eq_true _) (bc (i7.2 k8) b0))) q0 c0 (by (try rw [w9]);(try rw [w11]);all_goals exact H)
  ·obtain ⟨k12,H⟩:=H
   have w13:wi (b + 1) = b + 1:=wI64 k12
   exact Zab (G:=Zae kp46 [] []) 1000 [false] ⟨(atC (cd Try.f46) [1,1,0,1,0,0,1,1,0,0,1,1,0,0]),[(0,vi n),(1,AV.func (Fn.func 48) [] [AV.eptr 1 [AV.vec fm 1 (List.map Bw.a T)] 0 0,AV.eptr 1 [vi n] 0 0]),(5,AV.row 0 v),(6,vi a),(8,vi m),(9,vi a),(12,vi k),(13,vi (wi (b + 1)))],[⟨List.map Pr.v P,2,v,false,true⟩],[(Sp.red T a b) == false],[],_⟩ (by kernel_rfl) (bc (Zaq (fun h => d5 ((Zag _).1 h))) b0) q0 c0 (by (try rw [w13]);all_goals exact H)
 ·obtain ⟨k14,H⟩:=H
  have w15:wi (a + 1) = a + 1:=wI64 k14
  exact Zab (G:=Zae kp46 [] []) 1000 [false] ⟨(atC (cd Try.f46) [1,1,0,1,0,0]),[(0,vi n),(1,AV.func (Fn.func 48) [] [AV.eptr 1 [AV.vec fm 1 (List.map Bw.a T)] 0 0,AV.eptr 1 [vi n] 0 0]),(5,AV.row 0 v),(8,vi m),(9,vi (wi (a + 1)))],[⟨List.map Pr.v P,2,v,false,true⟩],_,[],_⟩ (by kernel_rfl) (bc (Zaq (fun h => d2 (Zaa.1 h))) b0) q0 c0 (by (try rw [w15]);all_goals exact H)
theorem rCl (n:Int) (f:Bool) (ps:List Pr)  (dq:AV) (H :
  ((¬Sp.ZaK n ps = 0) -> Weak (tu [AV.vnil,vi (Sp.ZaK n ps)]) dq) /\
  (¬(¬Sp.ZaK n ps = 0) -> (Sp.vd n ps = 0) /\
   Zel (n) (false) (Sp.Zct n.toNat ps) (0) (Zaf dq))) :
 rCl_at n f ps (Zaf dq):=by
 unfold rCl_at
 refine Zab (G:=Zae kp29 [(1,2,.call (vi (Sp.ZaK n ps)) none)] []) 7 [] ⟨(atC (cd Try.f29) [1,0,1,1]),[(0,vi n),(1,AV.vec f 2 (List.map Pr.v ps)),(6,vi (Sp.ZaK n ps)),(15,vb (Sp.ZaK n ps != 0))],[],_,[],_⟩ (by kernel_rfl) b0 q0 (ce (@ev40 (n) (f) (ps)) c0) ?_
 rcases xq H with ⟨d2,H⟩|⟨d2,H⟩
 ·exact Zbf (G:=Zae kp29 [] []) 1000 [true] (tu [AV.vnil,vi (Sp.ZaK n ps)]) (by kernel_rfl) (bc (Zar (i_ne.2 d2)) b0) q0 c0 H
 ·obtain ⟨k3,H⟩:=H
  exact Zab (G:=Zae kp29 [(4,2,.call (vf (List.map Bw.a (Sp.Zct n.toNat ps))) none)] []) 1000 [false] ⟨(atC (cd Try.f29) [1,1,1,1,0,1,0,0]),[(0,vi n),(7,vf (List.map Bw.a (Sp.Zct n.toNat ps))),(8,AV.vnil),(9,vi 0)],[],_,[],_⟩ (by kernel_rfl) (bc (Zaq (fun h => d2 (i_ne.1 h))) b0) q0 (ce (@ev36 (n) (f) (ps) k3) c0) (H)
theorem rClN (n:Int) (fm:Bool) (T:List Bw) (a:Int)  (dq:AV) (H :
  ((a < n) -> ZdT (n) (fm) (T) (a) (0) (Zaf dq)) /\
  (¬(a < n) -> Weak (tu [AV.vnil,vi 0]) dq)) :
 Zel n fm T a (Zaf dq):=by
 unfold Zel
 rcases xq H with ⟨d2,H⟩|⟨d2,H⟩
 ·exact Zab (G:=Zae kp29 [] []) 1000 [true] ⟨(atC (cd Try.f29) [1,1,1,1,0,1,0,0,1,0,0,1,0,0]),[(0,vi n),(7,AV.vec fm 1 (List.map Bw.a T)),(8,AV.vnil),(9,vi a),(10,vi 0)],[],_,[],_⟩ (by kernel_rfl) (bc (Zar (Zaa.2 d2)) b0) q0 c0 (H)
 ·exact Zbf (G:=Zae kp29 [] []) 1000 [false] (tu [AV.vnil,vi 0]) (by kernel_rfl) (bc (Zaq (fun h => d2 (Zaa.1 h))) b0) q0 c0 H
theorem rClNi (n:Int) (fm:Bool) (T:List Bw) (a b:Int)  (dq:AV) (H :
  ((b < n) -> (0 <= a) /\
   (a.toNat < T.length) /\
   (0 <= b) /\
   (b.toNat < (T.getD a.toNat default).1.length) /\
   (((T.getD a.toNat default).1.getD b.toNat default = true) -> (-9223372036854775808 <= b + 1 /\ b + 1 <= 9223372036854775807) /\
    ZcB (n) (fm) (T) ([{ a:=a,b:=b }]) (0) (a) (b + 1) (Zaf dq)) /\
   (¬((T.getD a.toNat default).1.getD b.toNat default = true) -> (-9223372036854775808 <= b + 1 /\ b + 1 <= 9223372036854775807) /\
    ZdT (n) (fm) (T) (a) (b + 1) (Zaf dq))) /\
  (¬(b < n) -> (-9223372036854775808 <= a + 1 /\ a + 1 <= 9223372036854775807) /\
   Zel (n) (fm) (T) (a + 1) (Zaf dq))) :
 ZdT n fm T a b (Zaf dq):=by
 unfold ZdT
 rcases xq H with ⟨d2,H⟩|⟨d2,H⟩
 ·obtain ⟨k4,H⟩:=H
  have w5:(List.map Bw.a T).length = T.length:=List.length_map ..
  have i6:(decide (a.toNat < (List.map Bw.a T).length)) = true ↔ (a.toNat < T.length):=(by (try rw [w5]);all_goals exact Zaa)
  obtain ⟨k7,k9,H⟩:=H
  have w10:(List.map vb (T.getD a.toNat default).1).length = (T.getD a.toNat default).1.length:=List.length_map ..
  have i11:(decide (b.toNat < (List.map vb (T.getD a.toNat default).1).length)) = true ↔ (b.toNat < (T.getD a.toNat default).1.length):=(by (try rw [w10]);all_goals exact Zaa)
  obtain ⟨k12,H⟩:=H
  refine Zab (G:=Zae kp29 [(12,3,.elem (vf (List.map vb (T.getD a.toNat default).1))),(12,6,.elem (vb ((T.getD a.toNat default).1.getD b.toNat default)))] []) 9 [true] ⟨(atC (cd Try.f29) [1,1,1,1,0,1,0,0,1,0,0,1,0,0,1,0,0,1]),[(0,vi n),(7,AV.vec fm 1 (List.map Bw.a T)),(8,AV.vnil),(9,vi a),(10,vi b),(36,vb ((T.getD a.toNat default).1.getD b.toNat default))],[],_,[((List.map Bw.a T).get?Internal a.toNat = some (vf (List.map vb (T.getD a.toNat default).1))),((List.map vb (T.getD a.toNat default).1).get?Internal b.toNat = some (vb ((T.getD a.toNat default).1.getD b.toNat default)))],_⟩ (by kernel_rfl) (bc (Zar (Zaa.2 d2)) (bc (Zaa.2 k4) (bc (i6.2 k7) (bc (Zaa.2 k9) (bc (i11.2 k12) b0))))) (qc (Zal k7) (qc (Zal k12) q0)) c0 ?_
  rcases xq H with ⟨d14,H⟩|⟨d14,H⟩
  ·obtain ⟨k15,H⟩:=H
   have w16:wi (b + 1) = b + 1:=wI64 k15
   have w17:[ag [vi a,vi b]] = List.map Pr.v [{ a:=a,b:=b }]:=rfl
   exact Zab (G:=Zae kp29 [] []) 1000 [true] ⟨(atC (cd Try.f29) [1,1,1,1,0,1,0,0,1,0,0,1,0,0]),[(0,vi n),(7,AV.vec fm 1 (List.map Bw.a T)),(8,AV.row 0 0),(9,vi a),(10,vi (wi (b + 1)))],[⟨[ag [vi a,vi b]],2,0,false,true⟩],[((T.getD a.toNat default).1.getD b.toNat default) == true,true],[],_⟩ (by kernel_rfl) (bc (Zar ((Zag _).2 d14)) (bc rfl b0)) q0 c0 (by (try rw [w16]);(try rw [w17]);all_goals exact H)
  ·obtain ⟨k18,H⟩:=H
   have w19:wi (b + 1) = b + 1:=wI64 k18
   exact Zab (G:=Zae kp29 [] []) 1000 [false] ⟨(atC (cd Try.f29) [1,1,1,1,0,1,0,0,1,0,0,1,0,0]),[(0,vi n),(7,AV.vec fm 1 (List.map Bw.a T)),(8,AV.vnil),(9,vi a),(10,vi (wi (b + 1)))],[],[((T.getD a.toNat default).1.getD b.toNat default) == false],[],_⟩ (by kernel_rfl) (bc (Zaq (fun h => d14 ((Zag _).1 h))) b0) q0 c0 (by (try rw [w19]);all_goals exact H)
 ·obtain ⟨k20,H⟩:=H
  have w21:wi (a + 1) = a + 1:=wI64 k20
  exact Zab (G:=Zae kp29 [] []) 1000 [false] ⟨(atC (cd Try.f29) [1,1,1,1,0,1,0,0]),[(0,vi n),(7,AV.vec fm 1 (List.map Bw.a T)),(8,AV.vnil),(9,vi (wi (a + 1)))],[],_,[],_⟩ (by kernel_rfl) (bc (Zaq (fun h => d2 (Zaa.1 h))) b0) q0 c0 (by (try rw [w21]);all_goals exact H)
theorem rClR (n:Int) (fm:Bool) (T:List Bw) (P:List Pr) (v:Nat) (a:Int)  (dq:AV) (H :
  ((a < n) -> ZcB (n) (fm) (T) (P) (v) (a) (0) (Zaf dq)) /\
  (¬(a < n) -> Weak (tu [AV.vec false 2 (List.map Pr.v P),vi 0]) dq)) :
 rClR_at n fm T P v a (Zaf dq):=by
 unfold rClR_at
 rcases xq H with ⟨d2,H⟩|⟨d2,H⟩
 ·exact Zab (G:=Zae kp29 [] []) 1000 [true] ⟨(atC (cd Try.f29) [1,1,1,1,0,1,0,0,1,0,0,1,0,0]),[(0,vi n),(7,AV.vec fm 1 (List.map Bw.a T)),(8,AV.row 0 v),(9,vi a),(10,vi 0)],[⟨List.map Pr.v P,2,v,false,true⟩],_,[],_⟩ (by kernel_rfl) (bc (Zar (Zaa.2 d2)) b0) q0 c0 (H)
 ·exact ZaW (G:=Zae kp29 [] []) 1000 [false] (k:=((atC (cd Try.f29) [1,1,1,1,1,1])).tail) (env':=[(4,AV.row 0 v),(5,vi 0)]) (L':=[⟨List.map Pr.v P,2,v,false,true⟩]) (asm:=[(decide (a < n)) == false]) (eqs:=[]) (calls:=[]) (tu [AV.row 0 v,vi 0]) (by kernel_rfl) (by kernel_rfl) (Zam (Zaq (fun h => d2 (Zaa.1 h))) Zas) ZaQ ZaR (Zdu (d:=(tu [AV.vec false 2 (List.map Pr.v P),vi 0])) (bs:=[v == v]) (by kernel_rfl) (by kernel_rfl) (Zam (beq_self_eq_true _) Zas) (by kernel_rfl) H)
theorem rClRi (n:Int) (fm:Bool) (T:List Bw) (P:List Pr) (v:Nat) (a b:Int)  (dq:AV) (H :
  ((b < n) -> (0 <= a) /\
   (a.toNat < T.length) /\
   (0 <= b) /\
   (b.toNat < (T.getD a.toNat default).1.length) /\
   (((T.getD a.toNat default).1.getD b.toNat default = true) -> ((P.length + 1) * 16 <= 1099511627776) /\
    (-9223372036854775808 <= b + 1 /\ b + 1 <= 9223372036854775807) /\
    ZcB (n) (fm) (T) (P ++ [{ a:=a,b:=b }]) (v + 1) (a) (b + 1) (Zaf dq)) /\
   (¬((T.getD a.toNat default).1.getD b.toNat default = true) -> (-9223372036854775808 <= b + 1 /\ b + 1 <= 9223372036854775807) /\
    ZcB (n) (fm) (T) (P) (v) (a) (b + 1) (Zaf dq))) /\
  (¬(b < n) -> (-9223372036854775808 <= a + 1 /\ a + 1 <= 9223372036854775807) /\
   rClR_at (n) (fm) (T) (P) (v) (a + 1) (Zaf dq))) :
 ZcB n fm T P v a b (Zaf dq):=by
 unfold ZcB
 rcases xq H with ⟨d2,H⟩|⟨d2,H⟩
 ·obtain ⟨k4,H⟩:=H
  have w5:(List.map Bw.a T).length = T.length:=List.length_map ..
  have i6:(decide (a.toNat < (List.map Bw.a T).length)) = true ↔ (a.toNat < T.length):=(by (try rw [w5]);all_goals exact Zaa)
  obtain ⟨k7,k9,H⟩:=H
  have w10:(List.map vb (T.getD a.toNat default).1).length = (T.getD a.toNat default).1.length:=List.length_map ..
  have i11:(decide (b.toNat < (List.map vb (T.getD a.toNat default).1).length)) = true ↔ (b.toNat < (T.getD a.toNat default).1.length):=(by (try rw [w10]);all_goals exact Zaa)
  obtain ⟨k12,H⟩:=H
  refine Zab (G:=Zae kp29 [(12,3,.elem (vf (List.map vb (T.getD a.toNat default).1))),(12,6,.elem (vb ((T.getD a.toNat default).1.getD b.toNat default)))] []) 9 [true] ⟨(atC (cd Try.f29) [1,1,1,1,0,1,0,0,1,0,0,1,0,0,1,0,0,1]),[(0,vi n),(7,AV.vec fm 1 (List.map Bw.a T)),(8,AV.row 0 v),(9,vi a),(10,vi b),(36,vb ((T.getD a.toNat default).1.getD b.toNat default))],[⟨List.map Pr.v P,2,v,false,true⟩],_,[((List.map Bw.a T).get?Internal a.toNat = some (vf (List.map vb (T.getD a.toNat default).1))),((List.map vb (T.getD a.toNat default).1).get?Internal b.toNat = some (vb ((T.getD a.toNat default).1.getD b.toNat default)))],_⟩ (by kernel_rfl) (bc (Zar (Zaa.2 d2)) (bc (Zaa.2 k4) (bc (i6.2 k7) (bc (Zaa.2 k9) (bc (i11.2 k12) b0))))) (qc (Zal k7) (qc (Zal k12) q0)) c0 ?_
  rcases xq H with ⟨d14,H⟩|⟨d14,H⟩
  ·have w15:(List.map Pr.v P).length = P.length:=List.length_map ..
   have i16:(decide (((List.map Pr.v P).length + 1) * 16 <= 1099511627776)) = true ↔ ((P.length + 1) * 16 <= 1099511627776):=(by (try rw [w15]);all_goals exact Zaa)
   obtain ⟨k17,H⟩:=H
   have w18:List.map Pr.v P ++ [ag [vi a,vi b]] = List.map Pr.v (P ++ [{ a:=a,b:=b }]):=(Zd2 rfl rfl)
   obtain ⟨k19,H⟩:=H
   have w20:wi (b + 1) = b + 1:=wI64 k19
   exact Zab (G:=Zae kp29 [] []) 1000 [true] ⟨(atC (cd Try.f29) [1,1,1,1,0,1,0,0,1,0,0,1,0,0]),[(0,vi n),(7,AV.vec fm 1 (List.map Bw.a T)),(8,AV.row 0 (v + 1)),(9,vi a),(10,vi (wi (b + 1)))],[⟨List.map Pr.v P ++ [ag [vi a,vi b]],2,v + 1,false,true⟩],[((T.getD a.toNat default).1.getD b.toNat default) == true,v == v,decide (((List.map Pr.v P).length + 1) * 16 <= 1099511627776)],[],_⟩ (by kernel_rfl) (bc (Zar ((Zag _).2 d14)) (bc (beq_self_eq_true _) (bc (i16.2 k17) b0))) q0 c0 (by (try rw [w18]);(try rw [w20]);all_goals exact H)
  ·obtain ⟨k21,H⟩:=H
   have w22:wi (b + 1) = b + 1:=wI64 k21
   exact Zab (G:=Zae kp29 [] []) 1000 [false] ⟨(atC (cd Try.f29) [1,1,1,1,0,1,0,0,1,0,0,1,0,0]),[(0,vi n),(7,AV.vec fm 1 (List.map Bw.a T)),(8,AV.row 0 v),(9,vi a),(10,vi (wi (b + 1)))],[⟨List.map Pr.v P,2,v,false,true⟩],[((T.getD a.toNat default).1.getD b.toNat default) == false],[],_⟩ (by kernel_rfl) (bc (Zaq (fun h => d14 ((Zag _).1 h))) b0) q0 c0 (by (try rw [w22]);all_goals exact H)
 ·obtain ⟨k23,H⟩:=H
  have w24:wi (a + 1) = a + 1:=wI64 k23
  exact Zab (G:=Zae kp29 [] []) 1000 [false] ⟨(atC (cd Try.f29) [1,1,1,1,0,1,0,0]),[(0,vi n),(7,AV.vec fm 1 (List.map Bw.a T)),(8,AV.row 0 v),(9,vi (wi (a + 1)))],[⟨List.map Pr.v P,2,v,false,true⟩],_,[],_⟩ (by kernel_rfl) (bc (Zaq (fun h => d2 (Zaa.1 h))) b0) q0 c0 (by (try rw [w24]);all_goals exact H)
theorem rRe (n:Int) (f:Bool) (ps:List Pr)  (dq:AV) (H :
  ∃ (l1:List (Pr)) (n1:Int),
  (Ev M1 (Conf.pure 29 [vi n,AV.vec f 2 (List.map Pr.v ps)]) (tu [AV.vec false 2 (List.map Pr.v l1),vi n1]) []) /\
  ((¬n1 = 0) -> Weak (tu [AV.vnil,vi n1]) dq) /\
  (¬(¬n1 = 0) -> (Sp.vd n ps = 0) /\
   Zek (n) (false) (l1) (false) (Sp.Zct n.toNat ps) (0) (Zaf dq))) :
 rRe_at n f ps (Zaf dq):=by
 unfold rRe_at
 obtain ⟨l1,n1,k1,H⟩:=H
 refine Zab (G:=Zae kp31 [(1,2,.call (tu [AV.vec false 2 (List.map Pr.v l1),vi n1]) none)] []) 7 [] ⟨(atC (cd Try.f31) [1,1,0,1]),[(0,vi n),(1,AV.vec f 2 (List.map Pr.v ps)),(6,AV.vec false 2 (List.map Pr.v l1)),(7,vi n1),(20,vb (n1 != 0))],[],_,[],_⟩ (by kernel_rfl) b0 q0 (ce k1 c0) ?_
 rcases xq H with ⟨d3,H⟩|⟨d3,H⟩
 ·exact Zbf (G:=Zae kp31 [] []) 1000 [true] (tu [AV.vnil,vi n1]) (by kernel_rfl) (bc (Zar (i_ne.2 d3)) b0) q0 c0 H
 ·obtain ⟨k4,H⟩:=H
  exact Zab (G:=Zae kp31 [(4,2,.call (vf (List.map Bw.a (Sp.Zct n.toNat ps))) none)] []) 1000 [false] ⟨(atC (cd Try.f31) [1,1,1,1,1,0,1,0,0]),[(0,vi n),(6,AV.vec false 2 (List.map Pr.v l1)),(8,vf (List.map Bw.a (Sp.Zct n.toNat ps))),(9,AV.vnil),(10,vi 0)],[],_,[],_⟩ (by kernel_rfl) (bc (Zaq (fun h => d3 (i_ne.1 h))) b0) q0 (ce (@ev36 (n) (f) (ps) k4) c0) (H)
theorem rReN (n:Int) (g:Bool) (G:List Pr) (fm:Bool) (T:List Bw) (i:Int)  (dq:AV) (H :
  ((i < (↑G.length:Int)) -> ZdS (n) (g) (G) (fm) (T) (i) (false) (0) (Zaf dq)) /\
  (¬(i < (↑G.length:Int)) -> Weak (tu [AV.vnil,vi 0]) dq)) :
 Zek n g G fm T i (Zaf dq):=by
 unfold Zek
 have w1:(List.map Pr.v G).length = G.length:=List.length_map ..
 have i2:(decide (i < (↑(List.map Pr.v G).length:Int))) = true ↔ (i < (↑G.length:Int)):=(by (try rw [w1]);all_goals exact Zaa)
 rcases xq H with ⟨d3,H⟩|⟨d3,H⟩
 ·exact Zab (G:=Zae kp31 [] []) 1000 [true] ⟨(atC (cd Try.f31) [1,1,1,1,1,0,1,0,0,1,0,0,1,0,1,0,0]),[(0,vi n),(6,AV.vec g 2 (List.map Pr.v G)),(8,AV.vec fm 1 (List.map Bw.a T)),(9,AV.vnil),(10,vi i),(11,vb false),(12,vi 0)],[],_,[],_⟩ (by kernel_rfl) (bc (Zar (i2.2 d3)) b0) q0 c0 (H)
 ·exact Zbf (G:=Zae kp31 [] []) 1000 [false] (tu [AV.vnil,vi 0]) (by kernel_rfl) (bc (Zaq (fun h => d3 (i2.1 h))) b0) q0 c0 H
noncomputable abbrev zPxU1 (G:List Pr) (i:Int):=ag [vi (G.getD i.toNat default).a,vi (G.getD i.toNat default).b]
theorem rReNi (n:Int) (g:Bool) (G:List Pr) (fm:Bool) (T:List Bw) (i:Int) (w:Bool) (c:Int)  (dq:AV) (H :
  ((c < n) -> ((¬(w = true)) -> (0 <= i)) /\
   ((¬(w = true)) -> (i.toNat < G.length)) /\
   ((¬(w = true)) -> (0 <= (G.getD i.toNat default).a)) /\
   ((¬(w = true)) -> ((G.getD i.toNat default).a.toNat < T.length)) /\
   ((¬(w = true)) -> (0 <= c)) /\
   ((¬(w = true)) -> (c.toNat < (T.getD (G.getD i.toNat default).a.toNat default).1.length)) /\
   ((((T.getD (G.getD i.toNat default).a.toNat default).1.getD c.toNat default = true) /\ (¬(w = true))) -> (0 <= c)) /\
   ((((T.getD (G.getD i.toNat default).a.toNat default).1.getD c.toNat default = true) /\ (¬(w = true))) -> (c.toNat < T.length)) /\
   ((((T.getD (G.getD i.toNat default).a.toNat default).1.getD c.toNat default = true) /\ (¬(w = true))) -> (0 <= i)) /\
   ((((T.getD (G.getD i.toNat default).a.toNat default).1.getD c.toNat default = true) /\ (¬(w = true))) -> (i.toNat < G.length)) /\
   ((((T.getD (G.getD i.toNat default).a.toNat default).1.getD c.toNat default = true) /\ (¬(w = true))) -> (0 <= (G.getD i.toNat default).b)) /\
   ((((T.getD (G.getD i.toNat default).a.toNat default).1.getD c.toNat default = true) /\ (¬(w = true))) -> ((G.getD i.toNat default).b.toNat < (T.getD c.toNat default).1.length)) /\
   (-9223372036854775808 <= c + 1 /\ c + 1 <= 9223372036854775807) /\
   ZdS (n) (g) (G) (fm) (T) (i) (bif w then true else bif (T.getD (G.getD i.toNat default).a.toNat default).1.getD c.toNat default then (T.getD c.toNat default).1.getD (G.getD i.toNat default).b.toNat default else false) (c + 1) (Zaf dq)) /\
  (¬(c < n) -> ((¬(w = true)) -> (0 <= i) /\
    (i.toNat < G.length) /\
    (-9223372036854775808 <= i + 1 /\ i + 1 <= 9223372036854775807) /\
    ZcA (n) (g) (G) (fm) (T) ([G.getD i.toNat default]) (0) (i + 1) (Zaf dq)) /\
   (¬(¬(w = true)) -> (-9223372036854775808 <= i + 1 /\ i + 1 <= 9223372036854775807) /\
    Zek (n) (g) (G) (fm) (T) (i + 1) (Zaf dq)))) :
 ZdS n g G fm T i w c (Zaf dq):=by
 unfold ZdS
 rcases xq H with ⟨d2,H⟩|⟨d2,H⟩
 ·obtain ⟨k4,H⟩:=H
  have w5:(List.map Pr.v G).length = G.length:=List.length_map ..
  have i6:(!(w == false && true) || decide (i.toNat < (List.map Pr.v G).length)) = true ↔ ((¬(w = true)) -> (i.toNat < G.length)):=(by (try rw [w5]);all_goals exact (ZaD (i_at (i_bf (Zag _))) Zaa))
  obtain ⟨k7,k9,H⟩:=H
  have w10:(List.map Bw.a T).length = T.length:=List.length_map ..
  have i11:(!(w == false && true) || decide ((G.getD i.toNat default).a.toNat < (List.map Bw.a T).length)) = true ↔ ((¬(w = true)) -> ((G.getD i.toNat default).a.toNat < T.length)):=(by (try rw [w10]);all_goals exact (ZaD (i_at (i_bf (Zag _))) Zaa))
  obtain ⟨k12,k14,H⟩:=H
  have w15:(List.map vb (T.getD (G.getD i.toNat default).a.toNat default).1).length = (T.getD (G.getD i.toNat default).a.toNat default).1.length:=List.length_map ..
  have i16:(!(w == false && true) || decide (c.toNat < (List.map vb (T.getD (G.getD i.toNat default).a.toNat default).1).length)) = true ↔ ((¬(w = true)) -> (c.toNat < (T.getD (G.getD i.toNat default).a.toNat default).1.length)):=(by (try rw [w15]);all_goals exact (ZaD (i_at (i_bf (Zag _))) Zaa))
  obtain ⟨k17,k19,H⟩:=H
  have i20:(!((T.getD (G.getD i.toNat default).a.toNat default).1.getD c.toNat default == true && (w == false && true)) || decide (c.toNat < (List.map Bw.a T).length)) = true ↔ ((((T.getD (G.getD i.toNat default).a.toNat default).1.getD c.toNat default = true) /\ (¬(w = true))) -> (c.toNat < T.length)):=(by (try rw [w10]);all_goals exact (ZaD (Za9 (i_bt (Zag _)) (i_at (i_bf (Zag _)))) Zaa))
  obtain ⟨k21,k23,H⟩:=H
  have i24:(!((T.getD (G.getD i.toNat default).a.toNat default).1.getD c.toNat default == true && (w == false && true)) || decide (i.toNat < (List.map Pr.v G).length)) = true ↔ ((((T.getD (G.getD i.toNat default).a.toNat default).1.getD c.toNat default = true) /\ (¬(w = true))) -> (i.toNat < G.length)):=(by (try rw [w5]);all_goals exact (ZaD (Za9 (i_bt (Zag _)) (i_at (i_bf (Zag _)))) Zaa))
  obtain ⟨k25,k27,H⟩:=H
  have w28:(List.map vb (T.getD c.toNat default).1).length = (T.getD c.toNat default).1.length:=List.length_map ..
  have i29:(!((T.getD (G.getD i.toNat default).a.toNat default).1.getD c.toNat default == true && (w == false && true)) || decide ((G.getD i.toNat default).b.toNat < (List.map vb (T.getD c.toNat default).1).length)) = true ↔ ((((T.getD (G.getD i.toNat default).a.toNat default).1.getD c.toNat default = true) /\ (¬(w = true))) -> ((G.getD i.toNat default).b.toNat < (T.getD c.toNat default).1.length)):=(by (try rw [w28]);all_goals exact (ZaD (Za9 (i_bt (Zag _)) (i_at (i_bf (Zag _)))) Zaa))
  obtain ⟨k30,k37,H⟩:=H
  have w38:wi (c + 1) = c + 1:=wI64 k37
  exact Zab (G:=Zae kp31 [(13,7,.elem (zPxU1 G i)),(13,9,.elem (vf (List.map vb (T.getD (G.getD i.toNat default).a.toNat default).1))),(13,12,.elem (vb ((T.getD (G.getD i.toNat default).a.toNat default).1.getD c.toNat default))),(13,17,.elem (vf (List.map vb (T.getD c.toNat default).1))),(13,22,.elem (zPxU1 G i)),(13,24,.elem (vb ((T.getD c.toNat default).1.getD (G.getD i.toNat default).b.toNat default)))] []) 1000 [true] ⟨(atC (cd Try.f31) [1,1,1,1,1,0,1,0,0,1,0,0,1,0,1,0,0]),[(0,vi n),(6,AV.vec g 2 (List.map Pr.v G)),(8,AV.vec fm 1 (List.map Bw.a T)),(9,AV.vnil),(10,vi i),(11,vb (bif w then true else bif (T.getD (G.getD i.toNat default).a.toNat default).1.getD c.toNat default then (T.getD c.toNat default).1.getD (G.getD i.toNat default).b.toNat default else false)),(12,vi (wi (c + 1)))],[],[(decide (c < n)) == true,!(w == false && true) || decide (0 <= i),!(w == false && true) || decide (i.toNat < (List.map Pr.v G).length),!(w == false && true) || true,!(w == false && true) || true,!(w == false && true) || decide (0 <= (G.getD i.toNat default).a),!(w == false && true) || decide ((G.getD i.toNat default).a.toNat < (List.map Bw.a T).length),!(w == false && true) || decide (0 <= c),!(w == false && true) || decide (c.toNat < (List.map vb (T.getD (G.getD i.toNat default).a.toNat default).1).length),!((T.getD (G.getD i.toNat default).a.toNat default).1.getD c.toNat default == true && (w == false && true)) || decide (0 <= c),!((T.getD (G.getD i.toNat default).a.toNat default).1.getD c.toNat default == true && (w == false && true)) || decide (c.toNat < (List.map Bw.a T).length),!((T.getD (G.getD i.toNat default).a.toNat default).1.getD c.toNat default == true && (w == false && true)) || decide (0 <= i),!((T.getD (G.getD i.toNat default).a.toNat default).1.getD c.toNat default == true && (w == false && true)) || decide (i.toNat < (List.map Pr.v G).length),!((T.getD (G.getD i.toNat default).a.toNat default).1.getD c.toNat default == true && (w == false && true)) || true,!((T.getD (G.getD i.toNat default).a.toNat default).1.getD c.toNat default == true && (w == false && true)) || true,!((T.getD (G.getD i.toNat default).a.toNat default).1.getD c.toNat default == true && (w == false && true)) || decide (0 <= (G.getD i.toNat default).b),!((T.getD (G.getD i.toNat default).a.toNat default).1.getD c.toNat default == true && (w == false && true)) || decide ((G.getD i.toNat default).b.toNat < (List.map vb (T.getD c.toNat default).1).length)],[((w == false && true) = true -> (List.map Pr.v G).get?Internal i.toNat = some (zPxU1 G i)),((w == false && true) = true -> (List.map Bw.a T).get?Internal (G.getD i.toNat default).a.toNat = some (vf (List.map vb (T.getD (G.getD i.toNat default).a.toNat default).1))),((w == false && true) = true -> (List.map vb (T.getD (G.getD i.toNat default).a.toNat default).1).get?Internal c.toNat = some (vb ((T.getD (G.getD i.toNat default).a.toNat default).1.getD c.toNat default))),(((T.getD (G.getD i.toNat default).a.toNat default).1.getD c.toNat default == true && (w == false && true)) = true -> (List.map Bw.a T).get?Internal c.toNat = some (vf (List.map vb (T.getD c.toNat default).1))),(((T.getD (G.getD i.toNat default).a.toNat default).1.getD c.toNat default == true && (w == false && true)) = true -> (List.map Pr.v G).get?Internal i.toNat = some (zPxU1 G i)),(((T.getD (G.getD i.toNat default).a.toNat default).1.getD c.toNat default == true && (w == false && true)) = true -> (List.map vb (T.getD c.toNat default).1).get?Internal (G.getD i.toNat default).b.toNat = some (vb ((T.getD c.toNat default).1.getD (G.getD i.toNat default).b.toNat default)))],_⟩ (by kernel_rfl) (bc (Zar (Zaa.2 d2)) (bc ((ZaD (i_at (i_bf (Zag _))) Zaa).2 k4) (bc (i6.2 k7) (bc (Bool.or_true _) (bc (Bool.or_true _) (bc ((ZaD (i_at (i_bf (Zag _))) Zaa).2 k9) (bc (i11.2 k12) (bc ((ZaD (i_at (i_bf (Zag _))) Zaa).2 k14) (bc (i16.2 k17) (bc ((ZaD (Za9 (i_bt (Zag _)) (i_at (i_bf (Zag _)))) Zaa).2 k19) (bc (i20.2 k21) (bc ((ZaD (Za9 (i_bt (Zag _)) (i_at (i_bf (Zag _)))) Zaa).2 k23) (bc (i24.2 k25) (bc (Bool.or_true _) (bc (Bool.or_true _) (bc ((ZaD (Za9 (i_bt (Zag _)) (i_at (i_bf (Zag _)))) Zaa).2 k27) (bc (i29.2 k30) b0))))))))))))))))) (qc (fun h => Zal (k7 ((i_at (i_bf (Zag _))).1 h))) (qc (fun h => Zal (k12 ((i_at (i_bf (Zag _))).1 h))) (qc (fun h => Zal (k17 ((i_at (i_bf (Zag _))).1 h))) (qc (fun h => Zal (k21 ((Za9 (i_bt (Zag _)) (i_at (i_bf (Zag _)))).1 h))) (qc (fun h => Zal (k25 ((Za9 (i_bt (Zag _)) (i_at (i_bf (Zag _)))).1 h))) (qc (fun h => Zal (k30 ((Za9 (i_bt (Zag _)) (i_at (i_bf (Zag _)))).1 h))) q0)))))) c0 (by (try rw [w38]);all_goals exact H)
 ·rcases xq H with ⟨d40,H⟩|⟨d40,H⟩
  ·obtain ⟨k42,H⟩:=H
   have w43:(List.map Pr.v G).length = G.length:=List.length_map ..
   have i44:(decide (i.toNat < (List.map Pr.v G).length)) = true ↔ (i.toNat < G.length):=(by (try rw [w43]);all_goals exact Zaa)
   obtain ⟨k45,k46,H⟩:=H
   have w47:wi (i + 1) = i + 1:=wI64 k46
   have w48:[ag [vi (G.getD i.toNat default).a,vi (G.getD i.toNat default).b]] = List.map Pr.v [G.getD i.toNat default]:=rfl
   exact Zab (G:=Zae kp31 [(15,4,.elem (zPxU1 G i))] []) 1000 [false,true] ⟨(atC (cd Try.f31) [1,1,1,1,1,0,1,0,0]),[(0,vi n),(6,AV.vec g 2 (List.map Pr.v G)),(8,AV.vec fm 1 (List.map Bw.a T)),(9,AV.row 0 0),(10,vi (wi (i + 1)))],[⟨[ag [vi (G.getD i.toNat default).a,vi (G.getD i.toNat default).b]],2,0,false,true⟩],[(decide (c < n)) == false,(!w) == true,decide (0 <= i),decide (i.toNat < (List.map Pr.v G).length),true],[((List.map Pr.v G).get?Internal i.toNat = some (zPxU1 G i))],_⟩ (by kernel_rfl) (bc (Zaq (fun h => d2 (Zaa.1 h))) (bc (Zar ((ZfY (Zag _)).2 d40)) (bc (Zaa.2 k42) (bc (i44.2 k45) (bc rfl b0))))) (qc (Zal k45) q0) c0 (by (try rw [w47]);(try rw [w48]);all_goals exact H)
  ·obtain ⟨k49,H⟩:=H
   have w50:wi (i + 1) = i + 1:=wI64 k49
   exact Zab (G:=Zae kp31 [] []) 1000 [false,false] ⟨(atC (cd Try.f31) [1,1,1,1,1,0,1,0,0]),[(0,vi n),(6,AV.vec g 2 (List.map Pr.v G)),(8,AV.vec fm 1 (List.map Bw.a T)),(9,AV.vnil),(10,vi (wi (i + 1)))],[],[(decide (c < n)) == false,(!w) == false],[],_⟩ (by kernel_rfl) (bc (Zaq (fun h => d2 (Zaa.1 h))) (bc (Zaq (fun h => d40 ((ZfY (Zag _)).1 h))) b0)) q0 c0 (by (try rw [w50]);all_goals exact H)
theorem rReR (n:Int) (g:Bool) (G:List Pr) (fm:Bool) (T:List Bw) (P:List Pr) (v:Nat) (i:Int)  (dq:AV) (H :
  ((i < (↑G.length:Int)) -> ZdR (n) (g) (G) (fm) (T) (P) (v) (i) (false) (0) (Zaf dq)) /\
  (¬(i < (↑G.length:Int)) -> Weak (tu [AV.vec false 2 (List.map Pr.v P),vi 0]) dq)) :
 ZcA n g G fm T P v i (Zaf dq):=by
 unfold ZcA
 have w1:(List.map Pr.v G).length = G.length:=List.length_map ..
 have i2:(decide (i < (↑(List.map Pr.v G).length:Int))) = true ↔ (i < (↑G.length:Int)):=(by (try rw [w1]);all_goals exact Zaa)
 rcases xq H with ⟨d3,H⟩|⟨d3,H⟩
 ·exact Zab (G:=Zae kp31 [] []) 1000 [true] ⟨(atC (cd Try.f31) [1,1,1,1,1,0,1,0,0,1,0,0,1,0,1,0,0]),[(0,vi n),(6,AV.vec g 2 (List.map Pr.v G)),(8,AV.vec fm 1 (List.map Bw.a T)),(9,AV.row 0 v),(10,vi i),(11,vb false),(12,vi 0)],[⟨List.map Pr.v P,2,v,false,true⟩],_,[],_⟩ (by kernel_rfl) (bc (Zar (i2.2 d3)) b0) q0 c0 (H)
 ·exact ZaW (G:=Zae kp31 [] []) 1000 [false] (k:=((atC (cd Try.f31) [1,1,1,1,1,1,1])).tail) (env':=[(4,AV.row 0 v),(5,vi 0)]) (L':=[⟨List.map Pr.v P,2,v,false,true⟩]) (asm:=[(decide (i < (↑(List.map Pr.v G).length:Int))) == false]) (eqs:=[]) (calls:=[]) (tu [AV.row 0 v,vi 0]) (by kernel_rfl) (by kernel_rfl) (Zam (Zaq (fun h => d3 (i2.1 h))) Zas) ZaQ ZaR (Zdu (d:=(tu [AV.vec false 2 (List.map Pr.v P),vi 0])) (bs:=[v == v]) (by kernel_rfl) (by kernel_rfl) (Zam (beq_self_eq_true _) Zas) (by kernel_rfl) H)
noncomputable abbrev zPxU2 (G:List Pr) (i:Int):=ag [vi (G.getD i.toNat default).a,vi (G.getD i.toNat default).b]
theorem rReRi (n:Int) (g:Bool) (G:List Pr) (fm:Bool) (T:List Bw) (P:List Pr) (v:Nat) (i:Int) (w:Bool) (c:Int)  (dq:AV) (H :
  ((c < n) -> ((¬(w = true)) -> (0 <= i)) /\
   ((¬(w = true)) -> (i.toNat < G.length)) /\
   ((¬(w = true)) -> (0 <= (G.getD i.toNat default).a)) /\
   ((¬(w = true)) -> ((G.getD i.toNat default).a.toNat < T.length)) /\
   ((¬(w = true)) -> (0 <= c)) /\
   ((¬(w = true)) -> (c.toNat < (T.getD (G.getD i.toNat default).a.toNat default).1.length)) /\
   ((((T.getD (G.getD i.toNat default).a.toNat default).1.getD c.toNat default = true) /\ (¬(w = true))) -> (0 <= c)) /\
   ((((T.getD (G.getD i.toNat default).a.toNat default).1.getD c.toNat default = true) /\ (¬(w = true))) -> (c.toNat < T.length)) /\
   ((((T.getD (G.getD i.toNat default).a.toNat default).1.getD c.toNat default = true) /\ (¬(w = true))) -> (0 <= i)) /\
   ((((T.getD (G.getD i.toNat default).a.toNat default).1.getD c.toNat default = true) /\ (¬(w = true))) -> (i.toNat < G.length)) /\
   ((((T.getD (G.getD i.toNat default).a.toNat default).1.getD c.toNat default = true) /\ (¬(w = true))) -> (0 <= (G.getD i.toNat default).b)) /\
   ((((T.getD (G.getD i.toNat default).a.toNat default).1.getD c.toNat default = true) /\ (¬(w = true))) -> ((G.getD i.toNat default).b.toNat < (T.getD c.toNat default).1.length)) /\
   (-9223372036854775808 <= c + 1 /\ c + 1 <= 9223372036854775807) /\
   ZdR (n) (g) (G) (fm) (T) (P) (v) (i) (bif w then true else bif (T.getD (G.getD i.toNat default).a.toNat default).1.getD c.toNat default then (T.getD c.toNat default).1.getD (G.getD i.toNat default).b.toNat default else false) (c + 1) (Zaf dq)) /\
  (¬(c < n) -> ((¬(w = true)) -> (0 <= i) /\
    (i.toNat < G.length) /\
    ((P.length + 1) * 16 <= 1099511627776) /\
    (-9223372036854775808 <= i + 1 /\ i + 1 <= 9223372036854775807) /\
    ZcA (n) (g) (G) (fm) (T) (P ++ [G.getD i.toNat default]) (v + 1) (i + 1) (Zaf dq)) /\
   (¬(¬(w = true)) -> (-9223372036854775808 <= i + 1 /\ i + 1 <= 9223372036854775807) /\
    ZcA (n) (g) (G) (fm) (T) (P) (v) (i + 1) (Zaf dq)))) :
 ZdR n g G fm T P v i w c (Zaf dq):=by
 unfold ZdR
 rcases xq H with ⟨d2,H⟩|⟨d2,H⟩
 ·obtain ⟨k4,H⟩:=H
  have w5:(List.map Pr.v G).length = G.length:=List.length_map ..
  have i6:(!(w == false && true) || decide (i.toNat < (List.map Pr.v G).length)) = true ↔ ((¬(w = true)) -> (i.toNat < G.length)):=(by (try rw [w5]);all_goals exact (ZaD (i_at (i_bf (Zag _))) Zaa))
  obtain ⟨k7,k9,H⟩:=H
  have w10:(List.map Bw.a T).length = T.length:=List.length_map ..
  have i11:(!(w == false && true) || decide ((G.getD i.toNat default).a.toNat < (List.map Bw.a T).length)) = true ↔ ((¬(w = true)) -> ((G.getD i.toNat default).a.toNat < T.length)):=(by (try rw [w10]);all_goals exact (ZaD (i_at (i_bf (Zag _))) Zaa))
  obtain ⟨k12,k14,H⟩:=H
  have w15:(List.map vb (T.getD (G.getD i.toNat default).a.toNat default).1).length = (T.getD (G.getD i.toNat default).a.toNat default).1.length:=List.length_map ..
  have i16:(!(w == false && true) || decide (c.toNat < (List.map vb (T.getD (G.getD i.toNat default).a.toNat default).1).length)) = true ↔ ((¬(w = true)) -> (c.toNat < (T.getD (G.getD i.toNat default).a.toNat default).1.length)):=(by (try rw [w15]);all_goals exact (ZaD (i_at (i_bf (Zag _))) Zaa))
  obtain ⟨k17,k19,H⟩:=H
  have i20:(!((T.getD (G.getD i.toNat default).a.toNat default).1.getD c.toNat default == true && (w == false && true)) || decide (c.toNat < (List.map Bw.a T).length)) = true ↔ ((((T.getD (G.getD i.toNat default).a.toNat default).1.getD c.toNat default = true) /\ (¬(w = true))) -> (c.toNat < T.length)):=(by (try rw [w10]);all_goals exact (ZaD (Za9 (i_bt (Zag _)) (i_at (i_bf (Zag _)))) Zaa))
  obtain ⟨k21,k23,H⟩:=H
  have i24:(!((T.getD (G.getD i.toNat default).a.toNat default).1.getD c.toNat default == true && (w == false && true)) || decide (i.toNat < (List.map Pr.v G).length)) = true ↔ ((((T.getD (G.getD i.toNat default).a.toNat default).1.getD c.toNat default = true) /\ (¬(w = true))) -> (i.toNat < G.length)):=(by (try rw [w5]);all_goals exact (ZaD (Za9 (i_bt (Zag _)) (i_at (i_bf (Zag _)))) Zaa))
  obtain ⟨k25,k27,H⟩:=H
  have w28:(List.map vb (T.getD c.toNat default).1).length = (T.getD c.toNat default).1.length:=List.length_map ..
  have i29:(!((T.getD (G.getD i.toNat default).a.toNat default).1.getD c.toNat default == true && (w == false && true)) || decide ((G.getD i.toNat default).b.toNat < (List.map vb (T.getD c.toNat default).1).length)) = true ↔ ((((T.getD (G.getD i.toNat default).a.toNat default).1.getD c.toNat default = true) /\ (¬(w = true))) -> ((G.getD i.toNat default).b.toNat < (T.getD c.toNat default).1.length)):=(by (try rw [w28]);all_goals exact (ZaD (Za9 (i_bt (Zag _)) (i_at (i_bf (Zag _)))) Zaa))
  obtain ⟨k30,k37,H⟩:=H
  have w38:wi (c + 1) = c + 1:=wI64 k37
  exact Zab (G:=Zae kp31 [(13,7,.elem (zPxU2 G i)),(13,9,.elem (vf (List.map vb (T.getD (G.getD i.toNat default).a.toNat default).1))),(13,12,.elem (vb ((T.getD (G.getD i.toNat default).a.toNat default).1.getD c.toNat default))),(13,17,.elem (vf (List.map vb (T.getD c.toNat default).1))),(13,22,.elem (zPxU2 G i)),(13,24,.elem (vb ((T.getD c.toNat default).1.getD (G.getD i.toNat default).b.toNat default)))] []) 1000 [true] ⟨(atC (cd Try.f31) [1,1,1,1,1,0,1,0,0,1,0,0,1,0,1,0,0]),[(0,vi n),(6,AV.vec g 2 (List.map Pr.v G)),(8,AV.vec fm 1 (List.map Bw.a T)),(9,AV.row 0 v),(10,vi i),(11,vb (bif w then true else bif (T.getD (G.getD i.toNat default).a.toNat default).1.getD c.toNat default then (T.getD c.toNat default).1.getD (G.getD i.toNat default).b.toNat default else false)),(12,vi (wi (c + 1)))],[⟨List.map Pr.v P,2,v,false,true⟩],[(decide (c < n)) == true,!(w == false && true) || decide (0 <= i),!(w == false && true) || decide (i.toNat < (List.map Pr.v G).length),!(w == false && true) || true,!(w == false && true) || true,!(w == false && true) || decide (0 <= (G.getD i.toNat default).a),!(w == false && true) || decide ((G.getD i.toNat default).a.toNat < (List.map Bw.a T).length),!(w == false && true) || decide (0 <= c),!(w == false && true) || decide (c.toNat < (List.map vb (T.getD (G.getD i.toNat default).a.toNat default).1).length),!((T.getD (G.getD i.toNat default).a.toNat default).1.getD c.toNat default == true && (w == false && true)) || decide (0 <= c),!((T.getD (G.getD i.toNat default).a.toNat default).1.getD c.toNat default == true && (w == false && true)) || decide (c.toNat < (List.map Bw.a T).length),!((T.getD (G.getD i.toNat default).a.toNat default).1.getD c.toNat default == true && (w == false && true)) || decide (0 <= i),!((T.getD (G.getD i.toNat default).a.toNat default).1.getD c.toNat default == true && (w == false && true)) || decide (i.toNat < (List.map Pr.v G).length),!((T.getD (G.getD i.toNat default).a.toNat default).1.getD c.toNat default == true && (w == false && true)) || true,!((T.getD (G.getD i.toNat default).a.toNat default).1.getD c.toNat default == true && (w == false && true)) || true,!((T.getD (G.getD i.toNat default).a.toNat default).1.getD c.toNat default == true && (w == false && true)) || decide (0 <= (G.getD i.toNat default).b),!((T.getD (G.getD i.toNat default).a.toNat default).1.getD c.toNat default == true && (w == false && true)) || decide ((G.getD i.toNat default).b.toNat < (List.map vb (T.getD c.toNat default).1).length)],[((w == false && true) = true -> (List.map Pr.v G).get?Internal i.toNat = some (zPxU2 G i)),((w == false && true) = true -> (List.map Bw.a T).get?Internal (G.getD i.toNat default).a.toNat = some (vf (List.map vb (T.getD (G.getD i.toNat default).a.toNat default).1))),((w == false && true) = true -> (List.map vb (T.getD (G.getD i.toNat default).a.toNat default).1).get?Internal c.toNat = some (vb ((T.getD (G.getD i.toNat default).a.toNat default).1.getD c.toNat default))),(((T.getD (G.getD i.toNat default).a.toNat default).1.getD c.toNat default == true && (w == false && true)) = true -> (List.map Bw.a T).get?Internal c.toNat = some (vf (List.map vb (T.getD c.toNat default).1))),(((T.getD (G.getD i.toNat default).a.toNat default).1.getD c.toNat default == true && (w == false && true)) = true -> (List.map Pr.v G).get?Internal i.toNat = some (zPxU2 G i)),(((T.getD (G.getD i.toNat default).a.toNat default).1.getD c.toNat default == true && (w == false && true)) = true -> (List.map vb (T.getD c.toNat default).1).get?Internal (G.getD i.toNat default).b.toNat = some (vb ((T.getD c.toNat default).1.getD (G.getD i.toNat default).b.toNat default)))],_⟩ (by kernel_rfl) (bc (Zar (Zaa.2 d2)) (bc ((ZaD (i_at (i_bf (Zag _))) Zaa).2 k4) (bc (i6.2 k7) (bc (Bool.or_true _) (bc (Bool.or_true _) (bc ((ZaD (i_at (i_bf (Zag _))) Zaa).2 k9) (bc (i11.2 k12) (bc ((ZaD (i_at (i_bf (Zag _))) Zaa).2 k14) (bc (i16.2 k17) (bc ((ZaD (Za9 (i_bt (Zag _)) (i_at (i_bf (Zag _)))) Zaa).2 k19) (bc (i20.2 k21) (bc ((ZaD (Za9 (i_bt (Zag _)) (i_at (i_bf (Zag _)))) Zaa).2 k23) (bc (i24.2 k25) (bc (Bool.or_true _) (bc (Bool.or_true _) (bc ((ZaD (Za9 (i_bt (Zag _)) (i_at (i_bf (Zag _)))) Zaa).2 k27) (bc (i29.2 k30) b0))))))))))))))))) (qc (fun h => Zal (k7 ((i_at (i_bf (Zag _))).1 h))) (qc (fun h => Zal (k12 ((i_at (i_bf (Zag _))).1 h))) (qc (fun h => Zal (k17 ((i_at (i_bf (Zag _))).1 h))) (qc (fun h => Zal (k21 ((Za9 (i_bt (Zag _)) (i_at (i_bf (Zag _)))).1 h))) (qc (fun h => Zal (k25 ((Za9 (i_bt (Zag _)) (i_at (i_bf (Zag _)))).1 h))) (qc (fun h => Zal (k30 ((Za9 (i_bt (Zag _)) (i_at (i_bf (Zag _)))).1 h))) q0)))))) c0 (by (try rw [w38]);all_goals exact H)
 ·rcases xq H with ⟨d40,H⟩|⟨d40,H⟩
  ·obtain ⟨k42,H⟩:=H
   have w43:(List.map Pr.v G).length = G.length:=List.length_map ..
   have i44:(decide (i.toNat < (List.map Pr.v G).length)) = true ↔ (i.toNat < G.length):=(by (try rw [w43]);all_goals exact Zaa)
   obtain ⟨k45,H⟩:=H
   have w46:(List.map Pr.v P).length = P.length:=List.length_map ..
   have i47:(decide (((List.map Pr.v P).length + 1) * 16 <= 1099511627776)) = true ↔ ((P.length + 1) * 16 <= 1099511627776):=(by (try rw [w46]);all_goals exact Zaa)
   obtain ⟨k48,H⟩:=H
   have w49:List.map Pr.v P ++ [ag [vi (G.getD i.toNat default).a,vi (G.getD i.toNat default).b]] = List.map Pr.v (P ++ [G.getD i.toNat default]):=(Zd2 rfl rfl)
   obtain ⟨k50,H⟩:=H
   have w51:wi (i + 1) = i + 1:=wI64 k50
   exact Zab (G:=Zae kp31 [(15,4,.elem (zPxU2 G i))] []) 1000 [false,true] ⟨(atC (cd Try.f31) [1,1,1,1,1,0,1,0,0]),[(0,vi n),(6,AV.vec g 2 (List.map Pr.v G)),(8,AV.vec fm 1 (List.map Bw.a T)),(9,AV.row 0 (v + 1)),(10,vi (wi (i + 1)))],[⟨List.map Pr.v P ++ [ag [vi (G.getD i.toNat default).a,vi (G.getD i.toNat default).b]],2,v + 1,false,true⟩],[(decide (c < n)) == false,(!w) == true,decide (0 <= i),decide (i.toNat < (List.map Pr.v G).length),v == v,decide (((List.map Pr.v P).length + 1) * 16 <= 1099511627776)],[((List.map Pr.v G).get?Internal i.toNat = some (zPxU2 G i))],_⟩ (by kernel_rfl) (bc (Zaq (fun h => d2 (Zaa.1 h))) (bc (Zar ((ZfY (Zag _)).2 d40)) (bc (Zaa.2 k42) (bc (i44.2 k45) (bc (beq_self_eq_true _) (bc (i47.2 k48) b0)))))) (qc (Zal k45) q0) c0 (by (try rw [w49]);(try rw [w51]);all_goals exact H)
  ·obtain ⟨k52,H⟩:=H
   have w53:wi (i + 1) = i + 1:=wI64 k52
   exact Zab (G:=Zae kp31 [] []) 1000 [false,false] ⟨(atC (cd Try.f31) [1,1,1,1,1,0,1,0,0]),[(0,vi n),(6,AV.vec g 2 (List.map Pr.v G)),(8,AV.vec fm 1 (List.map Bw.a T)),(9,AV.row 0 v),(10,vi (wi (i + 1)))],[⟨List.map Pr.v P,2,v,false,true⟩],[(decide (c < n)) == false,(!w) == false],[],_⟩ (by kernel_rfl) (bc (Zaq (fun h => d2 (Zaa.1 h))) (bc (Zaq (fun h => d40 ((ZfY (Zag _)).1 h))) b0)) q0 c0 (by (try rw [w53]);all_goals exact H)
end Go.Av

namespace Go.Av
open Go.Proofs
namespace Sp
def colR (F:Int -> Int -> Bool) (a b:Nat):Nat -> List Pr
 | 0 => []
 | k + 1 => if F a b = true then (⟨a,b⟩:Pr) :: colR F a (b + 1) k else colR F a (b + 1) k
def Zdn (F:Int -> Int -> Bool) (n a:Nat):Nat -> List Pr
 | 0 => []
 | k + 1 => colR F a 0 n ++ Zdn F n (a + 1) k
def sqN (n:Int) (T:List Bw):Prop:=n=T.length/\sqT T.length T/\T.length<=1000
end Sp
theorem colR_len (F:Int -> Int -> Bool) (a:Nat):∀ (k b:Nat),(Sp.colR F a b k).length <= k
 | 0,b => Nat.le_refl _
 | k + 1,b => by
  unfold Sp.colR
  have:=colR_len F a k (b + 1)
  split
  ·rw [List.length_cons];omega
  ·omega
theorem ZeW (F:Int -> Int -> Bool) (n:Nat):∀ (k a:Nat),(Sp.Zdn F n a k).length <= k * n
 | 0,a => by simp [Sp.Zdn]
 | k + 1,a => by
  unfold Sp.Zdn
  have h1:=ZeW F n k (a + 1)
  have h2:=colR_len F a n 0
  rw [List.length_append,Nat.succ_mul];omega
theorem col_row {F:Int -> Int -> Bool} {n a:Nat} {X:Nat -> List Pr -> Prop} {Y:Nat -> Nat -> List Pr -> Prop} (ha:a < n)
  (hY1:∀ b P,b < n -> P.length <= n * n -> (F a b = true -> Y a (b + 1) (P ++ [⟨a,b⟩])) -> (¬F a b = true -> Y a (b + 1) P) -> Y a b P) (hY2:∀ P,X (a + 1) P -> Y a n P):∀ (k b:Nat) (P:List Pr),b + k = n -> P.length <= a * n + b -> X (a + 1) (P ++ Sp.colR F a b k) -> Y a b P:=by
 have hmul:a * n + n <= n * n:=by
  have:=Nat.mul_le_mul_right n (show a + 1 <= n by omega)
  rw [Nat.succ_mul] at this;exact this
 intro k
 induction k with
 | zero =>
  intro b P hb hP h
  rw [Sp.colR,List.append_nil] at h
  rw [show b = n by omega]
  exact hY2 P h
 | succ k ih =>
  intro b P hb hP h
  rw [Sp.colR] at h
  refine hY1 b P (by omega) (by omega) (fun hF => ?_) fun hF => ?_
  ·rw [if_pos hF] at h
   exact ih (b + 1) _ (by omega) (by rw [List.length_append,List.length_singleton];omega) (by rw [List.append_assoc];exact h)
  ·rw [if_neg hF] at h
   exact ih (b + 1) _ (by omega) (by omega) h
theorem col_all {F:Int -> Int -> Bool} {n:Nat} {X:Nat -> List Pr -> Prop} {Y:Nat -> Nat -> List Pr -> Prop}
  (hY1:∀ a b P,a < n -> b < n -> P.length <= n * n -> (F a b = true -> Y a (b + 1) (P ++ [⟨a,b⟩])) -> (¬F a b = true -> Y a (b + 1) P) -> Y a b P) (hY2:∀ a P,a < n -> X (a + 1) P -> Y a n P) (hX:∀ a P,a < n -> Y a 0 P -> X a P):∀ (k a:Nat) (P:List Pr),a + k = n -> P.length <= a * n -> X n (P ++ Sp.Zdn F n a k) -> X a P:=by
 intro k
 induction k with
 | zero =>
  intro a P ha hP h
  rw [Sp.Zdn,List.append_nil] at h
  rw [show a = n by omega];exact h
 | succ k ih =>
  intro a P ha hP h
  rw [Sp.Zdn] at h
  refine hX a P (by omega) (col_row (X:=X) (by omega) (fun b P => hY1 a b P (by omega)) (fun P => hY2 a P (by omega)) n 0 P (by omega) (by omega) (ih (a + 1) _ (by omega) ?_ (by rw [List.append_assoc];exact h)))
  have:=colR_len F a n 0
  rw [List.length_append,Nat.succ_mul];omega
theorem ZeJ {P:List Pr} {x:Pr}:P++[x] ≠ []:=by simp
section
variable {fm:Bool} {T:List Bw} {dq:AV} {n:Nat}
abbrev NR (A:Prop) (B:Nat->Prop) (P:List Pr):Prop:=(P=[]->A)/\(P ≠ [] -> ∀ v,B v)
theorem co1_loop (hT:T.length = n) (hs:Sp.sqT n T) (hn:n <= 1000):Zew (n:Int) fm T n 0 (Zaf (.vec false 2 ((Sp.Zdn (Sp.tg T) n 0 n).map Pr.v))):=by
 subst hT
 obtain ⟨dq,hd⟩:∃ dq,dq = AV.vec false 2 ((Sp.Zdn (Sp.tg T) T.length 0 T.length).map Pr.v):=⟨_,rfl⟩
 rw [<- hd]
 have hmul:T.length * T.length <= 1000 * 1000:=Nat.mul_le_mul hn hn
 have hin:∀ {a b:Nat},a < T.length -> b < T.length -> Sp.inT T a b:=fun ha hb => ⟨⟨hs,hn⟩,by omega,by omega⟩
 refine (col_all (F:=Sp.tg T) (n:=T.length) (X:=fun a P => NR (Zew (T.length:Int) fm T T.length a (Zaf dq)) (fun v => co1R_at (T.length:Int) fm T P v T.length a (Zaf dq)) P)
  (Y:=fun a b P => NR (Zeb (T.length:Int) fm T T.length a T.length b (Zaf dq)) (fun v => ZcH (T.length:Int) fm T P v T.length a T.length b (Zaf dq)) P)
  (fun a b P ha hb hP h1 h2 => ⟨fun e => ?_,fun e v => ?_⟩) (fun a P ha hx => ⟨fun e => ?_,fun e v => ?_⟩) (fun a P ha hy => ⟨fun e => ?_,fun e v => ?_⟩) T.length 0 [] (by omega) (by simp) ⟨fun e => ?_,fun e v => ?_⟩).1 rfl
 ·subst e
  exact co1Ni _ _ _ _ _ _ _ _ ⟨fun _ => ⟨hin ha hb,fun h => ⟨by omega,(h1 h).2 ZeJ 0⟩,fun h => ⟨by omega,(h2 h).1 rfl⟩⟩,fun z => absurd (by omega) z⟩
 ·exact co1Ri _ _ _ _ _ _ _ _ _ _ ⟨fun _ => ⟨hin ha hb,fun h => ⟨by omega,by omega,(h1 h).2 ZeJ _⟩,fun h => ⟨by omega,(h2 h).2 e v⟩⟩,fun z => absurd (by omega) z⟩
 ·exact co1Ni _ _ _ _ _ _ _ _ ⟨fun z => absurd z (by omega),fun _ => ⟨by omega,hx.1 e⟩⟩
 ·exact co1Ri _ _ _ _ _ _ _ _ _ _ ⟨fun z => absurd z (by omega),fun _ => ⟨by omega,hx.2 e v⟩⟩
 ·exact co1N _ _ _ _ _ _ ⟨fun _ => hy.1 e,fun z => absurd (by omega) z⟩
 ·exact co1R _ _ _ _ _ _ _ _ ⟨fun _ => hy.2 e v,fun z => absurd (by omega) z⟩
 ·rw [List.nil_append] at e
  exact co1N _ _ _ _ _ _ ⟨fun z => absurd z (by omega),fun _ => by rw [hd,e];exact .vnil 2⟩
 ·exact co1R _ _ _ _ _ _ _ _ ⟨fun z => absurd z (by omega),fun _ => by rw [hd,List.nil_append];exact .refl _⟩
theorem co2_loop (hT:T.length = n) (hs:Sp.sqT n T) (hn:n <= 1000):Zev (n:Int) fm T n 0 (Zaf (.vec false 2 ((Sp.Zdn (Sp.red T) n 0 n).map Pr.v))):=by
 subst hT
 obtain ⟨dq,hd⟩:∃ dq,dq = AV.vec false 2 ((Sp.Zdn (Sp.red T) T.length 0 T.length).map Pr.v):=⟨_,rfl⟩
 rw [<- hd]
 have hmul:T.length * T.length <= 1000 * 1000:=Nat.mul_le_mul hn hn
 have hin:∀ {a b:Nat},a < T.length -> b < T.length -> Sp.inN T.length T a b:=fun ha hb => ⟨rfl,⟨hs,hn⟩,by omega,by omega⟩
 refine (col_all (F:=Sp.red T) (n:=T.length) (X:=fun a P => NR (Zev (T.length:Int) fm T T.length a (Zaf dq)) (fun v => co2R_at (T.length:Int) fm T P v T.length a (Zaf dq)) P)
  (Y:=fun a b P => NR (Zea (T.length:Int) fm T T.length a T.length b (Zaf dq)) (fun v => ZcG (T.length:Int) fm T P v T.length a T.length b (Zaf dq)) P)
  (fun a b P ha hb hP h1 h2 => ⟨fun e => ?_,fun e v => ?_⟩) (fun a P ha hx => ⟨fun e => ?_,fun e v => ?_⟩) (fun a P ha hy => ⟨fun e => ?_,fun e v => ?_⟩) T.length 0 [] (by omega) (by simp) ⟨fun e => ?_,fun e v => ?_⟩).1 rfl
 ·subst e
  exact co2Ni _ _ _ _ _ _ _ _ ⟨fun _ => ⟨hin ha hb,fun h => ⟨by omega,(h1 h).2 ZeJ 0⟩,fun h => ⟨by omega,(h2 h).1 rfl⟩⟩,fun z => absurd (by omega) z⟩
 ·exact co2Ri _ _ _ _ _ _ _ _ _ _ ⟨fun _ => ⟨hin ha hb,fun h => ⟨by omega,by omega,(h1 h).2 ZeJ _⟩,fun h => ⟨by omega,(h2 h).2 e v⟩⟩,fun z => absurd (by omega) z⟩
 ·exact co2Ni _ _ _ _ _ _ _ _ ⟨fun z => absurd z (by omega),fun _ => ⟨by omega,hx.1 e⟩⟩
 ·exact co2Ri _ _ _ _ _ _ _ _ _ _ ⟨fun z => absurd z (by omega),fun _ => ⟨by omega,hx.2 e v⟩⟩
 ·exact co2N _ _ _ _ _ _ ⟨fun _ => hy.1 e,fun z => absurd (by omega) z⟩
 ·exact co2R _ _ _ _ _ _ _ _ ⟨fun _ => hy.2 e v,fun z => absurd (by omega) z⟩
 ·rw [List.nil_append] at e
  exact co2N _ _ _ _ _ _ ⟨fun z => absurd z (by omega),fun _ => by rw [hd,e];exact .vnil 2⟩
 ·exact co2R _ _ _ _ _ _ _ _ ⟨fun z => absurd z (by omega),fun _ => by rw [hd,List.nil_append];exact .refl _⟩
theorem rCl_loop (hT:T.length = n) (hs:Sp.sqT n T) (hn:n <= 1000):Zel (n:Int) fm T 0 (Zaf (.tup [.vec false 2 ((Sp.Zdn (Sp.tg T) n 0 n).map Pr.v),.int .i64 0])):=by
 subst hT
 obtain ⟨dq,hd⟩:∃ dq,dq = AV.tup [AV.vec false 2 ((Sp.Zdn (Sp.tg T) T.length 0 T.length).map Pr.v),.int .i64 0]:=⟨_,rfl⟩
 rw [<- hd]
 have hmul:T.length * T.length <= 1000 * 1000:=Nat.mul_le_mul hn hn
 refine (col_all (F:=Sp.tg T) (n:=T.length) (X:=fun a P => NR (Zel (T.length:Int) fm T a (Zaf dq)) (fun v => rClR_at (T.length:Int) fm T P v a (Zaf dq)) P)
  (Y:=fun a b P => NR (ZdT (T.length:Int) fm T a b (Zaf dq)) (fun v => ZcB (T.length:Int) fm T P v a b (Zaf dq)) P)
  (fun a b P ha hb hP h1 h2 => ⟨fun e => ?_,fun e v => ?_⟩) (fun a P ha hx => ⟨fun e => ?_,fun e v => ?_⟩) (fun a P ha hy => ⟨fun e => ?_,fun e v => ?_⟩) T.length 0 [] (by omega) (by simp) ⟨fun e => ?_,fun e v => ?_⟩).1 rfl
 ·subst e
  exact rClNi _ _ _ _ _ _ ⟨fun _ => ⟨by omega,by omega,by omega,by rw [Int.toNat_natCast a,Zcg hs ha];omega,fun h => ⟨by omega,(h1 h).2 ZeJ 0⟩,fun h => ⟨by omega,(h2 h).1 rfl⟩⟩,fun z => absurd (by omega) z⟩
 ·exact rClRi _ _ _ _ _ _ _ _ ⟨fun _ => ⟨by omega,by omega,by omega,by rw [Int.toNat_natCast a,Zcg hs ha];omega,fun h => ⟨by omega,by omega,(h1 h).2 ZeJ _⟩,fun h => ⟨by omega,(h2 h).2 e v⟩⟩,fun z => absurd (by omega) z⟩
 ·exact rClNi _ _ _ _ _ _ ⟨fun z => absurd z (by omega),fun _ => ⟨by omega,hx.1 e⟩⟩
 ·exact rClRi _ _ _ _ _ _ _ _ ⟨fun z => absurd z (by omega),fun _ => ⟨by omega,hx.2 e v⟩⟩
 ·exact rClN _ _ _ _ _ ⟨fun _ => hy.1 e,fun z => absurd (by omega) z⟩
 ·exact rClR _ _ _ _ _ _ _ ⟨fun _ => hy.2 e v,fun z => absurd (by omega) z⟩
 ·rw [List.nil_append] at e
  exact rClN _ _ _ _ _ ⟨fun z => absurd z (by omega),fun _ => by rw [hd,e];exact ZdI (.vnil 2) (.refl _)⟩
 ·exact rClR _ _ _ _ _ _ _ ⟨fun z => absurd z (by omega),fun _ => by rw [hd,List.nil_append];exact .refl _⟩
def Sp.btw (T:List Bw) (p:Pr) (c k:Nat):Bool:=(List.range' c k).any fun (c:Nat)=>Sp.tg T p.a c&&Sp.tg T c p.b
def Sp.inG (n:Nat) (G:List Pr):Prop:=∀ p ∈ G,(0<=p.a/\p.a<n)/\0<=p.b/\p.b<n
theorem btw_step {T:List Bw} {p:Pr} {c k:Nat} {w:Bool}:((bif w then true else bif (T.getD p.a.toNat default).l.getD c default then (T.getD c default).l.getD p.b.toNat default else false) || Sp.btw T p (c + 1) k) = (w || Sp.btw T p c (k + 1)):=by
 unfold Sp.btw
 rw [List.range'_succ,List.any_cons]
 unfold Sp.tg
 rw [Int.toNat_natCast]
 cases w <;> cases (T.getD p.a.toNat default).l.getD c default <;> cases (T.getD c default).l.getD p.b.toNat default <;> rfl
theorem rReN_in {g:Bool} {G:List Pr} {i:Nat} (hT:T.length = n) (hs:Sp.sqT n T) (hn:n <= 1000) (hG:Sp.inG n G) (hi:i < G.length) (hl:G.length <= 4000000)
  (h1:Sp.btw T (G.getD i default) 0 n = false -> ZcA (n:Int) g G fm T [G.getD i default] 0 ((i + 1:Nat):Int) (Zaf dq)) (h2:Sp.btw T (G.getD i default) 0 n = true -> Zek (n:Int) g G fm T ((i + 1:Nat):Int) (Zaf dq)) :
  ∀ (k c:Nat) (w:Bool),c + k = n -> (w || Sp.btw T (G.getD i default) c k) = Sp.btw T (G.getD i default) 0 n -> ZdS (n:Int) g G fm T (i:Int) w (c:Int) (Zaf dq):=by
 have hp:(0 <= (G.getD i default).a /\ (G.getD i default).a < n) /\ 0 <= (G.getD i default).b /\ (G.getD i default).b < n:=by
  rw [List.getD_eq_getElem?_getD,List.getElem?_eq_getElem hi];exact hG _ (List.getElem_mem hi)
 intro k
 induction k with
 | zero =>
  intro c w hc hw
  have hw:w = Sp.btw T (G.getD i default) 0 n:=by rw [<- hw];exact (Bool.or_false w).symm
  refine rReNi _ _ _ _ _ _ _ _ _ ⟨fun z => absurd z (by omega),fun _ => ⟨fun hx => ⟨by omega,by omega,by omega,h1 ?_⟩,fun hx => ⟨by omega,h2 ?_⟩⟩⟩
  ·rw [<- hw];exact Bool.eq_false_iff.2 hx
  ·rw [<- hw];exact Classical.not_not.1 hx
 | succ k ih =>
  intro c w hc hw
  have e1:((i:Nat):Int).toNat = i:=Int.toNat_natCast i
  have e2:((c:Nat):Int).toNat = c:=Int.toNat_natCast c
  refine rReNi _ _ _ _ _ _ _ _ _ ⟨fun _ => ?_,fun z => absurd (by omega) z⟩
  rw [e1,e2,Zcg hs (show (G.getD i default).a.toNat < n by omega),Zcg hs (show c < n by omega),hT]
  refine ⟨fun _ => by omega,fun _ => by omega,fun _ => by omega,fun _ => by omega,fun _ => by omega,fun _ => by omega,fun _ => by omega,fun _ => by omega,fun _ => by omega,fun _ => by omega,fun _ => by omega,fun _ => by omega,by omega,?_⟩
  exact ih (c + 1) _ (by omega) (by rw [<- hw];exact btw_step)
theorem rReR_in {g:Bool} {G P:List Pr} {v i:Nat} (hT:T.length = n) (hs:Sp.sqT n T) (hn:n <= 1000) (hG:Sp.inG n G) (hi:i < G.length) (hl:G.length <= 4000000) (hP:P.length <= i)
  (h1:Sp.btw T (G.getD i default) 0 n = false -> ZcA (n:Int) g G fm T (P ++ [G.getD i default]) (v + 1) ((i + 1:Nat):Int) (Zaf dq)) (h2:Sp.btw T (G.getD i default) 0 n = true -> ZcA (n:Int) g G fm T P v ((i + 1:Nat):Int) (Zaf dq)) :
  ∀ (k c:Nat) (w:Bool),c + k = n -> (w || Sp.btw T (G.getD i default) c k) = Sp.btw T (G.getD i default) 0 n -> ZdR (n:Int) g G fm T P v (i:Int) w (c:Int) (Zaf dq):=by
 have hp:(0 <= (G.getD i default).a /\ (G.getD i default).a < n) /\ 0 <= (G.getD i default).b /\ (G.getD i default).b < n:=by
  rw [List.getD_eq_getElem?_getD,List.getElem?_eq_getElem hi];exact hG _ (List.getElem_mem hi)
 intro k
 induction k with
 | zero =>
  intro c w hc hw
  have hw:w = Sp.btw T (G.getD i default) 0 n:=by rw [<- hw];exact (Bool.or_false w).symm
  refine rReRi _ _ _ _ _ _ _ _ _ _ _ ⟨fun z => absurd z (by omega),fun _ => ⟨fun hx => ⟨by omega,by omega,by omega,by omega,h1 ?_⟩,fun hx => ⟨by omega,h2 ?_⟩⟩⟩
  ·rw [<- hw];exact Bool.eq_false_iff.2 hx
  ·rw [<- hw];exact Classical.not_not.1 hx
 | succ k ih =>
  intro c w hc hw
  have e1:((i:Nat):Int).toNat = i:=Int.toNat_natCast i
  have e2:((c:Nat):Int).toNat = c:=Int.toNat_natCast c
  refine rReRi _ _ _ _ _ _ _ _ _ _ _ ⟨fun _ => ?_,fun z => absurd (by omega) z⟩
  rw [e1,e2,Zcg hs (show (G.getD i default).a.toNat < n by omega),Zcg hs (show c < n by omega),hT]
  refine ⟨fun _ => by omega,fun _ => by omega,fun _ => by omega,fun _ => by omega,fun _ => by omega,fun _ => by omega,fun _ => by omega,fun _ => by omega,fun _ => by omega,fun _ => by omega,fun _ => by omega,fun _ => by omega,by omega,?_⟩
  exact ih (c + 1) _ (by omega) (by rw [<- hw];exact btw_step)
theorem drop_filter {G:List Pr} {F:Pr -> Bool} {i:Nat} (hi:i < G.length):(G.drop i).filter F = if F (G.getD i default) = true then G.getD i default :: (G.drop (i + 1)).filter F else (G.drop (i + 1)).filter F:=by
 have e:G.getD i default = G[i]:=by rw [List.getD_eq_getElem?_getD,List.getElem?_eq_getElem hi];rfl
 rw [e,List.drop_eq_getElem_cons hi,List.filter_cons]
theorem rRe_loop {g:Bool} {G:List Pr} (hT:T.length = n) (hs:Sp.sqT n T) (hn:n <= 1000) (hG:Sp.inG n G) (hl:G.length <= 4000000) :
  ∀ (k i:Nat) (P:List Pr),i + k = G.length -> P.length <= i -> P ++ (G.drop i).filter (fun p => !Sp.btw T p 0 n) = G.filter (fun p => !Sp.btw T p 0 n) ->
   NR (Zek (n:Int) g G fm T (i:Int) (Zaf (.tup [.vec false 2 ((G.filter fun p => !Sp.btw T p 0 n).map Pr.v),.int .i64 0]))) (fun v => ZcA (n:Int) g G fm T P v (i:Int) (Zaf (.tup [.vec false 2 ((G.filter fun p => !Sp.btw T p 0 n).map Pr.v),.int .i64 0]))) P:=by
 intro k
 induction k with
 | zero =>
  intro i P hi hP h
  rw [List.drop_of_length_le (by omega),List.filter_nil,List.append_nil] at h
  refine ⟨fun e => ?_,fun e v => ?_⟩
  ·subst e
   rw [<- h]
   exact rReN _ _ _ _ _ _ _ ⟨fun z => absurd z (by omega),fun _ => ZdI (.vnil 2) (.refl _)⟩
  ·rw [<- h]
   exact rReR _ _ _ _ _ _ _ _ _ ⟨fun z => absurd z (by omega),fun _ => .refl _⟩
 | succ k ih =>
  intro i P hi hP h
  have hil:i < G.length:=by omega
  rw [drop_filter hil] at h
  have h1:Sp.btw T (G.getD i default) 0 n = false -> (P ++ [G.getD i default]) ++ (G.drop (i + 1)).filter (fun p => !Sp.btw T p 0 n) = G.filter (fun p => !Sp.btw T p 0 n):=fun hb => by
   rw [if_pos (by rw [hb];rfl)] at h
   rw [List.append_assoc];exact h
  have h2:Sp.btw T (G.getD i default) 0 n = true -> P ++ (G.drop (i + 1)).filter (fun p => !Sp.btw T p 0 n) = G.filter (fun p => !Sp.btw T p 0 n):=fun hb => by
   rw [if_neg (by rw [hb];simp)] at h
   exact h
  have i1:=fun hb => ih (i + 1) (P ++ [G.getD i default]) (by omega) (by rw [List.length_append,List.length_singleton];omega) (h1 hb)
  have i2:=fun hb => ih (i + 1) P (by omega) (by omega) (h2 hb)
  refine ⟨fun e => ?_,fun e v => ?_⟩
  ·subst e
   exact rReN _ _ _ _ _ _ _ ⟨fun _ => rReN_in hT hs hn hG hil hl (fun hb => (i1 hb).2 ZeJ 0) (fun hb => (i2 hb).1 rfl) n 0 false (by omega) rfl,fun z => absurd (by omega) z⟩
  ·exact rReR _ _ _ _ _ _ _ _ _ ⟨fun _ => rReR_in hT hs hn hG hil hl hP (fun hb => (i1 hb).2 ZeJ _) (fun hb => (i2 hb).2 e v) n 0 false (by omega) rfl,fun z => absurd (by omega) z⟩
end
end Go.Av

namespace Go.Av
open Go.Proofs
theorem ev46_a (n:Int) (fm:Bool) (T:List Bw) (h:Sp.sqN n T):Ev M1 (.pure 46 [.int .i64 n,.func (.func 47) [] [.eptr 1 [.vec fm 1 (T.map Bw.a)] 0 0]]) (.vec false 2 ((Sp.Zdn (Sp.tg T) n.toNat 0 n.toNat).map Pr.v)) []:=by
 obtain ⟨rfl,hs,hn⟩:=h
 rw [Int.toNat_natCast]
 exact call46 (co1 _ fm T _ (co1_loop rfl hs hn))
theorem ev46_b (n:Int) (fm:Bool) (T:List Bw) (h:Sp.sqN n T):Ev M1 (.pure 46 [.int .i64 n,.func (.func 48) [] [.eptr 1 [.vec fm 1 (T.map Bw.a)] 0 0,.eptr 1 [.int .i64 n] 0 0]]) (.vec false 2 ((Sp.Zdn (Sp.red T) n.toNat 0 n.toNat).map Pr.v)) []:=by
 obtain ⟨rfl,hs,hn⟩:=h
 rw [Int.toNat_natCast]
 exact call46 (co2 _ fm T _ (co2_loop rfl hs hn))
namespace Sp
noncomputable def clL (n:Int) (ps:List Pr):List Pr:=if ZaK n ps=0 then Zdn (tg (Zct n.toNat ps)) n.toNat 0 n.toNat else []
noncomputable def rdL (n:Int) (ps:List Pr):List Pr:=if ZaK n ps=0 then Zdn (red (Zct n.toNat ps)) n.toNat 0 n.toNat else []
end Sp
theorem ZeO {es:Nat} {e:Int}:Weak (.tup [.vnil,.int .i64 e]) (.tup [.vec false es [],.int .i64 e]):=ZdI (.vnil es) (.refl _)
theorem ev29 (n:Int) (f:Bool) (ps:List Pr):Ev M1 (.pure 29 [.int .i64 n,.vec f 2 (ps.map Pr.v)]) (.tup [.vec false 2 ((Sp.clL n ps).map Pr.v),.int .i64 (Sp.ZaK n ps)]) []:=by
 unfold Sp.clL
 refine call29 (rCl n f ps _ ⟨fun h => ?_,fun h => ?_⟩)
 ·rw [if_neg h]
  exact ZeO
 ·have h:=Classical.not_not.1 h
  obtain ⟨m,rfl,hv,hn,hpl,hb,hl⟩:=ZbZ h
  rw [if_pos h,h,Int.toNat_natCast]
  exact ⟨ordE_vd h,rCl_loop (ZbS m ps) sqT_tab hn⟩
theorem ZfK {F:Int -> Int -> Bool} {q:Pr -> Bool} (a:Nat):∀ (k b:Nat),(Sp.colR F a b k).filter q = Sp.colR (fun a b => F a b && q ⟨a,b⟩) a b k
 | 0,b => rfl
 | k + 1,b => by
  unfold Sp.colR
  have ih:=ZfK (F:=F) (q:=q) a k (b + 1)
  cases hF:F a b with
  | false => simp only [Bool.false_eq_true,if_false,Bool.false_and];exact ih
  | true =>
   cases hq:q ⟨a,b⟩ with
   | false => simp only [if_true,Bool.and_false,Bool.false_eq_true,if_false];rw [List.filter_cons_of_neg (by rw [hq];simp)];exact ih
   | true => simp only [if_true,Bool.and_true];rw [List.filter_cons_of_pos hq,ih]
theorem ZfL {F:Int -> Int -> Bool} {q:Pr -> Bool} (n:Nat):∀ (k a:Nat),(Sp.Zdn F n a k).filter q = Sp.Zdn (fun a b => F a b && q ⟨a,b⟩) n a k
 | 0,a => rfl
 | k + 1,a => by
  unfold Sp.Zdn
  rw [List.filter_append,ZfK,ZfL n k (a + 1)]
theorem colR_mem {F:Int -> Int -> Bool} {a:Nat}:∀ {k b:Nat} {p:Pr},p ∈ Sp.colR F a b k ↔ p.a = a /\ ((b:Int) <= p.b /\ p.b < b + k) /\ F p.a p.b = true
 | 0,b,p => by
  unfold Sp.colR
  exact ⟨fun h => (nomatch h),fun ⟨_,h,_⟩ => by omega⟩
 | k + 1,b,p => by
  unfold Sp.colR
  have ih:=colR_mem (F:=F) (a:=a) (k:=k) (b:=b + 1) (p:=p)
  have key:(p.a = a /\ (((b:Nat):Int) <= p.b /\ p.b < b + (k + 1:Nat)) /\ F p.a p.b = true) ↔ (p = ⟨a,b⟩ /\ F a b = true) \/ (p.a = a /\ (((b + 1:Nat):Int) <= p.b /\ p.b < (b + 1:Nat) + k) /\ F p.a p.b = true):=by
   constructor
   ·rintro ⟨h1,h2,h3⟩
    by_cases e:p.b = b
    ·exact .inl ⟨by cases p;simp only at h1 e;rw [h1,e],by rw [<- h1,<- e];exact h3⟩
    ·exact .inr ⟨h1,by omega,h3⟩
   ·rintro (⟨rfl,h⟩ | ⟨h1,h2,h3⟩)
    ·exact ⟨rfl,⟨by simp only;omega,by simp only;omega⟩,h⟩
    ·exact ⟨h1,by omega,h3⟩
  rw [key]
  by_cases hF:F a b = true
  ·rw [if_pos hF,List.mem_cons,ih]
   simp only [hF,and_true]
  ·rw [if_neg hF,ih]
   exact ⟨.inr,fun h => h.resolve_left fun z => hF z.2⟩
theorem colA_mem {F:Int -> Int -> Bool} {n:Nat}:∀ {k a:Nat} {p:Pr},p ∈ Sp.Zdn F n a k ↔ ((a:Int) <= p.a /\ p.a < a + k) /\ (0 <= p.b /\ p.b < n) /\ F p.a p.b = true
 | 0,a,p => by
  unfold Sp.Zdn
  exact ⟨fun h => (nomatch h),fun ⟨h,_⟩ => by omega⟩
 | k + 1,a,p => by
  unfold Sp.Zdn
  rw [List.mem_append,colR_mem,colA_mem (k:=k) (a:=a + 1)]
  constructor
  ·rintro (⟨h1,h2,h3⟩ | ⟨h1,h2,h3⟩)
   ·exact ⟨by omega,by omega,h3⟩
   ·exact ⟨by omega,h2,h3⟩
  ·rintro ⟨h1,h2,h3⟩
   by_cases e:p.a = a
   ·exact .inl ⟨e,by omega,h3⟩
   ·exact .inr ⟨by omega,h2,h3⟩
theorem ev31 (n:Int) (f:Bool) (ps:List Pr):Ev M1 (.pure 31 [.int .i64 n,.vec f 2 (ps.map Pr.v)]) (.tup [.vec false 2 ((Sp.rdL n ps).map Pr.v),.int .i64 (Sp.ZaK n ps)]) []:=by
 refine call31 (rRe n f ps _ ⟨Sp.clL n ps,Sp.ZaK n ps,ev29 n f ps,fun h => ?_,fun h => ?_⟩)
 ·unfold Sp.rdL
  rw [if_neg h]
  exact ZeO
 ·have h:=Classical.not_not.1 h
  obtain ⟨m,rfl,hv,hn,hpl,hb,hl⟩:=ZbZ h
  refine ⟨ordE_vd h,?_⟩
  unfold Sp.rdL Sp.clL
  rw [if_pos h,if_pos h,h,Int.toNat_natCast]
  have hlen:=ZeW (Sp.tg (Sp.Zct m ps)) m m 0
  have hmul:m * m <= 1000 * 1000:=Nat.mul_le_mul hn hn
  have hloop:=(rRe_loop (fm:=false) (g:=false) (G:=Sp.Zdn (Sp.tg (Sp.Zct m ps)) m 0 m) (ZbS m ps) sqT_tab hn (fun p hp => by
   obtain ⟨h1,h2,_⟩:=colA_mem.1 hp
   exact ⟨by omega,h2⟩) (by omega) (Sp.Zdn (Sp.tg (Sp.Zct m ps)) m 0 m).length 0 [] (by omega) (by simp) rfl).1 rfl
  have e:(Sp.Zdn (Sp.tg (Sp.Zct m ps)) m 0 m).filter (fun p => !Sp.btw (Sp.Zct m ps) p 0 m) = Sp.Zdn (Sp.red (Sp.Zct m ps)) m 0 m:=by
   rw [ZfL]
   have:(fun a b => Sp.tg (Sp.Zct m ps) a b && !Sp.btw (Sp.Zct m ps) ⟨a,b⟩ 0 m) = Sp.red (Sp.Zct m ps):=by
    funext a b
    unfold Sp.red Sp.btw
    rw [ZbS,List.range_eq_range']
   rw [this]
  rw [e] at hloop
  exact hloop
end Go.Av

namespace Go.Av
open Go.Proofs
set_option maxRecDepth 100000
def fi28:Fi:=⟨20,[.tmp 4,.tmp 5]⟩
def kp28:List (Nat × List Nat):=[(0,[0,1]),(1,[0,6,7]),(2,[0,6,7,15]),(3,[4,5]),(4,[4,5])]
def fi30:Fi:=⟨20,[.tmp 4,.tmp 5]⟩
def kp30:List (Nat × List Nat):=[(0,[1,2]),(1,[2,6,7]),(2,[2,6,7,15]),(3,[4,5]),(4,[4,5])]
def qCl_at (n:Int) (f:Bool) (ps:List Pr) (Q:AV->Heap->Prop):Prop:=Wp M1 (.run fi28 (atC (cd Try.f28) []) [(0,.int .i64 n),(1,.vec f 2 (ps.map Pr.v))] []) Q
def qRd_at (n:Int) (f:Bool) (ps:List Pr) (Q:AV->Heap->Prop):Prop:=Wp M1 (.run fi30 (atC (cd Try.f30) []) [(0,.int .i64 n),(1,.vec f 2 (ps.map Pr.v))] []) Q
theorem call28 {args:List AV} {d:AV} (h:wc M1 fi28 Try.f28 args d):Ev M1 (.pure 28 args) d []:=pcl _ _ (by kernel_rfl) h
theorem call30 {args:List AV} {d:AV} (h:wc M1 fi30 Try.f30 args d):Ev M1 (.pure 30 args) d []:=pcl _ _ (by kernel_rfl) h
theorem qCl (n:Int) (f:Bool) (ps:List Pr)  (dq:AV) (H :
  ((¬Sp.ZaK n ps = 0) -> Weak (tu [AV.vnil,vi (Sp.ZaK n ps)]) dq) /\
  (¬(¬Sp.ZaK n ps = 0) -> (Sp.sqN n (Sp.reL n ps)) /\
   Weak (tu [AV.vec false 2 (List.map Pr.v (Sp.Zdn (Sp.tg (Sp.reL n ps)) n.toNat 0 n.toNat)),vi 0]) dq)) :
 qCl_at n f ps (Zaf dq):=by
 unfold qCl_at
 refine Zab (G:=Zae kp28 [(1,2,.call (tu [vf (List.map Bw.a (Sp.reL n ps)),vi (Sp.ZaK n ps)]) none)] []) 7 [] ⟨(atC (cd Try.f28) [1,1,0,1]),[(0,vi n),(6,AV.ptr 0 0 0 0),(7,vi (Sp.ZaK n ps)),(15,vb (Sp.ZaK n ps != 0))],[⟨[vf (List.map Bw.a (Sp.reL n ps))],1,0,false,false⟩],_,[],_⟩ (by kernel_rfl) (bc rfl b0) q0 (ce (@ev45 (n) (f) (ps)) c0) ?_
 rcases xq H with ⟨d2,H⟩|⟨d2,H⟩
 ·exact Zbf (G:=Zae kp28 [] []) 1000 [true] (tu [AV.vnil,vi (Sp.ZaK n ps)]) (by kernel_rfl) (bc (Zar (i_ne.2 d2)) b0) q0 c0 H
 ·obtain ⟨k3,H⟩:=H
  exact Zbf (G:=Zae kp28 [(4,2,.call (AV.vec false 2 (List.map Pr.v (Sp.Zdn (Sp.tg (Sp.reL n ps)) n.toNat 0 n.toNat))) none)] []) 1000 [false] (tu [AV.vec false 2 (List.map Pr.v (Sp.Zdn (Sp.tg (Sp.reL n ps)) n.toNat 0 n.toNat)),vi 0]) (by kernel_rfl) (bc (Zaq (fun h => d2 (i_ne.1 h))) (bc rfl b0)) q0 (ce (@ev46_a (n) (false) (Sp.reL n ps) k3) c0) H
theorem qRd (n:Int) (f:Bool) (ps:List Pr)  (dq:AV) (H :
  ((¬Sp.ZaK n ps = 0) -> Weak (tu [AV.vnil,vi (Sp.ZaK n ps)]) dq) /\
  (¬(¬Sp.ZaK n ps = 0) -> (Sp.sqN n (Sp.reL n ps)) /\
   Weak (tu [AV.vec false 2 (List.map Pr.v (Sp.Zdn (Sp.red (Sp.reL n ps)) n.toNat 0 n.toNat)),vi 0]) dq)) :
 qRd_at n f ps (Zaf dq):=by
 unfold qRd_at
 refine Zab (G:=Zae kp30 [(1,2,.call (tu [vf (List.map Bw.a (Sp.reL n ps)),vi (Sp.ZaK n ps)]) none)] []) 7 [] ⟨(atC (cd Try.f30) [1,1,0,1]),[(2,AV.ptr 0 0 0 0),(6,AV.ptr 1 0 0 0),(7,vi (Sp.ZaK n ps)),(15,vb (Sp.ZaK n ps != 0))],[⟨[vi n],1,0,false,false⟩,⟨[vf (List.map Bw.a (Sp.reL n ps))],1,0,false,false⟩],_,[],_⟩ (by kernel_rfl) (bc rfl (bc rfl b0)) q0 (ce (@ev45 (n) (f) (ps)) c0) ?_
 rcases xq H with ⟨d2,H⟩|⟨d2,H⟩
 ·exact Zbf (G:=Zae kp30 [] []) 1000 [true] (tu [AV.vnil,vi (Sp.ZaK n ps)]) (by kernel_rfl) (bc (Zar (i_ne.2 d2)) b0) q0 c0 H
 ·obtain ⟨k3,H⟩:=H
  exact Zbf (G:=Zae kp30 [(4,2,.call (AV.vec false 2 (List.map Pr.v (Sp.Zdn (Sp.red (Sp.reL n ps)) n.toNat 0 n.toNat))) none)] []) 1000 [false] (tu [AV.vec false 2 (List.map Pr.v (Sp.Zdn (Sp.red (Sp.reL n ps)) n.toNat 0 n.toNat)),vi 0]) (by kernel_rfl) (bc (Zaq (fun h => d2 (i_ne.1 h))) (bc rfl (bc rfl (bc rfl b0)))) q0 (ce (@ev46_b (n) (false) (Sp.reL n ps) k3) c0) H
end Go.Av

namespace Go.Av
open Go.Proofs
theorem reL_ok {n:Int} {ps:List Pr} (h:Sp.ZaK n ps = 0):Sp.reL n ps = Sp.Zct n.toNat ps /\ Sp.sqN n (Sp.reL n ps):=by
 obtain ⟨m,rfl,hv,hn,hpl,hb,hl⟩:=ZbZ h
 unfold Sp.reL
 rw [if_pos h,Int.toNat_natCast]
 exact ⟨rfl,by rw [ZbS],by rw [ZbS];exact sqT_tab,by rw [ZbS];exact hn⟩
theorem ev28 (n:Int) (f:Bool) (ps:List Pr):Ev M1 (.pure 28 [.int .i64 n,.vec f 2 (ps.map Pr.v)]) (.tup [.vec false 2 ((Sp.clL n ps).map Pr.v),.int .i64 (Sp.ZaK n ps)]) []:=by
 unfold Sp.clL
 refine call28 (qCl n f ps _ ⟨fun h => ?_,fun h => ?_⟩)
 ·rw [if_neg h]
  exact ZeO
 ·have h:=Classical.not_not.1 h
  obtain ⟨h1,h2⟩:=reL_ok h
  refine ⟨h2,?_⟩
  rw [if_pos h,h,h1]
  exact .refl _
theorem ev30 (n:Int) (f:Bool) (ps:List Pr):Ev M1 (.pure 30 [.int .i64 n,.vec f 2 (ps.map Pr.v)]) (.tup [.vec false 2 ((Sp.rdL n ps).map Pr.v),.int .i64 (Sp.ZaK n ps)]) []:=by
 unfold Sp.rdL
 refine call30 (qRd n f ps _ ⟨fun h => ?_,fun h => ?_⟩)
 ·rw [if_neg h]
  exact ZeO
 ·have h:=Classical.not_not.1 h
  obtain ⟨h1,h2⟩:=reL_ok h
  refine ⟨h2,?_⟩
  rw [if_pos h,h,h1]
  exact .refl _
theorem clL_len (n:Int) (ps:List Pr):(Sp.clL n ps).length <= 1000000:=by
 unfold Sp.clL
 split
 ·rename_i h
  obtain ⟨m,rfl,hv,hn,hpl,hb,hl⟩:=ZbZ h
  rw [Int.toNat_natCast]
  have hlen:=ZeW (Sp.tg (Sp.Zct m ps)) m m 0
  have hmul:m * m <= 1000 * 1000:=Nat.mul_le_mul hn hn
  omega
 ·simp
theorem rdL_len (n:Int) (ps:List Pr):(Sp.rdL n ps).length <= 1000000:=by
 unfold Sp.rdL
 split
 ·rename_i h
  obtain ⟨m,rfl,hv,hn,hpl,hb,hl⟩:=ZbZ h
  rw [Int.toNat_natCast]
  have hlen:=ZeW (Sp.red (Sp.Zct m ps)) m m 0
  have hmul:m * m <= 1000 * 1000:=Nat.mul_le_mul hn hn
  omega
 ·simp
end Go.Av

namespace Go.Av
open Go.Proofs
set_option maxRecDepth 100000
def fi9:Fi:=⟨66,[.tmp 4]⟩
def kp9:List (Nat × List Nat):=[(0,[0,1]),(1,[0,1,20]),(2,[4]),(3,[0,1,5,6]),(4,[0,1,5,6,7,8]),(5,[0,1,5,6,7,8,9,10]),(6,[5,6,7,8,9,10,11,12]),(7,[4])]
def qLc_at (n:Int) (f:Bool) (ps:List Pr) (Q:AV->Heap->Prop):Prop:=Wp M1 (.run fi9 (atC (cd Try.f9) []) [(0,.int .i64 n),(1,.vec f 2 (ps.map Pr.v))] []) Q
theorem call9 {args:List AV} {d:AV} (h:wc M1 fi9 Try.f9 args d):Ev M1 (.pure 9 args) d []:=pcl _ _ (by kernel_rfl) h
theorem qLc (n:Int) (f:Bool) (ps:List Pr)  (dq:AV) (H :
  ((¬(Sp.fw n 30 ps = true)) -> vb true = dq) /\
  (¬(¬(Sp.fw n 30 ps = true)) -> (Sp.few ps.length 60000000000) /\
   (((Sp.ZaK n ps = Sp.ZaK n ps) /\ (Sp.ZaK n ps = Sp.ZaK n ps)) -> (Sp.few (Sp.clL n ps).length 4000000000)) /\
   ((((Sp.ZaK n ps = Sp.ZaK n ps) /\ (Sp.ZaK n ps = Sp.ZaK n ps)) /\ (Sp.clL n ps = Sp.clL n ps)) -> (Sp.few (Sp.rdL n ps).length 4000000000)) /\
   vb (bif bif bif Sp.ZaK n ps == Sp.ZaK n ps then Sp.ZaK n ps == Sp.ZaK n ps else false then decide (Sp.clL n ps = Sp.clL n ps) else false then decide (Sp.rdL n ps = Sp.rdL n ps) else false) = dq)) :
 qLc_at n f ps (Zaf dq):=by
 unfold qLc_at
 refine Zab (G:=Zae kp9 [(1,0,.call (vb true) none),(1,5,.call (vb (Sp.fw n 30 ps)) none)] []) 5 [] ⟨(atC (cd Try.f9) [1,0,1]),[(0,vi n),(1,AV.vec f 2 (List.map Pr.v ps)),(20,vb !Sp.fw n 30 ps)],[],_,[],_⟩ (by kernel_rfl) b0 q0 (ce (@ev12 ) (ce (@ev16 (n) (30) (f) (ps)) c0)) ?_
 rcases xq H with ⟨d2,H⟩|⟨d2,H⟩
 ·exact ZaI (G:=Zae kp9 [(2,0,.call (vb true) none)] []) 1000 [true] (asm:=[(!Sp.fw n 30 ps) == true]) (vb true) (by kernel_rfl) (bc (Zar ((ZfY (Zag _)).2 d2)) b0) q0 (ce (@ev12 ) c0) H
 ·obtain ⟨k3,k5,k7,H⟩:=H
  exact ZaI (G:=Zae kp9 [(3,2,.call (AV.vec false 2 (List.map Pr.v ps)) none),(3,3,.call (tu [AV.vec false 2 (List.map Pr.v (Sp.clL n ps)),vi (Sp.ZaK n ps)]) none),(4,2,.call (tu [AV.vec false 2 (List.map Pr.v (Sp.clL n ps)),vi (Sp.ZaK n ps)]) none),(5,2,.call (AV.vec false 2 (List.map Pr.v ps)) none),(5,3,.call (tu [AV.vec false 2 (List.map Pr.v (Sp.rdL n ps)),vi (Sp.ZaK n ps)]) none),(6,2,.call (tu [AV.vec false 2 (List.map Pr.v (Sp.rdL n ps)),vi (Sp.ZaK n ps)]) none),(7,11,.call (vb (decide (Sp.clL n ps = Sp.clL n ps))) none),(7,16,.call (vb (decide (Sp.rdL n ps = Sp.rdL n ps))) none)] []) 1000 [false] (asm:=[(!Sp.fw n 30 ps) == false]) (calls:=[⟨true,false,13,[AV.vec f 2 (List.map Pr.v ps)],[],AV.vec false 2 (List.map Pr.v ps),[]⟩,⟨true,false,28,[vi n,AV.vec false 2 (List.map Pr.v ps)],[],tu [AV.vec false 2 (List.map Pr.v (Sp.clL n ps)),vi (Sp.ZaK n ps)],[]⟩,⟨true,false,29,[vi n,AV.vec f 2 (List.map Pr.v ps)],[],tu [AV.vec false 2 (List.map Pr.v (Sp.clL n ps)),vi (Sp.ZaK n ps)],[]⟩,⟨true,false,13,[AV.vec f 2 (List.map Pr.v ps)],[],AV.vec false 2 (List.map Pr.v ps),[]⟩,⟨true,false,30,[vi n,AV.vec false 2 (List.map Pr.v ps)],[],tu [AV.vec false 2 (List.map Pr.v (Sp.rdL n ps)),vi (Sp.ZaK n ps)],[]⟩,⟨true,false,31,[vi n,AV.vec f 2 (List.map Pr.v ps)],[],tu [AV.vec false 2 (List.map Pr.v (Sp.rdL n ps)),vi (Sp.ZaK n ps)],[]⟩,⟨(bif Sp.ZaK n ps == Sp.ZaK n ps then Sp.ZaK n ps == Sp.ZaK n ps else false) == true && true && true,false,32,[AV.vec false 2 (List.map Pr.v (Sp.clL n ps)),AV.vec false 2 (List.map Pr.v (Sp.clL n ps))],[],vb (decide (Sp.clL n ps = Sp.clL n ps)),[]⟩,⟨(bif bif Sp.ZaK n ps == Sp.ZaK n ps then Sp.ZaK n ps == Sp.ZaK n ps else false then decide (Sp.clL n ps = Sp.clL n ps) else false) == true && true && true,false,32,[AV.vec false 2 (List.map Pr.v (Sp.rdL n ps)),AV.vec false 2 (List.map Pr.v (Sp.rdL n ps))],[],vb (decide (Sp.rdL n ps = Sp.rdL n ps)),[]⟩]) (vb (bif bif bif Sp.ZaK n ps == Sp.ZaK n ps then Sp.ZaK n ps == Sp.ZaK n ps else false then decide (Sp.clL n ps = Sp.clL n ps) else false then decide (Sp.rdL n ps = Sp.rdL n ps) else false)) (by kernel_rfl) (bc (Zaq (fun h => d2 ((ZfY (Zag _)).1 h))) b0) q0 (cc (fun _ => (@ev13 (f) (ps) k3)) (cc (fun _ => (@ev28 (n) (false) (ps))) (cc (fun _ => (@ev29 (n) (f) (ps))) (cc (fun _ => (@ev13 (f) (ps) k3)) (cc (fun _ => (@ev30 (n) (false) (ps))) (cc (fun _ => (@ev31 (n) (f) (ps))) (cc (fun hc => ((@ev32 (false) (false) (Sp.clL n ps) (Sp.clL n ps) (k5 ((i_at (i_at (i_bt (i_band i_eq i_eq)))).1 hc))):Ev M1 (Conf.pure 32 [AV.vec false 2 (List.map Pr.v (Sp.clL n ps)),AV.vec false 2 (List.map Pr.v (Sp.clL n ps))]) (vb (decide (Sp.clL n ps = Sp.clL n ps))) [])) (cc (fun hc => ((@ev32 (false) (false) (Sp.rdL n ps) (Sp.rdL n ps) (k7 ((i_at (i_at (i_bt (i_band (i_band i_eq i_eq) Zaa)))).1 hc))):Ev M1 (Conf.pure 32 [AV.vec false 2 (List.map Pr.v (Sp.rdL n ps)),AV.vec false 2 (List.map Pr.v (Sp.rdL n ps))]) (vb (decide (Sp.rdL n ps = Sp.rdL n ps))) [])) c0)))))))) H
end Go.Av

namespace Go.Av
open Go.Proofs
theorem ev9 (n:Int) (f:Bool) (ps:List Pr):Ev M1 (.pure 9 [.int .i64 n,.vec f 2 (ps.map Pr.v)]) (.bool true) []:=by
 refine call9 (qLc _ _ _ _ ⟨fun _ => rfl,fun h => ?_⟩)
 have hp:=fw_len (n:=n) (m:=30) (ps:=ps) (Classical.byContradiction fun y => h y)
 have h1:=clL_len n ps
 have h2:=rdL_len n ps
 refine ⟨by unfold Sp.few;omega,fun _ => by unfold Sp.few;omega,fun _ => by unfold Sp.few;omega,?_⟩
 rw [show (Sp.ZaK n ps == Sp.ZaK n ps) = true by simp,decide_eq_true rfl,decide_eq_true rfl];rfl
end Go.Av
