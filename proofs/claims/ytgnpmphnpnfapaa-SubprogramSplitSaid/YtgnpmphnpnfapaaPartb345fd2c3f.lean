/- PART 5 of the texts of a claim, joined by a program: what each part shows stands at its head. -/
import Derived.Test.YtgnpmphnpnfapaaPart834d846121

namespace Go.Av
open Go.Proofs
set_option maxRecDepth 100000
def fi35:Fi:=⟨164,[.cell 2 34,.tmp 3]⟩
def kp35:List (Nat × List Nat):=[(0,[0,2]),(1,[0,2,4]),(2,[0,2,4,5]),(3,[0,2,4,5,24]),(4,[0,2,4,5,36]),(5,[2,3]),(6,[0,2,4,5]),(7,[0,2,4,5]),(8,[0,2,4,5,59]),(9,[2,3]),(10,[0,2,4,5,6]),(11,[0,2,4,5,6,64]),(12,[0,2,4,5,6,82]),(13,[2,3]),(14,[0,2,4,5,6,7]),(15,[0,2,4,5,6,7]),(16,[0,2,4,5,6,7]),(17,[0,2,4,5,6,7,115]),(18,[0,2,4,5,6,7,127]),(19,[2,3]),(20,[0,2,4,5,6,7]),(21,[0,2,4,5,6,7]),(22,[0,2,4,5,6,7,151]),(23,[2,3]),(24,[0,2,4,5,6]),(25,[0,2,4,5,6]),(26,[2,4,161]),(27,[2,3]),(28,[2,3])]
def svTs_at (g:Bool) (l:List Bk) (Q:AV -> Heap -> Prop):Prop:=Wp M1 (.run fi35 (atC (cd Try.f35) []) [(0,.vec g 3 (l.map Bk.a))] []) Q
def svTz_at (g:Bool) (l:List Bk) (i:Int) (Q:AV -> Heap -> Prop):Prop:=Wp M1 (.run fi35 (atC (cd Try.f35) [1,1,1,0,0,0]) [(0,.vec g 3 (l.map Bk.a)),(2,.ptr 0 0 0 0),(4,.ptr 1 0 0 0),(5,.int .i64 i)] [⟨[.agg [.vnil,.vnil]],2,0,false,false⟩,⟨[.agg [.vnil,.vnil]],2,0,false,false⟩]) Q
def svTa_at (g:Bool) (l:List Bk) (i:Int) (q:List Bk) (v:Nat) (Q:AV -> Heap -> Prop):Prop:=Wp M1 (.run fi35 (atC (cd Try.f35) [1,1,1,0,0,0]) [(0,.vec g 3 (l.map Bk.a)),(2,.ptr 0 0 0 0),(4,.ptr 1 0 0 0),(5,.int .i64 i)] [⟨[.agg [.vnil,.vnil]],2,0,false,false⟩,⟨[.agg [.row 2 v,.vnil]],2,0,false,false⟩,⟨q.map Bk.a,3,v,false,true⟩]) Q
def svTw_at (g:Bool) (l:List Bk) (i:Int) (q:List Bk) (Q:AV -> Heap -> Prop):Prop:=Wp M1 (.run fi35 (atC (cd Try.f35) [1,1,1,1,1,0]) [(0,.vec g 3 (l.map Bk.a)),(2,.ptr 0 0 0 0),(4,.ptr 1 0 0 0),(5,.int .i64 i)] [⟨[.agg [.vnil,.vnil]],2,0,false,true⟩,⟨[.agg [.vec false 3 (q.map Bk.a),.vnil]],2,0,false,true⟩]) Q
def svTn_at (g:Bool) (l:List Bk) (i:Int) (q:List Bk) (tw:Bool) (Q:AV -> Heap -> Prop):Prop:=Wp M1 (.run fi35 (atC (cd Try.f35) [1,1,1,1,1,1,0,0,0]) [(0,.vec g 3 (l.map Bk.a)),(2,.ptr 0 0 0 0),(4,.ptr 1 0 0 0),(5,.int .i64 i),(6,.bool tw)] [⟨[.agg [.vnil,.vnil]],2,0,false,true⟩,⟨[.agg [.vec false 3 (q.map Bk.a),.vnil]],2,0,false,true⟩]) Q
def svTm_at (g:Bool) (l:List Bk) (i:Int) (q:List Bk) (tw:Bool) (s:List Sb) (v:Nat) (Q:AV -> Heap -> Prop):Prop:=Wp M1 (.run fi35 (atC (cd Try.f35) [1,1,1,1,1,1,0,0,0]) [(0,.vec g 3 (l.map Bk.a)),(2,.ptr 0 0 0 0),(4,.ptr 1 0 0 0),(5,.int .i64 i),(6,.bool tw)] [⟨[.agg [.vnil,.vnil]],2,0,false,true⟩,⟨[.agg [.vec false 3 (q.map Bk.a),.row 2 v]],2,0,false,false⟩,⟨s.map Sb.a,2,v,false,true⟩]) Q
def svTnn_at (g:Bool) (l:List Bk) (i:Int) (q:List Bk) (tw:Bool) (n:Int) (Q:AV -> Heap -> Prop):Prop:=Wp M1 (.run fi35 (atC (cd Try.f35) [1,1,1,1,1,1,0,0,0,1,0,1,1,1,1,0,0,0]) [(0,.vec g 3 (l.map Bk.a)),(2,.ptr 0 0 0 0),(4,.ptr 1 0 0 0),(5,.int .i64 i),(6,.bool tw),(7,.ptr 2 0 0 0)] [⟨[.agg [.vnil,.vnil]],2,0,false,true⟩,⟨[.agg [.vec false 3 (q.map Bk.a),.vnil]],2,0,false,true⟩,⟨[.agg [.int .i64 n,.vnil]],2,0,false,false⟩]) Q
def svTnb_at (g:Bool) (l:List Bk) (i:Int) (q:List Bk) (tw:Bool) (n:Int) (b:List Bk) (w:Nat) (Q:AV -> Heap -> Prop):Prop:=Wp M1 (.run fi35 (atC (cd Try.f35) [1,1,1,1,1,1,0,0,0,1,0,1,1,1,1,0,0,0]) [(0,.vec g 3 (l.map Bk.a)),(2,.ptr 0 0 0 0),(4,.ptr 1 0 0 0),(5,.int .i64 i),(6,.bool tw),(7,.ptr 2 0 0 0)] [⟨[.agg [.vnil,.vnil]],2,0,false,true⟩,⟨[.agg [.vec false 3 (q.map Bk.a),.vnil]],2,0,false,true⟩,⟨[.agg [.int .i64 n,.row 3 w]],2,0,false,false⟩,⟨b.map Bk.a,3,w,false,true⟩]) Q
def svTmn_at (g:Bool) (l:List Bk) (i:Int) (q:List Bk) (tw:Bool) (s:List Sb) (v:Nat) (n:Int) (Q:AV -> Heap -> Prop):Prop:=Wp M1 (.run fi35 (atC (cd Try.f35) [1,1,1,1,1,1,0,0,0,1,0,1,1,1,1,0,0,0]) [(0,.vec g 3 (l.map Bk.a)),(2,.ptr 0 0 0 0),(4,.ptr 1 0 0 0),(5,.int .i64 i),(6,.bool tw),(7,.ptr 2 0 0 0)] [⟨[.agg [.vnil,.vnil]],2,0,false,true⟩,⟨[.agg [.vec false 3 (q.map Bk.a),.row 3 v]],2,0,false,false⟩,⟨[.agg [.int .i64 n,.vnil]],2,0,false,false⟩,⟨s.map Sb.a,2,v,false,true⟩]) Q
def svTmb_at (g:Bool) (l:List Bk) (i:Int) (q:List Bk) (tw:Bool) (s:List Sb) (v:Nat) (n:Int) (b:List Bk) (w:Nat) (Q:AV -> Heap -> Prop):Prop:=Wp M1 (.run fi35 (atC (cd Try.f35) [1,1,1,1,1,1,0,0,0,1,0,1,1,1,1,0,0,0]) [(0,.vec g 3 (l.map Bk.a)),(2,.ptr 0 0 0 0),(4,.ptr 1 0 0 0),(5,.int .i64 i),(6,.bool tw),(7,.ptr 2 0 0 0)] [⟨[.agg [.vnil,.vnil]],2,0,false,true⟩,⟨[.agg [.vec false 3 (q.map Bk.a),.row 3 v]],2,0,false,false⟩,⟨[.agg [.int .i64 n,.row 4 w]],2,0,false,false⟩,⟨s.map Sb.a,2,v,false,true⟩,⟨b.map Bk.a,3,w,false,true⟩]) Q
def svTne_at (g:Bool) (l:List Bk) (i:Int) (q:List Bk) (tw:Bool) (n:Int) (b:List Bk) (Q:AV -> Heap -> Prop):Prop:=Wp M1 (.run fi35 (atC (cd Try.f35) [1,1,1,1,1,1,0,0,0,1,0,1,1,1,1,1,1,0]) [(0,.vec g 3 (l.map Bk.a)),(2,.ptr 0 0 0 0),(4,.ptr 1 0 0 0),(5,.int .i64 i),(6,.bool tw),(7,.ptr 2 0 0 0)] [⟨[.agg [.vnil,.vnil]],2,0,false,true⟩,⟨[.agg [.vec false 3 (q.map Bk.a),.vnil]],2,0,false,true⟩,⟨[.agg [.int .i64 n,.vec false 3 (b.map Bk.a)]],2,0,false,true⟩]) Q
def svTme_at (g:Bool) (l:List Bk) (i:Int) (q:List Bk) (tw:Bool) (s:List Sb) (v:Nat) (n:Int) (b:List Bk) (Q:AV -> Heap -> Prop):Prop:=Wp M1 (.run fi35 (atC (cd Try.f35) [1,1,1,1,1,1,0,0,0,1,0,1,1,1,1,1,1,0]) [(0,.vec g 3 (l.map Bk.a)),(2,.ptr 0 0 0 0),(4,.ptr 1 0 0 0),(5,.int .i64 i),(6,.bool tw),(7,.ptr 2 0 0 0)] [⟨[.agg [.vnil,.vnil]],2,0,false,true⟩,⟨[.agg [.vec false 3 (q.map Bk.a),.row 3 v]],2,0,false,false⟩,⟨[.agg [.int .i64 n,.vec false 3 (b.map Bk.a)]],2,0,false,true⟩,⟨s.map Sb.a,2,v,false,true⟩]) Q
theorem call35 {args:List AV} {d:AV} (h:wc M1 fi35 Try.f35 args d):Ev M1 (.pure 35 args) d []:=pcl _ _ (by kernel_rfl) h
theorem svTs (g:Bool) (l:List Bk)  (dq:AV) (H :
  svTz_at (g) (l) (0) (PureQ dq)) :
 svTs_at g l (PureQ dq):=by
 unfold svTs_at
 exact path_wp (G:=given kp35 [] []) 1000 [] ⟨(atC (cd Try.f35) [1,1,1,0,0,0]),[(0,AV.vec g 3 (List.map Bk.a l)),(2,AV.ptr 0 0 0 0),(4,AV.ptr 1 0 0 0),(5,vi 0)],[⟨[ag [AV.vnil,AV.vnil]],2,0,false,false⟩,⟨[ag [AV.vnil,AV.vnil]],2,0,false,false⟩],_,[],_⟩ (by kernel_rfl) b0 q0 c0 (H)
noncomputable abbrev zSpW1 (i:Int) (l:List Bk):=bif i == 0 then true else !Sp.endB (l.getD (i - 1).toNat default).3
noncomputable abbrev zSpW2 (l:List Bk) (i:Int):=bif Sp.backB (l.getD i.toNat default).3 then true else Sp.letB (l.getD i.toNat default).3 79
noncomputable abbrev zSpW3 (l:List Bk) (i:Int):=Sp.backB (l.getD i.toNat default).3 == false && true
noncomputable abbrev zSpW4 (l:List Bk) (i:Int):=vb (Sp.endB (l.getD (i - 1).toNat default).3)
theorem svTz (g:Bool) (l:List Bk) (i:Int)  (dq:AV) (H :
  (-9223372036854775808 <= i - 1 /\ i - 1 <= 9223372036854775807) /\
  (((¬(i = 0)) /\ (i < (↑l.length:Int))) -> (Sp.few6 (l.getD (i - 1).toNat default).3.length)) /\
  (((¬(i = 0)) /\ (i < (↑l.length:Int))) -> (0 <= i - 1)) /\
  (((¬(i = 0)) /\ (i < (↑l.length:Int))) -> ((i - 1).toNat < l.length)) /\
  (((i < (↑l.length:Int)) /\ ((i = 0) \/ (¬(Sp.endB (l.getD (i - 1).toNat default).3 = true)))) -> (Sp.few6 (l.getD i.toNat default).3.length) /\
   (0 <= i) /\
   (i.toNat < l.length) /\
   (((Sp.backB (l.getD i.toNat default).3 = true) \/ (Sp.letB (l.getD i.toNat default).3 79 = true)) -> Weak (tu [ag [AV.vnil,AV.vnil],vi 1]) dq) /\
   (¬((Sp.backB (l.getD i.toNat default).3 = true) \/ (Sp.letB (l.getD i.toNat default).3 79 = true)) -> (-9223372036854775808 <= i + 1 /\ i + 1 <= 9223372036854775807) /\
    svTa_at (g) (l) (i + 1) ([{ sk:=(l.getD i.toNat default).1,f:=(l.getD i.toNat default).2,ws:=(l.getD i.toNat default).3,cm:=(l.getD i.toNat default).4 }]) (0) (PureQ dq))) /\
  (¬((i < (↑l.length:Int)) /\ ((i = 0) \/ (¬(Sp.endB (l.getD (i - 1).toNat default).3 = true)))) -> ((¬(i = 0)) -> (Sp.few6 (l.getD (i - 1).toNat default).3.length)) /\
   ((¬(i = 0)) -> (0 <= i - 1)) /\
   ((¬(i = 0)) -> ((i - 1).toNat < l.length)) /\
   (((i = 0) \/ (¬(Sp.endB (l.getD (i - 1).toNat default).3 = true))) -> Weak (tu [ag [AV.vnil,AV.vnil],vi 1]) dq) /\
   (¬((i = 0) \/ (¬(Sp.endB (l.getD (i - 1).toNat default).3 = true))) -> Wp M1 (.run fi35 (atC (cd Try.f35) [1,1,1,1,1,0]) [(0,AV.vec g 3 (List.map Bk.a l)),(2,AV.ptr 0 0 0 0),(4,AV.ptr 1 0 0 0),(5,vi i)] [{ elems:=[ag [AV.vnil,AV.vnil]],es:=2,ver:=0,frozen:=false,clean:=true },{ elems:=[ag [AV.vnil,AV.vnil]],es:=2,ver:=0,frozen:=false,clean:=true }]) (PureQ dq)))) :
 svTz_at g l i (PureQ dq):=by
 unfold svTz_at
 obtain ⟨k1,H⟩:=H
 have w2:wi (i - 1) = i - 1:=wI64 k1
 have w3:(List.map Bk.a l).length = l.length:=List.length_map ..
 have i4:((i == 0) == false && (decide (i < (↑(List.map Bk.a l).length:Int)) == true && true) && true) = true ↔ ((¬(i = 0)) /\ (i < (↑l.length:Int))):=(by (try rw [w3]);all_goals exact (i_at (i_and (i_bf i_eq) (i_at (i_bt i_dec)))))
 obtain ⟨k5,H⟩:=H
 have i6:(!((i == 0) == false && (decide (i < (↑(List.map Bk.a l).length:Int)) == true && true)) || decide (0 <= wi (i - 1))) = true ↔ (((¬(i = 0)) /\ (i < (↑l.length:Int))) -> (0 <= i - 1)):=(by (try rw [w2]);(try rw [w3]);all_goals exact (i_imp (i_and (i_bf i_eq) (i_at (i_bt i_dec))) i_dec))
 obtain ⟨k7,H⟩:=H
 have i8:(!((i == 0) == false && (decide (i < (↑(List.map Bk.a l).length:Int)) == true && true)) || decide ((wi (i - 1)).toNat < (List.map Bk.a l).length)) = true ↔ (((¬(i = 0)) /\ (i < (↑l.length:Int))) -> ((i - 1).toNat < l.length)):=(by (try rw [w2]);(try rw [w3]);all_goals exact (i_imp (i_and (i_bf i_eq) (i_at (i_bt i_dec))) i_dec))
 obtain ⟨k9,H⟩:=H
 have i11:(bif decide (i < (↑(List.map Bk.a l).length:Int)) then bif i == 0 then true else !Sp.endB (l.getD (i - 1).toNat default).3 else false) = true ↔ ((i < (↑l.length:Int)) /\ ((i = 0) \/ (¬(Sp.endB (l.getD (i - 1).toNat default).3 = true)))):=(by (try rw [w3]);all_goals exact (i_band i_dec (i_bor i_eq (i_not (i_var _)))))
 refine path_wp (G:=given kp35 [(3,12,.elem (ag [vb (l.getD (i - 1).toNat default).1,AV.vec (l.getD (i - 1).toNat default).2 2 (List.map Wo.a (l.getD (i - 1).toNat default).3),AV.str (l.getD (i - 1).toNat default).4])),(3,13,.call (zSpW4 l i) none)] []) 3 [] ⟨(atC (cd Try.f35) [1,1,1,0,0,0,0,1]),[(0,AV.vec g 3 (List.map Bk.a l)),(2,AV.ptr 0 0 0 0),(4,AV.ptr 1 0 0 0),(5,vi i),(24,vb (bif decide (i < (↑(List.map Bk.a l).length:Int)) then bif i == 0 then true else !Sp.endB (l.getD (i - 1).toNat default).3 else false))],[⟨[ag [AV.vnil,AV.vnil]],2,0,false,false⟩,⟨[ag [AV.vnil,AV.vnil]],2,0,false,false⟩],_,[(((i == 0) == false && (decide (i < (↑(List.map Bk.a l).length:Int)) == true && true)) = true -> (List.map Bk.a l).get?Internal (wi (i - 1)).toNat = some (ag [vb (l.getD (i - 1).toNat default).1,AV.vec (l.getD (i - 1).toNat default).2 2 (List.map Wo.a (l.getD (i - 1).toNat default).3),AV.str (l.getD (i - 1).toNat default).4]))],[⟨(i == 0) == false && (decide (i < (↑(List.map Bk.a l).length:Int)) == true && true) && true,false,64,[ag [vb (l.getD (i - 1).toNat default).1,AV.vec (l.getD (i - 1).toNat default).2 2 (List.map Wo.a (l.getD (i - 1).toNat default).3),AV.str (l.getD (i - 1).toNat default).4]],[],vb (Sp.endB (l.getD (i - 1).toNat default).3),[]⟩]⟩ (by kernel_rfl) (bc (i6.2 k7) (bc (i8.2 k9) b0)) (qc (by (try rw [w2]);(try rw [w3]);all_goals exact (fun h => el_map (k9 ((i_and (i_bf i_eq) (i_at (i_bt i_dec))).1 h)))) q0) (cc (fun hc => ((@ev64 ((l.getD (i - 1).toNat default).1) ((l.getD (i - 1).toNat default).2) ((l.getD (i - 1).toNat default).3) ((l.getD (i - 1).toNat default).4) (k5 (i4.1 hc))):Ev M1 (Conf.pure 64 [ag [vb (l.getD (i - 1).toNat default).1,AV.vec (l.getD (i - 1).toNat default).2 2 (List.map Wo.a (l.getD (i - 1).toNat default).3),AV.str (l.getD (i - 1).toNat default).4]]) (zSpW4 l i) [])) c0) ?_
 rcases xm ((i < (↑l.length:Int)) /\ ((i = 0) \/ (¬(Sp.endB (l.getD (i - 1).toNat default).3 = true)))) with d12 | d12
 ·have H:=H.1 d12
  obtain ⟨k13,H⟩:=H
  obtain ⟨k16,H⟩:=H
  have i17:(decide (i.toNat < (List.map Bk.a l).length)) = true ↔ (i.toNat < l.length):=(by (try rw [w3]);all_goals exact i_dec)
  obtain ⟨k18,H⟩:=H
  have i20:(!(zSpW3 l i) || decide (i.toNat < (List.map Bk.a l).length)) = true ↔ ((¬(Sp.backB (l.getD i.toNat default).3 = true)) -> (i.toNat < l.length)):=(by (try rw [w3]);all_goals exact (i_imp (i_at (i_bf (i_var _))) i_dec))
  refine path_wp (G:=given kp35 [(4,3,.elem (ag [vb (l.getD i.toNat default).1,AV.vec (l.getD i.toNat default).2 2 (List.map Wo.a (l.getD i.toNat default).3),AV.str (l.getD i.toNat default).4])),(4,4,.call (vb (Sp.backB (l.getD i.toNat default).3)) none),(4,9,.elem (ag [vb (l.getD i.toNat default).1,AV.vec (l.getD i.toNat default).2 2 (List.map Wo.a (l.getD i.toNat default).3),AV.str (l.getD i.toNat default).4])),(4,10,.call (vb (Sp.letB (l.getD i.toNat default).3 79)) none)] []) 6 [true] ⟨(atC (cd Try.f35) [1,1,1,0,0,0,1,0,0,1]),[(0,AV.vec g 3 (List.map Bk.a l)),(2,AV.ptr 0 0 0 0),(4,AV.ptr 1 0 0 0),(5,vi i),(36,vb (zSpW2 l i))],[⟨[ag [AV.vnil,AV.vnil]],2,0,false,false⟩,⟨[ag [AV.vnil,AV.vnil]],2,0,false,false⟩],[(bif decide (i < (↑(List.map Bk.a l).length:Int)) then bif i == 0 then true else !Sp.endB (l.getD (i - 1).toNat default).3 else false) == true,decide (0 <= i),decide (i.toNat < (List.map Bk.a l).length),!(zSpW3 l i) || decide (0 <= i),!(zSpW3 l i) || decide (i.toNat < (List.map Bk.a l).length)],[((List.map Bk.a l).get?Internal i.toNat = some (ag [vb (l.getD i.toNat default).1,AV.vec (l.getD i.toNat default).2 2 (List.map Wo.a (l.getD i.toNat default).3),AV.str (l.getD i.toNat default).4])),((zSpW3 l i) = true -> (List.map Bk.a l).get?Internal i.toNat = some (ag [vb (l.getD i.toNat default).1,AV.vec (l.getD i.toNat default).2 2 (List.map Wo.a (l.getD i.toNat default).3),AV.str (l.getD i.toNat default).4]))],[⟨true,false,65,[ag [vb (l.getD i.toNat default).1,AV.vec (l.getD i.toNat default).2 2 (List.map Wo.a (l.getD i.toNat default).3),AV.str (l.getD i.toNat default).4]],[],vb (Sp.backB (l.getD i.toNat default).3),[]⟩,⟨Sp.backB (l.getD i.toNat default).3 == false && true && true,false,66,[ag [vb (l.getD i.toNat default).1,AV.vec (l.getD i.toNat default).2 2 (List.map Wo.a (l.getD i.toNat default).3),AV.str (l.getD i.toNat default).4],AV.int IntKind.u8 79],[],vb (Sp.letB (l.getD i.toNat default).3 79),[]⟩]⟩ (by kernel_rfl) (bc (beq_t (i11.2 d12)) (bc (i_dec.2 k16) (bc (i17.2 k18) (bc ((i_imp (i_at (i_bf (i_var _))) i_dec).2 (fun _ => k16)) (bc (i20.2 (fun _ => k18)) b0))))) (qc (el_map k18) (qc (fun h => el_map k18) q0)) (cc (fun _ => (@ev65 ((l.getD i.toNat default).1) ((l.getD i.toNat default).2) ((l.getD i.toNat default).3) ((l.getD i.toNat default).4) k13)) (cc (fun hc => ((@ev66 ((l.getD i.toNat default).1) ((l.getD i.toNat default).2) ((l.getD i.toNat default).3) ((l.getD i.toNat default).4) (79) k13):Ev M1 (Conf.pure 66 [ag [vb (l.getD i.toNat default).1,AV.vec (l.getD i.toNat default).2 2 (List.map Wo.a (l.getD i.toNat default).3),AV.str (l.getD i.toNat default).4],AV.int IntKind.u8 79]) (vb (Sp.letB (l.getD i.toNat default).3 79)) [])) c0)) ?_
  rcases xm ((Sp.backB (l.getD i.toNat default).3 = true) \/ (Sp.letB (l.getD i.toNat default).3 79 = true)) with d23 | d23
  ·have H:=H.1 d23
   exact path_rq (G:=given kp35 [] []) 1000 [true] (asm:=[(zSpW2 l i) == true,true]) (tu [ag [AV.vnil,AV.vnil],vi 1]) (by kernel_rfl) (bc (beq_t ((i_bor (i_var _) (i_var _)).2 d23)) (bc rfl b0)) q0 c0 H
  ·have H:=H.2 d23
   have i25:(decide (i.toNat < (List.map Bk.a l).length)) = true ↔ (i.toNat < l.length):=(by (try rw [w3]);all_goals exact i_dec)
   obtain ⟨k26,H⟩:=H
   have w27:wi (i + 1) = i + 1:=wI64 k26
   have w28:[ag [vb (l.getD i.toNat default).1,AV.vec (l.getD i.toNat default).2 2 (List.map Wo.a (l.getD i.toNat default).3),AV.str (l.getD i.toNat default).4]] = List.map Bk.a [{ sk:=(l.getD i.toNat default).1,f:=(l.getD i.toNat default).2,ws:=(l.getD i.toNat default).3,cm:=(l.getD i.toNat default).4 }]:=rfl
   exact path_wp (G:=given kp35 [(6,5,.elem (ag [vb (l.getD i.toNat default).1,AV.vec (l.getD i.toNat default).2 2 (List.map Wo.a (l.getD i.toNat default).3),AV.str (l.getD i.toNat default).4]))] []) 1000 [false] ⟨(atC (cd Try.f35) [1,1,1,0,0,0]),[(0,AV.vec g 3 (List.map Bk.a l)),(2,AV.ptr 0 0 0 0),(4,AV.ptr 1 0 0 0),(5,vi (wi (i + 1)))],[⟨[ag [AV.vnil,AV.vnil]],2,0,false,false⟩,⟨[ag [AV.row 2 0,AV.vnil]],2,0,false,false⟩,⟨[ag [vb (l.getD i.toNat default).1,AV.vec (l.getD i.toNat default).2 2 (List.map Wo.a (l.getD i.toNat default).3),AV.str (l.getD i.toNat default).4]],3,0,false,true⟩],[(zSpW2 l i) == false,true,decide (0 <= i),decide (i.toNat < (List.map Bk.a l).length),true,true],[((List.map Bk.a l).get?Internal i.toNat = some (ag [vb (l.getD i.toNat default).1,AV.vec (l.getD i.toNat default).2 2 (List.map Wo.a (l.getD i.toNat default).3),AV.str (l.getD i.toNat default).4]))],_⟩ (by kernel_rfl) (bc (beq_f (fun h => d23 ((i_bor (i_var _) (i_var _)).1 h))) (bc rfl (bc (i_dec.2 k16) (bc (i25.2 k18) (bc rfl (bc rfl b0)))))) (qc (el_map k18) q0) c0 (by (try rw [w27]);(try rw [w28]);all_goals exact H)
 ·have H:=H.2 d12
  obtain ⟨k30,H⟩:=H
  have i31:(!((i == 0) == false && true) || decide (0 <= wi (i - 1))) = true ↔ ((¬(i = 0)) -> (0 <= i - 1)):=(by (try rw [w2]);all_goals exact (i_imp (i_at (i_bf i_eq)) i_dec))
  obtain ⟨k32,H⟩:=H
  have i33:(!((i == 0) == false && true) || decide ((wi (i - 1)).toNat < (List.map Bk.a l).length)) = true ↔ ((¬(i = 0)) -> ((i - 1).toNat < l.length)):=(by (try rw [w2]);(try rw [w3]);all_goals exact (i_imp (i_at (i_bf i_eq)) i_dec))
  obtain ⟨k34,H⟩:=H
  refine path_wp (G:=given kp35 [(8,7,.elem (ag [vb (l.getD (i - 1).toNat default).1,AV.vec (l.getD (i - 1).toNat default).2 2 (List.map Wo.a (l.getD (i - 1).toNat default).3),AV.str (l.getD (i - 1).toNat default).4])),(8,8,.call (zSpW4 l i) none)] []) 5 [false] ⟨(atC (cd Try.f35) [1,1,1,1,0,1]),[(0,AV.vec g 3 (List.map Bk.a l)),(2,AV.ptr 0 0 0 0),(4,AV.ptr 1 0 0 0),(5,vi i),(59,vb (zSpW1 i l))],[⟨[ag [AV.vnil,AV.vnil]],2,0,false,false⟩,⟨[ag [AV.vnil,AV.vnil]],2,0,false,false⟩],_,[(((i == 0) == false && true) = true -> (List.map Bk.a l).get?Internal (wi (i - 1)).toNat = some (ag [vb (l.getD (i - 1).toNat default).1,AV.vec (l.getD (i - 1).toNat default).2 2 (List.map Wo.a (l.getD (i - 1).toNat default).3),AV.str (l.getD (i - 1).toNat default).4]))],[⟨(i == 0) == false && true && true,false,64,[ag [vb (l.getD (i - 1).toNat default).1,AV.vec (l.getD (i - 1).toNat default).2 2 (List.map Wo.a (l.getD (i - 1).toNat default).3),AV.str (l.getD (i - 1).toNat default).4]],[],vb (Sp.endB (l.getD (i - 1).toNat default).3),[]⟩]⟩ (by kernel_rfl) (bc (beq_f (fun h => d12 (i11.1 h))) (bc (i31.2 k32) (bc (i33.2 k34) b0))) (qc (by (try rw [w2]);all_goals exact (fun h => el_map (k34 ((i_at (i_bf i_eq)).1 h)))) q0) (cc (fun hc => ((@ev64 ((l.getD (i - 1).toNat default).1) ((l.getD (i - 1).toNat default).2) ((l.getD (i - 1).toNat default).3) ((l.getD (i - 1).toNat default).4) (k30 ((i_at (i_at (i_bf i_eq))).1 hc))):Ev M1 (Conf.pure 64 [ag [vb (l.getD (i - 1).toNat default).1,AV.vec (l.getD (i - 1).toNat default).2 2 (List.map Wo.a (l.getD (i - 1).toNat default).3),AV.str (l.getD (i - 1).toNat default).4]]) (zSpW4 l i) [])) c0) ?_
  rcases xm ((i = 0) \/ (¬(Sp.endB (l.getD (i - 1).toNat default).3 = true))) with d37 | d37
  ·have H:=H.1 d37
   exact path_rq (G:=given kp35 [] []) 1000 [true] (asm:=[(zSpW1 i l) == true,true]) (tu [ag [AV.vnil,AV.vnil],vi 1]) (by kernel_rfl) (bc (beq_t ((i_bor i_eq (i_not (i_var _))).2 d37)) (bc rfl b0)) q0 c0 H
  ·have H:=H.2 d37
   exact path_wp (G:=given kp35 [] []) 3 [false] ⟨(atC (cd Try.f35) [1,1,1,1,1,0]),[(0,AV.vec g 3 (List.map Bk.a l)),(2,AV.ptr 0 0 0 0),(4,AV.ptr 1 0 0 0),(5,vi i),(59,vb (zSpW1 i l))],[⟨[ag [AV.vnil,AV.vnil]],2,0,false,false⟩,⟨[ag [AV.vnil,AV.vnil]],2,0,false,false⟩],[(zSpW1 i l) == false],[],_⟩ (by kernel_rfl) (bc (beq_f (fun h => d37 ((i_bor i_eq (i_not (i_var _))).1 h))) b0) q0 c0 (Wp.less [0,2,4,5] (wp_melt (by kernel_rfl) [] (env':=[(0,AV.vec g 3 (List.map Bk.a l)),(2,AV.ptr 0 0 0 0),(4,AV.ptr 1 0 0 0),(5,vi i)]) (L':=[⟨[ag [AV.vnil,AV.vnil]],2,0,false,true⟩,⟨[ag [AV.vnil,AV.vnil]],2,0,false,true⟩]) (bs:=[]) (by kernel_rfl) (by kernel_rfl) (by kernel_rfl) allB_nil (H)))
noncomputable abbrev zSpW5 (i:Int) (l:List Bk):=bif i == 0 then true else !Sp.endB (l.getD (i - 1).toNat default).3
noncomputable abbrev zSpW6 (l:List Bk) (i:Int):=bif Sp.backB (l.getD i.toNat default).3 then true else Sp.letB (l.getD i.toNat default).3 79
noncomputable abbrev zSpW7 (l:List Bk) (i:Int):=Sp.backB (l.getD i.toNat default).3 == false && true
noncomputable abbrev zSpW8 (l:List Bk) (i:Int):=vb (Sp.endB (l.getD (i - 1).toNat default).3)
theorem svTa (g:Bool) (l:List Bk) (i:Int) (q:List Bk) (v:Nat)  (dq:AV) (H :
  (-9223372036854775808 <= i - 1 /\ i - 1 <= 9223372036854775807) /\
  (((¬(i = 0)) /\ (i < (↑l.length:Int))) -> (Sp.few6 (l.getD (i - 1).toNat default).3.length)) /\
  (((¬(i = 0)) /\ (i < (↑l.length:Int))) -> (0 <= i - 1)) /\
  (((¬(i = 0)) /\ (i < (↑l.length:Int))) -> ((i - 1).toNat < l.length)) /\
  (((i < (↑l.length:Int)) /\ ((i = 0) \/ (¬(Sp.endB (l.getD (i - 1).toNat default).3 = true)))) -> (Sp.few6 (l.getD i.toNat default).3.length) /\
   (0 <= i) /\
   (i.toNat < l.length) /\
   (((Sp.backB (l.getD i.toNat default).3 = true) \/ (Sp.letB (l.getD i.toNat default).3 79 = true)) -> Weak (tu [ag [AV.vnil,AV.vnil],vi 1]) dq) /\
   (¬((Sp.backB (l.getD i.toNat default).3 = true) \/ (Sp.letB (l.getD i.toNat default).3 79 = true)) -> ((q.length + 1) * 48 <= 1099511627776) /\
    (-9223372036854775808 <= i + 1 /\ i + 1 <= 9223372036854775807) /\
    svTa_at (g) (l) (i + 1) (q ++ [{ sk:=(l.getD i.toNat default).1,f:=(l.getD i.toNat default).2,ws:=(l.getD i.toNat default).3,cm:=(l.getD i.toNat default).4 }]) (v + 1) (PureQ dq))) /\
  (¬((i < (↑l.length:Int)) /\ ((i = 0) \/ (¬(Sp.endB (l.getD (i - 1).toNat default).3 = true)))) -> ((¬(i = 0)) -> (Sp.few6 (l.getD (i - 1).toNat default).3.length)) /\
   ((¬(i = 0)) -> (0 <= i - 1)) /\
   ((¬(i = 0)) -> ((i - 1).toNat < l.length)) /\
   (((i = 0) \/ (¬(Sp.endB (l.getD (i - 1).toNat default).3 = true))) -> Weak (tu [ag [AV.vnil,AV.vnil],vi 1]) dq) /\
   (¬((i = 0) \/ (¬(Sp.endB (l.getD (i - 1).toNat default).3 = true))) -> svTw_at (g) (l) (i) (q) (PureQ dq)))) :
 svTa_at g l i q v (PureQ dq):=by
 unfold svTa_at
 obtain ⟨k1,H⟩:=H
 have w2:wi (i - 1) = i - 1:=wI64 k1
 have w3:(List.map Bk.a l).length = l.length:=List.length_map ..
 have i4:((i == 0) == false && (decide (i < (↑(List.map Bk.a l).length:Int)) == true && true) && true) = true ↔ ((¬(i = 0)) /\ (i < (↑l.length:Int))):=(by (try rw [w3]);all_goals exact (i_at (i_and (i_bf i_eq) (i_at (i_bt i_dec)))))
 obtain ⟨k5,H⟩:=H
 have i6:(!((i == 0) == false && (decide (i < (↑(List.map Bk.a l).length:Int)) == true && true)) || decide (0 <= wi (i - 1))) = true ↔ (((¬(i = 0)) /\ (i < (↑l.length:Int))) -> (0 <= i - 1)):=(by (try rw [w2]);(try rw [w3]);all_goals exact (i_imp (i_and (i_bf i_eq) (i_at (i_bt i_dec))) i_dec))
 obtain ⟨k7,H⟩:=H
 have i8:(!((i == 0) == false && (decide (i < (↑(List.map Bk.a l).length:Int)) == true && true)) || decide ((wi (i - 1)).toNat < (List.map Bk.a l).length)) = true ↔ (((¬(i = 0)) /\ (i < (↑l.length:Int))) -> ((i - 1).toNat < l.length)):=(by (try rw [w2]);(try rw [w3]);all_goals exact (i_imp (i_and (i_bf i_eq) (i_at (i_bt i_dec))) i_dec))
 obtain ⟨k9,H⟩:=H
 have i11:(bif decide (i < (↑(List.map Bk.a l).length:Int)) then bif i == 0 then true else !Sp.endB (l.getD (i - 1).toNat default).3 else false) = true ↔ ((i < (↑l.length:Int)) /\ ((i = 0) \/ (¬(Sp.endB (l.getD (i - 1).toNat default).3 = true)))):=(by (try rw [w3]);all_goals exact (i_band i_dec (i_bor i_eq (i_not (i_var _)))))
 refine path_wp (G:=given kp35 [(3,12,.elem (ag [vb (l.getD (i - 1).toNat default).1,AV.vec (l.getD (i - 1).toNat default).2 2 (List.map Wo.a (l.getD (i - 1).toNat default).3),AV.str (l.getD (i - 1).toNat default).4])),(3,13,.call (zSpW8 l i) none)] []) 3 [] ⟨(atC (cd Try.f35) [1,1,1,0,0,0,0,1]),[(0,AV.vec g 3 (List.map Bk.a l)),(2,AV.ptr 0 0 0 0),(4,AV.ptr 1 0 0 0),(5,vi i),(24,vb (bif decide (i < (↑(List.map Bk.a l).length:Int)) then bif i == 0 then true else !Sp.endB (l.getD (i - 1).toNat default).3 else false))],[⟨[ag [AV.vnil,AV.vnil]],2,0,false,false⟩,⟨[ag [AV.row 2 v,AV.vnil]],2,0,false,false⟩,⟨List.map Bk.a q,3,v,false,true⟩],_,[(((i == 0) == false && (decide (i < (↑(List.map Bk.a l).length:Int)) == true && true)) = true -> (List.map Bk.a l).get?Internal (wi (i - 1)).toNat = some (ag [vb (l.getD (i - 1).toNat default).1,AV.vec (l.getD (i - 1).toNat default).2 2 (List.map Wo.a (l.getD (i - 1).toNat default).3),AV.str (l.getD (i - 1).toNat default).4]))],[⟨(i == 0) == false && (decide (i < (↑(List.map Bk.a l).length:Int)) == true && true) && true,false,64,[ag [vb (l.getD (i - 1).toNat default).1,AV.vec (l.getD (i - 1).toNat default).2 2 (List.map Wo.a (l.getD (i - 1).toNat default).3),AV.str (l.getD (i - 1).toNat default).4]],[],vb (Sp.endB (l.getD (i - 1).toNat default).3),[]⟩]⟩ (by kernel_rfl) (bc (i6.2 k7) (bc (i8.2 k9) b0)) (qc (by (try rw [w2]);(try rw [w3]);all_goals exact (fun h => el_map (k9 ((i_and (i_bf i_eq) (i_at (i_bt i_dec))).1 h)))) q0) (cc (fun hc => ((@ev64 ((l.getD (i - 1).toNat default).1) ((l.getD (i - 1).toNat default).2) ((l.getD (i - 1).toNat default).3) ((l.getD (i - 1).toNat default).4) (k5 (i4.1 hc))):Ev M1 (Conf.pure 64 [ag [vb (l.getD (i - 1).toNat default).1,AV.vec (l.getD (i - 1).toNat default).2 2 (List.map Wo.a (l.getD (i - 1).toNat default).3),AV.str (l.getD (i - 1).toNat default).4]]) (zSpW8 l i) [])) c0) ?_
 rcases xm ((i < (↑l.length:Int)) /\ ((i = 0) \/ (¬(Sp.endB (l.getD (i - 1).toNat default).3 = true)))) with d12 | d12
 ·have H:=H.1 d12
  obtain ⟨k13,H⟩:=H
  obtain ⟨k16,H⟩:=H
  have i17:(decide (i.toNat < (List.map Bk.a l).length)) = true ↔ (i.toNat < l.length):=(by (try rw [w3]);all_goals exact i_dec)
  obtain ⟨k18,H⟩:=H
  have i20:(!(zSpW7 l i) || decide (i.toNat < (List.map Bk.a l).length)) = true ↔ ((¬(Sp.backB (l.getD i.toNat default).3 = true)) -> (i.toNat < l.length)):=(by (try rw [w3]);all_goals exact (i_imp (i_at (i_bf (i_var _))) i_dec))
  refine path_wp (G:=given kp35 [(4,3,.elem (ag [vb (l.getD i.toNat default).1,AV.vec (l.getD i.toNat default).2 2 (List.map Wo.a (l.getD i.toNat default).3),AV.str (l.getD i.toNat default).4])),(4,4,.call (vb (Sp.backB (l.getD i.toNat default).3)) none),(4,9,.elem (ag [vb (l.getD i.toNat default).1,AV.vec (l.getD i.toNat default).2 2 (List.map Wo.a (l.getD i.toNat default).3),AV.str (l.getD i.toNat default).4])),(4,10,.call (vb (Sp.letB (l.getD i.toNat default).3 79)) none)] []) 6 [true] ⟨(atC (cd Try.f35) [1,1,1,0,0,0,1,0,0,1]),[(0,AV.vec g 3 (List.map Bk.a l)),(2,AV.ptr 0 0 0 0),(4,AV.ptr 1 0 0 0),(5,vi i),(36,vb (zSpW6 l i))],[⟨[ag [AV.vnil,AV.vnil]],2,0,false,false⟩,⟨[ag [AV.row 2 v,AV.vnil]],2,0,false,false⟩,⟨List.map Bk.a q,3,v,false,true⟩],[(bif decide (i < (↑(List.map Bk.a l).length:Int)) then bif i == 0 then true else !Sp.endB (l.getD (i - 1).toNat default).3 else false) == true,decide (0 <= i),decide (i.toNat < (List.map Bk.a l).length),!(zSpW7 l i) || decide (0 <= i),!(zSpW7 l i) || decide (i.toNat < (List.map Bk.a l).length)],[((List.map Bk.a l).get?Internal i.toNat = some (ag [vb (l.getD i.toNat default).1,AV.vec (l.getD i.toNat default).2 2 (List.map Wo.a (l.getD i.toNat default).3),AV.str (l.getD i.toNat default).4])),((zSpW7 l i) = true -> (List.map Bk.a l).get?Internal i.toNat = some (ag [vb (l.getD i.toNat default).1,AV.vec (l.getD i.toNat default).2 2 (List.map Wo.a (l.getD i.toNat default).3),AV.str (l.getD i.toNat default).4]))],[⟨true,false,65,[ag [vb (l.getD i.toNat default).1,AV.vec (l.getD i.toNat default).2 2 (List.map Wo.a (l.getD i.toNat default).3),AV.str (l.getD i.toNat default).4]],[],vb (Sp.backB (l.getD i.toNat default).3),[]⟩,⟨Sp.backB (l.getD i.toNat default).3 == false && true && true,false,66,[ag [vb (l.getD i.toNat default).1,AV.vec (l.getD i.toNat default).2 2 (List.map Wo.a (l.getD i.toNat default).3),AV.str (l.getD i.toNat default).4],AV.int IntKind.u8 79],[],vb (Sp.letB (l.getD i.toNat default).3 79),[]⟩]⟩ (by kernel_rfl) (bc (beq_t (i11.2 d12)) (bc (i_dec.2 k16) (bc (i17.2 k18) (bc ((i_imp (i_at (i_bf (i_var _))) i_dec).2 (fun _ => k16)) (bc (i20.2 (fun _ => k18)) b0))))) (qc (el_map k18) (qc (fun h => el_map k18) q0)) (cc (fun _ => (@ev65 ((l.getD i.toNat default).1) ((l.getD i.toNat default).2) ((l.getD i.toNat default).3) ((l.getD i.toNat default).4) k13)) (cc (fun hc => ((@ev66 ((l.getD i.toNat default).1) ((l.getD i.toNat default).2) ((l.getD i.toNat default).3) ((l.getD i.toNat default).4) (79) k13):Ev M1 (Conf.pure 66 [ag [vb (l.getD i.toNat default).1,AV.vec (l.getD i.toNat default).2 2 (List.map Wo.a (l.getD i.toNat default).3),AV.str (l.getD i.toNat default).4],AV.int IntKind.u8 79]) (vb (Sp.letB (l.getD i.toNat default).3 79)) [])) c0)) ?_
  rcases xm ((Sp.backB (l.getD i.toNat default).3 = true) \/ (Sp.letB (l.getD i.toNat default).3 79 = true)) with d23 | d23
  ·have H:=H.1 d23
   exact path_rq (G:=given kp35 [] []) 1000 [true] (asm:=[(zSpW6 l i) == true,true]) (tu [ag [AV.vnil,AV.vnil],vi 1]) (by kernel_rfl) (bc (beq_t ((i_bor (i_var _) (i_var _)).2 d23)) (bc rfl b0)) q0 c0 H
  ·have H:=H.2 d23
   have i25:(decide (i.toNat < (List.map Bk.a l).length)) = true ↔ (i.toNat < l.length):=(by (try rw [w3]);all_goals exact i_dec)
   have w26:(List.map Bk.a q).length = q.length:=List.length_map ..
   have i27:(decide (((List.map Bk.a q).length + 1) * 48 <= 1099511627776)) = true ↔ ((q.length + 1) * 48 <= 1099511627776):=(by (try rw [w26]);all_goals exact i_dec)
   obtain ⟨k28,H⟩:=H
   have w29:List.map Bk.a q ++ [ag [vb (l.getD i.toNat default).1,AV.vec (l.getD i.toNat default).2 2 (List.map Wo.a (l.getD i.toNat default).3),AV.str (l.getD i.toNat default).4]] = List.map Bk.a (q ++ [{ sk:=(l.getD i.toNat default).1,f:=(l.getD i.toNat default).2,ws:=(l.getD i.toNat default).3,cm:=(l.getD i.toNat default).4 }]):=(lm_app rfl rfl)
   obtain ⟨k30,H⟩:=H
   have w31:wi (i + 1) = i + 1:=wI64 k30
   exact path_wp (G:=given kp35 [(6,5,.elem (ag [vb (l.getD i.toNat default).1,AV.vec (l.getD i.toNat default).2 2 (List.map Wo.a (l.getD i.toNat default).3),AV.str (l.getD i.toNat default).4]))] []) 1000 [false] ⟨(atC (cd Try.f35) [1,1,1,0,0,0]),[(0,AV.vec g 3 (List.map Bk.a l)),(2,AV.ptr 0 0 0 0),(4,AV.ptr 1 0 0 0),(5,vi (wi (i + 1)))],[⟨[ag [AV.vnil,AV.vnil]],2,0,false,false⟩,⟨[ag [AV.row 2 (v + 1),AV.vnil]],2,0,false,false⟩,⟨List.map Bk.a q ++ [ag [vb (l.getD i.toNat default).1,AV.vec (l.getD i.toNat default).2 2 (List.map Wo.a (l.getD i.toNat default).3),AV.str (l.getD i.toNat default).4]],3,v + 1,false,true⟩],[(zSpW6 l i) == false,true,decide (0 <= i),decide (i.toNat < (List.map Bk.a l).length),v == v,decide (((List.map Bk.a q).length + 1) * 48 <= 1099511627776),true],[((List.map Bk.a l).get?Internal i.toNat = some (ag [vb (l.getD i.toNat default).1,AV.vec (l.getD i.toNat default).2 2 (List.map Wo.a (l.getD i.toNat default).3),AV.str (l.getD i.toNat default).4]))],_⟩ (by kernel_rfl) (bc (beq_f (fun h => d23 ((i_bor (i_var _) (i_var _)).1 h))) (bc rfl (bc (i_dec.2 k16) (bc (i25.2 k18) (bc (beq_self_eq_true _) (bc (i27.2 k28) (bc rfl b0))))))) (qc (el_map k18) q0) c0 (by (try rw [w29]);(try rw [w31]);all_goals exact H)
 ·have H:=H.2 d12
  obtain ⟨k33,H⟩:=H
  have i34:(!((i == 0) == false && true) || decide (0 <= wi (i - 1))) = true ↔ ((¬(i = 0)) -> (0 <= i - 1)):=(by (try rw [w2]);all_goals exact (i_imp (i_at (i_bf i_eq)) i_dec))
  obtain ⟨k35,H⟩:=H
  have i36:(!((i == 0) == false && true) || decide ((wi (i - 1)).toNat < (List.map Bk.a l).length)) = true ↔ ((¬(i = 0)) -> ((i - 1).toNat < l.length)):=(by (try rw [w2]);(try rw [w3]);all_goals exact (i_imp (i_at (i_bf i_eq)) i_dec))
  obtain ⟨k37,H⟩:=H
  refine path_wp (G:=given kp35 [(8,7,.elem (ag [vb (l.getD (i - 1).toNat default).1,AV.vec (l.getD (i - 1).toNat default).2 2 (List.map Wo.a (l.getD (i - 1).toNat default).3),AV.str (l.getD (i - 1).toNat default).4])),(8,8,.call (zSpW8 l i) none)] []) 5 [false] ⟨(atC (cd Try.f35) [1,1,1,1,0,1]),[(0,AV.vec g 3 (List.map Bk.a l)),(2,AV.ptr 0 0 0 0),(4,AV.ptr 1 0 0 0),(5,vi i),(59,vb (zSpW5 i l))],[⟨[ag [AV.vnil,AV.vnil]],2,0,false,false⟩,⟨[ag [AV.row 2 v,AV.vnil]],2,0,false,false⟩,⟨List.map Bk.a q,3,v,false,true⟩],_,[(((i == 0) == false && true) = true -> (List.map Bk.a l).get?Internal (wi (i - 1)).toNat = some (ag [vb (l.getD (i - 1).toNat default).1,AV.vec (l.getD (i - 1).toNat default).2 2 (List.map Wo.a (l.getD (i - 1).toNat default).3),AV.str (l.getD (i - 1).toNat default).4]))],[⟨(i == 0) == false && true && true,false,64,[ag [vb (l.getD (i - 1).toNat default).1,AV.vec (l.getD (i - 1).toNat default).2 2 (List.map Wo.a (l.getD (i - 1).toNat default).3),AV.str (l.getD (i - 1).toNat default).4]],[],vb (Sp.endB (l.getD (i - 1).toNat default).3),[]⟩]⟩ (by kernel_rfl) (bc (beq_f (fun h => d12 (i11.1 h))) (bc (i34.2 k35) (bc (i36.2 k37) b0))) (qc (by (try rw [w2]);all_goals exact (fun h => el_map (k37 ((i_at (i_bf i_eq)).1 h)))) q0) (cc (fun hc => ((@ev64 ((l.getD (i - 1).toNat default).1) ((l.getD (i - 1).toNat default).2) ((l.getD (i - 1).toNat default).3) ((l.getD (i - 1).toNat default).4) (k33 ((i_at (i_at (i_bf i_eq))).1 hc))):Ev M1 (Conf.pure 64 [ag [vb (l.getD (i - 1).toNat default).1,AV.vec (l.getD (i - 1).toNat default).2 2 (List.map Wo.a (l.getD (i - 1).toNat default).3),AV.str (l.getD (i - 1).toNat default).4]]) (zSpW8 l i) [])) c0) ?_
  rcases xm ((i = 0) \/ (¬(Sp.endB (l.getD (i - 1).toNat default).3 = true))) with d40 | d40
  ·have H:=H.1 d40
   exact path_rq (G:=given kp35 [] []) 1000 [true] (asm:=[(zSpW5 i l) == true,true]) (tu [ag [AV.vnil,AV.vnil],vi 1]) (by kernel_rfl) (bc (beq_t ((i_bor i_eq (i_not (i_var _))).2 d40)) (bc rfl b0)) q0 c0 H
  ·have H:=H.2 d40
   exact path_wp (G:=given kp35 [] []) 3 [false] ⟨(atC (cd Try.f35) [1,1,1,1,1,0]),[(0,AV.vec g 3 (List.map Bk.a l)),(2,AV.ptr 0 0 0 0),(4,AV.ptr 1 0 0 0),(5,vi i),(59,vb (zSpW5 i l))],[⟨[ag [AV.vnil,AV.vnil]],2,0,false,false⟩,⟨[ag [AV.row 2 v,AV.vnil]],2,0,false,false⟩,⟨List.map Bk.a q,3,v,false,true⟩],[(zSpW5 i l) == false],[],_⟩ (by kernel_rfl) (bc (beq_f (fun h => d40 ((i_bor i_eq (i_not (i_var _))).1 h))) b0) q0 c0 (Wp.less [0,2,4,5] (wp_melt (by kernel_rfl) [2] (env':=[(0,AV.vec g 3 (List.map Bk.a l)),(2,AV.ptr 0 0 0 0),(4,AV.ptr 1 0 0 0),(5,vi i)]) (L':=[⟨[ag [AV.vnil,AV.vnil]],2,0,false,true⟩,⟨[ag [AV.vec false 3 (List.map Bk.a q),AV.vnil]],2,0,false,true⟩,⟨List.map Bk.a q,3,v,true,true⟩]) (bs:=[v == v]) (by kernel_rfl) (by kernel_rfl) (by kernel_rfl) (allB_cons (beq_self_eq_true _) allB_nil) (wp_narrow [0,1] (by kernel_rfl) H)))
theorem svTw (g:Bool) (l:List Bk) (i:Int) (q:List Bk)  (dq:AV) (H :
  svTn_at (g) (l) (i) (q) (false) (PureQ dq)) :
 svTw_at g l i q (PureQ dq):=by
 unfold svTw_at
 exact path_wp (G:=given kp35 [] []) 1000 [] ⟨(atC (cd Try.f35) [1,1,1,1,1,1,0,0,0]),[(0,AV.vec g 3 (List.map Bk.a l)),(2,AV.ptr 0 0 0 0),(4,AV.ptr 1 0 0 0),(5,vi i),(6,vb false)],[⟨[ag [AV.vnil,AV.vnil]],2,0,false,true⟩,⟨[ag [AV.vec false 3 (List.map Bk.a q),AV.vnil]],2,0,false,true⟩],_,[],_⟩ (by kernel_rfl) b0 q0 c0 (H)
noncomputable abbrev zSpW9 (l:List Bk) (i:Int):=ag [AV.int IntKind.u8 ((l.getD i.toNat default).3.getD 0 default).l,vi ((l.getD i.toNat default).3.getD 0 default).v]
noncomputable abbrev zSpW10 (l:List Bk) (i:Int):=Sp.whR ((l.getD i.toNat default).3.getD 0 default).v
noncomputable abbrev zSpW11 (l:List Bk) (i:Int):=bif !Sp.onB (l.getD i.toNat default).1 (l.getD i.toNat default).3 (l.getD i.toNat default).4 79 then true else Sp.whR ((l.getD i.toNat default).3.getD 0 default).v == 0
noncomputable abbrev zSpW12 (l:List Bk) (i:Int):=Sp.onB (l.getD i.toNat default).1 (l.getD i.toNat default).3 (l.getD i.toNat default).4 79 = true
theorem svTn (g:Bool) (l:List Bk) (i:Int) (q:List Bk) (tw:Bool)  (dq:AV) (H :
  ((i < (↑l.length:Int)) -> ((¬(¬(Sp.onB (l.getD i.toNat default).1 (l.getD i.toNat default).3 (l.getD i.toNat default).4 79 = true))) -> (Sp.okV ((l.getD i.toNat default).3.getD 0 default).v)) /\
   (0 <= i) /\
   (i.toNat < l.length) /\
   ((¬(¬(Sp.onB (l.getD i.toNat default).1 (l.getD i.toNat default).3 (l.getD i.toNat default).4 79 = true))) -> (0 < (l.getD i.toNat default).3.length)) /\
   (((¬(Sp.onB (l.getD i.toNat default).1 (l.getD i.toNat default).3 (l.getD i.toNat default).4 79 = true)) \/ (Sp.whR ((l.getD i.toNat default).3.getD 0 default).v = 0)) -> Weak (tu [ag [AV.vnil,AV.vnil],vi 1]) dq) /\
   (¬((¬(Sp.onB (l.getD i.toNat default).1 (l.getD i.toNat default).3 (l.getD i.toNat default).4 79 = true)) \/ (Sp.whR ((l.getD i.toNat default).3.getD 0 default).v = 0)) -> (Sp.okV ((l.getD i.toNat default).3.getD 0 default).v) /\
    (0 < (l.getD i.toNat default).3.length) /\
    (-9223372036854775808 <= i + 1 /\ i + 1 <= 9223372036854775807) /\
    svTnn_at (g) (l) (i + 1) (q) (bif tw then true else false) (Sp.whR ((l.getD i.toNat default).3.getD 0 default).v) (PureQ dq))) /\
  (¬(i < (↑l.length:Int)) -> ((tw = true) -> Weak (tu [ag [AV.vnil,AV.vnil],vi 5]) dq) /\
   (¬(tw = true) -> Weak (tu [ag [AV.vec false 3 (List.map Bk.a q),AV.vnil],vi 0]) dq))) :
 svTn_at g l i q tw (PureQ dq):=by
 unfold svTn_at
 have w1:(List.map Bk.a l).length = l.length:=List.length_map ..
 have i2:(decide (i < (↑(List.map Bk.a l).length:Int))) = true ↔ (i < (↑l.length:Int)):=(by (try rw [w1]);all_goals exact i_dec)
 rcases xm (i < (↑l.length:Int)) with d3 | d3
 ·have H:=H.1 d3
  obtain ⟨k5,H⟩:=H
  obtain ⟨k7,H⟩:=H
  have i8:(decide (i.toNat < (List.map Bk.a l).length)) = true ↔ (i.toNat < l.length):=(by (try rw [w1]);all_goals exact i_dec)
  obtain ⟨k9,H⟩:=H
  have i11:(!((!Sp.onB (l.getD i.toNat default).1 (l.getD i.toNat default).3 (l.getD i.toNat default).4 79) == false && true) || decide (i.toNat < (List.map Bk.a l).length)) = true ↔ ((¬(¬(zSpW12 l i))) -> (i.toNat < l.length)):=(by (try rw [w1]);all_goals exact (i_imp (i_at (i_bf (i_not (i_var _)))) i_dec))
  have w12:(List.map Wo.a (l.getD i.toNat default).3).length = (l.getD i.toNat default).3.length:=List.length_map ..
  have i13:(!((!Sp.onB (l.getD i.toNat default).1 (l.getD i.toNat default).3 (l.getD i.toNat default).4 79) == false && true) || decide (0 < (List.map Wo.a (l.getD i.toNat default).3).length)) = true ↔ ((¬(¬(zSpW12 l i))) -> (0 < (l.getD i.toNat default).3.length)):=(by (try rw [w12]);all_goals exact (i_imp (i_at (i_bf (i_not (i_var _)))) i_dec))
  obtain ⟨k14,H⟩:=H
  refine path_wp (G:=given kp35 [(12,3,.elem (ag [vb (l.getD i.toNat default).1,AV.vec (l.getD i.toNat default).2 2 (List.map Wo.a (l.getD i.toNat default).3),AV.str (l.getD i.toNat default).4])),(12,4,.call (vb (Sp.onB (l.getD i.toNat default).1 (l.getD i.toNat default).3 (l.getD i.toNat default).4 79)) none),(12,11,.elem (ag [vb (l.getD i.toNat default).1,AV.vec (l.getD i.toNat default).2 2 (List.map Wo.a (l.getD i.toNat default).3),AV.str (l.getD i.toNat default).4])),(12,14,.elem (zSpW9 l i)),(12,15,.call (vi (zSpW10 l i)) none)] []) 9 [true] ⟨(atC (cd Try.f35) [1,1,1,1,1,1,0,0,0,1,0,0,1]),[(0,AV.vec g 3 (List.map Bk.a l)),(2,AV.ptr 0 0 0 0),(4,AV.ptr 1 0 0 0),(5,vi i),(6,vb tw),(82,vb (zSpW11 l i))],[⟨[ag [AV.vnil,AV.vnil]],2,0,false,true⟩,⟨[ag [AV.vec false 3 (List.map Bk.a q),AV.vnil]],2,0,false,true⟩],[(decide (i < (↑(List.map Bk.a l).length:Int))) == true,decide (0 <= i),decide (i.toNat < (List.map Bk.a l).length),!((!Sp.onB (l.getD i.toNat default).1 (l.getD i.toNat default).3 (l.getD i.toNat default).4 79) == false && true) || decide (0 <= i),!((!Sp.onB (l.getD i.toNat default).1 (l.getD i.toNat default).3 (l.getD i.toNat default).4 79) == false && true) || decide (i.toNat < (List.map Bk.a l).length),!((!Sp.onB (l.getD i.toNat default).1 (l.getD i.toNat default).3 (l.getD i.toNat default).4 79) == false && true) || true,!((!Sp.onB (l.getD i.toNat default).1 (l.getD i.toNat default).3 (l.getD i.toNat default).4 79) == false && true) || decide (0 < (List.map Wo.a (l.getD i.toNat default).3).length)],[((List.map Bk.a l).get?Internal i.toNat = some (ag [vb (l.getD i.toNat default).1,AV.vec (l.getD i.toNat default).2 2 (List.map Wo.a (l.getD i.toNat default).3),AV.str (l.getD i.toNat default).4])),(((!Sp.onB (l.getD i.toNat default).1 (l.getD i.toNat default).3 (l.getD i.toNat default).4 79) == false && true) = true -> (List.map Bk.a l).get?Internal i.toNat = some (ag [vb (l.getD i.toNat default).1,AV.vec (l.getD i.toNat default).2 2 (List.map Wo.a (l.getD i.toNat default).3),AV.str (l.getD i.toNat default).4])),(((!Sp.onB (l.getD i.toNat default).1 (l.getD i.toNat default).3 (l.getD i.toNat default).4 79) == false && true) = true -> (List.map Wo.a (l.getD i.toNat default).3).get?Internal 0 = some (zSpW9 l i))],[⟨true,false,67,[ag [vb (l.getD i.toNat default).1,AV.vec (l.getD i.toNat default).2 2 (List.map Wo.a (l.getD i.toNat default).3),AV.str (l.getD i.toNat default).4],AV.int IntKind.u8 79],[],vb (Sp.onB (l.getD i.toNat default).1 (l.getD i.toNat default).3 (l.getD i.toNat default).4 79),[]⟩,⟨(!Sp.onB (l.getD i.toNat default).1 (l.getD i.toNat default).3 (l.getD i.toNat default).4 79) == false && true && true,false,43,[vi ((l.getD i.toNat default).3.getD 0 default).v],[],vi (zSpW10 l i),[]⟩]⟩ (by kernel_rfl) (bc (beq_t (i2.2 d3)) (bc (i_dec.2 k7) (bc (i8.2 k9) (bc ((i_imp (i_at (i_bf (i_not (i_var _)))) i_dec).2 (fun _ => k7)) (bc (i11.2 (fun _ => k9)) (bc (Bool.or_true _) (bc (i13.2 k14) b0))))))) (qc (el_map k9) (qc (fun h => el_map k9) (qc (fun h => el_map (k14 ((i_at (i_bf (i_not (i_var _)))).1 h))) q0))) (cc (fun _ => (@ev67 ((l.getD i.toNat default).1) ((l.getD i.toNat default).2) ((l.getD i.toNat default).3) ((l.getD i.toNat default).4) (79))) (cc (fun hc => ((@ev43 (((l.getD i.toNat default).3.getD 0 default).v) (k5 ((i_at (i_at (i_bf (i_not (i_var _))))).1 hc))):Ev M1 (Conf.pure 43 [vi ((l.getD i.toNat default).3.getD 0 default).v]) (vi (zSpW10 l i)) [])) c0)) ?_
  rcases xm ((¬(zSpW12 l i)) \/ (Sp.whR ((l.getD i.toNat default).3.getD 0 default).v = 0)) with d18 | d18
  ·have H:=H.1 d18
   exact path_rq (G:=given kp35 [] []) 1000 [true] (asm:=[(zSpW11 l i) == true,true]) (tu [ag [AV.vnil,AV.vnil],vi 1]) (by kernel_rfl) (bc (beq_t ((i_bor (i_not (i_var _)) i_eq).2 d18)) (bc rfl b0)) q0 c0 H
  ·have H:=H.2 d18
   obtain ⟨k19,H⟩:=H
   have i21:(decide (i.toNat < (List.map Bk.a l).length)) = true ↔ (i.toNat < l.length):=(by (try rw [w1]);all_goals exact i_dec)
   have i22:(decide (0 < (List.map Wo.a (l.getD i.toNat default).3).length)) = true ↔ (0 < (l.getD i.toNat default).3.length):=(by (try rw [w12]);all_goals exact i_dec)
   obtain ⟨k23,H⟩:=H
   obtain ⟨k25,H⟩:=H
   have w26:wi (i + 1) = i + 1:=wI64 k25
   exact path_wp (G:=given kp35 [(14,4,.elem (ag [vb (l.getD i.toNat default).1,AV.vec (l.getD i.toNat default).2 2 (List.map Wo.a (l.getD i.toNat default).3),AV.str (l.getD i.toNat default).4])),(14,7,.elem (zSpW9 l i)),(14,8,.call (vi (zSpW10 l i)) none),(15,5,.call (vi (-1)) none)] []) 1000 [false] ⟨(atC (cd Try.f35) [1,1,1,1,1,1,0,0,0,1,0,1,1,1,1,0,0,0]),[(0,AV.vec g 3 (List.map Bk.a l)),(2,AV.ptr 0 0 0 0),(4,AV.ptr 1 0 0 0),(5,vi (wi (i + 1))),(6,vb (bif tw then true else false)),(7,AV.ptr 2 0 0 0)],[⟨[ag [AV.vnil,AV.vnil]],2,0,false,true⟩,⟨[ag [AV.vec false 3 (List.map Bk.a q),AV.vnil]],2,0,false,true⟩,⟨[ag [vi (zSpW10 l i),AV.vnil]],2,0,false,false⟩],[(zSpW11 l i) == false,decide (0 <= i),decide (i.toNat < (List.map Bk.a l).length),true,decide (0 < (List.map Wo.a (l.getD i.toNat default).3).length),true,!(tw == false && true) || true,!(tw == false && true) || true],[((List.map Bk.a l).get?Internal i.toNat = some (ag [vb (l.getD i.toNat default).1,AV.vec (l.getD i.toNat default).2 2 (List.map Wo.a (l.getD i.toNat default).3),AV.str (l.getD i.toNat default).4])),((List.map Wo.a (l.getD i.toNat default).3).get?Internal 0 = some (zSpW9 l i))],[⟨true,false,43,[vi ((l.getD i.toNat default).3.getD 0 default).v],[],vi (zSpW10 l i),[]⟩,⟨tw == false && true && true,false,19,[ag [AV.vec false 3 (List.map Bk.a q),AV.vnil],vi (zSpW10 l i)],[],vi (-1),[]⟩]⟩ (by kernel_rfl) (bc (beq_f (fun h => d18 ((i_bor (i_not (i_var _)) i_eq).1 h))) (bc (i_dec.2 k7) (bc (i21.2 k9) (bc rfl (bc (i22.2 k23) (bc rfl (bc (Bool.or_true _) (bc (Bool.or_true _) b0)))))))) (qc (el_map k9) (qc (el_map k23) q0)) (cc (fun _ => (@ev43 (((l.getD i.toNat default).3.getD 0 default).v) k19)) (cc (fun hc => ((@ev19_a (false) (q) (zSpW10 l i)):Ev M1 (Conf.pure 19 [ag [AV.vec false 3 (List.map Bk.a q),AV.vnil],vi (zSpW10 l i)]) (vi (-1)) [])) c0)) (by (try rw [w26]);all_goals exact H)
 ·have H:=H.2 d3
  rcases xm (tw = true) with d28 | d28
  ·have H:=H.1 d28
   exact path_rq (G:=given kp35 [] []) 1000 [false,true] (asm:=[(decide (i < (↑(List.map Bk.a l).length:Int))) == false,(tw) == true,true]) (tu [ag [AV.vnil,AV.vnil],vi 5]) (by kernel_rfl) (bc (beq_f (fun h => d3 (i2.1 h))) (bc (beq_t ((i_var _).2 d28)) (bc rfl b0))) q0 c0 H
  ·have H:=H.2 d28
   exact path_rq (G:=given kp35 [] []) 1000 [false,false] (asm:=[(decide (i < (↑(List.map Bk.a l).length:Int))) == false,(tw) == false,true,true]) (tu [ag [AV.vec false 3 (List.map Bk.a q),AV.vnil],vi 0]) (by kernel_rfl) (bc (beq_f (fun h => d3 (i2.1 h))) (bc (beq_f (fun h => d28 ((i_var _).1 h))) (bc rfl (bc rfl b0)))) q0 c0 H
noncomputable abbrev zSpW13 (l:List Bk) (i:Int):=Sp.whR ((l.getD i.toNat default).3.getD 0 default).v
noncomputable abbrev zSpW14 (l:List Bk) (i:Int):=ag [AV.int IntKind.u8 ((l.getD i.toNat default).3.getD 0 default).l,vi ((l.getD i.toNat default).3.getD 0 default).v]
noncomputable abbrev zSpW15 (l:List Bk) (i:Int):=bif !Sp.onB (l.getD i.toNat default).1 (l.getD i.toNat default).3 (l.getD i.toNat default).4 79 then true else Sp.whR ((l.getD i.toNat default).3.getD 0 default).v == 0
noncomputable abbrev zSpW16 (l:List Bk) (i:Int):=Sp.onB (l.getD i.toNat default).1 (l.getD i.toNat default).3 (l.getD i.toNat default).4 79 = true
theorem svTm (g:Bool) (l:List Bk) (i:Int) (q:List Bk) (tw:Bool) (s:List Sb) (v:Nat)  (dq:AV) (H :
  ((i < (↑l.length:Int)) -> ((¬(¬(Sp.onB (l.getD i.toNat default).1 (l.getD i.toNat default).3 (l.getD i.toNat default).4 79 = true))) -> (Sp.okV ((l.getD i.toNat default).3.getD 0 default).v)) /\
   (0 <= i) /\
   (i.toNat < l.length) /\
   ((¬(¬(Sp.onB (l.getD i.toNat default).1 (l.getD i.toNat default).3 (l.getD i.toNat default).4 79 = true))) -> (0 < (l.getD i.toNat default).3.length)) /\
   (((¬(Sp.onB (l.getD i.toNat default).1 (l.getD i.toNat default).3 (l.getD i.toNat default).4 79 = true)) \/ (Sp.whR ((l.getD i.toNat default).3.getD 0 default).v = 0)) -> Weak (tu [ag [AV.vnil,AV.vnil],vi 1]) dq) /\
   (¬((¬(Sp.onB (l.getD i.toNat default).1 (l.getD i.toNat default).3 (l.getD i.toNat default).4 79 = true)) \/ (Sp.whR ((l.getD i.toNat default).3.getD 0 default).v = 0)) -> (Sp.okV ((l.getD i.toNat default).3.getD 0 default).v) /\
    (0 < (l.getD i.toNat default).3.length) /\
    ((¬(tw = true)) -> (s.length <= 1000000)) /\
    (-9223372036854775808 <= i + 1 /\ i + 1 <= 9223372036854775807) /\
    svTmn_at (g) (l) (i + 1) (q) (bif tw then true else decide (Sp.fnd s (Sp.whR ((l.getD i.toNat default).3.getD 0 default).v) >= 0)) (s) (v) (Sp.whR ((l.getD i.toNat default).3.getD 0 default).v) (PureQ dq))) /\
  (¬(i < (↑l.length:Int)) -> ((tw = true) -> Weak (tu [ag [AV.vnil,AV.vnil],vi 5]) dq) /\
   (¬(tw = true) -> Weak (tu [ag [AV.vec false 3 (List.map Bk.a q),AV.vec false 2 (List.map Sb.a s)],vi 0]) dq))) :
 svTm_at g l i q tw s v (PureQ dq):=by
 unfold svTm_at
 have w1:(List.map Bk.a l).length = l.length:=List.length_map ..
 have i2:(decide (i < (↑(List.map Bk.a l).length:Int))) = true ↔ (i < (↑l.length:Int)):=(by (try rw [w1]);all_goals exact i_dec)
 rcases xm (i < (↑l.length:Int)) with d3 | d3
 ·have H:=H.1 d3
  obtain ⟨k5,H⟩:=H
  obtain ⟨k7,H⟩:=H
  have i8:(decide (i.toNat < (List.map Bk.a l).length)) = true ↔ (i.toNat < l.length):=(by (try rw [w1]);all_goals exact i_dec)
  obtain ⟨k9,H⟩:=H
  have i11:(!((!Sp.onB (l.getD i.toNat default).1 (l.getD i.toNat default).3 (l.getD i.toNat default).4 79) == false && true) || decide (i.toNat < (List.map Bk.a l).length)) = true ↔ ((¬(¬(zSpW16 l i))) -> (i.toNat < l.length)):=(by (try rw [w1]);all_goals exact (i_imp (i_at (i_bf (i_not (i_var _)))) i_dec))
  have w12:(List.map Wo.a (l.getD i.toNat default).3).length = (l.getD i.toNat default).3.length:=List.length_map ..
  have i13:(!((!Sp.onB (l.getD i.toNat default).1 (l.getD i.toNat default).3 (l.getD i.toNat default).4 79) == false && true) || decide (0 < (List.map Wo.a (l.getD i.toNat default).3).length)) = true ↔ ((¬(¬(zSpW16 l i))) -> (0 < (l.getD i.toNat default).3.length)):=(by (try rw [w12]);all_goals exact (i_imp (i_at (i_bf (i_not (i_var _)))) i_dec))
  obtain ⟨k14,H⟩:=H
  refine path_wp (G:=given kp35 [(12,3,.elem (ag [vb (l.getD i.toNat default).1,AV.vec (l.getD i.toNat default).2 2 (List.map Wo.a (l.getD i.toNat default).3),AV.str (l.getD i.toNat default).4])),(12,4,.call (vb (Sp.onB (l.getD i.toNat default).1 (l.getD i.toNat default).3 (l.getD i.toNat default).4 79)) none),(12,11,.elem (ag [vb (l.getD i.toNat default).1,AV.vec (l.getD i.toNat default).2 2 (List.map Wo.a (l.getD i.toNat default).3),AV.str (l.getD i.toNat default).4])),(12,14,.elem (zSpW14 l i)),(12,15,.call (vi (zSpW13 l i)) none)] []) 9 [true] ⟨(atC (cd Try.f35) [1,1,1,1,1,1,0,0,0,1,0,0,1]),[(0,AV.vec g 3 (List.map Bk.a l)),(2,AV.ptr 0 0 0 0),(4,AV.ptr 1 0 0 0),(5,vi i),(6,vb tw),(82,vb (zSpW15 l i))],[⟨[ag [AV.vnil,AV.vnil]],2,0,false,true⟩,⟨[ag [AV.vec false 3 (List.map Bk.a q),AV.row 2 v]],2,0,false,false⟩,⟨List.map Sb.a s,2,v,false,true⟩],[(decide (i < (↑(List.map Bk.a l).length:Int))) == true,decide (0 <= i),decide (i.toNat < (List.map Bk.a l).length),!((!Sp.onB (l.getD i.toNat default).1 (l.getD i.toNat default).3 (l.getD i.toNat default).4 79) == false && true) || decide (0 <= i),!((!Sp.onB (l.getD i.toNat default).1 (l.getD i.toNat default).3 (l.getD i.toNat default).4 79) == false && true) || decide (i.toNat < (List.map Bk.a l).length),!((!Sp.onB (l.getD i.toNat default).1 (l.getD i.toNat default).3 (l.getD i.toNat default).4 79) == false && true) || true,!((!Sp.onB (l.getD i.toNat default).1 (l.getD i.toNat default).3 (l.getD i.toNat default).4 79) == false && true) || decide (0 < (List.map Wo.a (l.getD i.toNat default).3).length)],[((List.map Bk.a l).get?Internal i.toNat = some (ag [vb (l.getD i.toNat default).1,AV.vec (l.getD i.toNat default).2 2 (List.map Wo.a (l.getD i.toNat default).3),AV.str (l.getD i.toNat default).4])),(((!Sp.onB (l.getD i.toNat default).1 (l.getD i.toNat default).3 (l.getD i.toNat default).4 79) == false && true) = true -> (List.map Bk.a l).get?Internal i.toNat = some (ag [vb (l.getD i.toNat default).1,AV.vec (l.getD i.toNat default).2 2 (List.map Wo.a (l.getD i.toNat default).3),AV.str (l.getD i.toNat default).4])),(((!Sp.onB (l.getD i.toNat default).1 (l.getD i.toNat default).3 (l.getD i.toNat default).4 79) == false && true) = true -> (List.map Wo.a (l.getD i.toNat default).3).get?Internal 0 = some (zSpW14 l i))],[⟨true,false,67,[ag [vb (l.getD i.toNat default).1,AV.vec (l.getD i.toNat default).2 2 (List.map Wo.a (l.getD i.toNat default).3),AV.str (l.getD i.toNat default).4],AV.int IntKind.u8 79],[],vb (Sp.onB (l.getD i.toNat default).1 (l.getD i.toNat default).3 (l.getD i.toNat default).4 79),[]⟩,⟨(!Sp.onB (l.getD i.toNat default).1 (l.getD i.toNat default).3 (l.getD i.toNat default).4 79) == false && true && true,false,43,[vi ((l.getD i.toNat default).3.getD 0 default).v],[],vi (zSpW13 l i),[]⟩]⟩ (by kernel_rfl) (bc (beq_t (i2.2 d3)) (bc (i_dec.2 k7) (bc (i8.2 k9) (bc ((i_imp (i_at (i_bf (i_not (i_var _)))) i_dec).2 (fun _ => k7)) (bc (i11.2 (fun _ => k9)) (bc (Bool.or_true _) (bc (i13.2 k14) b0))))))) (qc (el_map k9) (qc (fun h => el_map k9) (qc (fun h => el_map (k14 ((i_at (i_bf (i_not (i_var _)))).1 h))) q0))) (cc (fun _ => (@ev67 ((l.getD i.toNat default).1) ((l.getD i.toNat default).2) ((l.getD i.toNat default).3) ((l.getD i.toNat default).4) (79))) (cc (fun hc => ((@ev43 (((l.getD i.toNat default).3.getD 0 default).v) (k5 ((i_at (i_at (i_bf (i_not (i_var _))))).1 hc))):Ev M1 (Conf.pure 43 [vi ((l.getD i.toNat default).3.getD 0 default).v]) (vi (zSpW13 l i)) [])) c0)) ?_
  rcases xm ((¬(zSpW16 l i)) \/ (Sp.whR ((l.getD i.toNat default).3.getD 0 default).v = 0)) with d18 | d18
  ·have H:=H.1 d18
   exact path_rq (G:=given kp35 [] []) 1000 [true] (asm:=[(zSpW15 l i) == true,true]) (tu [ag [AV.vnil,AV.vnil],vi 1]) (by kernel_rfl) (bc (beq_t ((i_bor (i_not (i_var _)) i_eq).2 d18)) (bc rfl b0)) q0 c0 H
  ·have H:=H.2 d18
   obtain ⟨k19,H⟩:=H
   have i21:(decide (i.toNat < (List.map Bk.a l).length)) = true ↔ (i.toNat < l.length):=(by (try rw [w1]);all_goals exact i_dec)
   have i22:(decide (0 < (List.map Wo.a (l.getD i.toNat default).3).length)) = true ↔ (0 < (l.getD i.toNat default).3.length):=(by (try rw [w12]);all_goals exact i_dec)
   obtain ⟨k23,H⟩:=H
   obtain ⟨k25,H⟩:=H
   obtain ⟨k27,H⟩:=H
   have w28:wi (i + 1) = i + 1:=wI64 k27
   exact path_wp (G:=given kp35 [(14,4,.elem (ag [vb (l.getD i.toNat default).1,AV.vec (l.getD i.toNat default).2 2 (List.map Wo.a (l.getD i.toNat default).3),AV.str (l.getD i.toNat default).4])),(14,7,.elem (zSpW14 l i)),(14,8,.call (vi (zSpW13 l i)) none),(15,5,.call (vi (Sp.fnd s (zSpW13 l i))) none)] []) 1000 [false] ⟨(atC (cd Try.f35) [1,1,1,1,1,1,0,0,0,1,0,1,1,1,1,0,0,0]),[(0,AV.vec g 3 (List.map Bk.a l)),(2,AV.ptr 0 0 0 0),(4,AV.ptr 1 0 0 0),(5,vi (wi (i + 1))),(6,vb (bif tw then true else decide (Sp.fnd s (zSpW13 l i) >= 0))),(7,AV.ptr 3 0 0 0)],[⟨[ag [AV.vnil,AV.vnil]],2,0,false,true⟩,⟨[ag [AV.vec false 3 (List.map Bk.a q),AV.row 2 v]],2,0,false,false⟩,⟨List.map Sb.a s,2,v,false,true⟩,⟨[ag [vi (zSpW13 l i),AV.vnil]],2,0,false,false⟩],[(zSpW15 l i) == false,decide (0 <= i),decide (i.toNat < (List.map Bk.a l).length),true,decide (0 < (List.map Wo.a (l.getD i.toNat default).3).length),true,!(tw == false && true) || true,!(tw == false && true) || true,!(tw == false && true) || v == v],[((List.map Bk.a l).get?Internal i.toNat = some (ag [vb (l.getD i.toNat default).1,AV.vec (l.getD i.toNat default).2 2 (List.map Wo.a (l.getD i.toNat default).3),AV.str (l.getD i.toNat default).4])),((List.map Wo.a (l.getD i.toNat default).3).get?Internal 0 = some (zSpW14 l i))],[⟨true,false,43,[vi ((l.getD i.toNat default).3.getD 0 default).v],[],vi (zSpW13 l i),[]⟩,⟨tw == false && true && true,false,19,[ag [AV.vec false 3 (List.map Bk.a q),AV.vec false 2 (List.map Sb.a s)],vi (zSpW13 l i)],[],vi (Sp.fnd s (zSpW13 l i)),[]⟩]⟩ (by kernel_rfl) (bc (beq_f (fun h => d18 ((i_bor (i_not (i_var _)) i_eq).1 h))) (bc (i_dec.2 k7) (bc (i21.2 k9) (bc rfl (bc (i22.2 k23) (bc rfl (bc (Bool.or_true _) (bc (Bool.or_true _) (bc ((i_imp (i_at (i_bf (i_var _))) i_eq).2 (fun _ => rfl)) b0))))))))) (qc (el_map k9) (qc (el_map k23) q0)) (cc (fun _ => (@ev43 (((l.getD i.toNat default).3.getD 0 default).v) k19)) (cc (fun hc => ((@ev19 (false) (false) (q) (s) (zSpW13 l i) (k25 ((i_at (i_at (i_bf (i_var _)))).1 hc))):Ev M1 (Conf.pure 19 [ag [AV.vec false 3 (List.map Bk.a q),AV.vec false 2 (List.map Sb.a s)],vi (zSpW13 l i)]) (vi (Sp.fnd s (zSpW13 l i))) [])) c0)) (by (try rw [w28]);all_goals exact wp_narrow [0,1,3,2] (by kernel_rfl) H)
 ·have H:=H.2 d3
  rcases xm (tw = true) with d30 | d30
  ·have H:=H.1 d30
   exact path_rq (G:=given kp35 [] []) 1000 [false,true] (asm:=[(decide (i < (↑(List.map Bk.a l).length:Int))) == false,(tw) == true,true]) (tu [ag [AV.vnil,AV.vnil],vi 5]) (by kernel_rfl) (bc (beq_f (fun h => d3 (i2.1 h))) (bc (beq_t ((i_var _).2 d30)) (bc rfl b0))) q0 c0 H
  ·have H:=H.2 d30
   exact path_ret (G:=given kp35 [] []) 1000 [false,false] (k:=((atC (cd Try.f35) [1,1,1,1,1,1,1,1,1])).tail) (env':=[(2,AV.ptr 0 0 0 0),(3,vi 0)]) (L':=[⟨[ag [AV.vec false 3 (List.map Bk.a q),AV.row 2 v]],2,0,false,false⟩,⟨[ag [AV.vec false 3 (List.map Bk.a q),AV.row 2 v]],2,0,false,false⟩,⟨List.map Sb.a s,2,v,false,true⟩]) (asm:=[(decide (i < (↑(List.map Bk.a l).length:Int))) == false,(tw) == false,true,true]) (eqs:=[]) (calls:=[]) (tu [ag [AV.vec false 3 (List.map Bk.a q),AV.row 2 v],vi 0]) (by kernel_rfl) (by kernel_rfl) (allB_cons (beq_f (fun h => d3 (i2.1 h))) (allB_cons (beq_f (fun h => d30 ((i_var _).1 h))) (allB_cons rfl (allB_cons rfl allB_nil)))) allP_nil allC_nil (pq_weak (d:=(tu [ag [AV.vec false 3 (List.map Bk.a q),AV.vec false 2 (List.map Sb.a s)],vi 0])) (bs:=[v == v]) (by kernel_rfl) (by kernel_rfl) (allB_cons (beq_self_eq_true _) allB_nil) (by kernel_rfl) H)
noncomputable abbrev zSpW17 (l:List Bk) (i:Int):=bif Sp.endB (l.getD i.toNat default).3 then true else Sp.letB (l.getD i.toNat default).3 79
noncomputable abbrev zSpW18 (l:List Bk) (i:Int):=Sp.onB (l.getD i.toNat default).1 (l.getD i.toNat default).3 (l.getD i.toNat default).4 77
noncomputable abbrev zSpW19 (l:List Bk) (i:Int):=Sp.endB (l.getD i.toNat default).3 == false && true
theorem svTnn (g:Bool) (l:List Bk) (i:Int) (q:List Bk) (tw:Bool) (n:Int)  (dq:AV) (H :
  ((i < (↑l.length:Int)) -> (Sp.few6 (l.getD i.toNat default).3.length)) /\
  ((i < (↑l.length:Int)) -> (0 <= i)) /\
  ((i < (↑l.length:Int)) -> (i.toNat < l.length)) /\
  (((i < (↑l.length:Int)) /\ (¬(Sp.backB (l.getD i.toNat default).3 = true))) -> (Sp.few6 (l.getD i.toNat default).3.length) /\
   (0 <= i) /\
   (i.toNat < l.length) /\
   (((Sp.endB (l.getD i.toNat default).3 = true) \/ (Sp.letB (l.getD i.toNat default).3 79 = true)) -> Weak (tu [ag [AV.vnil,AV.vnil],vi 1]) dq) /\
   (¬((Sp.endB (l.getD i.toNat default).3 = true) \/ (Sp.letB (l.getD i.toNat default).3 79 = true)) -> (-9223372036854775808 <= i + 1 /\ i + 1 <= 9223372036854775807) /\
    svTnb_at (g) (l) (i + 1) (q) (tw) (n) ([{ sk:=(l.getD i.toNat default).1,f:=(l.getD i.toNat default).2,ws:=(l.getD i.toNat default).3,cm:=(l.getD i.toNat default).4 }]) (0) (PureQ dq))) /\
  (¬((i < (↑l.length:Int)) /\ (¬(Sp.backB (l.getD i.toNat default).3 = true))) -> ((¬(i = (↑l.length:Int))) -> (0 <= i)) /\
   ((¬(i = (↑l.length:Int))) -> (i.toNat < l.length)) /\
   (((i = (↑l.length:Int)) \/ (¬(Sp.onB (l.getD i.toNat default).1 (l.getD i.toNat default).3 (l.getD i.toNat default).4 77 = true))) -> Weak (tu [ag [AV.vnil,AV.vnil],vi 1]) dq) /\
   (¬((i = (↑l.length:Int)) \/ (¬(Sp.onB (l.getD i.toNat default).1 (l.getD i.toNat default).3 (l.getD i.toNat default).4 77 = true))) -> Wp M1 (.run fi35 (atC (cd Try.f35) [1,1,1,1,1,1,0,0,0,1,0,1,1,1,1,1,1,0]) [(0,AV.vec g 3 (List.map Bk.a l)),(2,AV.ptr 0 0 0 0),(4,AV.ptr 1 0 0 0),(5,vi i),(6,vb tw),(7,AV.ptr 2 0 0 0)] [{ elems:=[ag [AV.vnil,AV.vnil]],es:=2,ver:=0,frozen:=false,clean:=true },{ elems:=[ag [AV.vec false 3 (List.map Bk.a q),AV.vnil]],es:=2,ver:=0,frozen:=false,clean:=true },{ elems:=[ag [vi n,AV.vnil]],es:=2,ver:=0,frozen:=false,clean:=true }]) (PureQ dq)))) :
 svTnn_at g l i q tw n (PureQ dq):=by
 unfold svTnn_at
 have w1:(List.map Bk.a l).length = l.length:=List.length_map ..
 have i2:(decide (i < (↑(List.map Bk.a l).length:Int)) == true && true && true) = true ↔ (i < (↑l.length:Int)):=(by (try rw [w1]);all_goals exact (i_at (i_at (i_bt i_dec))))
 obtain ⟨k3,H⟩:=H
 have i4:(!(decide (i < (↑(List.map Bk.a l).length:Int)) == true && true) || decide (0 <= i)) = true ↔ ((i < (↑l.length:Int)) -> (0 <= i)):=(by (try rw [w1]);all_goals exact (i_imp (i_at (i_bt i_dec)) i_dec))
 obtain ⟨k5,H⟩:=H
 have i6:(!(decide (i < (↑(List.map Bk.a l).length:Int)) == true && true) || decide (i.toNat < (List.map Bk.a l).length)) = true ↔ ((i < (↑l.length:Int)) -> (i.toNat < l.length)):=(by (try rw [w1]);all_goals exact (i_imp (i_at (i_bt i_dec)) i_dec))
 obtain ⟨k7,H⟩:=H
 have i9:(bif decide (i < (↑(List.map Bk.a l).length:Int)) then !Sp.backB (l.getD i.toNat default).3 else false) = true ↔ ((i < (↑l.length:Int)) /\ (¬(Sp.backB (l.getD i.toNat default).3 = true))):=(by (try rw [w1]);all_goals exact (i_band i_dec (i_not (i_var _))))
 refine path_wp (G:=given kp35 [(17,8,.elem (ag [vb (l.getD i.toNat default).1,AV.vec (l.getD i.toNat default).2 2 (List.map Wo.a (l.getD i.toNat default).3),AV.str (l.getD i.toNat default).4])),(17,9,.call (vb (Sp.backB (l.getD i.toNat default).3)) none)] []) 3 [] ⟨(atC (cd Try.f35) [1,1,1,1,1,1,0,0,0,1,0,1,1,1,1,0,0,0,0,1]),[(0,AV.vec g 3 (List.map Bk.a l)),(2,AV.ptr 0 0 0 0),(4,AV.ptr 1 0 0 0),(5,vi i),(6,vb tw),(7,AV.ptr 2 0 0 0),(115,vb (bif decide (i < (↑(List.map Bk.a l).length:Int)) then !Sp.backB (l.getD i.toNat default).3 else false))],[⟨[ag [AV.vnil,AV.vnil]],2,0,false,true⟩,⟨[ag [AV.vec false 3 (List.map Bk.a q),AV.vnil]],2,0,false,true⟩,⟨[ag [vi n,AV.vnil]],2,0,false,false⟩],_,[((decide (i < (↑(List.map Bk.a l).length:Int)) == true && true) = true -> (List.map Bk.a l).get?Internal i.toNat = some (ag [vb (l.getD i.toNat default).1,AV.vec (l.getD i.toNat default).2 2 (List.map Wo.a (l.getD i.toNat default).3),AV.str (l.getD i.toNat default).4]))],[⟨decide (i < (↑(List.map Bk.a l).length:Int)) == true && true && true,false,65,[ag [vb (l.getD i.toNat default).1,AV.vec (l.getD i.toNat default).2 2 (List.map Wo.a (l.getD i.toNat default).3),AV.str (l.getD i.toNat default).4]],[],vb (Sp.backB (l.getD i.toNat default).3),[]⟩]⟩ (by kernel_rfl) (bc (i4.2 k5) (bc (i6.2 k7) b0)) (qc (by (try rw [w1]);all_goals exact (fun h => el_map (k7 ((i_at (i_bt i_dec)).1 h)))) q0) (cc (fun hc => ((@ev65 ((l.getD i.toNat default).1) ((l.getD i.toNat default).2) ((l.getD i.toNat default).3) ((l.getD i.toNat default).4) (k3 (i2.1 hc))):Ev M1 (Conf.pure 65 [ag [vb (l.getD i.toNat default).1,AV.vec (l.getD i.toNat default).2 2 (List.map Wo.a (l.getD i.toNat default).3),AV.str (l.getD i.toNat default).4]]) (vb (Sp.backB (l.getD i.toNat default).3)) [])) c0) ?_
 rcases xm ((i < (↑l.length:Int)) /\ (¬(Sp.backB (l.getD i.toNat default).3 = true))) with d10 | d10
 ·have H:=H.1 d10
  obtain ⟨k11,H⟩:=H
  obtain ⟨k14,H⟩:=H
  have i15:(decide (i.toNat < (List.map Bk.a l).length)) = true ↔ (i.toNat < l.length):=(by (try rw [w1]);all_goals exact i_dec)
  obtain ⟨k16,H⟩:=H
  have i18:(!(zSpW19 l i) || decide (i.toNat < (List.map Bk.a l).length)) = true ↔ ((¬(Sp.endB (l.getD i.toNat default).3 = true)) -> (i.toNat < l.length)):=(by (try rw [w1]);all_goals exact (i_imp (i_at (i_bf (i_var _))) i_dec))
  refine path_wp (G:=given kp35 [(18,3,.elem (ag [vb (l.getD i.toNat default).1,AV.vec (l.getD i.toNat default).2 2 (List.map Wo.a (l.getD i.toNat default).3),AV.str (l.getD i.toNat default).4])),(18,4,.call (vb (Sp.endB (l.getD i.toNat default).3)) none),(18,9,.elem (ag [vb (l.getD i.toNat default).1,AV.vec (l.getD i.toNat default).2 2 (List.map Wo.a (l.getD i.toNat default).3),AV.str (l.getD i.toNat default).4])),(18,10,.call (vb (Sp.letB (l.getD i.toNat default).3 79)) none)] []) 6 [true] ⟨(atC (cd Try.f35) [1,1,1,1,1,1,0,0,0,1,0,1,1,1,1,0,0,0,1,0,0,1]),[(0,AV.vec g 3 (List.map Bk.a l)),(2,AV.ptr 0 0 0 0),(4,AV.ptr 1 0 0 0),(5,vi i),(6,vb tw),(7,AV.ptr 2 0 0 0),(127,vb (zSpW17 l i))],[⟨[ag [AV.vnil,AV.vnil]],2,0,false,true⟩,⟨[ag [AV.vec false 3 (List.map Bk.a q),AV.vnil]],2,0,false,true⟩,⟨[ag [vi n,AV.vnil]],2,0,false,false⟩],[(bif decide (i < (↑(List.map Bk.a l).length:Int)) then !Sp.backB (l.getD i.toNat default).3 else false) == true,decide (0 <= i),decide (i.toNat < (List.map Bk.a l).length),!(zSpW19 l i) || decide (0 <= i),!(zSpW19 l i) || decide (i.toNat < (List.map Bk.a l).length)],[((List.map Bk.a l).get?Internal i.toNat = some (ag [vb (l.getD i.toNat default).1,AV.vec (l.getD i.toNat default).2 2 (List.map Wo.a (l.getD i.toNat default).3),AV.str (l.getD i.toNat default).4])),((zSpW19 l i) = true -> (List.map Bk.a l).get?Internal i.toNat = some (ag [vb (l.getD i.toNat default).1,AV.vec (l.getD i.toNat default).2 2 (List.map Wo.a (l.getD i.toNat default).3),AV.str (l.getD i.toNat default).4]))],[⟨true,false,64,[ag [vb (l.getD i.toNat default).1,AV.vec (l.getD i.toNat default).2 2 (List.map Wo.a (l.getD i.toNat default).3),AV.str (l.getD i.toNat default).4]],[],vb (Sp.endB (l.getD i.toNat default).3),[]⟩,⟨Sp.endB (l.getD i.toNat default).3 == false && true && true,false,66,[ag [vb (l.getD i.toNat default).1,AV.vec (l.getD i.toNat default).2 2 (List.map Wo.a (l.getD i.toNat default).3),AV.str (l.getD i.toNat default).4],AV.int IntKind.u8 79],[],vb (Sp.letB (l.getD i.toNat default).3 79),[]⟩]⟩ (by kernel_rfl) (bc (beq_t (i9.2 d10)) (bc (i_dec.2 k14) (bc (i15.2 k16) (bc ((i_imp (i_at (i_bf (i_var _))) i_dec).2 (fun _ => k14)) (bc (i18.2 (fun _ => k16)) b0))))) (qc (el_map k16) (qc (fun h => el_map k16) q0)) (cc (fun _ => (@ev64 ((l.getD i.toNat default).1) ((l.getD i.toNat default).2) ((l.getD i.toNat default).3) ((l.getD i.toNat default).4) k11)) (cc (fun hc => ((@ev66 ((l.getD i.toNat default).1) ((l.getD i.toNat default).2) ((l.getD i.toNat default).3) ((l.getD i.toNat default).4) (79) k11):Ev M1 (Conf.pure 66 [ag [vb (l.getD i.toNat default).1,AV.vec (l.getD i.toNat default).2 2 (List.map Wo.a (l.getD i.toNat default).3),AV.str (l.getD i.toNat default).4],AV.int IntKind.u8 79]) (vb (Sp.letB (l.getD i.toNat default).3 79)) [])) c0)) ?_
  rcases xm ((Sp.endB (l.getD i.toNat default).3 = true) \/ (Sp.letB (l.getD i.toNat default).3 79 = true)) with d21 | d21
  ·have H:=H.1 d21
   exact path_rq (G:=given kp35 [] []) 1000 [true] (asm:=[(zSpW17 l i) == true,true]) (tu [ag [AV.vnil,AV.vnil],vi 1]) (by kernel_rfl) (bc (beq_t ((i_bor (i_var _) (i_var _)).2 d21)) (bc rfl b0)) q0 c0 H
  ·have H:=H.2 d21
   have i23:(decide (i.toNat < (List.map Bk.a l).length)) = true ↔ (i.toNat < l.length):=(by (try rw [w1]);all_goals exact i_dec)
   obtain ⟨k24,H⟩:=H
   have w25:wi (i + 1) = i + 1:=wI64 k24
   have w26:[ag [vb (l.getD i.toNat default).1,AV.vec (l.getD i.toNat default).2 2 (List.map Wo.a (l.getD i.toNat default).3),AV.str (l.getD i.toNat default).4]] = List.map Bk.a [{ sk:=(l.getD i.toNat default).1,f:=(l.getD i.toNat default).2,ws:=(l.getD i.toNat default).3,cm:=(l.getD i.toNat default).4 }]:=rfl
   exact path_wp (G:=given kp35 [(20,5,.elem (ag [vb (l.getD i.toNat default).1,AV.vec (l.getD i.toNat default).2 2 (List.map Wo.a (l.getD i.toNat default).3),AV.str (l.getD i.toNat default).4]))] []) 1000 [false] ⟨(atC (cd Try.f35) [1,1,1,1,1,1,0,0,0,1,0,1,1,1,1,0,0,0]),[(0,AV.vec g 3 (List.map Bk.a l)),(2,AV.ptr 0 0 0 0),(4,AV.ptr 1 0 0 0),(5,vi (wi (i + 1))),(6,vb tw),(7,AV.ptr 2 0 0 0)],[⟨[ag [AV.vnil,AV.vnil]],2,0,false,true⟩,⟨[ag [AV.vec false 3 (List.map Bk.a q),AV.vnil]],2,0,false,true⟩,⟨[ag [vi n,AV.row 3 0]],2,0,false,false⟩,⟨[ag [vb (l.getD i.toNat default).1,AV.vec (l.getD i.toNat default).2 2 (List.map Wo.a (l.getD i.toNat default).3),AV.str (l.getD i.toNat default).4]],3,0,false,true⟩],[(zSpW17 l i) == false,true,decide (0 <= i),decide (i.toNat < (List.map Bk.a l).length),true,true],[((List.map Bk.a l).get?Internal i.toNat = some (ag [vb (l.getD i.toNat default).1,AV.vec (l.getD i.toNat default).2 2 (List.map Wo.a (l.getD i.toNat default).3),AV.str (l.getD i.toNat default).4]))],_⟩ (by kernel_rfl) (bc (beq_f (fun h => d21 ((i_bor (i_var _) (i_var _)).1 h))) (bc rfl (bc (i_dec.2 k14) (bc (i23.2 k16) (bc rfl (bc rfl b0)))))) (qc (el_map k16) q0) c0 (by (try rw [w25]);(try rw [w26]);all_goals exact H)
 ·have H:=H.2 d10
  have i27:((i == (↑(List.map Bk.a l).length:Int)) == false && true && true) = true ↔ (¬(i = (↑l.length:Int))):=(by (try rw [w1]);all_goals exact (i_at (i_at (i_bf i_eq))))
  have i28:(!((i == (↑(List.map Bk.a l).length:Int)) == false && true) || decide (0 <= i)) = true ↔ ((¬(i = (↑l.length:Int))) -> (0 <= i)):=(by (try rw [w1]);all_goals exact (i_imp (i_at (i_bf i_eq)) i_dec))
  obtain ⟨k29,H⟩:=H
  have i30:(!((i == (↑(List.map Bk.a l).length:Int)) == false && true) || decide (i.toNat < (List.map Bk.a l).length)) = true ↔ ((¬(i = (↑l.length:Int))) -> (i.toNat < l.length)):=(by (try rw [w1]);all_goals exact (i_imp (i_at (i_bf i_eq)) i_dec))
  obtain ⟨k31,H⟩:=H
  have i33:(bif i == (↑(List.map Bk.a l).length:Int) then true else !Sp.onB (l.getD i.toNat default).1 (l.getD i.toNat default).3 (l.getD i.toNat default).4 77) = true ↔ ((i = (↑l.length:Int)) \/ (¬(Sp.onB (l.getD i.toNat default).1 (l.getD i.toNat default).3 (l.getD i.toNat default).4 77 = true))):=(by (try rw [w1]);all_goals exact (i_bor i_eq (i_not (i_var _))))
  refine path_wp (G:=given kp35 [(22,8,.elem (ag [vb (l.getD i.toNat default).1,AV.vec (l.getD i.toNat default).2 2 (List.map Wo.a (l.getD i.toNat default).3),AV.str (l.getD i.toNat default).4])),(22,9,.call (vb (zSpW18 l i)) none)] []) 5 [false] ⟨(atC (cd Try.f35) [1,1,1,1,1,1,0,0,0,1,0,1,1,1,1,1,0,1]),[(0,AV.vec g 3 (List.map Bk.a l)),(2,AV.ptr 0 0 0 0),(4,AV.ptr 1 0 0 0),(5,vi i),(6,vb tw),(7,AV.ptr 2 0 0 0),(151,vb (bif i == (↑(List.map Bk.a l).length:Int) then true else !Sp.onB (l.getD i.toNat default).1 (l.getD i.toNat default).3 (l.getD i.toNat default).4 77))],[⟨[ag [AV.vnil,AV.vnil]],2,0,false,true⟩,⟨[ag [AV.vec false 3 (List.map Bk.a q),AV.vnil]],2,0,false,true⟩,⟨[ag [vi n,AV.vnil]],2,0,false,false⟩],_,[(((i == (↑(List.map Bk.a l).length:Int)) == false && true) = true -> (List.map Bk.a l).get?Internal i.toNat = some (ag [vb (l.getD i.toNat default).1,AV.vec (l.getD i.toNat default).2 2 (List.map Wo.a (l.getD i.toNat default).3),AV.str (l.getD i.toNat default).4]))],[⟨(i == (↑(List.map Bk.a l).length:Int)) == false && true && true,false,67,[ag [vb (l.getD i.toNat default).1,AV.vec (l.getD i.toNat default).2 2 (List.map Wo.a (l.getD i.toNat default).3),AV.str (l.getD i.toNat default).4],AV.int IntKind.u8 77],[],vb (zSpW18 l i),[]⟩]⟩ (by kernel_rfl) (bc (beq_f (fun h => d10 (i9.1 h))) (bc (i28.2 k29) (bc (i30.2 k31) b0))) (qc (by (try rw [w1]);all_goals exact (fun h => el_map (k31 ((i_at (i_bf i_eq)).1 h)))) q0) (cc (fun hc => ((@ev67 ((l.getD i.toNat default).1) ((l.getD i.toNat default).2) ((l.getD i.toNat default).3) ((l.getD i.toNat default).4) (77)):Ev M1 (Conf.pure 67 [ag [vb (l.getD i.toNat default).1,AV.vec (l.getD i.toNat default).2 2 (List.map Wo.a (l.getD i.toNat default).3),AV.str (l.getD i.toNat default).4],AV.int IntKind.u8 77]) (vb (zSpW18 l i)) [])) c0) ?_
  rcases xm ((i = (↑l.length:Int)) \/ (¬(Sp.onB (l.getD i.toNat default).1 (l.getD i.toNat default).3 (l.getD i.toNat default).4 77 = true))) with d34 | d34
  ·have H:=H.1 d34
   exact path_rq (G:=given kp35 [] []) 1000 [true] (tu [ag [AV.vnil,AV.vnil],vi 1]) (by kernel_rfl) (bc (beq_t (i33.2 d34)) (bc rfl b0)) q0 c0 H
  ·have H:=H.2 d34
   exact path_wp (G:=given kp35 [] []) 3 [false] ⟨(atC (cd Try.f35) [1,1,1,1,1,1,0,0,0,1,0,1,1,1,1,1,1,0]),[(0,AV.vec g 3 (List.map Bk.a l)),(2,AV.ptr 0 0 0 0),(4,AV.ptr 1 0 0 0),(5,vi i),(6,vb tw),(7,AV.ptr 2 0 0 0),(151,vb (bif i == (↑(List.map Bk.a l).length:Int) then true else !Sp.onB (l.getD i.toNat default).1 (l.getD i.toNat default).3 (l.getD i.toNat default).4 77))],[⟨[ag [AV.vnil,AV.vnil]],2,0,false,true⟩,⟨[ag [AV.vec false 3 (List.map Bk.a q),AV.vnil]],2,0,false,true⟩,⟨[ag [vi n,AV.vnil]],2,0,false,false⟩],_,[],_⟩ (by kernel_rfl) (bc (beq_f (fun h => d34 (i33.1 h))) b0) q0 c0 (by (try rw [w1]);all_goals exact Wp.less [0,2,4,5,6,7] (wp_melt (by kernel_rfl) [] (env':=[(0,AV.vec g 3 (List.map Bk.a l)),(2,AV.ptr 0 0 0 0),(4,AV.ptr 1 0 0 0),(5,vi i),(6,vb tw),(7,AV.ptr 2 0 0 0)]) (L':=[⟨[ag [AV.vnil,AV.vnil]],2,0,false,true⟩,⟨[ag [AV.vec false 3 (List.map Bk.a q),AV.vnil]],2,0,false,true⟩,⟨[ag [vi n,AV.vnil]],2,0,false,true⟩]) (bs:=[]) (by kernel_rfl) (by kernel_rfl) (by kernel_rfl) allB_nil (H)))
noncomputable abbrev zSpW20 (l:List Bk) (i:Int):=bif Sp.endB (l.getD i.toNat default).3 then true else Sp.letB (l.getD i.toNat default).3 79
noncomputable abbrev zSpW21 (l:List Bk) (i:Int):=Sp.onB (l.getD i.toNat default).1 (l.getD i.toNat default).3 (l.getD i.toNat default).4 77
noncomputable abbrev zSpW22 (l:List Bk) (i:Int):=Sp.endB (l.getD i.toNat default).3 == false && true
theorem svTnb (g:Bool) (l:List Bk) (i:Int) (q:List Bk) (tw:Bool) (n:Int) (b:List Bk) (w:Nat)  (dq:AV) (H :
  ((i < (↑l.length:Int)) -> (Sp.few6 (l.getD i.toNat default).3.length)) /\
  ((i < (↑l.length:Int)) -> (0 <= i)) /\
  ((i < (↑l.length:Int)) -> (i.toNat < l.length)) /\
  (((i < (↑l.length:Int)) /\ (¬(Sp.backB (l.getD i.toNat default).3 = true))) -> (Sp.few6 (l.getD i.toNat default).3.length) /\
   (0 <= i) /\
   (i.toNat < l.length) /\
   (((Sp.endB (l.getD i.toNat default).3 = true) \/ (Sp.letB (l.getD i.toNat default).3 79 = true)) -> Weak (tu [ag [AV.vnil,AV.vnil],vi 1]) dq) /\
   (¬((Sp.endB (l.getD i.toNat default).3 = true) \/ (Sp.letB (l.getD i.toNat default).3 79 = true)) -> ((b.length + 1) * 48 <= 1099511627776) /\
    (-9223372036854775808 <= i + 1 /\ i + 1 <= 9223372036854775807) /\
    svTnb_at (g) (l) (i + 1) (q) (tw) (n) (b ++ [{ sk:=(l.getD i.toNat default).1,f:=(l.getD i.toNat default).2,ws:=(l.getD i.toNat default).3,cm:=(l.getD i.toNat default).4 }]) (w + 1) (PureQ dq))) /\
  (¬((i < (↑l.length:Int)) /\ (¬(Sp.backB (l.getD i.toNat default).3 = true))) -> ((¬(i = (↑l.length:Int))) -> (0 <= i)) /\
   ((¬(i = (↑l.length:Int))) -> (i.toNat < l.length)) /\
   (((i = (↑l.length:Int)) \/ (¬(Sp.onB (l.getD i.toNat default).1 (l.getD i.toNat default).3 (l.getD i.toNat default).4 77 = true))) -> Weak (tu [ag [AV.vnil,AV.vnil],vi 1]) dq) /\
   (¬((i = (↑l.length:Int)) \/ (¬(Sp.onB (l.getD i.toNat default).1 (l.getD i.toNat default).3 (l.getD i.toNat default).4 77 = true))) -> svTne_at (g) (l) (i) (q) (tw) (n) (b) (PureQ dq)))) :
 svTnb_at g l i q tw n b w (PureQ dq):=by
 unfold svTnb_at
 have w1:(List.map Bk.a l).length = l.length:=List.length_map ..
 have i2:(decide (i < (↑(List.map Bk.a l).length:Int)) == true && true && true) = true ↔ (i < (↑l.length:Int)):=(by (try rw [w1]);all_goals exact (i_at (i_at (i_bt i_dec))))
 obtain ⟨k3,H⟩:=H
 have i4:(!(decide (i < (↑(List.map Bk.a l).length:Int)) == true && true) || decide (0 <= i)) = true ↔ ((i < (↑l.length:Int)) -> (0 <= i)):=(by (try rw [w1]);all_goals exact (i_imp (i_at (i_bt i_dec)) i_dec))
 obtain ⟨k5,H⟩:=H
 have i6:(!(decide (i < (↑(List.map Bk.a l).length:Int)) == true && true) || decide (i.toNat < (List.map Bk.a l).length)) = true ↔ ((i < (↑l.length:Int)) -> (i.toNat < l.length)):=(by (try rw [w1]);all_goals exact (i_imp (i_at (i_bt i_dec)) i_dec))
 obtain ⟨k7,H⟩:=H
 have i9:(bif decide (i < (↑(List.map Bk.a l).length:Int)) then !Sp.backB (l.getD i.toNat default).3 else false) = true ↔ ((i < (↑l.length:Int)) /\ (¬(Sp.backB (l.getD i.toNat default).3 = true))):=(by (try rw [w1]);all_goals exact (i_band i_dec (i_not (i_var _))))
 refine path_wp (G:=given kp35 [(17,8,.elem (ag [vb (l.getD i.toNat default).1,AV.vec (l.getD i.toNat default).2 2 (List.map Wo.a (l.getD i.toNat default).3),AV.str (l.getD i.toNat default).4])),(17,9,.call (vb (Sp.backB (l.getD i.toNat default).3)) none)] []) 3 [] ⟨(atC (cd Try.f35) [1,1,1,1,1,1,0,0,0,1,0,1,1,1,1,0,0,0,0,1]),[(0,AV.vec g 3 (List.map Bk.a l)),(2,AV.ptr 0 0 0 0),(4,AV.ptr 1 0 0 0),(5,vi i),(6,vb tw),(7,AV.ptr 2 0 0 0),(115,vb (bif decide (i < (↑(List.map Bk.a l).length:Int)) then !Sp.backB (l.getD i.toNat default).3 else false))],[⟨[ag [AV.vnil,AV.vnil]],2,0,false,true⟩,⟨[ag [AV.vec false 3 (List.map Bk.a q),AV.vnil]],2,0,false,true⟩,⟨[ag [vi n,AV.row 3 w]],2,0,false,false⟩,⟨List.map Bk.a b,3,w,false,true⟩],_,[((decide (i < (↑(List.map Bk.a l).length:Int)) == true && true) = true -> (List.map Bk.a l).get?Internal i.toNat = some (ag [vb (l.getD i.toNat default).1,AV.vec (l.getD i.toNat default).2 2 (List.map Wo.a (l.getD i.toNat default).3),AV.str (l.getD i.toNat default).4]))],[⟨decide (i < (↑(List.map Bk.a l).length:Int)) == true && true && true,false,65,[ag [vb (l.getD i.toNat default).1,AV.vec (l.getD i.toNat default).2 2 (List.map Wo.a (l.getD i.toNat default).3),AV.str (l.getD i.toNat default).4]],[],vb (Sp.backB (l.getD i.toNat default).3),[]⟩]⟩ (by kernel_rfl) (bc (i4.2 k5) (bc (i6.2 k7) b0)) (qc (by (try rw [w1]);all_goals exact (fun h => el_map (k7 ((i_at (i_bt i_dec)).1 h)))) q0) (cc (fun hc => ((@ev65 ((l.getD i.toNat default).1) ((l.getD i.toNat default).2) ((l.getD i.toNat default).3) ((l.getD i.toNat default).4) (k3 (i2.1 hc))):Ev M1 (Conf.pure 65 [ag [vb (l.getD i.toNat default).1,AV.vec (l.getD i.toNat default).2 2 (List.map Wo.a (l.getD i.toNat default).3),AV.str (l.getD i.toNat default).4]]) (vb (Sp.backB (l.getD i.toNat default).3)) [])) c0) ?_
 rcases xm ((i < (↑l.length:Int)) /\ (¬(Sp.backB (l.getD i.toNat default).3 = true))) with d10 | d10
 ·have H:=H.1 d10
  obtain ⟨k11,H⟩:=H
  obtain ⟨k14,H⟩:=H
  have i15:(decide (i.toNat < (List.map Bk.a l).length)) = true ↔ (i.toNat < l.length):=(by (try rw [w1]);all_goals exact i_dec)
  obtain ⟨k16,H⟩:=H
  have i18:(!(zSpW22 l i) || decide (i.toNat < (List.map Bk.a l).length)) = true ↔ ((¬(Sp.endB (l.getD i.toNat default).3 = true)) -> (i.toNat < l.length)):=(by (try rw [w1]);all_goals exact (i_imp (i_at (i_bf (i_var _))) i_dec))
  refine path_wp (G:=given kp35 [(18,3,.elem (ag [vb (l.getD i.toNat default).1,AV.vec (l.getD i.toNat default).2 2 (List.map Wo.a (l.getD i.toNat default).3),AV.str (l.getD i.toNat default).4])),(18,4,.call (vb (Sp.endB (l.getD i.toNat default).3)) none),(18,9,.elem (ag [vb (l.getD i.toNat default).1,AV.vec (l.getD i.toNat default).2 2 (List.map Wo.a (l.getD i.toNat default).3),AV.str (l.getD i.toNat default).4])),(18,10,.call (vb (Sp.letB (l.getD i.toNat default).3 79)) none)] []) 6 [true] ⟨(atC (cd Try.f35) [1,1,1,1,1,1,0,0,0,1,0,1,1,1,1,0,0,0,1,0,0,1]),[(0,AV.vec g 3 (List.map Bk.a l)),(2,AV.ptr 0 0 0 0),(4,AV.ptr 1 0 0 0),(5,vi i),(6,vb tw),(7,AV.ptr 2 0 0 0),(127,vb (zSpW20 l i))],[⟨[ag [AV.vnil,AV.vnil]],2,0,false,true⟩,⟨[ag [AV.vec false 3 (List.map Bk.a q),AV.vnil]],2,0,false,true⟩,⟨[ag [vi n,AV.row 3 w]],2,0,false,false⟩,⟨List.map Bk.a b,3,w,false,true⟩],[(bif decide (i < (↑(List.map Bk.a l).length:Int)) then !Sp.backB (l.getD i.toNat default).3 else false) == true,decide (0 <= i),decide (i.toNat < (List.map Bk.a l).length),!(zSpW22 l i) || decide (0 <= i),!(zSpW22 l i) || decide (i.toNat < (List.map Bk.a l).length)],[((List.map Bk.a l).get?Internal i.toNat = some (ag [vb (l.getD i.toNat default).1,AV.vec (l.getD i.toNat default).2 2 (List.map Wo.a (l.getD i.toNat default).3),AV.str (l.getD i.toNat default).4])),((zSpW22 l i) = true -> (List.map Bk.a l).get?Internal i.toNat = some (ag [vb (l.getD i.toNat default).1,AV.vec (l.getD i.toNat default).2 2 (List.map Wo.a (l.getD i.toNat default).3),AV.str (l.getD i.toNat default).4]))],[⟨true,false,64,[ag [vb (l.getD i.toNat default).1,AV.vec (l.getD i.toNat default).2 2 (List.map Wo.a (l.getD i.toNat default).3),AV.str (l.getD i.toNat default).4]],[],vb (Sp.endB (l.getD i.toNat default).3),[]⟩,⟨Sp.endB (l.getD i.toNat default).3 == false && true && true,false,66,[ag [vb (l.getD i.toNat default).1,AV.vec (l.getD i.toNat default).2 2 (List.map Wo.a (l.getD i.toNat default).3),AV.str (l.getD i.toNat default).4],AV.int IntKind.u8 79],[],vb (Sp.letB (l.getD i.toNat default).3 79),[]⟩]⟩ (by kernel_rfl) (bc (beq_t (i9.2 d10)) (bc (i_dec.2 k14) (bc (i15.2 k16) (bc ((i_imp (i_at (i_bf (i_var _))) i_dec).2 (fun _ => k14)) (bc (i18.2 (fun _ => k16)) b0))))) (qc (el_map k16) (qc (fun h => el_map k16) q0)) (cc (fun _ => (@ev64 ((l.getD i.toNat default).1) ((l.getD i.toNat default).2) ((l.getD i.toNat default).3) ((l.getD i.toNat default).4) k11)) (cc (fun hc => ((@ev66 ((l.getD i.toNat default).1) ((l.getD i.toNat default).2) ((l.getD i.toNat default).3) ((l.getD i.toNat default).4) (79) k11):Ev M1 (Conf.pure 66 [ag [vb (l.getD i.toNat default).1,AV.vec (l.getD i.toNat default).2 2 (List.map Wo.a (l.getD i.toNat default).3),AV.str (l.getD i.toNat default).4],AV.int IntKind.u8 79]) (vb (Sp.letB (l.getD i.toNat default).3 79)) [])) c0)) ?_
  rcases xm ((Sp.endB (l.getD i.toNat default).3 = true) \/ (Sp.letB (l.getD i.toNat default).3 79 = true)) with d21 | d21
  ·have H:=H.1 d21
   exact path_rq (G:=given kp35 [] []) 1000 [true] (asm:=[(zSpW20 l i) == true,true]) (tu [ag [AV.vnil,AV.vnil],vi 1]) (by kernel_rfl) (bc (beq_t ((i_bor (i_var _) (i_var _)).2 d21)) (bc rfl b0)) q0 c0 H
  ·have H:=H.2 d21
   have i23:(decide (i.toNat < (List.map Bk.a l).length)) = true ↔ (i.toNat < l.length):=(by (try rw [w1]);all_goals exact i_dec)
   have w24:(List.map Bk.a b).length = b.length:=List.length_map ..
   have i25:(decide (((List.map Bk.a b).length + 1) * 48 <= 1099511627776)) = true ↔ ((b.length + 1) * 48 <= 1099511627776):=(by (try rw [w24]);all_goals exact i_dec)
   obtain ⟨k26,H⟩:=H
   have w27:List.map Bk.a b ++ [ag [vb (l.getD i.toNat default).1,AV.vec (l.getD i.toNat default).2 2 (List.map Wo.a (l.getD i.toNat default).3),AV.str (l.getD i.toNat default).4]] = List.map Bk.a (b ++ [{ sk:=(l.getD i.toNat default).1,f:=(l.getD i.toNat default).2,ws:=(l.getD i.toNat default).3,cm:=(l.getD i.toNat default).4 }]):=(lm_app rfl rfl)
   obtain ⟨k28,H⟩:=H
   have w29:wi (i + 1) = i + 1:=wI64 k28
   exact path_wp (G:=given kp35 [(20,5,.elem (ag [vb (l.getD i.toNat default).1,AV.vec (l.getD i.toNat default).2 2 (List.map Wo.a (l.getD i.toNat default).3),AV.str (l.getD i.toNat default).4]))] []) 1000 [false] ⟨(atC (cd Try.f35) [1,1,1,1,1,1,0,0,0,1,0,1,1,1,1,0,0,0]),[(0,AV.vec g 3 (List.map Bk.a l)),(2,AV.ptr 0 0 0 0),(4,AV.ptr 1 0 0 0),(5,vi (wi (i + 1))),(6,vb tw),(7,AV.ptr 2 0 0 0)],[⟨[ag [AV.vnil,AV.vnil]],2,0,false,true⟩,⟨[ag [AV.vec false 3 (List.map Bk.a q),AV.vnil]],2,0,false,true⟩,⟨[ag [vi n,AV.row 3 (w + 1)]],2,0,false,false⟩,⟨List.map Bk.a b ++ [ag [vb (l.getD i.toNat default).1,AV.vec (l.getD i.toNat default).2 2 (List.map Wo.a (l.getD i.toNat default).3),AV.str (l.getD i.toNat default).4]],3,w + 1,false,true⟩],[(zSpW20 l i) == false,true,decide (0 <= i),decide (i.toNat < (List.map Bk.a l).length),w == w,decide (((List.map Bk.a b).length + 1) * 48 <= 1099511627776),true],[((List.map Bk.a l).get?Internal i.toNat = some (ag [vb (l.getD i.toNat default).1,AV.vec (l.getD i.toNat default).2 2 (List.map Wo.a (l.getD i.toNat default).3),AV.str (l.getD i.toNat default).4]))],_⟩ (by kernel_rfl) (bc (beq_f (fun h => d21 ((i_bor (i_var _) (i_var _)).1 h))) (bc rfl (bc (i_dec.2 k14) (bc (i23.2 k16) (bc (beq_self_eq_true _) (bc (i25.2 k26) (bc rfl b0))))))) (qc (el_map k16) q0) c0 (by (try rw [w27]);(try rw [w29]);all_goals exact H)
 ·have H:=H.2 d10
  have i30:((i == (↑(List.map Bk.a l).length:Int)) == false && true && true) = true ↔ (¬(i = (↑l.length:Int))):=(by (try rw [w1]);all_goals exact (i_at (i_at (i_bf i_eq))))
  have i31:(!((i == (↑(List.map Bk.a l).length:Int)) == false && true) || decide (0 <= i)) = true ↔ ((¬(i = (↑l.length:Int))) -> (0 <= i)):=(by (try rw [w1]);all_goals exact (i_imp (i_at (i_bf i_eq)) i_dec))
  obtain ⟨k32,H⟩:=H
  have i33:(!((i == (↑(List.map Bk.a l).length:Int)) == false && true) || decide (i.toNat < (List.map Bk.a l).length)) = true ↔ ((¬(i = (↑l.length:Int))) -> (i.toNat < l.length)):=(by (try rw [w1]);all_goals exact (i_imp (i_at (i_bf i_eq)) i_dec))
  obtain ⟨k34,H⟩:=H
  have i36:(bif i == (↑(List.map Bk.a l).length:Int) then true else !Sp.onB (l.getD i.toNat default).1 (l.getD i.toNat default).3 (l.getD i.toNat default).4 77) = true ↔ ((i = (↑l.length:Int)) \/ (¬(Sp.onB (l.getD i.toNat default).1 (l.getD i.toNat default).3 (l.getD i.toNat default).4 77 = true))):=(by (try rw [w1]);all_goals exact (i_bor i_eq (i_not (i_var _))))
  refine path_wp (G:=given kp35 [(22,8,.elem (ag [vb (l.getD i.toNat default).1,AV.vec (l.getD i.toNat default).2 2 (List.map Wo.a (l.getD i.toNat default).3),AV.str (l.getD i.toNat default).4])),(22,9,.call (vb (zSpW21 l i)) none)] []) 5 [false] ⟨(atC (cd Try.f35) [1,1,1,1,1,1,0,0,0,1,0,1,1,1,1,1,0,1]),[(0,AV.vec g 3 (List.map Bk.a l)),(2,AV.ptr 0 0 0 0),(4,AV.ptr 1 0 0 0),(5,vi i),(6,vb tw),(7,AV.ptr 2 0 0 0),(151,vb (bif i == (↑(List.map Bk.a l).length:Int) then true else !Sp.onB (l.getD i.toNat default).1 (l.getD i.toNat default).3 (l.getD i.toNat default).4 77))],[⟨[ag [AV.vnil,AV.vnil]],2,0,false,true⟩,⟨[ag [AV.vec false 3 (List.map Bk.a q),AV.vnil]],2,0,false,true⟩,⟨[ag [vi n,AV.row 3 w]],2,0,false,false⟩,⟨List.map Bk.a b,3,w,false,true⟩],_,[(((i == (↑(List.map Bk.a l).length:Int)) == false && true) = true -> (List.map Bk.a l).get?Internal i.toNat = some (ag [vb (l.getD i.toNat default).1,AV.vec (l.getD i.toNat default).2 2 (List.map Wo.a (l.getD i.toNat default).3),AV.str (l.getD i.toNat default).4]))],[⟨(i == (↑(List.map Bk.a l).length:Int)) == false && true && true,false,67,[ag [vb (l.getD i.toNat default).1,AV.vec (l.getD i.toNat default).2 2 (List.map Wo.a (l.getD i.toNat default).3),AV.str (l.getD i.toNat default).4],AV.int IntKind.u8 77],[],vb (zSpW21 l i),[]⟩]⟩ (by kernel_rfl) (bc (beq_f (fun h => d10 (i9.1 h))) (bc (i31.2 k32) (bc (i33.2 k34) b0))) (qc (by (try rw [w1]);all_goals exact (fun h => el_map (k34 ((i_at (i_bf i_eq)).1 h)))) q0) (cc (fun hc => ((@ev67 ((l.getD i.toNat default).1) ((l.getD i.toNat default).2) ((l.getD i.toNat default).3) ((l.getD i.toNat default).4) (77)):Ev M1 (Conf.pure 67 [ag [vb (l.getD i.toNat default).1,AV.vec (l.getD i.toNat default).2 2 (List.map Wo.a (l.getD i.toNat default).3),AV.str (l.getD i.toNat default).4],AV.int IntKind.u8 77]) (vb (zSpW21 l i)) [])) c0) ?_
  rcases xm ((i = (↑l.length:Int)) \/ (¬(Sp.onB (l.getD i.toNat default).1 (l.getD i.toNat default).3 (l.getD i.toNat default).4 77 = true))) with d37 | d37
  ·have H:=H.1 d37
   exact path_rq (G:=given kp35 [] []) 1000 [true] (tu [ag [AV.vnil,AV.vnil],vi 1]) (by kernel_rfl) (bc (beq_t (i36.2 d37)) (bc rfl b0)) q0 c0 H
  ·have H:=H.2 d37
   exact path_wp (G:=given kp35 [] []) 3 [false] ⟨(atC (cd Try.f35) [1,1,1,1,1,1,0,0,0,1,0,1,1,1,1,1,1,0]),[(0,AV.vec g 3 (List.map Bk.a l)),(2,AV.ptr 0 0 0 0),(4,AV.ptr 1 0 0 0),(5,vi i),(6,vb tw),(7,AV.ptr 2 0 0 0),(151,vb (bif i == (↑(List.map Bk.a l).length:Int) then true else !Sp.onB (l.getD i.toNat default).1 (l.getD i.toNat default).3 (l.getD i.toNat default).4 77))],[⟨[ag [AV.vnil,AV.vnil]],2,0,false,true⟩,⟨[ag [AV.vec false 3 (List.map Bk.a q),AV.vnil]],2,0,false,true⟩,⟨[ag [vi n,AV.row 3 w]],2,0,false,false⟩,⟨List.map Bk.a b,3,w,false,true⟩],_,[],_⟩ (by kernel_rfl) (bc (beq_f (fun h => d37 (i36.1 h))) b0) q0 c0 (by (try rw [w1]);all_goals exact Wp.less [0,2,4,5,6,7] (wp_melt (by kernel_rfl) [3] (env':=[(0,AV.vec g 3 (List.map Bk.a l)),(2,AV.ptr 0 0 0 0),(4,AV.ptr 1 0 0 0),(5,vi i),(6,vb tw),(7,AV.ptr 2 0 0 0)]) (L':=[⟨[ag [AV.vnil,AV.vnil]],2,0,false,true⟩,⟨[ag [AV.vec false 3 (List.map Bk.a q),AV.vnil]],2,0,false,true⟩,⟨[ag [vi n,AV.vec false 3 (List.map Bk.a b)]],2,0,false,true⟩,⟨List.map Bk.a b,3,w,true,true⟩]) (bs:=[w == w]) (by kernel_rfl) (by kernel_rfl) (by kernel_rfl) (allB_cons (beq_self_eq_true _) allB_nil) (wp_narrow [0,1,2] (by kernel_rfl) H)))
noncomputable abbrev zSpW23 (l:List Bk) (i:Int):=bif Sp.endB (l.getD i.toNat default).3 then true else Sp.letB (l.getD i.toNat default).3 79
noncomputable abbrev zSpW24 (l:List Bk) (i:Int):=Sp.onB (l.getD i.toNat default).1 (l.getD i.toNat default).3 (l.getD i.toNat default).4 77
noncomputable abbrev zSpW25 (l:List Bk) (i:Int):=Sp.endB (l.getD i.toNat default).3 == false && true
theorem svTmn (g:Bool) (l:List Bk) (i:Int) (q:List Bk) (tw:Bool) (s:List Sb) (v:Nat) (n:Int)  (dq:AV) (H :
  ((i < (↑l.length:Int)) -> (Sp.few6 (l.getD i.toNat default).3.length)) /\
  ((i < (↑l.length:Int)) -> (0 <= i)) /\
  ((i < (↑l.length:Int)) -> (i.toNat < l.length)) /\
  (((i < (↑l.length:Int)) /\ (¬(Sp.backB (l.getD i.toNat default).3 = true))) -> (Sp.few6 (l.getD i.toNat default).3.length) /\
   (0 <= i) /\
   (i.toNat < l.length) /\
   (((Sp.endB (l.getD i.toNat default).3 = true) \/ (Sp.letB (l.getD i.toNat default).3 79 = true)) -> Weak (tu [ag [AV.vnil,AV.vnil],vi 1]) dq) /\
   (¬((Sp.endB (l.getD i.toNat default).3 = true) \/ (Sp.letB (l.getD i.toNat default).3 79 = true)) -> (-9223372036854775808 <= i + 1 /\ i + 1 <= 9223372036854775807) /\
    svTmb_at (g) (l) (i + 1) (q) (tw) (s) (v) (n) ([{ sk:=(l.getD i.toNat default).1,f:=(l.getD i.toNat default).2,ws:=(l.getD i.toNat default).3,cm:=(l.getD i.toNat default).4 }]) (0) (PureQ dq))) /\
  (¬((i < (↑l.length:Int)) /\ (¬(Sp.backB (l.getD i.toNat default).3 = true))) -> ((¬(i = (↑l.length:Int))) -> (0 <= i)) /\
   ((¬(i = (↑l.length:Int))) -> (i.toNat < l.length)) /\
   (((i = (↑l.length:Int)) \/ (¬(Sp.onB (l.getD i.toNat default).1 (l.getD i.toNat default).3 (l.getD i.toNat default).4 77 = true))) -> Weak (tu [ag [AV.vnil,AV.vnil],vi 1]) dq) /\
   (¬((i = (↑l.length:Int)) \/ (¬(Sp.onB (l.getD i.toNat default).1 (l.getD i.toNat default).3 (l.getD i.toNat default).4 77 = true))) -> Wp M1 (.run fi35 (atC (cd Try.f35) [1,1,1,1,1,1,0,0,0,1,0,1,1,1,1,1,1,0]) [(0,AV.vec g 3 (List.map Bk.a l)),(2,AV.ptr 0 0 0 0),(4,AV.ptr 1 0 0 0),(5,vi i),(6,vb tw),(7,AV.ptr 2 0 0 0)] [{ elems:=[ag [AV.vnil,AV.vnil]],es:=2,ver:=0,frozen:=false,clean:=true },{ elems:=[ag [AV.vec false 3 (List.map Bk.a q),AV.row 3 v]],es:=2,ver:=0,frozen:=false,clean:=false },{ elems:=[ag [vi n,AV.vnil]],es:=2,ver:=0,frozen:=false,clean:=true },{ elems:=List.map Sb.a s,es:=2,ver:=v,frozen:=false,clean:=true }]) (PureQ dq)))) :
 svTmn_at g l i q tw s v n (PureQ dq):=by
 unfold svTmn_at
 have w1:(List.map Bk.a l).length = l.length:=List.length_map ..
 have i2:(decide (i < (↑(List.map Bk.a l).length:Int)) == true && true && true) = true ↔ (i < (↑l.length:Int)):=(by (try rw [w1]);all_goals exact (i_at (i_at (i_bt i_dec))))
 obtain ⟨k3,H⟩:=H
 have i4:(!(decide (i < (↑(List.map Bk.a l).length:Int)) == true && true) || decide (0 <= i)) = true ↔ ((i < (↑l.length:Int)) -> (0 <= i)):=(by (try rw [w1]);all_goals exact (i_imp (i_at (i_bt i_dec)) i_dec))
 obtain ⟨k5,H⟩:=H
 have i6:(!(decide (i < (↑(List.map Bk.a l).length:Int)) == true && true) || decide (i.toNat < (List.map Bk.a l).length)) = true ↔ ((i < (↑l.length:Int)) -> (i.toNat < l.length)):=(by (try rw [w1]);all_goals exact (i_imp (i_at (i_bt i_dec)) i_dec))
 obtain ⟨k7,H⟩:=H
 have i9:(bif decide (i < (↑(List.map Bk.a l).length:Int)) then !Sp.backB (l.getD i.toNat default).3 else false) = true ↔ ((i < (↑l.length:Int)) /\ (¬(Sp.backB (l.getD i.toNat default).3 = true))):=(by (try rw [w1]);all_goals exact (i_band i_dec (i_not (i_var _))))
 refine path_wp (G:=given kp35 [(17,8,.elem (ag [vb (l.getD i.toNat default).1,AV.vec (l.getD i.toNat default).2 2 (List.map Wo.a (l.getD i.toNat default).3),AV.str (l.getD i.toNat default).4])),(17,9,.call (vb (Sp.backB (l.getD i.toNat default).3)) none)] []) 3 [] ⟨(atC (cd Try.f35) [1,1,1,1,1,1,0,0,0,1,0,1,1,1,1,0,0,0,0,1]),[(0,AV.vec g 3 (List.map Bk.a l)),(2,AV.ptr 0 0 0 0),(4,AV.ptr 1 0 0 0),(5,vi i),(6,vb tw),(7,AV.ptr 2 0 0 0),(115,vb (bif decide (i < (↑(List.map Bk.a l).length:Int)) then !Sp.backB (l.getD i.toNat default).3 else false))],[⟨[ag [AV.vnil,AV.vnil]],2,0,false,true⟩,⟨[ag [AV.vec false 3 (List.map Bk.a q),AV.row 3 v]],2,0,false,false⟩,⟨[ag [vi n,AV.vnil]],2,0,false,false⟩,⟨List.map Sb.a s,2,v,false,true⟩],_,[((decide (i < (↑(List.map Bk.a l).length:Int)) == true && true) = true -> (List.map Bk.a l).get?Internal i.toNat = some (ag [vb (l.getD i.toNat default).1,AV.vec (l.getD i.toNat default).2 2 (List.map Wo.a (l.getD i.toNat default).3),AV.str (l.getD i.toNat default).4]))],[⟨decide (i < (↑(List.map Bk.a l).length:Int)) == true && true && true,false,65,[ag [vb (l.getD i.toNat default).1,AV.vec (l.getD i.toNat default).2 2 (List.map Wo.a (l.getD i.toNat default).3),AV.str (l.getD i.toNat default).4]],[],vb (Sp.backB (l.getD i.toNat default).3),[]⟩]⟩ (by kernel_rfl) (bc (i4.2 k5) (bc (i6.2 k7) b0)) (qc (by (try rw [w1]);all_goals exact (fun h => el_map (k7 ((i_at (i_bt i_dec)).1 h)))) q0) (cc (fun hc => ((@ev65 ((l.getD i.toNat default).1) ((l.getD i.toNat default).2) ((l.getD i.toNat default).3) ((l.getD i.toNat default).4) (k3 (i2.1 hc))):Ev M1 (Conf.pure 65 [ag [vb (l.getD i.toNat default).1,AV.vec (l.getD i.toNat default).2 2 (List.map Wo.a (l.getD i.toNat default).3),AV.str (l.getD i.toNat default).4]]) (vb (Sp.backB (l.getD i.toNat default).3)) [])) c0) ?_
 rcases xm ((i < (↑l.length:Int)) /\ (¬(Sp.backB (l.getD i.toNat default).3 = true))) with d10 | d10
 ·have H:=H.1 d10
  obtain ⟨k11,H⟩:=H
  obtain ⟨k14,H⟩:=H
  have i15:(decide (i.toNat < (List.map Bk.a l).length)) = true ↔ (i.toNat < l.length):=(by (try rw [w1]);all_goals exact i_dec)
  obtain ⟨k16,H⟩:=H
  have i18:(!(zSpW25 l i) || decide (i.toNat < (List.map Bk.a l).length)) = true ↔ ((¬(Sp.endB (l.getD i.toNat default).3 = true)) -> (i.toNat < l.length)):=(by (try rw [w1]);all_goals exact (i_imp (i_at (i_bf (i_var _))) i_dec))
  refine path_wp (G:=given kp35 [(18,3,.elem (ag [vb (l.getD i.toNat default).1,AV.vec (l.getD i.toNat default).2 2 (List.map Wo.a (l.getD i.toNat default).3),AV.str (l.getD i.toNat default).4])),(18,4,.call (vb (Sp.endB (l.getD i.toNat default).3)) none),(18,9,.elem (ag [vb (l.getD i.toNat default).1,AV.vec (l.getD i.toNat default).2 2 (List.map Wo.a (l.getD i.toNat default).3),AV.str (l.getD i.toNat default).4])),(18,10,.call (vb (Sp.letB (l.getD i.toNat default).3 79)) none)] []) 6 [true] ⟨(atC (cd Try.f35) [1,1,1,1,1,1,0,0,0,1,0,1,1,1,1,0,0,0,1,0,0,1]),[(0,AV.vec g 3 (List.map Bk.a l)),(2,AV.ptr 0 0 0 0),(4,AV.ptr 1 0 0 0),(5,vi i),(6,vb tw),(7,AV.ptr 2 0 0 0),(127,vb (zSpW23 l i))],[⟨[ag [AV.vnil,AV.vnil]],2,0,false,true⟩,⟨[ag [AV.vec false 3 (List.map Bk.a q),AV.row 3 v]],2,0,false,false⟩,⟨[ag [vi n,AV.vnil]],2,0,false,false⟩,⟨List.map Sb.a s,2,v,false,true⟩],[(bif decide (i < (↑(List.map Bk.a l).length:Int)) then !Sp.backB (l.getD i.toNat default).3 else false) == true,decide (0 <= i),decide (i.toNat < (List.map Bk.a l).length),!(zSpW25 l i) || decide (0 <= i),!(zSpW25 l i) || decide (i.toNat < (List.map Bk.a l).length)],[((List.map Bk.a l).get?Internal i.toNat = some (ag [vb (l.getD i.toNat default).1,AV.vec (l.getD i.toNat default).2 2 (List.map Wo.a (l.getD i.toNat default).3),AV.str (l.getD i.toNat default).4])),((zSpW25 l i) = true -> (List.map Bk.a l).get?Internal i.toNat = some (ag [vb (l.getD i.toNat default).1,AV.vec (l.getD i.toNat default).2 2 (List.map Wo.a (l.getD i.toNat default).3),AV.str (l.getD i.toNat default).4]))],[⟨true,false,64,[ag [vb (l.getD i.toNat default).1,AV.vec (l.getD i.toNat default).2 2 (List.map Wo.a (l.getD i.toNat default).3),AV.str (l.getD i.toNat default).4]],[],vb (Sp.endB (l.getD i.toNat default).3),[]⟩,⟨Sp.endB (l.getD i.toNat default).3 == false && true && true,false,66,[ag [vb (l.getD i.toNat default).1,AV.vec (l.getD i.toNat default).2 2 (List.map Wo.a (l.getD i.toNat default).3),AV.str (l.getD i.toNat default).4],AV.int IntKind.u8 79],[],vb (Sp.letB (l.getD i.toNat default).3 79),[]⟩]⟩ (by kernel_rfl) (bc (beq_t (i9.2 d10)) (bc (i_dec.2 k14) (bc (i15.2 k16) (bc ((i_imp (i_at (i_bf (i_var _))) i_dec).2 (fun _ => k14)) (bc (i18.2 (fun _ => k16)) b0))))) (qc (el_map k16) (qc (fun h => el_map k16) q0)) (cc (fun _ => (@ev64 ((l.getD i.toNat default).1) ((l.getD i.toNat default).2) ((l.getD i.toNat default).3) ((l.getD i.toNat default).4) k11)) (cc (fun hc => ((@ev66 ((l.getD i.toNat default).1) ((l.getD i.toNat default).2) ((l.getD i.toNat default).3) ((l.getD i.toNat default).4) (79) k11):Ev M1 (Conf.pure 66 [ag [vb (l.getD i.toNat default).1,AV.vec (l.getD i.toNat default).2 2 (List.map Wo.a (l.getD i.toNat default).3),AV.str (l.getD i.toNat default).4],AV.int IntKind.u8 79]) (vb (Sp.letB (l.getD i.toNat default).3 79)) [])) c0)) ?_
  rcases xm ((Sp.endB (l.getD i.toNat default).3 = true) \/ (Sp.letB (l.getD i.toNat default).3 79 = true)) with d21 | d21
  ·have H:=H.1 d21
   exact path_rq (G:=given kp35 [] []) 1000 [true] (asm:=[(zSpW23 l i) == true,true]) (tu [ag [AV.vnil,AV.vnil],vi 1]) (by kernel_rfl) (bc (beq_t ((i_bor (i_var _) (i_var _)).2 d21)) (bc rfl b0)) q0 c0 H
  ·have H:=H.2 d21
   have i23:(decide (i.toNat < (List.map Bk.a l).length)) = true ↔ (i.toNat < l.length):=(by (try rw [w1]);all_goals exact i_dec)
   obtain ⟨k24,H⟩:=H
   have w25:wi (i + 1) = i + 1:=wI64 k24
   have w26:[ag [vb (l.getD i.toNat default).1,AV.vec (l.getD i.toNat default).2 2 (List.map Wo.a (l.getD i.toNat default).3),AV.str (l.getD i.toNat default).4]] = List.map Bk.a [{ sk:=(l.getD i.toNat default).1,f:=(l.getD i.toNat default).2,ws:=(l.getD i.toNat default).3,cm:=(l.getD i.toNat default).4 }]:=rfl
   exact path_wp (G:=given kp35 [(20,5,.elem (ag [vb (l.getD i.toNat default).1,AV.vec (l.getD i.toNat default).2 2 (List.map Wo.a (l.getD i.toNat default).3),AV.str (l.getD i.toNat default).4]))] []) 1000 [false] ⟨(atC (cd Try.f35) [1,1,1,1,1,1,0,0,0,1,0,1,1,1,1,0,0,0]),[(0,AV.vec g 3 (List.map Bk.a l)),(2,AV.ptr 0 0 0 0),(4,AV.ptr 1 0 0 0),(5,vi (wi (i + 1))),(6,vb tw),(7,AV.ptr 2 0 0 0)],[⟨[ag [AV.vnil,AV.vnil]],2,0,false,true⟩,⟨[ag [AV.vec false 3 (List.map Bk.a q),AV.row 3 v]],2,0,false,false⟩,⟨[ag [vi n,AV.row 4 0]],2,0,false,false⟩,⟨List.map Sb.a s,2,v,false,true⟩,⟨[ag [vb (l.getD i.toNat default).1,AV.vec (l.getD i.toNat default).2 2 (List.map Wo.a (l.getD i.toNat default).3),AV.str (l.getD i.toNat default).4]],3,0,false,true⟩],[(zSpW23 l i) == false,true,decide (0 <= i),decide (i.toNat < (List.map Bk.a l).length),true,true],[((List.map Bk.a l).get?Internal i.toNat = some (ag [vb (l.getD i.toNat default).1,AV.vec (l.getD i.toNat default).2 2 (List.map Wo.a (l.getD i.toNat default).3),AV.str (l.getD i.toNat default).4]))],_⟩ (by kernel_rfl) (bc (beq_f (fun h => d21 ((i_bor (i_var _) (i_var _)).1 h))) (bc rfl (bc (i_dec.2 k14) (bc (i23.2 k16) (bc rfl (bc rfl b0)))))) (qc (el_map k16) q0) c0 (by (try rw [w25]);(try rw [w26]);all_goals exact H)
 ·have H:=H.2 d10
  have i27:((i == (↑(List.map Bk.a l).length:Int)) == false && true && true) = true ↔ (¬(i = (↑l.length:Int))):=(by (try rw [w1]);all_goals exact (i_at (i_at (i_bf i_eq))))
  have i28:(!((i == (↑(List.map Bk.a l).length:Int)) == false && true) || decide (0 <= i)) = true ↔ ((¬(i = (↑l.length:Int))) -> (0 <= i)):=(by (try rw [w1]);all_goals exact (i_imp (i_at (i_bf i_eq)) i_dec))
  obtain ⟨k29,H⟩:=H
  have i30:(!((i == (↑(List.map Bk.a l).length:Int)) == false && true) || decide (i.toNat < (List.map Bk.a l).length)) = true ↔ ((¬(i = (↑l.length:Int))) -> (i.toNat < l.length)):=(by (try rw [w1]);all_goals exact (i_imp (i_at (i_bf i_eq)) i_dec))
  obtain ⟨k31,H⟩:=H
  have i33:(bif i == (↑(List.map Bk.a l).length:Int) then true else !Sp.onB (l.getD i.toNat default).1 (l.getD i.toNat default).3 (l.getD i.toNat default).4 77) = true ↔ ((i = (↑l.length:Int)) \/ (¬(Sp.onB (l.getD i.toNat default).1 (l.getD i.toNat default).3 (l.getD i.toNat default).4 77 = true))):=(by (try rw [w1]);all_goals exact (i_bor i_eq (i_not (i_var _))))
  refine path_wp (G:=given kp35 [(22,8,.elem (ag [vb (l.getD i.toNat default).1,AV.vec (l.getD i.toNat default).2 2 (List.map Wo.a (l.getD i.toNat default).3),AV.str (l.getD i.toNat default).4])),(22,9,.call (vb (zSpW24 l i)) none)] []) 5 [false] ⟨(atC (cd Try.f35) [1,1,1,1,1,1,0,0,0,1,0,1,1,1,1,1,0,1]),[(0,AV.vec g 3 (List.map Bk.a l)),(2,AV.ptr 0 0 0 0),(4,AV.ptr 1 0 0 0),(5,vi i),(6,vb tw),(7,AV.ptr 2 0 0 0),(151,vb (bif i == (↑(List.map Bk.a l).length:Int) then true else !Sp.onB (l.getD i.toNat default).1 (l.getD i.toNat default).3 (l.getD i.toNat default).4 77))],[⟨[ag [AV.vnil,AV.vnil]],2,0,false,true⟩,⟨[ag [AV.vec false 3 (List.map Bk.a q),AV.row 3 v]],2,0,false,false⟩,⟨[ag [vi n,AV.vnil]],2,0,false,false⟩,⟨List.map Sb.a s,2,v,false,true⟩],_,[(((i == (↑(List.map Bk.a l).length:Int)) == false && true) = true -> (List.map Bk.a l).get?Internal i.toNat = some (ag [vb (l.getD i.toNat default).1,AV.vec (l.getD i.toNat default).2 2 (List.map Wo.a (l.getD i.toNat default).3),AV.str (l.getD i.toNat default).4]))],[⟨(i == (↑(List.map Bk.a l).length:Int)) == false && true && true,false,67,[ag [vb (l.getD i.toNat default).1,AV.vec (l.getD i.toNat default).2 2 (List.map Wo.a (l.getD i.toNat default).3),AV.str (l.getD i.toNat default).4],AV.int IntKind.u8 77],[],vb (zSpW24 l i),[]⟩]⟩ (by kernel_rfl) (bc (beq_f (fun h => d10 (i9.1 h))) (bc (i28.2 k29) (bc (i30.2 k31) b0))) (qc (by (try rw [w1]);all_goals exact (fun h => el_map (k31 ((i_at (i_bf i_eq)).1 h)))) q0) (cc (fun hc => ((@ev67 ((l.getD i.toNat default).1) ((l.getD i.toNat default).2) ((l.getD i.toNat default).3) ((l.getD i.toNat default).4) (77)):Ev M1 (Conf.pure 67 [ag [vb (l.getD i.toNat default).1,AV.vec (l.getD i.toNat default).2 2 (List.map Wo.a (l.getD i.toNat default).3),AV.str (l.getD i.toNat default).4],AV.int IntKind.u8 77]) (vb (zSpW24 l i)) [])) c0) ?_
  rcases xm ((i = (↑l.length:Int)) \/ (¬(Sp.onB (l.getD i.toNat default).1 (l.getD i.toNat default).3 (l.getD i.toNat default).4 77 = true))) with d34 | d34
  ·have H:=H.1 d34
   exact path_rq (G:=given kp35 [] []) 1000 [true] (tu [ag [AV.vnil,AV.vnil],vi 1]) (by kernel_rfl) (bc (beq_t (i33.2 d34)) (bc rfl b0)) q0 c0 H
  ·have H:=H.2 d34
   exact path_wp (G:=given kp35 [] []) 3 [false] ⟨(atC (cd Try.f35) [1,1,1,1,1,1,0,0,0,1,0,1,1,1,1,1,1,0]),[(0,AV.vec g 3 (List.map Bk.a l)),(2,AV.ptr 0 0 0 0),(4,AV.ptr 1 0 0 0),(5,vi i),(6,vb tw),(7,AV.ptr 2 0 0 0),(151,vb (bif i == (↑(List.map Bk.a l).length:Int) then true else !Sp.onB (l.getD i.toNat default).1 (l.getD i.toNat default).3 (l.getD i.toNat default).4 77))],[⟨[ag [AV.vnil,AV.vnil]],2,0,false,true⟩,⟨[ag [AV.vec false 3 (List.map Bk.a q),AV.row 3 v]],2,0,false,false⟩,⟨[ag [vi n,AV.vnil]],2,0,false,false⟩,⟨List.map Sb.a s,2,v,false,true⟩],_,[],_⟩ (by kernel_rfl) (bc (beq_f (fun h => d34 (i33.1 h))) b0) q0 c0 (by (try rw [w1]);all_goals exact Wp.less [0,2,4,5,6,7] (wp_melt (by kernel_rfl) [] (env':=[(0,AV.vec g 3 (List.map Bk.a l)),(2,AV.ptr 0 0 0 0),(4,AV.ptr 1 0 0 0),(5,vi i),(6,vb tw),(7,AV.ptr 2 0 0 0)]) (L':=[⟨[ag [AV.vnil,AV.vnil]],2,0,false,true⟩,⟨[ag [AV.vec false 3 (List.map Bk.a q),AV.row 3 v]],2,0,false,false⟩,⟨[ag [vi n,AV.vnil]],2,0,false,true⟩,⟨List.map Sb.a s,2,v,false,true⟩]) (bs:=[]) (by kernel_rfl) (by kernel_rfl) (by kernel_rfl) allB_nil (H)))
noncomputable abbrev zSpW26 (l:List Bk) (i:Int):=bif Sp.endB (l.getD i.toNat default).3 then true else Sp.letB (l.getD i.toNat default).3 79
noncomputable abbrev zSpW27 (l:List Bk) (i:Int):=Sp.onB (l.getD i.toNat default).1 (l.getD i.toNat default).3 (l.getD i.toNat default).4 77
noncomputable abbrev zSpW28 (l:List Bk) (i:Int):=Sp.endB (l.getD i.toNat default).3 == false && true
theorem svTmb (g:Bool) (l:List Bk) (i:Int) (q:List Bk) (tw:Bool) (s:List Sb) (v:Nat) (n:Int) (b:List Bk) (w:Nat)  (dq:AV) (H :
  ((i < (↑l.length:Int)) -> (Sp.few6 (l.getD i.toNat default).3.length)) /\
  ((i < (↑l.length:Int)) -> (0 <= i)) /\
  ((i < (↑l.length:Int)) -> (i.toNat < l.length)) /\
  (((i < (↑l.length:Int)) /\ (¬(Sp.backB (l.getD i.toNat default).3 = true))) -> (Sp.few6 (l.getD i.toNat default).3.length) /\
   (0 <= i) /\
   (i.toNat < l.length) /\
   (((Sp.endB (l.getD i.toNat default).3 = true) \/ (Sp.letB (l.getD i.toNat default).3 79 = true)) -> Weak (tu [ag [AV.vnil,AV.vnil],vi 1]) dq) /\
   (¬((Sp.endB (l.getD i.toNat default).3 = true) \/ (Sp.letB (l.getD i.toNat default).3 79 = true)) -> ((b.length + 1) * 48 <= 1099511627776) /\
    (-9223372036854775808 <= i + 1 /\ i + 1 <= 9223372036854775807) /\
    svTmb_at (g) (l) (i + 1) (q) (tw) (s) (v) (n) (b ++ [{ sk:=(l.getD i.toNat default).1,f:=(l.getD i.toNat default).2,ws:=(l.getD i.toNat default).3,cm:=(l.getD i.toNat default).4 }]) (w + 1) (PureQ dq))) /\
  (¬((i < (↑l.length:Int)) /\ (¬(Sp.backB (l.getD i.toNat default).3 = true))) -> ((¬(i = (↑l.length:Int))) -> (0 <= i)) /\
   ((¬(i = (↑l.length:Int))) -> (i.toNat < l.length)) /\
   (((i = (↑l.length:Int)) \/ (¬(Sp.onB (l.getD i.toNat default).1 (l.getD i.toNat default).3 (l.getD i.toNat default).4 77 = true))) -> Weak (tu [ag [AV.vnil,AV.vnil],vi 1]) dq) /\
   (¬((i = (↑l.length:Int)) \/ (¬(Sp.onB (l.getD i.toNat default).1 (l.getD i.toNat default).3 (l.getD i.toNat default).4 77 = true))) -> svTme_at (g) (l) (i) (q) (tw) (s) (v) (n) (b) (PureQ dq)))) :
 svTmb_at g l i q tw s v n b w (PureQ dq):=by
 unfold svTmb_at
 have w1:(List.map Bk.a l).length = l.length:=List.length_map ..
 have i2:(decide (i < (↑(List.map Bk.a l).length:Int)) == true && true && true) = true ↔ (i < (↑l.length:Int)):=(by (try rw [w1]);all_goals exact (i_at (i_at (i_bt i_dec))))
 obtain ⟨k3,H⟩:=H
 have i4:(!(decide (i < (↑(List.map Bk.a l).length:Int)) == true && true) || decide (0 <= i)) = true ↔ ((i < (↑l.length:Int)) -> (0 <= i)):=(by (try rw [w1]);all_goals exact (i_imp (i_at (i_bt i_dec)) i_dec))
 obtain ⟨k5,H⟩:=H
 have i6:(!(decide (i < (↑(List.map Bk.a l).length:Int)) == true && true) || decide (i.toNat < (List.map Bk.a l).length)) = true ↔ ((i < (↑l.length:Int)) -> (i.toNat < l.length)):=(by (try rw [w1]);all_goals exact (i_imp (i_at (i_bt i_dec)) i_dec))
 obtain ⟨k7,H⟩:=H
 have i9:(bif decide (i < (↑(List.map Bk.a l).length:Int)) then !Sp.backB (l.getD i.toNat default).3 else false) = true ↔ ((i < (↑l.length:Int)) /\ (¬(Sp.backB (l.getD i.toNat default).3 = true))):=(by (try rw [w1]);all_goals exact (i_band i_dec (i_not (i_var _))))
 refine path_wp (G:=given kp35 [(17,8,.elem (ag [vb (l.getD i.toNat default).1,AV.vec (l.getD i.toNat default).2 2 (List.map Wo.a (l.getD i.toNat default).3),AV.str (l.getD i.toNat default).4])),(17,9,.call (vb (Sp.backB (l.getD i.toNat default).3)) none)] []) 3 [] ⟨(atC (cd Try.f35) [1,1,1,1,1,1,0,0,0,1,0,1,1,1,1,0,0,0,0,1]),[(0,AV.vec g 3 (List.map Bk.a l)),(2,AV.ptr 0 0 0 0),(4,AV.ptr 1 0 0 0),(5,vi i),(6,vb tw),(7,AV.ptr 2 0 0 0),(115,vb (bif decide (i < (↑(List.map Bk.a l).length:Int)) then !Sp.backB (l.getD i.toNat default).3 else false))],[⟨[ag [AV.vnil,AV.vnil]],2,0,false,true⟩,⟨[ag [AV.vec false 3 (List.map Bk.a q),AV.row 3 v]],2,0,false,false⟩,⟨[ag [vi n,AV.row 4 w]],2,0,false,false⟩,⟨List.map Sb.a s,2,v,false,true⟩,⟨List.map Bk.a b,3,w,false,true⟩],_,[((decide (i < (↑(List.map Bk.a l).length:Int)) == true && true) = true -> (List.map Bk.a l).get?Internal i.toNat = some (ag [vb (l.getD i.toNat default).1,AV.vec (l.getD i.toNat default).2 2 (List.map Wo.a (l.getD i.toNat default).3),AV.str (l.getD i.toNat default).4]))],[⟨decide (i < (↑(List.map Bk.a l).length:Int)) == true && true && true,false,65,[ag [vb (l.getD i.toNat default).1,AV.vec (l.getD i.toNat default).2 2 (List.map Wo.a (l.getD i.toNat default).3),AV.str (l.getD i.toNat default).4]],[],vb (Sp.backB (l.getD i.toNat default).3),[]⟩]⟩ (by kernel_rfl) (bc (i4.2 k5) (bc (i6.2 k7) b0)) (qc (by (try rw [w1]);all_goals exact (fun h => el_map (k7 ((i_at (i_bt i_dec)).1 h)))) q0) (cc (fun hc => ((@ev65 ((l.getD i.toNat default).1) ((l.getD i.toNat default).2) ((l.getD i.toNat default).3) ((l.getD i.toNat default).4) (k3 (i2.1 hc))):Ev M1 (Conf.pure 65 [ag [vb (l.getD i.toNat default).1,AV.vec (l.getD i.toNat default).2 2 (List.map Wo.a (l.getD i.toNat default).3),AV.str (l.getD i.toNat default).4]]) (vb (Sp.backB (l.getD i.toNat default).3)) [])) c0) ?_
 rcases xm ((i < (↑l.length:Int)) /\ (¬(Sp.backB (l.getD i.toNat default).3 = true))) with d10 | d10
 ·have H:=H.1 d10
  obtain ⟨k11,H⟩:=H
  obtain ⟨k14,H⟩:=H
  have i15:(decide (i.toNat < (List.map Bk.a l).length)) = true ↔ (i.toNat < l.length):=(by (try rw [w1]);all_goals exact i_dec)
  obtain ⟨k16,H⟩:=H
  have i18:(!(zSpW28 l i) || decide (i.toNat < (List.map Bk.a l).length)) = true ↔ ((¬(Sp.endB (l.getD i.toNat default).3 = true)) -> (i.toNat < l.length)):=(by (try rw [w1]);all_goals exact (i_imp (i_at (i_bf (i_var _))) i_dec))
  refine path_wp (G:=given kp35 [(18,3,.elem (ag [vb (l.getD i.toNat default).1,AV.vec (l.getD i.toNat default).2 2 (List.map Wo.a (l.getD i.toNat default).3),AV.str (l.getD i.toNat default).4])),(18,4,.call (vb (Sp.endB (l.getD i.toNat default).3)) none),(18,9,.elem (ag [vb (l.getD i.toNat default).1,AV.vec (l.getD i.toNat default).2 2 (List.map Wo.a (l.getD i.toNat default).3),AV.str (l.getD i.toNat default).4])),(18,10,.call (vb (Sp.letB (l.getD i.toNat default).3 79)) none)] []) 6 [true] ⟨(atC (cd Try.f35) [1,1,1,1,1,1,0,0,0,1,0,1,1,1,1,0,0,0,1,0,0,1]),[(0,AV.vec g 3 (List.map Bk.a l)),(2,AV.ptr 0 0 0 0),(4,AV.ptr 1 0 0 0),(5,vi i),(6,vb tw),(7,AV.ptr 2 0 0 0),(127,vb (zSpW26 l i))],[⟨[ag [AV.vnil,AV.vnil]],2,0,false,true⟩,⟨[ag [AV.vec false 3 (List.map Bk.a q),AV.row 3 v]],2,0,false,false⟩,⟨[ag [vi n,AV.row 4 w]],2,0,false,false⟩,⟨List.map Sb.a s,2,v,false,true⟩,⟨List.map Bk.a b,3,w,false,true⟩],[(bif decide (i < (↑(List.map Bk.a l).length:Int)) then !Sp.backB (l.getD i.toNat default).3 else false) == true,decide (0 <= i),decide (i.toNat < (List.map Bk.a l).length),!(zSpW28 l i) || decide (0 <= i),!(zSpW28 l i) || decide (i.toNat < (List.map Bk.a l).length)],[((List.map Bk.a l).get?Internal i.toNat = some (ag [vb (l.getD i.toNat default).1,AV.vec (l.getD i.toNat default).2 2 (List.map Wo.a (l.getD i.toNat default).3),AV.str (l.getD i.toNat default).4])),((zSpW28 l i) = true -> (List.map Bk.a l).get?Internal i.toNat = some (ag [vb (l.getD i.toNat default).1,AV.vec (l.getD i.toNat default).2 2 (List.map Wo.a (l.getD i.toNat default).3),AV.str (l.getD i.toNat default).4]))],[⟨true,false,64,[ag [vb (l.getD i.toNat default).1,AV.vec (l.getD i.toNat default).2 2 (List.map Wo.a (l.getD i.toNat default).3),AV.str (l.getD i.toNat default).4]],[],vb (Sp.endB (l.getD i.toNat default).3),[]⟩,⟨Sp.endB (l.getD i.toNat default).3 == false && true && true,false,66,[ag [vb (l.getD i.toNat default).1,AV.vec (l.getD i.toNat default).2 2 (List.map Wo.a (l.getD i.toNat default).3),AV.str (l.getD i.toNat default).4],AV.int IntKind.u8 79],[],vb (Sp.letB (l.getD i.toNat default).3 79),[]⟩]⟩ (by kernel_rfl) (bc (beq_t (i9.2 d10)) (bc (i_dec.2 k14) (bc (i15.2 k16) (bc ((i_imp (i_at (i_bf (i_var _))) i_dec).2 (fun _ => k14)) (bc (i18.2 (fun _ => k16)) b0))))) (qc (el_map k16) (qc (fun h => el_map k16) q0)) (cc (fun _ => (@ev64 ((l.getD i.toNat default).1) ((l.getD i.toNat default).2) ((l.getD i.toNat default).3) ((l.getD i.toNat default).4) k11)) (cc (fun hc => ((@ev66 ((l.getD i.toNat default).1) ((l.getD i.toNat default).2) ((l.getD i.toNat default).3) ((l.getD i.toNat default).4) (79) k11):Ev M1 (Conf.pure 66 [ag [vb (l.getD i.toNat default).1,AV.vec (l.getD i.toNat default).2 2 (List.map Wo.a (l.getD i.toNat default).3),AV.str (l.getD i.toNat default).4],AV.int IntKind.u8 79]) (vb (Sp.letB (l.getD i.toNat default).3 79)) [])) c0)) ?_
  rcases xm ((Sp.endB (l.getD i.toNat default).3 = true) \/ (Sp.letB (l.getD i.toNat default).3 79 = true)) with d21 | d21
  ·have H:=H.1 d21
   exact path_rq (G:=given kp35 [] []) 1000 [true] (asm:=[(zSpW26 l i) == true,true]) (tu [ag [AV.vnil,AV.vnil],vi 1]) (by kernel_rfl) (bc (beq_t ((i_bor (i_var _) (i_var _)).2 d21)) (bc rfl b0)) q0 c0 H
  ·have H:=H.2 d21
   have i23:(decide (i.toNat < (List.map Bk.a l).length)) = true ↔ (i.toNat < l.length):=(by (try rw [w1]);all_goals exact i_dec)
   have w24:(List.map Bk.a b).length = b.length:=List.length_map ..
   have i25:(decide (((List.map Bk.a b).length + 1) * 48 <= 1099511627776)) = true ↔ ((b.length + 1) * 48 <= 1099511627776):=(by (try rw [w24]);all_goals exact i_dec)
   obtain ⟨k26,H⟩:=H
   have w27:List.map Bk.a b ++ [ag [vb (l.getD i.toNat default).1,AV.vec (l.getD i.toNat default).2 2 (List.map Wo.a (l.getD i.toNat default).3),AV.str (l.getD i.toNat default).4]] = List.map Bk.a (b ++ [{ sk:=(l.getD i.toNat default).1,f:=(l.getD i.toNat default).2,ws:=(l.getD i.toNat default).3,cm:=(l.getD i.toNat default).4 }]):=(lm_app rfl rfl)
   obtain ⟨k28,H⟩:=H
   have w29:wi (i + 1) = i + 1:=wI64 k28
   exact path_wp (G:=given kp35 [(20,5,.elem (ag [vb (l.getD i.toNat default).1,AV.vec (l.getD i.toNat default).2 2 (List.map Wo.a (l.getD i.toNat default).3),AV.str (l.getD i.toNat default).4]))] []) 1000 [false] ⟨(atC (cd Try.f35) [1,1,1,1,1,1,0,0,0,1,0,1,1,1,1,0,0,0]),[(0,AV.vec g 3 (List.map Bk.a l)),(2,AV.ptr 0 0 0 0),(4,AV.ptr 1 0 0 0),(5,vi (wi (i + 1))),(6,vb tw),(7,AV.ptr 2 0 0 0)],[⟨[ag [AV.vnil,AV.vnil]],2,0,false,true⟩,⟨[ag [AV.vec false 3 (List.map Bk.a q),AV.row 3 v]],2,0,false,false⟩,⟨[ag [vi n,AV.row 4 (w + 1)]],2,0,false,false⟩,⟨List.map Sb.a s,2,v,false,true⟩,⟨List.map Bk.a b ++ [ag [vb (l.getD i.toNat default).1,AV.vec (l.getD i.toNat default).2 2 (List.map Wo.a (l.getD i.toNat default).3),AV.str (l.getD i.toNat default).4]],3,w + 1,false,true⟩],[(zSpW26 l i) == false,true,decide (0 <= i),decide (i.toNat < (List.map Bk.a l).length),w == w,decide (((List.map Bk.a b).length + 1) * 48 <= 1099511627776),true],[((List.map Bk.a l).get?Internal i.toNat = some (ag [vb (l.getD i.toNat default).1,AV.vec (l.getD i.toNat default).2 2 (List.map Wo.a (l.getD i.toNat default).3),AV.str (l.getD i.toNat default).4]))],_⟩ (by kernel_rfl) (bc (beq_f (fun h => d21 ((i_bor (i_var _) (i_var _)).1 h))) (bc rfl (bc (i_dec.2 k14) (bc (i23.2 k16) (bc (beq_self_eq_true _) (bc (i25.2 k26) (bc rfl b0))))))) (qc (el_map k16) q0) c0 (by (try rw [w27]);(try rw [w29]);all_goals exact H)
 ·have H:=H.2 d10
  have i30:((i == (↑(List.map Bk.a l).length:Int)) == false && true && true) = true ↔ (¬(i = (↑l.length:Int))):=(by (try rw [w1]);all_goals exact (i_at (i_at (i_bf i_eq))))
  have i31:(!((i == (↑(List.map Bk.a l).length:Int)) == false && true) || decide (0 <= i)) = true ↔ ((¬(i = (↑l.length:Int))) -> (0 <= i)):=(by (try rw [w1]);all_goals exact (i_imp (i_at (i_bf i_eq)) i_dec))
  obtain ⟨k32,H⟩:=H
  have i33:(!((i == (↑(List.map Bk.a l).length:Int)) == false && true) || decide (i.toNat < (List.map Bk.a l).length)) = true ↔ ((¬(i = (↑l.length:Int))) -> (i.toNat < l.length)):=(by (try rw [w1]);all_goals exact (i_imp (i_at (i_bf i_eq)) i_dec))
  obtain ⟨k34,H⟩:=H
  have i36:(bif i == (↑(List.map Bk.a l).length:Int) then true else !Sp.onB (l.getD i.toNat default).1 (l.getD i.toNat default).3 (l.getD i.toNat default).4 77) = true ↔ ((i = (↑l.length:Int)) \/ (¬(Sp.onB (l.getD i.toNat default).1 (l.getD i.toNat default).3 (l.getD i.toNat default).4 77 = true))):=(by (try rw [w1]);all_goals exact (i_bor i_eq (i_not (i_var _))))
  refine path_wp (G:=given kp35 [(22,8,.elem (ag [vb (l.getD i.toNat default).1,AV.vec (l.getD i.toNat default).2 2 (List.map Wo.a (l.getD i.toNat default).3),AV.str (l.getD i.toNat default).4])),(22,9,.call (vb (zSpW27 l i)) none)] []) 5 [false] ⟨(atC (cd Try.f35) [1,1,1,1,1,1,0,0,0,1,0,1,1,1,1,1,0,1]),[(0,AV.vec g 3 (List.map Bk.a l)),(2,AV.ptr 0 0 0 0),(4,AV.ptr 1 0 0 0),(5,vi i),(6,vb tw),(7,AV.ptr 2 0 0 0),(151,vb (bif i == (↑(List.map Bk.a l).length:Int) then true else !Sp.onB (l.getD i.toNat default).1 (l.getD i.toNat default).3 (l.getD i.toNat default).4 77))],[⟨[ag [AV.vnil,AV.vnil]],2,0,false,true⟩,⟨[ag [AV.vec false 3 (List.map Bk.a q),AV.row 3 v]],2,0,false,false⟩,⟨[ag [vi n,AV.row 4 w]],2,0,false,false⟩,⟨List.map Sb.a s,2,v,false,true⟩,⟨List.map Bk.a b,3,w,false,true⟩],_,[(((i == (↑(List.map Bk.a l).length:Int)) == false && true) = true -> (List.map Bk.a l).get?Internal i.toNat = some (ag [vb (l.getD i.toNat default).1,AV.vec (l.getD i.toNat default).2 2 (List.map Wo.a (l.getD i.toNat default).3),AV.str (l.getD i.toNat default).4]))],[⟨(i == (↑(List.map Bk.a l).length:Int)) == false && true && true,false,67,[ag [vb (l.getD i.toNat default).1,AV.vec (l.getD i.toNat default).2 2 (List.map Wo.a (l.getD i.toNat default).3),AV.str (l.getD i.toNat default).4],AV.int IntKind.u8 77],[],vb (zSpW27 l i),[]⟩]⟩ (by kernel_rfl) (bc (beq_f (fun h => d10 (i9.1 h))) (bc (i31.2 k32) (bc (i33.2 k34) b0))) (qc (by (try rw [w1]);all_goals exact (fun h => el_map (k34 ((i_at (i_bf i_eq)).1 h)))) q0) (cc (fun hc => ((@ev67 ((l.getD i.toNat default).1) ((l.getD i.toNat default).2) ((l.getD i.toNat default).3) ((l.getD i.toNat default).4) (77)):Ev M1 (Conf.pure 67 [ag [vb (l.getD i.toNat default).1,AV.vec (l.getD i.toNat default).2 2 (List.map Wo.a (l.getD i.toNat default).3),AV.str (l.getD i.toNat default).4],AV.int IntKind.u8 77]) (vb (zSpW27 l i)) [])) c0) ?_
  rcases xm ((i = (↑l.length:Int)) \/ (¬(Sp.onB (l.getD i.toNat default).1 (l.getD i.toNat default).3 (l.getD i.toNat default).4 77 = true))) with d37 | d37
  ·have H:=H.1 d37
   exact path_rq (G:=given kp35 [] []) 1000 [true] (tu [ag [AV.vnil,AV.vnil],vi 1]) (by kernel_rfl) (bc (beq_t (i36.2 d37)) (bc rfl b0)) q0 c0 H
  ·have H:=H.2 d37
   exact path_wp (G:=given kp35 [] []) 3 [false] ⟨(atC (cd Try.f35) [1,1,1,1,1,1,0,0,0,1,0,1,1,1,1,1,1,0]),[(0,AV.vec g 3 (List.map Bk.a l)),(2,AV.ptr 0 0 0 0),(4,AV.ptr 1 0 0 0),(5,vi i),(6,vb tw),(7,AV.ptr 2 0 0 0),(151,vb (bif i == (↑(List.map Bk.a l).length:Int) then true else !Sp.onB (l.getD i.toNat default).1 (l.getD i.toNat default).3 (l.getD i.toNat default).4 77))],[⟨[ag [AV.vnil,AV.vnil]],2,0,false,true⟩,⟨[ag [AV.vec false 3 (List.map Bk.a q),AV.row 3 v]],2,0,false,false⟩,⟨[ag [vi n,AV.row 4 w]],2,0,false,false⟩,⟨List.map Sb.a s,2,v,false,true⟩,⟨List.map Bk.a b,3,w,false,true⟩],_,[],_⟩ (by kernel_rfl) (bc (beq_f (fun h => d37 (i36.1 h))) b0) q0 c0 (by (try rw [w1]);all_goals exact Wp.less [0,2,4,5,6,7] (wp_melt (by kernel_rfl) [4] (env':=[(0,AV.vec g 3 (List.map Bk.a l)),(2,AV.ptr 0 0 0 0),(4,AV.ptr 1 0 0 0),(5,vi i),(6,vb tw),(7,AV.ptr 2 0 0 0)]) (L':=[⟨[ag [AV.vnil,AV.vnil]],2,0,false,true⟩,⟨[ag [AV.vec false 3 (List.map Bk.a q),AV.row 3 v]],2,0,false,false⟩,⟨[ag [vi n,AV.vec false 3 (List.map Bk.a b)]],2,0,false,true⟩,⟨List.map Sb.a s,2,v,false,true⟩,⟨List.map Bk.a b,3,w,true,true⟩]) (bs:=[w == w]) (by kernel_rfl) (by kernel_rfl) (by kernel_rfl) (allB_cons (beq_self_eq_true _) allB_nil) (wp_narrow [0,1,2,3] (by kernel_rfl) H)))
theorem svTne (g:Bool) (l:List Bk) (i:Int) (q:List Bk) (tw:Bool) (n:Int) (b:List Bk)  (dq:AV) (H :
  (-9223372036854775808 <= i + 1 /\ i + 1 <= 9223372036854775807) /\
  svTm_at (g) (l) (i + 1) (q) (tw) ([{ n:=n,f:=false,bl:=b }]) (0) (PureQ dq)) :
 svTne_at g l i q tw n b (PureQ dq):=by
 unfold svTne_at
 obtain ⟨k1,H⟩:=H
 have w2:wi (i + 1) = i + 1:=wI64 k1
 have w3:[ag [vi n,AV.vec false 3 (List.map Bk.a b)]] = List.map Sb.a [{ n:=n,f:=false,bl:=b }]:=rfl
 exact path_wp (G:=given kp35 [] []) 1000 [] ⟨(atC (cd Try.f35) [1,1,1,1,1,1,0,0,0]),[(0,AV.vec g 3 (List.map Bk.a l)),(2,AV.ptr 0 0 0 0),(4,AV.ptr 1 0 0 0),(5,vi (wi (i + 1))),(6,vb tw)],[⟨[ag [AV.vnil,AV.vnil]],2,0,false,true⟩,⟨[ag [AV.vec false 3 (List.map Bk.a q),AV.row 3 0]],2,0,false,false⟩,⟨[ag [vi n,AV.vec false 3 (List.map Bk.a b)]],2,0,false,true⟩,⟨[ag [vi n,AV.vec false 3 (List.map Bk.a b)]],2,0,false,true⟩],_,[],_⟩ (by kernel_rfl) (bc rfl (bc rfl (bc rfl (bc rfl b0)))) q0 c0 (by (try rw [w2]);(try rw [w3]);all_goals exact wp_narrow [0,1,3] (by kernel_rfl) H)
theorem svTme (g:Bool) (l:List Bk) (i:Int) (q:List Bk) (tw:Bool) (s:List Sb) (v:Nat) (n:Int) (b:List Bk)  (dq:AV) (H :
  ((s.length + 1) * 32 <= 1099511627776) /\
  (-9223372036854775808 <= i + 1 /\ i + 1 <= 9223372036854775807) /\
  svTm_at (g) (l) (i + 1) (q) (tw) (s ++ [{ n:=n,f:=false,bl:=b }]) (v + 1) (PureQ dq)) :
 svTme_at g l i q tw s v n b (PureQ dq):=by
 unfold svTme_at
 have w1:(List.map Sb.a s).length = s.length:=List.length_map ..
 have i2:(decide (((List.map Sb.a s).length + 1) * 32 <= 1099511627776)) = true ↔ ((s.length + 1) * 32 <= 1099511627776):=(by (try rw [w1]);all_goals exact i_dec)
 obtain ⟨k3,H⟩:=H
 have w4:List.map Sb.a s ++ [ag [vi n,AV.vec false 3 (List.map Bk.a b)]] = List.map Sb.a (s ++ [{ n:=n,f:=false,bl:=b }]):=(lm_app rfl rfl)
 obtain ⟨k5,H⟩:=H
 have w6:wi (i + 1) = i + 1:=wI64 k5
 exact path_wp (G:=given kp35 [] []) 1000 [] ⟨(atC (cd Try.f35) [1,1,1,1,1,1,0,0,0]),[(0,AV.vec g 3 (List.map Bk.a l)),(2,AV.ptr 0 0 0 0),(4,AV.ptr 1 0 0 0),(5,vi (wi (i + 1))),(6,vb tw)],[⟨[ag [AV.vnil,AV.vnil]],2,0,false,true⟩,⟨[ag [AV.vec false 3 (List.map Bk.a q),AV.row 3 (v + 1)]],2,0,false,false⟩,⟨[ag [vi n,AV.vec false 3 (List.map Bk.a b)]],2,0,false,true⟩,⟨List.map Sb.a s ++ [ag [vi n,AV.vec false 3 (List.map Bk.a b)]],2,v + 1,false,true⟩],[true,true,v == v,decide (((List.map Sb.a s).length + 1) * 32 <= 1099511627776),true],[],_⟩ (by kernel_rfl) (bc rfl (bc rfl (bc (beq_self_eq_true _) (bc (i2.2 k3) (bc rfl b0))))) q0 c0 (by (try rw [w4]);(try rw [w6]);all_goals exact wp_narrow [0,1,3] (by kernel_rfl) H)
end Go.Av

namespace Go.Av
open Go.Proofs
namespace Sp
def ordM (l:List Bk):Bool:=ordB l []
end Sp
theorem ordB_eq (l:List Bk) (s:List Sb):Sp.ordB l s = (Sp.ordM l && !(Sp.anyP Sp.sMk s)):=by
 unfold Sp.ordM Sp.ordB
 simp [Sp.anyP,Bool.and_assoc]
theorem spl_bad {l:List Bk}:∀ (f:Nat) (r:List Bk) (s:List Sb),(Sp.ordM l = false \/ Sp.anyP Sp.sMk s = true) -> Sp.spl l f r s = ([],[],1)
 | 0,_,_,_ => rfl
 | f + 1,r,s,h => by
  rw [Sp.spl]
  split
  ·rw [ordB_eq,if_neg]
   rcases h with h | h <;> simp [h]
  ·split
   ·refine spl_bad f _ _ (h.imp id fun h => ?_)
    unfold Sp.anyP at h ⊢
    rw [List.any_append,h,Bool.true_or]
   ·rfl
theorem idxF_lo {α:Type} [Inhabited α] (p:α -> Bool):∀ (r:List α) (k:Nat) (i:Int),0 <= i -> (∀ j,j < k -> j < r.length -> p (r.getD j default) = false) -> Sp.idxF p r i < 0 \/ i + k <= Sp.idxF p r i
 | [],k,i,_,_ => .inl (by simp [Sp.idxF])
 | b :: r,0,i,hi,_ => by
  rcases idxF_ge p (b :: r) i hi with ⟨h1,_⟩ | ⟨h1,_⟩ <;> omega
 | b :: r,k + 1,i,hi,h => by
  have h0:p b = false:=h 0 (by omega) (by simp)
  rw [Sp.idxF,if_neg (by simp [h0])]
  rcases idxF_lo p r k (i + 1) (by omega) fun j hj hl => by simpa using h (j + 1) (by omega) (by simp;omega) with h1 | h1 <;> omega
theorem idxF_at {α:Type} [Inhabited α] (p:α -> Bool):∀ (r:List α) (k:Nat) (i:Int),(∀ j,j < k -> p (r.getD j default) = false) -> k < r.length -> p (r.getD k default) = true -> Sp.idxF p r i = i + k
 | [],k,i,_,h,_ => by simp at h
 | b :: r,0,i,_,_,h => by
  have h0:p b = true:=h
  rw [Sp.idxF,if_pos h0];omega
 | b :: r,k + 1,i,h,hl,hk => by
  have h0:p b = false:=h 0 (by omega)
  rw [Sp.idxF,if_neg (by simp [h0]),idxF_at p r k (i + 1) (fun j hj => by simpa using h (j + 1) (by omega)) (by simp at hl;omega) (by simpa using hk)]
  omega
theorem idxF_no {α:Type} [Inhabited α] (p:α -> Bool):∀ (r:List α) (i:Int),(∀ j,j < r.length -> p (r.getD j default) = false) -> Sp.idxF p r i = -1
 | [],i,_ => rfl
 | b :: r,i,h => by
  have h0:p b = false:=h 0 (by simp)
  rw [Sp.idxF,if_neg (by simp [h0]),idxF_no p r (i + 1) fun j hl => by simpa using h (j + 1) (by simp;omega)]
theorem any_at {α:Type} [Inhabited α] {p:α -> Bool} {r:List α} {i:Nat} (hi:i < r.length) (h:p (r.getD i default) = true):r.any p = true:=List.any_eq_true.2 ⟨_,getD_mem hi,h⟩
theorem any_no {α:Type} [Inhabited α] {p:α -> Bool} {r:List α} (h:∀ j,j < r.length -> p (r.getD j default) = false):r.any p = false:=by
 rw [List.any_eq_false]
 intro x hx
 obtain ⟨j,hj,rfl⟩:=List.getElem_of_mem hx
 have:=h j hj
 rw [List.getD_eq_getElem?_getD,List.getElem?_eq_getElem hj] at this
 simpa using this
theorem getD_take' {α:Type} [Inhabited α] {r:List α} {k j:Nat} (h:j < k):(r.take k).getD j default = r.getD j default:=by
 rw [List.getD_eq_getElem?_getD,List.getD_eq_getElem?_getD,List.getElem?_take_of_lt h]
theorem getD_drop' {α:Type} [Inhabited α] {r:List α} {k j:Nat}:(r.drop k).getD j default = r.getD (k + j) default:=by
 rw [List.getD_eq_getElem?_getD,List.getD_eq_getElem?_getD,List.getElem?_drop]
theorem ordM_last {m:List Bk} {n:Nat} (h:m.length = n + 1) (hb:Sp.backB (m.getD n default).ws = true \/ Sp.letB (m.getD n default).ws 79 = true):Sp.ordM m = false:=by
 unfold Sp.ordM Sp.ordB Sp.lastB
 rw [h,Nat.add_sub_cancel]
 revert hb;generalize m.getD n default = b;intro hb
 rcases hb with hb | hb <;> simp [hb]
theorem ordM_in {m:List Bk} {n i:Nat} (h:m.length = n + 1) (hi:i < n) (hb:Sp.pMk (m.getD i default) = true):Sp.ordM m = false:=by
 unfold Sp.ordM Sp.ordB Sp.lastB
 rw [h,Nat.add_sub_cancel]
 have:Sp.anyP Sp.pMk (m.take n) = true:=any_at (i:=i) (by simp;omega) (by rw [getD_take' hi];exact hb)
 simp [this]
theorem ordM_ok {m:List Bk} {n:Nat} (h:m.length = n + 1) (he:Sp.endB (m.getD n default).ws = true) (hb:Sp.backB (m.getD n default).ws = false) (ho:Sp.letB (m.getD n default).ws 79 = false) (ha:∀ j,j < n -> Sp.pMk (m.getD j default) = false):Sp.ordM m = true:=by
 unfold Sp.ordM Sp.ordB Sp.lastB
 rw [h,Nat.add_sub_cancel]
 have:Sp.anyP Sp.pMk (m.take n) = false:=any_no fun j hj => by
  simp at hj
  rw [getD_take' (by omega)];exact ha j (by omega)
 rw [this,he,hb,ho,decide_eq_true (by omega)];rfl
theorem split_bad {l:List Bk} {i:Nat} (hi:i < l.length) (h1:∀ j,j < i -> Sp.pEnd (l.getD j default) = false) (h2:Sp.backB (l.getD i default).ws = true \/ Sp.letB (l.getD i default).ws 79 = true):Sp.split l = ([],[],1):=by
 unfold Sp.split
 split
 ·rfl
 ·rename_i k
  rcases idxF_ge Sp.pEnd l 0 (by omega) with ⟨a1,_⟩ | ⟨a1,a2,_⟩
  ·exact absurd (show Sp.idxP Sp.pEnd l < 0 by unfold Sp.idxP;omega) k
  ·have a3:=idxF_lo Sp.pEnd l i 0 (by omega) fun j hj _ => h1 j hj
   obtain ⟨p,hp⟩:=Int.eq_ofNat_of_zero_le (show 0 <= Sp.idxF Sp.pEnd l 0 from a1)
   rw [hp] at a2 a3
   unfold Sp.idxP
   rw [hp,show (p:Int) + 1 = ((p + 1:Nat):Int) by omega,Int.toNat_natCast]
   refine spl_bad _ _ _ (.inl ?_)
   have hm:(l.take (p + 1)).length = p + 1:=by simp;omega
   by_cases e:i = p
   ·subst e
    exact ordM_last hm (by rw [getD_take' (by omega)];exact h2)
   ·refine ordM_in hm (show i < p by omega) ?_
    rw [getD_take' (by omega)]
    unfold Sp.pMk Sp.mkB
    revert h2;generalize l.getD i default = b;intro h2
    rcases h2 with h2 | h2 <;> simp [h2]
theorem split_no {l:List Bk} (h:∀ j,j < l.length -> Sp.pEnd (l.getD j default) = false):Sp.split l = ([],[],1):=by
 unfold Sp.split Sp.idxP
 rw [idxF_no _ _ _ h];rfl
theorem split_at {l:List Bk} {i:Nat} (hi:i < l.length) (h1:∀ j,j < i -> Sp.pEnd (l.getD j default) = false) (h2:Sp.pEnd (l.getD i default) = true):Sp.split l = Sp.spl (l.take (i + 1)) (l.length + 1) (l.drop (i + 1)) []:=by
 unfold Sp.split Sp.idxP
 rw [idxF_at _ _ i 0 h1 hi h2,if_neg (by omega)]
 congr <;> omega
def Bk.bg (b:Bk):Bool:=Sp.bgB b.sk b.ws b.cm
theorem spl_nobg {l:List Bk} {f:Nat} {r:List Bk} {s:List Sb} (h0:0 < r.length) (hb:¬(r.getD 0 default).bg = true):Sp.spl l (f + 1) r s = ([],[],1):=by
 rw [Sp.spl,if_neg (by omega),if_neg (fun h => hb h.1)]
theorem spl_long {l:List Bk} {f:Nat} {r:List Bk} {s:List Sb} {i:Nat} (h0:0 < i) (hi:i < r.length) (hs:∀ j,j < i + 1 -> Sp.pStop (r.getD j default) = false) (hm:Sp.pMk (r.getD i default) = true):Sp.spl l (f + 1) r s = ([],[],1):=by
 rw [Sp.spl,if_neg (by omega)]
 split
 ·rename_i h
  rcases idxF_lo Sp.pStop r (i + 1) 0 (by omega) fun j hj _ => hs j hj with a | a
  ·exact absurd a h.2
  ·rcases idxF_ge Sp.pStop r 0 (by omega) with ⟨b1,_⟩ | ⟨b1,b2,_⟩
   ·omega
   ·obtain ⟨p,hp⟩:=Int.eq_ofNat_of_zero_le b1
    unfold Sp.idxP
    rw [hp] at a b2 ⊢
    rw [Int.toNat_natCast]
    refine spl_bad _ _ _ (.inr ?_)
    unfold Sp.anyP
    rw [List.any_append]
    have:Sp.sMk ⟨Sp.bgV (r.getD 0 default).sk (r.getD 0 default).ws (r.getD 0 default).cm,false,(r.take p).drop 1⟩ = true:=by
     unfold Sp.sMk Sp.anyP
     refine any_at (i:=i - 1) (by simp;omega) ?_
     rw [getD_drop',show 1 + (i - 1) = i by omega,getD_take' (by omega)]
     exact hm
    rw [List.any_cons,this,Bool.true_or,Bool.or_true]
 ·rfl
theorem spl_no {l:List Bk} {f:Nat} {r:List Bk} {s:List Sb} (h0:0 < r.length) (hs:∀ j,j < r.length -> Sp.pStop (r.getD j default) = false):Sp.spl l (f + 1) r s = ([],[],1):=by
 rw [Sp.spl,if_neg (by omega),if_neg]
 unfold Sp.idxP
 rw [idxF_no _ _ _ hs]
 omega
theorem spl_next {l:List Bk} {f:Nat} {r:List Bk} {s:List Sb} {k:Nat} (hk:k < r.length) (hb:(r.getD 0 default).bg = true) (hs:∀ j,j < k -> Sp.pStop (r.getD j default) = false) (hm:Sp.pStop (r.getD k default) = true):Sp.spl l (f + 1) r s = Sp.spl l f (r.drop (k + 1)) (s ++ [⟨Sp.bgV (r.getD 0 default).sk (r.getD 0 default).ws (r.getD 0 default).cm,false,(r.take k).drop 1⟩]):=by
 have e:Sp.idxP Sp.pStop r = (k:Int):=by unfold Sp.idxP;rw [idxF_at _ _ k 0 hs hk hm];omega
 rw [Sp.spl,if_neg (by omega),e,if_pos ⟨hb,by omega⟩,Int.toNat_natCast,show ((k:Int) + 1).toNat = k + 1 by omega]
theorem bg_iff (b:Bk):b.bg = true ↔ (Sp.onB b.sk b.ws b.cm 79 = true /\ ¬Sp.whR (b.ws.getD 0 default).v = 0):=by
 unfold Bk.bg Sp.bgB Sp.onB Sp.plB
 simp only [decide_eq_true_eq]
 constructor
 ·intro h
  split at h
  ·rename_i k
   refine ⟨⟨k.1.1,k.2,k.1.2⟩,?_⟩
   unfold Sp.whR
   rw [if_pos h]
   unfold Sp.whB at h
   unfold Sp.whV
   have:=of_decide_eq_true h
   omega
  ·cases h
 ·intro ⟨⟨h1,h2,h3⟩,h4⟩
  rw [if_pos ⟨⟨h1,h3⟩,h2⟩]
  unfold Sp.whR at h4
  split at h4
  ·assumption
  ·exact absurd rfl h4
theorem bg_val {b:Bk} (h:b.bg = true):Sp.bgV b.sk b.ws b.cm = Sp.whR (b.ws.getD 0 default).v:=by
 unfold Bk.bg Sp.bgB at h
 unfold Sp.bgV Sp.whR
 split at h
 ·rename_i k
  rw [if_pos k,if_pos h]
 ·cases h
theorem on_stop {b:Bk} (hb:Sp.backB b.ws = true):Sp.onB b.sk b.ws b.cm 77 = Sp.pStop b:=by
 unfold Sp.pStop Sp.onB Sp.plB
 rw [hb,Bool.and_true]
 apply decide_eq_decide.2
 constructor
 ·exact fun ⟨h1,_,h3⟩ => ⟨h1,h3⟩
 ·intro ⟨h1,h3⟩
  refine ⟨h1,?_,h3⟩
  unfold Sp.backB Sp.hasW Sp.codes at hb
  match hw:b.ws,h1 with
  | [w],_ =>
   rw [hw] at hb
   by_cases k:w.l = 77
   ·simpa using k
   ·simp [k] at hb
theorem unmk_stop {b:Bk} (h:Sp.pMk b = false):Sp.pStop b = false:=by
 unfold Sp.pMk Sp.mkB at h
 unfold Sp.pStop
 cases hb:Sp.backB b.ws with
 | false => simp
 | true => rw [hb] at h;simp at h
theorem fnd_any (s:List Sb) (m:Int):decide (Sp.fnd s m >= 0) = Sp.anyP (Sp.isN m) s:=by
 unfold Sp.fnd Sp.idxP Sp.anyP
 rcases idxF_ge (Sp.isN m) s 0 (by omega) with ⟨h1,h2⟩ | ⟨h1,_,h2⟩
 ·rw [h1,h2];rfl
 ·rw [h2];exact decide_eq_true h1
theorem sIs_isN (m:Int):Sp.sIs m = Sp.isN m:=by
 funext x
 unfold Sp.sIs Sp.isN Sp.eqI
 rw [show (m == x.n) = decide (m = x.n) from rfl]
 exact decide_eq_decide.2 ⟨Eq.symm,Eq.symm⟩
theorem any_congr' {α:Type} {l:List α} {p q:α -> Bool} (h:∀ x ∈ l,p x = q x):l.any p = l.any q:=by
 induction l with
 | nil => rfl
 | cons a l ih => rw [List.any_cons,List.any_cons,h a (by simp),ih fun x hx => h x (by simp [hx])]
theorem repB_snoc (s:List Sb) (x:Sb):Sp.repB (s ++ [x]) = (Sp.repB s || Sp.anyP (Sp.isN x.n) s):=by
 unfold Sp.repB
 rw [List.length_append,List.length_singleton,List.range'_1_concat,List.any_append]
 congr 1
 ·refine any_congr' fun i hi => ?_
  rw [List.mem_range'_1] at hi
  rw [List.getD_eq_getElem?_getD,List.getElem?_append_left (by omega),<- List.getD_eq_getElem?_getD,List.take_append_of_le_length (by omega)]
 ·rw [List.any_cons,List.any_nil,Bool.or_false,Nat.zero_add,List.getD_eq_getElem?_getD,List.getElem?_append_right (by omega),Nat.sub_self,List.take_append_of_le_length (by omega),List.take_length,sIs_isN]
  rfl
end Go.Av

namespace Go.Av
open Go.RowKit
def WkCells (xs ys:List AV):Prop:=ys.length = xs.length /\ ∀ (i:Nat) x y,xs[i]? = some x -> ys[i]? = some y ->
 y.cells.length = x.cells.length /\ y.cells.all AV.plain = true /\ ∀ (k:Nat) c d,x.cells[k]? = some c -> y.cells[k]? = some d -> (d = c \/ (c.clean = true /\ Weak c d))
theorem wp_weaken {M:Mach} (hm:(M.P ()).follows .mixedOrders = true) {fi:Fi} {k:List Item} {env:Vars} {L L':Heap} {Q:AV -> Heap -> Prop} (r:Nat) (row:Row) (ys:List AV) (hr:L[r]? = some row) (hL:L.set r { row with elems:=ys } = L') (hw:WkCells row.elems ys) (h:Wp M (.run fi k env L') Q):Wp M (.run fi k env L) Q:=by
 refine .sem fun S b a cs fn h1 h2 h3 h4 h5 h6 h7 h8 => ?_
 subst h6;subst hL
 have hlen:(S.L.set r { row with elems:=ys }).length = S.L.length:=by simp
 have fwd:∀ (q:Nat) x,S.L[q]? = some x -> ∃ x',(S.L.set r { row with elems:=ys })[q]? = some x' /\ x'.ver = x.ver /\ x'.elems.length = x.elems.length /\ x'.frozen = x.frozen:=by
  intro q x hx
  rw [List.getElem?_set]
  by_cases e:r = q
  ·subst e
   rw [hr] at hx;simp only [Option.some.injEq] at hx;subst hx
   simp [lt_of_get hr]
   exact hw.1
  ·rw [if_neg e];exact ⟨x,hx,rfl,rfl,rfl⟩
 have hX:=relabel h5 hlen fwd
 have back:∀ (q:Nat) x,(S.L.set r { row with elems:=ys })[q]? = some x -> (S.L[q]? = some x) \/ (q = r /\ x = { row with elems:=ys }):=by
  intro q x hx
  rw [List.getElem?_set] at hx
  by_cases e:r = q
  ·subst e;simp [lt_of_get hr] at hx;exact .inr ⟨rfl,hx.symm⟩
  ·rw [if_neg e] at hx;exact .inl hx
 have wk:∀ {c d:AV} {v:Value},Rel S c v -> (d = c \/ (c.clean = true /\ Weak c d)) -> Rel ⟨S.base,S.acc,S.L.set r { row with elems:=ys },S.β,S.w⟩ d v:=by
  intro c d v hc hd
  rcases hd with rfl | ⟨h1,h2⟩
  ·exact hc.mono hX
  ·exact .data _ _ (weak_rel h2 ((rel_clean hc h1).mono hX))
 have wkd:∀ {c d:AV} {v:Value},DRel S c v -> (d = c \/ (c.clean = true /\ Weak c d)) -> DRel ⟨S.base,S.acc,S.L.set r { row with elems:=ys },S.β,S.w⟩ d v:=by
  intro c d v hc hd
  rcases hd with rfl | ⟨_,h2⟩
  ·exact hc.mono hX
  ·exact weak_rel h2 (hc.mono hX)
 have elem:∀ (i:Nat) y,ys[i]? = some y -> ∃ x,row.elems[i]? = some x /\ y.cells.length = x.cells.length /\ y.cells.all AV.plain = true /\ ∀ (k:Nat) d,y.cells[k]? = some d -> ∃ c,x.cells[k]? = some c /\ (d = c \/ (c.clean = true /\ Weak c d)):=by
  intro i y hy
  have hlt:i < row.elems.length:=by rw [<- hw.1];exact lt_of_get hy
  obtain ⟨w1,w2,w3⟩:=hw.2 i _ y (List.getElem?_eq_getElem hlt) hy
  refine ⟨_,List.getElem?_eq_getElem hlt,w1,w2,fun k d hd => ?_⟩
  have hk:k < row.elems[i].cells.length:=by rw [<- w1];exact lt_of_get hd
  exact ⟨_,List.getElem?_eq_getElem hk,w3 k _ d (List.getElem?_eq_getElem hk) hd⟩
 have hOk:HeapOk ⟨S.base,S.acc,S.L.set r { row with elems:=ys },S.β,S.w⟩:=by
  refine ⟨h5.base,by simp [h5.len],h5.blk,h5.inj,fun q x info hx hi hmp => ?_,fun q x info hx hi hmp => ?_,fun q x hx => ?_,fun q x info i z k c cv hx hi hz hk hcv => ?_,fun q x info i z k c cv hx hi hcl hz hk hcv => ?_,h5.acq,h5.anew⟩
  ·rcases back q x hx with hx | ⟨rfl,rfl⟩
   ·obtain ⟨es,c1,c2,c3,c4⟩:=h5.maps q x info hx hi hmp
    exact ⟨es,c1,c2,c3,fun i e y he hy => (c4 i e y he hy).mono hX⟩
   ·obtain ⟨es,c1,c2,c3,c4⟩:=h5.maps q row info hr hi hmp
    refine ⟨es,c1,by rw [c2];exact hw.1.symm,c3,fun i e y he hy => ?_⟩
    obtain ⟨x,e1,e2,e3,e4⟩:=elem i y hy
    obtain ⟨p1,kk,n,v,rfl,p3,p4,p5,p6⟩:=c4 i e x he e1
    have hy2:∃ d0 d1,y = .agg [d0,d1]:=by
     cases y with
     | agg cs =>
      match cs,e2 with
      | [d0,d1],_ => exact ⟨d0,d1,rfl⟩
     | _ => simp [AV.cells] at e2
    obtain ⟨d0,d1,rfl⟩:=hy2
    obtain ⟨c0,g0,g1⟩:=e4 0 d0 rfl
    simp [AV.cells] at g0;subst g0
    have hd0:d0 = .int kk n:=by
     rcases g1 with rfl | ⟨_,g1⟩
     ·rfl
     ·cases g1;rfl
    subst hd0
    obtain ⟨c1',g2,g3⟩:=e4 1 d1 rfl
    simp [AV.cells] at g2;subst g2
    refine ⟨p1,kk,n,d1,rfl,p3,?_,wk p5 g3,fun hcl => wkd (p6 hcl) g3⟩
    simp [AV.cells] at e3
    exact e3.2
  ·rcases back q x hx with hx | ⟨rfl,rfl⟩
   ·exact h5.cells q x info hx hi hmp
   ·have:=h5.cells q row info hr hi hmp
    rw [<- hw.1] at this
    exact this
  ·rcases back q x hx with hx | ⟨rfl,rfl⟩
   ·exact h5.elems q x hx
   ·intro i y hy
    obtain ⟨x,e1,e2,e3,_⟩:=elem i y hy
    exact ⟨e2.trans (h5.elems q row hr i x e1).1,e3⟩
  ·rcases back q x hx with hx | ⟨rfl,rfl⟩
   ·exact (h5.rel q x info i z k c cv hx hi hz hk hcv).mono hX
   ·obtain ⟨x0,e1,_,_,e4⟩:=elem i z hz
    obtain ⟨c0,g0,g1⟩:=e4 k c hk
    exact wk (h5.rel q row info i x0 k c0 cv hr hi e1 g0 hcv) g1
  ·rcases back q x hx with hx | ⟨rfl,rfl⟩
   ·exact (h5.clean q x info i z k c cv hx hi hcl hz hk hcv).mono hX
   ·obtain ⟨x0,e1,_,_,e4⟩:=elem i z hz
    obtain ⟨c0,g0,g1⟩:=e4 k c hk
    exact wkd (h5.clean q row info i x0 k c0 cv hr hi hcl e1 g0 hcv) g1
 have hV:VRel ⟨S.base,S.acc,S.L.set r { row with elems:=ys },S.β,S.w⟩ env a.tmps:=fun t => (h7 t).mono hX
 obtain ⟨a',todo',Ds,w',β',v,L1,q1,q2,q3,q4,q5,q6,q7,q8,q9⟩:=(wp_sound hm (c:=.run fi k _ _) h:RunSnd M fi k _ _ Q) ⟨S.base,S.acc,S.L.set r { row with elems:=ys },S.β,S.w⟩ b a cs fn h1 h2 h3 h4 hOk rfl hV h8
 exact ⟨a',todo',Ds,w',β',v,L1,q1,q2,q3,q4,q5,q6,q7,q8,hX.trans q9⟩
end Go.Av

namespace Go.Av
open Go.Proofs
theorem wk_nil {n:Int}:WkCells [.agg [.int .i64 n,.vnil]] [.agg [.int .i64 n,.vec false 3 []]]:=⟨rfl,fun i x y hx hy => by
 match i with
 | 0 =>
  simp at hx hy;subst hx;subst hy
  refine ⟨rfl,rfl,fun k c d hc hd => ?_⟩
  match k with
  | 0 => simp [AV.cells] at hc hd;subst hc;subst hd;exact .inl rfl
  | 1 => simp [AV.cells] at hc hd;subst hc;subst hd;exact .inr ⟨rfl,.vnil 3⟩
  | k + 2 => simp [AV.cells] at hc
 | i + 1 => simp at hx⟩
theorem svTmb_loop {g tw:Bool} {l m:List Bk} {s:List Sb} {v:Nat} {n:Int} {i0 f:Nat} {dq:AV} (hk:Sp.okBs l) (hl:l.length <= 999999) (hi0:i0 < l.length) (hsl:s.length <= 999999) (hn:n = Sp.bgV (l.getD i0 default).sk (l.getD i0 default).ws (l.getD i0 default).cm) (hb:(l.getD i0 default).bg = true)
  (ih:∀ (i:Nat) (b:List Bk),i0 + 1 <= i -> i <= l.length -> (∀ x ∈ b,Sp.pMk x = false) -> spA (Sp.spl m f (l.drop i) (s ++ [⟨n,false,b⟩])) = dq -> svTm_at g l i m tw (s ++ [⟨n,false,b⟩]) (v + 1) (PureQ dq))
  (hq:spA (Sp.spl m (f + 1) (l.drop i0) s) = dq):∀ (c k:Nat),i0 + 1 + k + c = l.length -> (∀ j,j < k -> Sp.pMk (l.getD (i0 + 1 + j) default) = false) ->
  (∀ w,svTmb_at g l ((i0 + 1 + k:Nat):Int) m tw s v n (((l.drop i0).take (k + 1)).drop 1) w (PureQ dq)) /\ (k = 0 -> svTmn_at g l ((i0 + 1:Nat):Int) m tw s v n (PureQ dq)):=by
 have hb0:Sp.pStop (l.getD i0 default) = false:=bg_stop (f:=(l.getD i0 default).f) hb
 have hst:∀ k,(∀ j,j < k -> Sp.pMk (l.getD (i0 + 1 + j) default) = false) -> ∀ j,j < k + 1 -> Sp.pStop ((l.drop i0).getD j default) = false:=fun k hj j hl => by
  rw [getD_drop']
  cases j with
  | zero => rw [Nat.add_zero];exact hb0
  | succ j => rw [show i0 + (j + 1) = i0 + 1 + j by omega];exact unmk_stop (hj j (by omega))
 have hun:∀ k,i0 + 1 + k <= l.length -> (∀ j,j < k -> Sp.pMk (l.getD (i0 + 1 + j) default) = false) -> ∀ x ∈ ((l.drop i0).take (k + 1)).drop 1,Sp.pMk x = false:=fun k hc hj x hx => by
  obtain ⟨j,hj1,rfl⟩:=List.getElem_of_mem hx
  simp at hj1
  have:=hj j (by omega)
  rw [<- this]
  congr 1
  simp only [List.getElem_drop,List.getElem_take]
  rw [List.getD_eq_getElem?_getD,List.getElem?_eq_getElem (by omega)]
  simp only [Option.getD_some]
  congr 1;omega
 intro c
 induction c with
 | zero =>
  intro k hc hj
  have herr:Weak (.tup [.agg [.vnil,.vnil],.int .i64 1]) dq:=by
   rw [spl_no (by simp;omega) (fun j hl => hst k hj j (by simp at hl;omega))] at hq
   rw [<- hq];exact spA_no 1
  constructor
  ·intro w
   exact svTmb _ _ _ _ _ _ _ _ _ _ _ ⟨fun h => by omega,fun h => by omega,fun h => by omega,fun h => by omega,fun _ => ⟨fun h => by omega,fun h => by omega,fun _ => herr,fun h => absurd (.inl (by omega)) h⟩⟩
  ·intro k0
   subst k0
   exact svTmn _ _ _ _ _ _ _ _ _ ⟨fun h => by omega,fun h => by omega,fun h => by omega,fun h => by omega,fun _ => ⟨fun h => by omega,fun h => by omega,fun _ => herr,fun h => absurd (.inl (by omega)) h⟩⟩
 | succ c ihc =>
  intro k hc hj
  have hi:i0 + 1 + k < l.length:=by omega
  have hm:=hk.2 _ (getD_mem hi)
  have hs:=hst k hj
  have e1:(l.drop i0).getD (k + 1) default = l.getD (i0 + 1 + k) default:=by rw [getD_drop',show i0 + (k + 1) = i0 + 1 + k by omega]
  have hbl:((l.drop i0).take (k + 1)).length = k + 1:=by simp;omega
  have hcut:((l.drop i0).take (k + 1)).drop 1 ++ [l.getD (i0 + 1 + k) default] = ((l.drop i0).take (k + 1 + 1)).drop 1:=by
   rw [List.take_add_one (i:=k + 1),List.drop_append_of_le_length (by omega),<- e1,List.getD_eq_getElem?_getD,List.getElem?_eq_getElem (show k + 1 < (l.drop i0).length by simp;omega)];rfl
  have hbad:Sp.pMk (l.getD (i0 + 1 + k) default) = true -> Sp.pStop (l.getD (i0 + 1 + k) default) = false -> Weak (.tup [.agg [.vnil,.vnil],.int .i64 1]) dq:=fun h1 h2 => by
   rw [spl_long (i:=k + 1) (by omega) (by simp;omega) (fun j hl => by
    by_cases e:j = k + 1
    ·rw [e,e1];exact h2
    ·exact hs j (by omega)) (by rw [e1];exact h1)] at hq
   rw [<- hq];exact spA_no 1
  have hgo:¬(Sp.backB (l.getD (i0 + 1 + k) default).ws = true) -> ¬((Sp.endB (l.getD (i0 + 1 + k) default).ws = true) \/ (Sp.letB (l.getD (i0 + 1 + k) default).ws 79 = true)) -> ∀ w,svTmb_at g l ((i0 + 1 + (k + 1):Nat):Int) m tw s v n (((l.drop i0).take (k + 1 + 1)).drop 1) w (PureQ dq):=fun h1 h2 => by
   refine (ihc (k + 1) (by omega) fun j hl => ?_).1
   by_cases e:j = k
   ·subst e
    unfold Sp.pMk Sp.mkB
    rw [Bool.eq_false_iff.2 h1,Bool.eq_false_iff.2 fun y => h2 (.inl y),Bool.eq_false_iff.2 fun y => h2 (.inr y)];rfl
   ·exact hj j (by omega)
  have hmk1:¬(Sp.backB (l.getD (i0 + 1 + k) default).ws = true) -> ((Sp.endB (l.getD (i0 + 1 + k) default).ws = true) \/ (Sp.letB (l.getD (i0 + 1 + k) default).ws 79 = true)) -> Weak (.tup [.agg [.vnil,.vnil],.int .i64 1]) dq:=fun h1 h => by
   refine hbad ?_ ?_
   ·unfold Sp.pMk Sp.mkB
    rcases h with h | h <;> rw [h] <;> simp
   ·unfold Sp.pStop;rw [Bool.eq_false_iff.2 h1,Bool.and_false]
  have hend:¬(((i0 + 1 + k:Nat):Int) < l.length /\ ¬(Sp.backB (l.getD (i0 + 1 + k) default).ws = true)) -> Sp.backB (l.getD (i0 + 1 + k) default).ws = true:=fun h => Classical.byContradiction fun y => h ⟨by omega,y⟩
  have hmk2:¬(((i0 + 1 + k:Nat):Int) < l.length /\ ¬(Sp.backB (l.getD (i0 + 1 + k) default).ws = true)) -> (((i0 + 1 + k:Nat):Int) = l.length \/ ¬(Sp.onB (l.getD (i0 + 1 + k) default).sk (l.getD (i0 + 1 + k) default).ws (l.getD (i0 + 1 + k) default).cm 77 = true)) -> Weak (.tup [.agg [.vnil,.vnil],.int .i64 1]) dq:=fun h h2 => by
   refine hbad ?_ ?_
   ·unfold Sp.pMk Sp.mkB
    rw [hend h];simp
   ·rw [<- on_stop (hend h)]
    rcases h2 with h2 | h2
    ·omega
    ·exact Bool.eq_false_iff.2 h2
  have hfin:¬(((i0 + 1 + k:Nat):Int) < l.length /\ ¬(Sp.backB (l.getD (i0 + 1 + k) default).ws = true)) -> ¬(((i0 + 1 + k:Nat):Int) = l.length \/ ¬(Sp.onB (l.getD (i0 + 1 + k) default).sk (l.getD (i0 + 1 + k) default).ws (l.getD (i0 + 1 + k) default).cm 77 = true)) -> svTme_at g l ((i0 + 1 + k:Nat):Int) m tw s v n (((l.drop i0).take (k + 1)).drop 1) (PureQ dq):=fun h h2 => by
   have h3:Sp.pStop (l.getD (i0 + 1 + k) default) = true:=by
    rw [<- on_stop (hend h)]
    exact Classical.byContradiction fun y => h2 (.inr y)
   rw [spl_next (k:=k + 1) (by simp;omega) (by rw [getD_drop',Nat.add_zero];exact hb) hs (by rw [e1];exact h3),getD_drop',show i0 + 0 = i0 from rfl,<- hn,List.drop_drop] at hq
   have e:((i0 + 1 + k:Nat):Int) + 1 = ((i0 + (k + 1 + 1):Nat):Int):=by omega
   refine svTme _ _ _ _ _ _ _ _ _ _ ⟨by omega,by omega,by rw [e];exact ih _ _ (by omega) (by omega) (hun k (by omega) hj) hq⟩
  have e2:((i0 + 1 + k:Nat):Int) + 1 = ((i0 + 1 + (k + 1):Nat):Int):=by omega
  constructor
  ·intro w
   refine svTmb _ _ _ _ _ _ _ _ _ _ _ ?_
   rw [Int.toNat_natCast,e2]
   refine ⟨fun _ => hm.1,fun _ => by omega,fun _ => by omega,fun h => ⟨hm.1,by omega,by omega,hmk1 h.2,fun h2 => ⟨by simp;omega,by omega,?_⟩⟩,fun h => ⟨fun _ => by omega,fun _ => by omega,hmk2 h,hfin h⟩⟩
   have:=hgo h.2 h2 (w + 1)
   rw [<- hcut] at this
   exact this
  ·intro k0
   subst k0
   refine svTmn _ _ _ _ _ _ _ _ _ ?_
   rw [Int.toNat_natCast,show ((i0 + 1:Nat):Int) + 1 = ((i0 + 1 + (0 + 1):Nat):Int) by omega]
   refine ⟨fun _ => hm.1,fun _ => by omega,fun _ => by omega,fun h => ⟨hm.1,by omega,by omega,hmk1 h.2,fun h2 => ⟨by omega,?_⟩⟩,fun h => ⟨fun _ => by omega,fun _ => by omega,hmk2 h,fun h2 => ?_⟩⟩
   ·have:=hgo h.2 h2 0
    rw [<- hcut] at this
    rw [show ((l.drop i0).take (0 + 1)).drop 1 = [] from List.length_eq_zero_iff.1 (by simp)] at this
    exact this
   ·have:=hfin h h2
    rw [show ((l.drop i0).take (0 + 1)).drop 1 = [] from List.length_eq_zero_iff.1 (by simp)] at this
    exact wp_weaken hm1 2 ⟨[.agg [.int .i64 n,.vnil]],2,0,false,true⟩ [.agg [.int .i64 n,.vec false 3 []]] rfl rfl wk_nil this
theorem svTnb_loop {g tw:Bool} {l m:List Bk} {n:Int} {i0 f:Nat} {dq:AV} (hk:Sp.okBs l) (hl:l.length <= 999999) (hi0:i0 < l.length) (hn:n = Sp.bgV (l.getD i0 default).sk (l.getD i0 default).ws (l.getD i0 default).cm) (hb:(l.getD i0 default).bg = true)
  (ih:∀ (i:Nat) (b:List Bk),i0 + 1 <= i -> i <= l.length -> (∀ x ∈ b,Sp.pMk x = false) -> spA (Sp.spl m f (l.drop i) ([] ++ [⟨n,false,b⟩])) = dq -> svTm_at g l i m tw ([] ++ [⟨n,false,b⟩]) 0 (PureQ dq))
  (hq:spA (Sp.spl m (f + 1) (l.drop i0) []) = dq):∀ (c k:Nat),i0 + 1 + k + c = l.length -> (∀ j,j < k -> Sp.pMk (l.getD (i0 + 1 + j) default) = false) ->
  (∀ w,svTnb_at g l ((i0 + 1 + k:Nat):Int) m tw  n (((l.drop i0).take (k + 1)).drop 1) w (PureQ dq)) /\ (k = 0 -> svTnn_at g l ((i0 + 1:Nat):Int) m tw  n (PureQ dq)):=by
 have hb0:Sp.pStop (l.getD i0 default) = false:=bg_stop (f:=(l.getD i0 default).f) hb
 have hst:∀ k,(∀ j,j < k -> Sp.pMk (l.getD (i0 + 1 + j) default) = false) -> ∀ j,j < k + 1 -> Sp.pStop ((l.drop i0).getD j default) = false:=fun k hj j hl => by
  rw [getD_drop']
  cases j with
  | zero => rw [Nat.add_zero];exact hb0
  | succ j => rw [show i0 + (j + 1) = i0 + 1 + j by omega];exact unmk_stop (hj j (by omega))
 have hun:∀ k,i0 + 1 + k <= l.length -> (∀ j,j < k -> Sp.pMk (l.getD (i0 + 1 + j) default) = false) -> ∀ x ∈ ((l.drop i0).take (k + 1)).drop 1,Sp.pMk x = false:=fun k hc hj x hx => by
  obtain ⟨j,hj1,rfl⟩:=List.getElem_of_mem hx
  simp at hj1
  have:=hj j (by omega)
  rw [<- this]
  congr 1
  simp only [List.getElem_drop,List.getElem_take]
  rw [List.getD_eq_getElem?_getD,List.getElem?_eq_getElem (by omega)]
  simp only [Option.getD_some]
  congr 1;omega
 intro c
 induction c with
 | zero =>
  intro k hc hj
  have herr:Weak (.tup [.agg [.vnil,.vnil],.int .i64 1]) dq:=by
   rw [spl_no (by simp;omega) (fun j hl => hst k hj j (by simp at hl;omega))] at hq
   rw [<- hq];exact spA_no 1
  constructor
  ·intro w
   exact svTnb _ _ _ _ _  _ _ _ _ ⟨fun h => by omega,fun h => by omega,fun h => by omega,fun h => by omega,fun _ => ⟨fun h => by omega,fun h => by omega,fun _ => herr,fun h => absurd (.inl (by omega)) h⟩⟩
  ·intro k0
   subst k0
   exact svTnn _ _ _ _ _  _ _ ⟨fun h => by omega,fun h => by omega,fun h => by omega,fun h => by omega,fun _ => ⟨fun h => by omega,fun h => by omega,fun _ => herr,fun h => absurd (.inl (by omega)) h⟩⟩
 | succ c ihc =>
  intro k hc hj
  have hi:i0 + 1 + k < l.length:=by omega
  have hm:=hk.2 _ (getD_mem hi)
  have hs:=hst k hj
  have e1:(l.drop i0).getD (k + 1) default = l.getD (i0 + 1 + k) default:=by rw [getD_drop',show i0 + (k + 1) = i0 + 1 + k by omega]
  have hbl:((l.drop i0).take (k + 1)).length = k + 1:=by simp;omega
  have hcut:((l.drop i0).take (k + 1)).drop 1 ++ [l.getD (i0 + 1 + k) default] = ((l.drop i0).take (k + 1 + 1)).drop 1:=by
   rw [List.take_add_one (i:=k + 1),List.drop_append_of_le_length (by omega),<- e1,List.getD_eq_getElem?_getD,List.getElem?_eq_getElem (show k + 1 < (l.drop i0).length by simp;omega)];rfl
  have hbad:Sp.pMk (l.getD (i0 + 1 + k) default) = true -> Sp.pStop (l.getD (i0 + 1 + k) default) = false -> Weak (.tup [.agg [.vnil,.vnil],.int .i64 1]) dq:=fun h1 h2 => by
   rw [spl_long (i:=k + 1) (by omega) (by simp;omega) (fun j hl => by
    by_cases e:j = k + 1
    ·rw [e,e1];exact h2
    ·exact hs j (by omega)) (by rw [e1];exact h1)] at hq
   rw [<- hq];exact spA_no 1
  have hgo:¬(Sp.backB (l.getD (i0 + 1 + k) default).ws = true) -> ¬((Sp.endB (l.getD (i0 + 1 + k) default).ws = true) \/ (Sp.letB (l.getD (i0 + 1 + k) default).ws 79 = true)) -> ∀ w,svTnb_at g l ((i0 + 1 + (k + 1):Nat):Int) m tw  n (((l.drop i0).take (k + 1 + 1)).drop 1) w (PureQ dq):=fun h1 h2 => by
   refine (ihc (k + 1) (by omega) fun j hl => ?_).1
   by_cases e:j = k
   ·subst e
    unfold Sp.pMk Sp.mkB
    rw [Bool.eq_false_iff.2 h1,Bool.eq_false_iff.2 fun y => h2 (.inl y),Bool.eq_false_iff.2 fun y => h2 (.inr y)];rfl
   ·exact hj j (by omega)
  have hmk1:¬(Sp.backB (l.getD (i0 + 1 + k) default).ws = true) -> ((Sp.endB (l.getD (i0 + 1 + k) default).ws = true) \/ (Sp.letB (l.getD (i0 + 1 + k) default).ws 79 = true)) -> Weak (.tup [.agg [.vnil,.vnil],.int .i64 1]) dq:=fun h1 h => by
   refine hbad ?_ ?_
   ·unfold Sp.pMk Sp.mkB
    rcases h with h | h <;> rw [h] <;> simp
   ·unfold Sp.pStop;rw [Bool.eq_false_iff.2 h1,Bool.and_false]
  have hend:¬(((i0 + 1 + k:Nat):Int) < l.length /\ ¬(Sp.backB (l.getD (i0 + 1 + k) default).ws = true)) -> Sp.backB (l.getD (i0 + 1 + k) default).ws = true:=fun h => Classical.byContradiction fun y => h ⟨by omega,y⟩
  have hmk2:¬(((i0 + 1 + k:Nat):Int) < l.length /\ ¬(Sp.backB (l.getD (i0 + 1 + k) default).ws = true)) -> (((i0 + 1 + k:Nat):Int) = l.length \/ ¬(Sp.onB (l.getD (i0 + 1 + k) default).sk (l.getD (i0 + 1 + k) default).ws (l.getD (i0 + 1 + k) default).cm 77 = true)) -> Weak (.tup [.agg [.vnil,.vnil],.int .i64 1]) dq:=fun h h2 => by
   refine hbad ?_ ?_
   ·unfold Sp.pMk Sp.mkB
    rw [hend h];simp
   ·rw [<- on_stop (hend h)]
    rcases h2 with h2 | h2
    ·omega
    ·exact Bool.eq_false_iff.2 h2
  have hfin:¬(((i0 + 1 + k:Nat):Int) < l.length /\ ¬(Sp.backB (l.getD (i0 + 1 + k) default).ws = true)) -> ¬(((i0 + 1 + k:Nat):Int) = l.length \/ ¬(Sp.onB (l.getD (i0 + 1 + k) default).sk (l.getD (i0 + 1 + k) default).ws (l.getD (i0 + 1 + k) default).cm 77 = true)) -> svTne_at g l ((i0 + 1 + k:Nat):Int) m tw  n (((l.drop i0).take (k + 1)).drop 1) (PureQ dq):=fun h h2 => by
   have h3:Sp.pStop (l.getD (i0 + 1 + k) default) = true:=by
    rw [<- on_stop (hend h)]
    exact Classical.byContradiction fun y => h2 (.inr y)
   rw [spl_next (k:=k + 1) (by simp;omega) (by rw [getD_drop',Nat.add_zero];exact hb) hs (by rw [e1];exact h3),getD_drop',show i0 + 0 = i0 from rfl,<- hn,List.drop_drop] at hq
   have e:((i0 + 1 + k:Nat):Int) + 1 = ((i0 + (k + 1 + 1):Nat):Int):=by omega
   refine svTne _ _ _ _ _  _ _ _ ⟨by omega,by rw [e];exact ih _ _ (by omega) (by omega) (hun k (by omega) hj) hq⟩
  have e2:((i0 + 1 + k:Nat):Int) + 1 = ((i0 + 1 + (k + 1):Nat):Int):=by omega
  constructor
  ·intro w
   refine svTnb _ _ _ _ _  _ _ _ _ ?_
   rw [Int.toNat_natCast,e2]
   refine ⟨fun _ => hm.1,fun _ => by omega,fun _ => by omega,fun h => ⟨hm.1,by omega,by omega,hmk1 h.2,fun h2 => ⟨by simp;omega,by omega,?_⟩⟩,fun h => ⟨fun _ => by omega,fun _ => by omega,hmk2 h,hfin h⟩⟩
   have:=hgo h.2 h2 (w + 1)
   rw [<- hcut] at this
   exact this
  ·intro k0
   subst k0
   refine svTnn _ _ _ _ _  _ _ ?_
   rw [Int.toNat_natCast,show ((i0 + 1:Nat):Int) + 1 = ((i0 + 1 + (0 + 1):Nat):Int) by omega]
   refine ⟨fun _ => hm.1,fun _ => by omega,fun _ => by omega,fun h => ⟨hm.1,by omega,by omega,hmk1 h.2,fun h2 => ⟨by omega,?_⟩⟩,fun h => ⟨fun _ => by omega,fun _ => by omega,hmk2 h,fun h2 => ?_⟩⟩
   ·have:=hgo h.2 h2 0
    rw [<- hcut] at this
    rw [show ((l.drop i0).take (0 + 1)).drop 1 = [] from List.length_eq_zero_iff.1 (by simp)] at this
    exact this
   ·have:=hfin h h2
    rw [show ((l.drop i0).take (0 + 1)).drop 1 = [] from List.length_eq_zero_iff.1 (by simp)] at this
    exact wp_weaken hm1 2 ⟨[.agg [.int .i64 n,.vnil]],2,0,false,true⟩ [.agg [.int .i64 n,.vec false 3 []]] rfl rfl wk_nil this
theorem svTm_loop {g:Bool} {l m:List Bk} {dq:AV} (hk:Sp.okBs l) (hl:l.length <= 999999) (hm:Sp.ordM m = true):∀ (f i:Nat) (tw:Bool) (s:List Sb) (v:Nat),i <= l.length -> l.length - i < f -> s.length <= i -> Sp.anyP Sp.sMk s = false -> tw = Sp.repB s -> spA (Sp.spl m f (l.drop i) s) = dq -> svTm_at g l i m tw s v (PureQ dq):=by
 intro f
 induction f with
 | zero => intro i tw s v _ h;omega
 | succ f ih =>
  intro i tw s v hi hf hs hm2 ht hq
  refine svTm _ _ _ _ _ _ _ _ ?_
  by_cases h0:i = l.length
  ·subst h0
   rw [Sp.spl,if_pos (by simp),ordB_eq,hm,hm2,if_pos (show (true && !false) = true from rfl)] at hq
   refine ⟨fun h => by omega,fun _ => ⟨fun h => ?_,fun h => ?_⟩⟩
   ·rw [if_pos (ht ▸ h)] at hq;rw [<- hq];exact spA_no 5
   ·rw [if_neg (ht ▸ h)] at hq;rw [<- hq];exact .refl _
  ·have hil:i < l.length:=by omega
   have hx:=hk.2 _ (getD_mem hil)
   have g0:(l.drop i).getD 0 default = l.getD i default:=by rw [getD_drop',Nat.add_zero]
   have hon:Sp.onB (l.getD i default).sk (l.getD i default).ws (l.getD i default).cm 79 = true -> 0 < (l.getD i default).ws.length:=fun h => by
    unfold Sp.onB at h
    have:=of_decide_eq_true h
    omega
   rw [Int.toNat_natCast]
   refine ⟨fun _ => ⟨fun h => okV_at hx (hon (Classical.not_not.1 h)),by omega,hil,fun h => hon (Classical.not_not.1 h),fun h => ?_,fun h => ?_⟩,fun h => by omega⟩
   ·rw [spl_nobg (by simp;omega) (by
     rw [g0,bg_iff]
     intro y
     rcases h with h | h
     ·exact h y.1
     ·exact y.2 h)] at hq
    rw [<- hq];exact spA_no 1
   ·have hb:(l.getD i default).bg = true:=(bg_iff _).2 ⟨Classical.byContradiction fun y => h (.inl y),fun y => h (.inr y)⟩
    have hn:=(bg_val hb).symm
    have hp:=hon ((bg_iff _).1 hb).1
    refine ⟨okV_at hx hp,hp,fun _ => by omega,by omega,?_⟩
    rw [fnd_any,show ((i:Nat):Int) + 1 = ((i + 1:Nat):Int) by omega]
    have:=(svTmb_loop (g:=g) (v:=v) (tw:=(bif tw then true else Sp.anyP (Sp.isN (Sp.whR ((l.getD i default).ws.getD 0 default).v)) s)) (m:=m) (f:=f) (dq:=dq) hk hl hil (show s.length <= 999999 by omega) hn hb (fun j b h1 h2 h3 h4 => by
     refine ih j _ _ (v + 1) h2 (by omega) (by simp;omega) ?_ ?_ h4
     ·unfold Sp.anyP at hm2 ⊢
      rw [List.any_append,hm2,List.any_cons,List.any_nil]
      have:Sp.sMk ⟨Sp.whR ((l.getD i default).ws.getD 0 default).v,false,b⟩ = false:=by
       unfold Sp.sMk Sp.anyP
       rw [List.any_eq_false]
       exact fun x hx => by rw [h3 x hx];simp
      rw [this];rfl
     ·rw [repB_snoc,<- ht]
      cases tw <;> rfl) hq (l.length - (i + 1)) 0 (by omega) (fun j hj => by omega)).2 rfl
    exact this
theorem svTn_loop {g:Bool} {l m:List Bk} {dq:AV} (hk:Sp.okBs l) (hl:l.length <= 999999) (hm:Sp.ordM m = true) (f i:Nat) (hi:i <= l.length) (hf:l.length - i < f) (hq:spA (Sp.spl m f (l.drop i) []) = dq):svTn_at g l i m false (PureQ dq):=by
 obtain ⟨f,rfl⟩:∃ k,f = k + 1:=⟨f - 1,by omega⟩
 refine svTn _ _ _ _ _ _ ?_
 by_cases h0:i = l.length
 ·subst h0
  rw [Sp.spl,if_pos (by simp),ordB_eq,hm,if_pos (show (true && !(Sp.anyP Sp.sMk [])) = true from rfl),if_neg (by simp [Sp.repB])] at hq
  refine ⟨fun h => by omega,fun _ => ⟨fun h => by simp at h,fun h => ?_⟩⟩
  rw [<- hq];exact weak_tup2' (weak_agg2 (.refl _) (.vnil 2))
 ·have hil:i < l.length:=by omega
  have hx:=hk.2 _ (getD_mem hil)
  have g0:(l.drop i).getD 0 default = l.getD i default:=by rw [getD_drop',Nat.add_zero]
  have hon:Sp.onB (l.getD i default).sk (l.getD i default).ws (l.getD i default).cm 79 = true -> 0 < (l.getD i default).ws.length:=fun h => by
   unfold Sp.onB at h
   have:=of_decide_eq_true h
   omega
  rw [Int.toNat_natCast]
  refine ⟨fun _ => ⟨fun h => okV_at hx (hon (Classical.not_not.1 h)),by omega,hil,fun h => hon (Classical.not_not.1 h),fun h => ?_,fun h => ?_⟩,fun h => by omega⟩
  ·rw [spl_nobg (by simp;omega) (by
    rw [g0,bg_iff]
    intro y
    rcases h with h | h
    ·exact h y.1
    ·exact y.2 h)] at hq
   rw [<- hq];exact spA_no 1
  ·have hb:(l.getD i default).bg = true:=(bg_iff _).2 ⟨Classical.byContradiction fun y => h (.inl y),fun y => h (.inr y)⟩
   have hn:=(bg_val hb).symm
   have hp:=hon ((bg_iff _).1 hb).1
   refine ⟨okV_at hx hp,hp,by omega,?_⟩
   rw [show ((i:Nat):Int) + 1 = ((i + 1:Nat):Int) by omega]
   exact (svTnb_loop (g:=g) (tw:=false) (m:=m) (f:=f) (dq:=dq) hk hl hil hn hb (fun j b h1 h2 h3 h4 => by
    refine svTm_loop hk hl hm f j _ _ 0 h2 (by omega) (by simp;omega) ?_ (by simp [Sp.repB,Sp.anyP]) h4
    unfold Sp.anyP
    rw [List.nil_append,List.any_cons,List.any_nil]
    have:Sp.sMk ⟨Sp.whR ((l.getD i default).ws.getD 0 default).v,false,b⟩ = false:=by
     unfold Sp.sMk Sp.anyP
     rw [List.any_eq_false]
     exact fun x hx => by rw [h3 x hx];simp
    rw [this];rfl) hq (l.length - (i + 1)) 0 (by omega) (fun j hj => by omega)).2 rfl
theorem svTa_loop {g:Bool} {l:List Bk} {dq:AV} (hk:Sp.okBs l) (hl:l.length <= 999999) (hq:spA (Sp.split l) = dq):∀ (c i:Nat) (v:Nat),i + c = l.length -> 1 <= i -> (∀ j,j + 1 < i -> Sp.pEnd (l.getD j default) = false) -> (∀ j,j < i -> Sp.backB (l.getD j default).ws = false /\ Sp.letB (l.getD j default).ws 79 = false) -> svTa_at g l i (l.take i) v (PureQ dq):=by
 have key:∀ (i:Nat),i <= l.length -> 1 <= i -> (∀ j,j + 1 < i -> Sp.pEnd (l.getD j default) = false) -> (∀ j,j < i -> Sp.backB (l.getD j default).ws = false /\ Sp.letB (l.getD j default).ws 79 = false) -> ¬(((i:Nat):Int) = 0 \/ ¬Sp.endB (l.getD (i - 1) default).ws = true) -> svTw_at g l i (l.take i) (PureQ dq):=by
  intro i hi h1 he hb h
  have h2:Sp.endB (l.getD (i - 1) default).ws = true:=Classical.byContradiction fun y => h (.inr y)
  rw [split_at (i:=i - 1) (by omega) (fun j hj => he j (by omega)) h2,show i - 1 + 1 = i by omega] at hq
  have hlen:(l.take i).length = i - 1 + 1:=by simp;omega
  have g1:(l.take i).getD (i - 1) default = l.getD (i - 1) default:=getD_take' (by omega)
  refine svTw _ _ _ _ _ (svTn_loop hk hl ?_ (l.length + 1) i hi (by omega) hq)
  refine ordM_ok hlen (g1 ▸ h2) (g1 ▸ (hb _ (by omega)).1) (g1 ▸ (hb _ (by omega)).2) fun j hj => ?_
  rw [getD_take' (by omega)]
  unfold Sp.pMk Sp.mkB
  have a:=hb j (by omega)
  have b:Sp.endB (l.getD j default).ws = false:=he j (by omega)
  rw [a.1,a.2,b];rfl
 intro c
 induction c with
 | zero =>
  intro i v hi h1 he hb
  have e:((i:Nat):Int) - 1 = ((i - 1:Nat):Int):=by omega
  refine svTa _ _ _ _ _ _ ?_
  rw [e,Int.toNat_natCast]
  have hm:=hk.2 _ (getD_mem (show i - 1 < l.length by omega))
  refine ⟨by omega,fun h => by omega,fun h => by omega,fun h => by omega,fun h => by omega,fun _ => ⟨fun _ => hm.1,fun _ => by omega,fun _ => by omega,fun h => ?_,key i (by omega) h1 he hb⟩⟩
  rw [split_no (fun j hj => by
   by_cases e:j = i - 1
   ·subst e
    rcases h with h | h
    ·omega
    ·exact Bool.eq_false_iff.2 h
   ·exact he j (by omega))] at hq
  rw [<- hq];exact spA_no 1
 | succ c ih =>
  intro i v hi h1 he hb
  have e:((i:Nat):Int) - 1 = ((i - 1:Nat):Int):=by omega
  refine svTa _ _ _ _ _ _ ?_
  rw [e,Int.toNat_natCast,Int.toNat_natCast]
  have hm:=hk.2 _ (getD_mem (show i - 1 < l.length by omega))
  have hm2:=hk.2 _ (getD_mem (show i < l.length by omega))
  have hee:((i:Nat):Int) < l.length /\ (((i:Nat):Int) = 0 \/ ¬Sp.endB (l.getD (i - 1) default).ws = true) -> ∀ j,j < i -> Sp.pEnd (l.getD j default) = false:=fun h j hj => by
   by_cases e:j = i - 1
   ·subst e
    rcases h.2 with h | h
    ·omega
    ·exact Bool.eq_false_iff.2 h
   ·exact he j (by omega)
  refine ⟨by omega,fun _ => hm.1,fun _ => by omega,fun _ => by omega,fun h => ⟨hm2.1,by omega,by omega,fun h2 => ?_,fun h2 => ⟨by simp;omega,by omega,?_⟩⟩,fun h => ⟨fun _ => hm.1,fun _ => by omega,fun _ => by omega,fun h2 => absurd ⟨by omega,h2⟩ h,key i (by omega) h1 he hb⟩⟩
  ·rw [split_bad (i:=i) (by omega) (hee h) h2] at hq
   rw [<- hq];exact spA_no 1
  ·have:=ih (i + 1) (v + 1) (by omega) (by omega) (fun j hj => hee h j (by omega)) (fun j hj => by
    by_cases e:j = i
    ·subst e
     exact ⟨Bool.eq_false_iff.2 fun y => h2 (.inl y),Bool.eq_false_iff.2 fun y => h2 (.inr y)⟩
    ·exact hb j (by omega))
   rw [List.take_add_one,List.getElem?_eq_getElem (show i < l.length by omega)] at this
   rw [List.getD_eq_getElem?_getD,List.getElem?_eq_getElem (show i < l.length by omega)]
   exact this
theorem ev35 (g:Bool) (l:List Bk) (hk:Sp.okBs l /\ l.length <= 999999):Ev M1 (.pure 35 [bsA g l]) (.tup [pgA false false (Sp.split l).1 (Sp.split l).2.1,.int .i64 (Sp.split l).2.2]) []:=by
 obtain ⟨hk,hl⟩:=hk
 show Ev M1 _ (spA (Sp.split l)) []
 refine call35 (svTs g l _ (svTz _ _ _ _ ?_))
 generalize hq:spA (Sp.split l) = dq
 by_cases h0:l.length = 0
 ·refine ⟨by omega,fun h => by omega,fun h => by omega,fun h => by omega,fun h => by omega,fun _ => ⟨fun h => by omega,fun h => by omega,fun h => by omega,fun _ => ?_,fun h => absurd (.inl rfl) h⟩⟩
  rw [split_no (fun j hj => by omega)] at hq
  rw [<- hq];exact spA_no 1
 ·have hm:=hk.2 _ (getD_mem (show 0 < l.length by omega))
  refine ⟨by omega,fun h => by omega,fun h => by omega,fun h => by omega,fun _ => ⟨hm.1,by omega,(by omega:0 < l.length),fun h2 => ?_,fun h2 => ⟨by omega,?_⟩⟩,fun h => absurd ⟨by omega,.inl rfl⟩ h⟩
  ·rw [split_bad (i:=0) (by omega) (fun j hj => by omega) h2] at hq
   rw [<- hq];exact spA_no 1
  ·have:=svTa_loop (g:=g) hk hl hq (l.length - 1) 1 0 (by omega) (by omega) (fun j hj => by omega) (fun j hj => by
    have e:j = 0:=by omega
    subst e
    exact ⟨Bool.eq_false_iff.2 fun y => h2 (.inl y),Bool.eq_false_iff.2 fun y => h2 (.inr y)⟩)
   rw [List.take_add_one,List.getElem?_eq_getElem (show 0 < l.length by omega),List.take_zero] at this
   rw [show (0:Int).toNat = 0 from rfl,List.getD_eq_getElem?_getD,List.getElem?_eq_getElem (show 0 < l.length by omega)]
   exact this
end Go.Av

namespace Go.Av
open Go.RowKit
theorem wp_vnil {M:Mach} (hm:(M.P ()).follows .mixedOrders = true) {fi:Fi} {k:List Item} {env:Vars} {L:Heap} {Q:AV -> Heap -> Prop} {es:Nat} (h:Wp M (.run fi k env L) fun v L => Q v L \/ (v = .vnil /\ Q (.vec true es []) L)):Wp M (.run fi k env L) Q:=by
 refine .sem fun S b a cs fn h1 h2 h3 h4 h5 h6 h7 h8 => ?_
 obtain ⟨a',todo',Ds,w',β',v,L1,q1,q2,q3,q4,q5,q6,q7,q8,q9⟩:=(wp_sound hm (c:=.run fi k _ _) h:RunSnd M fi k _ _ _) S b a cs fn h1 h2 h3 h4 h5 h6 h7 h8
 rcases q1 with q1 | ⟨rfl,hQ⟩
 ·exact ⟨a',todo',Ds,w',β',v,L1,q1,q2,q3,q4,q5,q6,q7,q8,q9⟩
 ·refine ⟨a',todo',Ds,w',β',.vec true es [],L1,hQ,q2,q3,q4,q5,q6,fun w'' hn => ?_,q8,q9⟩
  obtain ⟨cv,c1,c2⟩:=q7 w'' hn
  refine ⟨cv,c1,?_⟩
  cases c2 with
  | data _ _ h => cases h;exact .data _ _ (.vecE true es none 0 fun _ => rfl)
end Go.Av

namespace Go.Av
open Go.Proofs
noncomputable def M2:Mach:=⟨fun _ => Try.prog,fun f => [22].contains f || M1.inl f⟩
theorem hm2:(M2.P ()).follows .mixedOrders = true:=by kernel_rfl
theorem ev_M2 {f:FuncId} {args:List AV} {d:AV} (h:Ev M2 (.pure f args) d []):Ev M1 (.pure f args) d []:=.sem (wp_sound hm2 (c:=.pure f args) h)
theorem evo_M2 {f:FuncId} {args:List AV} {L L':Heap} {d:AV} (h:Ev M1 (.own f args L) d L'):Ev M2 (.own f args L) d L':=.sem (wp_sound hm1 (c:=.own f args L) h)
theorem evo22_a (g:Bool) (l:List Bk) (h:l.length <= 1000000 /\ 0 < l.length):Ev M2 (.own 22 [bsA g l] []) (.row 0 0) [⟨l.map Bk.a,3,0,false,true⟩]:=evo_M2 (evf22 g l h)
theorem evo22_b (g:Bool):Ev M2 (.own 22 [.vec g 3 []] []) (.vec true 3 []) []:=by
 refine evo_M2 (owncall22 (wp_vnil (es:=3) hm1 ?_))
 exact svCn g _ ⟨.inr ⟨rfl,rfl,rfl⟩,.inl ⟨rfl,rfl⟩⟩
end Go.Av

namespace Go.Av
open Go.Proofs
set_option maxRecDepth 100000
end Go.Av

namespace Go.Av
open Go.Proofs
set_option maxRecDepth 100000
def fi36:Fi:=⟨37,[.tmp 2]⟩
def kp36:List (Nat × List Nat):=[(0,[1]),(1,[1,3]),(2,[3,10,11,12]),(3,[3,10,11,12,13]),(4,[3,5,10,11,12]),(5,[3,5,10,11,12]),(6,[3,10,11,12]),(7,[3,10,11,12]),(8,[3,10,11,12]),(9,[2])]
def svJc_at (g:Bool) (l:List Bk) (h:Bool) (s:List Sb) (Q:AV -> Heap -> Prop):Prop:=Wp M2 (.run fi36 (atC (cd Try.f36) []) [(0,.agg [.vec g 3 (l.map Bk.a),.vec h 2 (s.map Sb.a)])] []) Q
def svJe_at (g:Bool) (h:Bool) (s:List Sb) (Q:AV -> Heap -> Prop):Prop:=Wp M2 (.run fi36 (atC (cd Try.f36) []) [(0,.agg [.vec g 3 [],.vec h 2 (s.map Sb.a)])] []) Q
def svJz_at (h:Bool) (s:List Sb) (n i:Int) (Q:AV -> Heap -> Prop):Prop:=Wp M2 (.run fi36 (atC (cd Try.f36) [1,1,0,1,0,0]) [(3,.vec true 3 []),(10,.vec h 2 (s.map Sb.a)),(11,.int .i64 n),(12,.int .i64 i)] []) Q
def svJa_at (h:Bool) (s:List Sb) (n i:Int) (o:List Bk) (v:Nat) (Q:AV -> Heap -> Prop):Prop:=Wp M2 (.run fi36 (atC (cd Try.f36) [1,1,0,1,0,0]) [(3,.row 0 v),(10,.vec h 2 (s.map Sb.a)),(11,.int .i64 n),(12,.int .i64 i)] [⟨o.map Bk.a,3,v,false,true⟩]) Q
theorem call36 {args:List AV} {d:AV} (h:Wp M2 (.run fi36 [.code (cd Try.f36)] (argVars 0 args) []) (PureQ d)):Ev M2 (.pure 36 args) d []:=
 pure_pq Try.f36 fi36 (by kernel_rfl) (by kernel_rfl) (by kernel_rfl) (by kernel_rfl) h
theorem svJc (g:Bool) (l:List Bk) (h:Bool) (s:List Sb)  (dq:AV) (H :
  (l.length <= 1000000 /\ 0 < l.length) /\
  svJa_at (h) (s) ((↑s.length:Int)) (0) (l) (0) (PureQ dq)) :
 svJc_at g l h s (PureQ dq):=by
 unfold svJc_at
 obtain ⟨k1,H⟩:=H
 have w2:(List.map Sb.a s).length = s.length:=List.length_map ..
 exact path_wp (G:=given kp36 [(1,2,.call (AV.row 0 0) (some [⟨List.map Bk.a l,3,0,false,true⟩]))] []) 1000 [] ⟨(atC (cd Try.f36) [1,1,0,1,0,0]),[(3,AV.row 1 0),(10,AV.vec h 2 (List.map Sb.a s)),(11,vi (↑(List.map Sb.a s).length:Int)),(12,vi 0)],[⟨[ag [AV.vec g 3 (List.map Bk.a l),AV.vec h 2 (List.map Sb.a s)]],2,0,false,false⟩,⟨List.map Bk.a l,3,0,false,true⟩],_,[],[⟨true,true,22,[AV.vec g 3 (List.map Bk.a l)],[],AV.row 0 0,[⟨List.map Bk.a l,3,0,false,true⟩]⟩]⟩ (by kernel_rfl) (bc rfl (bc rfl b0)) q0 (cc (fun _ => (@evo22_a (g) (l) k1)) c0) (by (try rw [w2]);all_goals exact wp_narrow [1] (by kernel_rfl) H)
theorem svJe (g:Bool) (h:Bool) (s:List Sb)  (dq:AV) (H :
  svJz_at (h) (s) ((↑s.length:Int)) (0) (PureQ dq)) :
 svJe_at g h s (PureQ dq):=by
 unfold svJe_at
 have w1:(List.map Sb.a s).length = s.length:=List.length_map ..
 exact path_wp (G:=given kp36 [(1,2,.call (AV.vec true 3 []) none)] []) 1000 [] ⟨(atC (cd Try.f36) [1,1,0,1,0,0]),[(3,AV.vec true 3 []),(10,AV.vec h 2 (List.map Sb.a s)),(11,vi (↑(List.map Sb.a s).length:Int)),(12,vi 0)],[⟨[ag [AV.vec g 3 [],AV.vec h 2 (List.map Sb.a s)]],2,0,false,false⟩],_,[],[⟨true,true,22,[AV.vec g 3 []],[],AV.vec true 3 [],[]⟩]⟩ (by kernel_rfl) (bc rfl (bc rfl b0)) q0 (cc (fun _ => (@evo22_b (g))) c0) (by (try rw [w1]);all_goals exact wp_narrow [] (by kernel_rfl) H)
theorem svJz (h:Bool) (s:List Sb) (n i:Int)  (dq:AV) (H :
  ((i < n) -> (0 <= i) /\
   (i.toNat < s.length) /\
   (-9223372036854775808 <= 1000 * (s.getD i.toNat default).n /\ 1000 * (s.getD i.toNat default).n <= 9223372036854775807) /\
   ((1 + (s.getD i.toNat default).3.length) * 48 <= 1099511627776) /\
   (((s.getD i.toNat default).3.length + 1 + 1) * 48 <= 1099511627776) /\
   (-9223372036854775808 <= i + 1 /\ i + 1 <= 9223372036854775807) /\
   Wp M2 (.run fi36 (atC (cd Try.f36) [1,1,0,1,0,0]) [(3,AV.row 0 2),(10,AV.vec h 2 (List.map Sb.a s)),(11,vi n),(12,vi (i + 1))] [{ elems:=ag [vb false,AV.vec true 2 [ag [AV.int IntKind.u8 79,vi (1000 * (s.getD i.toNat default).n)]],AV.str []] :: (List.map Bk.a (s.getD i.toNat default).3 ++ [ag [vb false,AV.vec true 2 [ag [AV.int IntKind.u8 77,vi 99000]],AV.str []]]),es:=3,ver:=2,frozen:=false,clean:=true }]) (PureQ dq)) /\
  (¬(i < n) -> Weak (AV.vec true 3 []) dq)) :
 svJz_at h s n i (PureQ dq):=by
 unfold svJz_at
 rcases xm (i < n) with d2 | d2
 ·have H:=H.1 d2
  obtain ⟨k4,H⟩:=H
  have w5:(List.map Sb.a s).length = s.length:=List.length_map ..
  have i6:(decide (i.toNat < (List.map Sb.a s).length)) = true ↔ (i.toNat < s.length):=(by (try rw [w5]);all_goals exact i_dec)
  obtain ⟨k7,H⟩:=H
  obtain ⟨k8,H⟩:=H
  have w9:wi (1000 * (s.getD i.toNat default).n) = 1000 * (s.getD i.toNat default).n:=wI64 k8
  have w10:(List.map Bk.a (s.getD i.toNat default).3).length = (s.getD i.toNat default).3.length:=List.length_map ..
  have i11:(decide ((1 + (List.map Bk.a (s.getD i.toNat default).3).length) * 48 <= 1099511627776)) = true ↔ ((1 + (s.getD i.toNat default).3.length) * 48 <= 1099511627776):=(by (try rw [w9]);(try rw [w10]);all_goals exact i_dec)
  obtain ⟨k12,H⟩:=H
  have i13:(decide (((List.map Bk.a (s.getD i.toNat default).3).length + 1 + 1) * 48 <= 1099511627776)) = true ↔ (((s.getD i.toNat default).3.length + 1 + 1) * 48 <= 1099511627776):=(by (try rw [w9]);(try rw [w10]);all_goals exact i_dec)
  obtain ⟨k14,H⟩:=H
  obtain ⟨k15,H⟩:=H
  have w16:wi (i + 1) = i + 1:=wI64 k15
  exact path_wp (G:=given kp36 [(4,1,.elem (ag [vi (s.getD i.toNat default).n,AV.vec (s.getD i.toNat default).2 3 (List.map Bk.a (s.getD i.toNat default).3)]))] []) 1000 [true] ⟨(atC (cd Try.f36) [1,1,0,1,0,0]),[(3,AV.row 1 2),(10,AV.vec h 2 (List.map Sb.a s)),(11,vi n),(12,vi (wi (i + 1)))],[⟨[ag [vi (s.getD i.toNat default).n,AV.vec (s.getD i.toNat default).2 3 (List.map Bk.a (s.getD i.toNat default).3)]],2,0,false,false⟩,⟨ag [vb false,AV.vec true 2 [ag [AV.int IntKind.u8 79,vi (wi (1000 * (s.getD i.toNat default).n))]],AV.str []] :: (List.map Bk.a (s.getD i.toNat default).3 ++ [ag [vb false,AV.vec true 2 [ag [AV.int IntKind.u8 77,vi 99000]],AV.str []]]),3,2,false,true⟩],_,[((List.map Sb.a s).get?Internal i.toNat = some (ag [vi (s.getD i.toNat default).n,AV.vec (s.getD i.toNat default).2 3 (List.map Bk.a (s.getD i.toNat default).3)]))],_⟩ (by kernel_rfl) (bc (beq_t (i_dec.2 d2)) (bc (i_dec.2 k4) (bc (i6.2 k7) (bc rfl (bc rfl (bc rfl (bc rfl (bc rfl (bc (i11.2 k12) (bc rfl (bc (i13.2 k14) b0))))))))))) (qc (el_map k7) q0) c0 (by (try rw [w9]);(try rw [w16]);all_goals exact wp_narrow [1] (by kernel_rfl) H)
 ·have H:=H.2 d2
  exact path_rq (G:=given kp36 [] []) 1000 [false] (AV.vec true 3 []) (by kernel_rfl) (bc (beq_f (fun h => d2 (i_dec.1 h))) b0) q0 c0 H
noncomputable abbrev zSpZ1 (s:List Sb) (i:Int):=ag [vb false,AV.vec true 2 [ag [AV.int IntKind.u8 79,vi (1000 * (s.getD i.toNat default).n)]],AV.str []]
theorem svJa (h:Bool) (s:List Sb) (n i:Int) (o:List Bk) (v:Nat)  (dq:AV) (H :
  ((i < n) -> (0 <= i) /\
   (i.toNat < s.length) /\
   (-9223372036854775808 <= 1000 * (s.getD i.toNat default).n /\ 1000 * (s.getD i.toNat default).n <= 9223372036854775807) /\
   ((o.length + 1) * 48 <= 1099511627776) /\
   (((List.map Bk.a o ++ [ag [vb false,AV.vec true 2 [ag [AV.int IntKind.u8 79,vi (1000 * (s.getD i.toNat default).n)]],AV.str []]]).length + (s.getD i.toNat default).3.length) * 48 <= 1099511627776) /\
   (((List.map Bk.a o ++ [ag [vb false,AV.vec true 2 [ag [AV.int IntKind.u8 79,vi (1000 * (s.getD i.toNat default).n)]],AV.str []]] ++ List.map Bk.a (s.getD i.toNat default).3).length + 1) * 48 <= 1099511627776) /\
   (-9223372036854775808 <= i + 1 /\ i + 1 <= 9223372036854775807) /\
   Wp M2 (.run fi36 (atC (cd Try.f36) [1,1,0,1,0,0]) [(3,AV.row 0 (v + 1 + 1 + 1)),(10,AV.vec h 2 (List.map Sb.a s)),(11,vi n),(12,vi (i + 1))] [{ elems:=List.map Bk.a o ++ [ag [vb false,AV.vec true 2 [ag [AV.int IntKind.u8 79,vi (1000 * (s.getD i.toNat default).n)]],AV.str []]] ++ List.map Bk.a (s.getD i.toNat default).3 ++ [ag [vb false,AV.vec true 2 [ag [AV.int IntKind.u8 77,vi 99000]],AV.str []]],es:=3,ver:=v + 1 + 1 + 1,frozen:=false,clean:=true }]) (PureQ dq)) /\
  (¬(i < n) -> Weak (AV.vec false 3 (List.map Bk.a o)) dq)) :
 svJa_at h s n i o v (PureQ dq):=by
 unfold svJa_at
 rcases xm (i < n) with d2 | d2
 ·have H:=H.1 d2
  obtain ⟨k4,H⟩:=H
  have w5:(List.map Sb.a s).length = s.length:=List.length_map ..
  have i6:(decide (i.toNat < (List.map Sb.a s).length)) = true ↔ (i.toNat < s.length):=(by (try rw [w5]);all_goals exact i_dec)
  obtain ⟨k7,H⟩:=H
  have w8:(List.map Bk.a o).length = o.length:=List.length_map ..
  obtain ⟨k9,H⟩:=H
  have w10:wi (1000 * (s.getD i.toNat default).n) = 1000 * (s.getD i.toNat default).n:=wI64 k9
  have i11:(decide (((List.map Bk.a o).length + 1) * 48 <= 1099511627776)) = true ↔ ((o.length + 1) * 48 <= 1099511627776):=(by (try rw [w8]);(try rw [w10]);all_goals exact i_dec)
  obtain ⟨k12,H⟩:=H
  have w13:(List.map Bk.a (s.getD i.toNat default).3).length = (s.getD i.toNat default).3.length:=List.length_map ..
  have i14:(decide (((List.map Bk.a o ++ [ag [vb false,AV.vec true 2 [ag [AV.int IntKind.u8 79,vi (wi (1000 * (s.getD i.toNat default).n))]],AV.str []]]).length + (List.map Bk.a (s.getD i.toNat default).3).length) * 48 <= 1099511627776)) = true ↔ (((List.map Bk.a o ++ [(zSpZ1 s i)]).length + (s.getD i.toNat default).3.length) * 48 <= 1099511627776):=(by (try rw [w10]);(try rw [w13]);all_goals exact i_dec)
  obtain ⟨k15,H⟩:=H
  have i16:(decide (((List.map Bk.a o ++ [ag [vb false,AV.vec true 2 [ag [AV.int IntKind.u8 79,vi (wi (1000 * (s.getD i.toNat default).n))]],AV.str []]] ++ List.map Bk.a (s.getD i.toNat default).3).length + 1) * 48 <= 1099511627776)) = true ↔ (((List.map Bk.a o ++ [(zSpZ1 s i)] ++ List.map Bk.a (s.getD i.toNat default).3).length + 1) * 48 <= 1099511627776):=(by (try rw [w10]);all_goals exact i_dec)
  obtain ⟨k17,H⟩:=H
  obtain ⟨k18,H⟩:=H
  have w19:wi (i + 1) = i + 1:=wI64 k18
  exact path_wp (G:=given kp36 [(4,1,.elem (ag [vi (s.getD i.toNat default).n,AV.vec (s.getD i.toNat default).2 3 (List.map Bk.a (s.getD i.toNat default).3)]))] []) 1000 [true] ⟨(atC (cd Try.f36) [1,1,0,1,0,0]),[(3,AV.row 0 (v + 1 + 1 + 1)),(10,AV.vec h 2 (List.map Sb.a s)),(11,vi n),(12,vi (wi (i + 1)))],[⟨List.map Bk.a o ++ [ag [vb false,AV.vec true 2 [ag [AV.int IntKind.u8 79,vi (wi (1000 * (s.getD i.toNat default).n))]],AV.str []]] ++ List.map Bk.a (s.getD i.toNat default).3 ++ [ag [vb false,AV.vec true 2 [ag [AV.int IntKind.u8 77,vi 99000]],AV.str []]],3,v + 1 + 1 + 1,false,true⟩,⟨[ag [vi (s.getD i.toNat default).n,AV.vec (s.getD i.toNat default).2 3 (List.map Bk.a (s.getD i.toNat default).3)]],2,0,false,false⟩],[(decide (i < n)) == true,decide (0 <= i),decide (i.toNat < (List.map Sb.a s).length),true,true,v == v,decide (((List.map Bk.a o).length + 1) * 48 <= 1099511627776),true,v + 1 == v + 1,decide (((List.map Bk.a o ++ [ag [vb false,AV.vec true 2 [ag [AV.int IntKind.u8 79,vi (wi (1000 * (s.getD i.toNat default).n))]],AV.str []]]).length + (List.map Bk.a (s.getD i.toNat default).3).length) * 48 <= 1099511627776),v + 1 + 1 == v + 1 + 1,decide (((List.map Bk.a o ++ [ag [vb false,AV.vec true 2 [ag [AV.int IntKind.u8 79,vi (wi (1000 * (s.getD i.toNat default).n))]],AV.str []]] ++ List.map Bk.a (s.getD i.toNat default).3).length + 1) * 48 <= 1099511627776)],[((List.map Sb.a s).get?Internal i.toNat = some (ag [vi (s.getD i.toNat default).n,AV.vec (s.getD i.toNat default).2 3 (List.map Bk.a (s.getD i.toNat default).3)]))],_⟩ (by kernel_rfl) (bc (beq_t (i_dec.2 d2)) (bc (i_dec.2 k4) (bc (i6.2 k7) (bc rfl (bc rfl (bc (beq_self_eq_true _) (bc (i11.2 k12) (bc rfl (bc (beq_self_eq_true _) (bc (i14.2 k15) (bc (beq_self_eq_true _) (bc (i16.2 k17) b0)))))))))))) (qc (el_map k7) q0) c0 (by (try rw [w10]);(try rw [w19]);all_goals exact wp_narrow [0] (by kernel_rfl) H)
 ·have H:=H.2 d2
  exact path_ret (G:=given kp36 [] []) 1000 [false] (k:=((atC (cd Try.f36) [1,1,1,1])).tail) (env':=[(2,AV.row 0 v)]) (L':=[⟨List.map Bk.a o,3,v,false,true⟩]) (asm:=[(decide (i < n)) == false]) (eqs:=[]) (calls:=[]) (AV.row 0 v) (by kernel_rfl) (by kernel_rfl) (allB_cons (beq_f (fun h => d2 (i_dec.1 h))) allB_nil) allP_nil allC_nil (pq_weak (d:=(AV.vec false 3 (List.map Bk.a o))) (bs:=[v == v]) (by kernel_rfl) (by kernel_rfl) (allB_cons (beq_self_eq_true _) allB_nil) (by kernel_rfl) H)
end Go.Av

namespace Go.Av
open Go.Proofs
namespace Sp
def oB (m:Int):Bk:=⟨false,true,[⟨79,1000 * m⟩],[]⟩
def mB:Bk:=⟨false,true,[⟨77,99000⟩],[]⟩
def one (x:Sb):List Bk:=oB x.n :: x.bl ++ [mB]
def joinS (s:List Sb):List Bk:=s.flatMap one
def join (l:List Bk) (s:List Sb):List Bk:=l ++ joinS s
def own (s:List Sb):List Sb:=s.map fun x => ⟨x.n,false,x.bl⟩
def okJ (l:List Bk) (s:List Sb):Prop:=l.length <= 1000000 /\ s.length <= 100 /\ ∀ x ∈ s,x.bl.length <= 1000000 /\ -1000000 <= x.n /\ x.n <= 1000000
end Sp
theorem oB_a (m:Int):(Sp.oB m).a = .agg [.bool false,.vec true 2 [.agg [.int .u8 79,.int .i64 (1000 * m)]],.str []]:=rfl
theorem mB_a:Sp.mB.a = .agg [.bool false,.vec true 2 [.agg [.int .u8 77,.int .i64 99000]],.str []]:=rfl
theorem one_map (x:Sb) (o:List Bk):(o ++ Sp.one x).map Bk.a = o.map Bk.a ++ [.agg [.bool false,.vec true 2 [.agg [.int .u8 79,.int .i64 (1000 * x.n)]],.str []]] ++ x.bl.map Bk.a ++ [.agg [.bool false,.vec true 2 [.agg [.int .u8 77,.int .i64 99000]],.str []]]:=by
 unfold Sp.one
 rw [List.map_append,List.map_append,List.map_cons,oB_a,List.map_cons,mB_a,List.map_nil]
 simp
theorem one_len (x:Sb):(Sp.one x).length = x.bl.length + 2:=by unfold Sp.one;simp
theorem okJ_at {s:List Sb} (h:∀ x ∈ s,x.bl.length <= 1000000 /\ -1000000 <= x.n /\ x.n <= 1000000) {i:Nat} (hi:i < s.length):(s.getD i default).bl.length <= 1000000 /\ -1000000 <= (s.getD i default).n /\ (s.getD i default).n <= 1000000:=h _ (getD_mem hi)
theorem joinS_at {s:List Sb} {i:Nat} (hi:i < s.length):Sp.joinS (s.drop i) = Sp.one (s.getD i default) ++ Sp.joinS (s.drop (i + 1)):=by
 rw [drop_getD hi];rfl
theorem svJa_loop {h:Bool} {s:List Sb} {dq:AV} (hs:s.length <= 100) (hk:∀ x ∈ s,x.bl.length <= 1000000 /\ -1000000 <= x.n /\ x.n <= 1000000):∀ (c i v:Nat) (o:List Bk),i + c = s.length -> o.length <= 2000000 * (i + 1) -> bsA false (o ++ Sp.joinS (s.drop i)) = dq -> svJa_at h s s.length i o v (PureQ dq):=by
 intro c
 induction c with
 | zero =>
  intro i v o hi ho hq
  rw [List.drop_eq_nil_of_le (by omega),show Sp.joinS [] = [] from rfl,List.append_nil] at hq
  exact svJa _ _ _ _ _ _ _ ⟨fun h => by omega,fun _ => by rw [<- hq];exact .refl _⟩
 | succ c ih =>
  intro i v o hi ho hq
  have hx:=okJ_at hk (show i < s.length by omega)
  rw [joinS_at (by omega),<- List.append_assoc] at hq
  refine svJa _ _ _ _ _ _ _ ⟨fun _ => ?_,fun h => by omega⟩
  rw [Int.toNat_natCast]
  refine ⟨by omega,by omega,by omega,by omega,by simp only [List.length_append,List.length_map,List.length_singleton];omega,by simp only [List.length_append,List.length_map,List.length_singleton];omega,by omega,?_⟩
  have:=ih (i + 1) (v + 1 + 1 + 1) _ (by omega) (by rw [List.length_append,one_len];omega) hq
  unfold svJa_at at this
  rw [one_map] at this
  exact this
theorem ev36 (g h:Bool) (l:List Bk) (s:List Sb) (hk:Sp.okJ l s):Ev M1 (.pure 36 [pgA g h l s]) (bsA false (Sp.join l s)) []:=by
 obtain ⟨hl,hs,hk⟩:=hk
 refine ev_M2 (call36 ?_)
 match l,hl with
 | [],_ =>
  show svJe_at g h s _
  refine svJe _ _ _ _ (svJz _ _ _ _ _ ?_)
  match s,hs,hk with
  | [],_,_ => exact ⟨fun h => by simp at h,fun _ => .full 3 []⟩
  | x :: s,hs,hk =>
   have hx:=hk x (by simp)
   simp only [List.length_cons] at hs
   refine ⟨fun _ => ⟨by omega,by simp,?_,?_,?_,by omega,?_⟩,fun h => by simp at h⟩
   ·show -9223372036854775808 <= 1000 * x.n /\ 1000 * x.n <= 9223372036854775807
    omega
   ·show (1 + x.bl.length) * 48 <= 1099511627776
    omega
   ·show (x.bl.length + 1 + 1) * 48 <= 1099511627776
    omega
   ·have:=svJa_loop (h:=h) (by simp;omega) hk s.length 1 2 (Sp.one x) (by simp;omega) (by rw [one_len];omega) rfl
    unfold svJa_at at this
    have e:=one_map x []
    rw [List.nil_append,List.map_nil,List.nil_append] at e
    rw [e] at this
    exact this
 | y :: l,hl => exact svJc _ _ _ _ _ ⟨⟨hl,by simp⟩,svJa_loop hs hk s.length 0 0 (y :: l) (by omega) (by omega) (by rw [List.drop_zero];rfl)⟩
end Go.Av

namespace Go.Av
open Go.Proofs
set_option maxRecDepth 100000
def fi9:Fi:=⟨44,[.tmp 2]⟩
def kp9:List (Nat × List Nat):=[(0,[0]),(1,[0,13]),(2,[2]),(3,[0,3,4]),(4,[0,3,4,5,6]),(5,[0,3,4,35]),(6,[2]),(7,[2])]
def svLs_at (g:Bool) (l:List Bk) (Q:AV -> Heap -> Prop):Prop:=Wp M1 (.run fi9 (atC (cd Try.f9) []) [(0,.vec g 3 (l.map Bk.a))] []) Q
theorem call9 {args:List AV} {d:AV} (h:wc M1 fi9 Try.f9 args d):Ev M1 (.pure 9 args) d []:=pcl _ _ (by kernel_rfl) h
noncomputable abbrev zTpA1 (l:List Bk):=bif (Sp.split l).snd.snd != (Sp.split l).snd.snd then true else !Sp.samP (Sp.split l).1 (Sp.split l).1 (Sp.split l).snd.1 (Sp.split l).snd.1
noncomputable abbrev zTpA2 (l:List Bk):=Sp.samP (Sp.split l).1 (Sp.split l).1 (Sp.split l).snd.1 (Sp.split l).snd.1
theorem svLs (g:Bool) (l:List Bk)  (dq:AV) (H :
  (Sp.mO 60) /\
  ((¬(Sp.vals l 60 = true)) -> vb true = dq) /\
  (¬(¬(Sp.vals l 60 = true)) -> (Sp.few6 l.length) /\
   (Sp.okBs l /\ l.length <= 999999) /\
   ((¬(¬(Sp.split l).snd.snd = (Sp.split l).snd.snd)) -> (Sp.few6 (Sp.split l).snd.1.length)) /\
   ((¬(¬(Sp.split l).snd.snd = (Sp.split l).snd.snd)) -> (Sp.okPs (Sp.split l).1 (Sp.split l).snd.1)) /\
   (((¬(Sp.split l).snd.snd = (Sp.split l).snd.snd) \/ (¬(Sp.samP (Sp.split l).1 (Sp.split l).1 (Sp.split l).snd.1 (Sp.split l).snd.1 = true))) -> vb false = dq) /\
   (¬((¬(Sp.split l).snd.snd = (Sp.split l).snd.snd) \/ (¬(Sp.samP (Sp.split l).1 (Sp.split l).1 (Sp.split l).snd.1 (Sp.split l).snd.1 = true))) -> ((¬(¬(Sp.split l).snd.snd = 0)) -> (Sp.okJ (Sp.split l).1 (Sp.split l).snd.1)) /\
    ((¬(¬(Sp.split l).snd.snd = 0)) -> (Sp.okBs (Sp.join (Sp.split l).1 (Sp.split l).snd.1))) /\
    (vb (bif (Sp.split l).snd.snd != 0 then true else Sp.sameL (Sp.join (Sp.split l).1 (Sp.split l).snd.1) l)) = dq))) :
 svLs_at g l (PureQ dq):=by
 unfold svLs_at
 obtain ⟨k1,H⟩:=H
 refine path_wp (G:=given kp9 [(1,0,.call (vb true) none),(1,4,.call (vb (Sp.vals l 60)) none)] []) 5 [] ⟨(atC (cd Try.f9) [1,0,1]),[(0,AV.vec g 3 (List.map Bk.a l)),(13,vb !Sp.vals l 60)],[],_,[],_⟩ (by kernel_rfl) b0 q0 (ce (@ev11 ) (ce (@ev12 (g) (l) (60) k1) c0)) ?_
 rcases xm (¬(Sp.vals l 60 = true)) with d3 | d3
 ·have H:=H.1 d3
  exact path_re (G:=given kp9 [(2,0,.call (vb true) none)] []) 1000 [true] (asm:=[(!Sp.vals l 60) == true]) (vb true) (by kernel_rfl) (bc (beq_t ((i_not (i_var _)).2 d3)) b0) q0 (ce (@ev11 ) c0) H
 ·have H:=H.2 d3
  obtain ⟨k4,H⟩:=H
  obtain ⟨k5,H⟩:=H
  obtain ⟨k7,H⟩:=H
  obtain ⟨k9,H⟩:=H
  refine path_wp (G:=given kp9 [(3,1,.call (AV.vec false 3 (List.map Bk.a l)) none),(3,2,.call (tu [ag [AV.vec false 3 (List.map Bk.a (Sp.split l).1),AV.vec false 2 (List.map Sb.a (Sp.split l).snd.1)],vi (Sp.split l).snd.snd]) none),(4,1,.call (tu [ag [AV.vec false 3 (List.map Bk.a (Sp.split l).1),AV.vec false 2 (List.map Sb.a (Sp.split l).snd.1)],vi (Sp.split l).snd.snd]) none),(5,5,.call (ag [AV.vec false 3 (List.map Bk.a (Sp.split l).1),AV.vec false 2 (List.map Sb.a (Sp.split l).snd.1)]) none),(5,7,.call (vb (zTpA2 l)) none)] []) 9 [false] ⟨(atC (cd Try.f9) [1,1,1,1,0,1]),[(0,AV.vec g 3 (List.map Bk.a l)),(3,AV.ptr 0 0 0 0),(4,vi (Sp.split l).snd.snd),(35,vb (zTpA1 l))],[⟨[ag [AV.vec false 3 (List.map Bk.a (Sp.split l).1),AV.vec false 2 (List.map Sb.a (Sp.split l).snd.1)]],2,0,false,false⟩,⟨[ag [AV.vec false 3 (List.map Bk.a (Sp.split l).1),AV.vec false 2 (List.map Sb.a (Sp.split l).snd.1)]],2,0,false,false⟩],[(!Sp.vals l 60) == false,true,true,!(((Sp.split l).snd.snd != (Sp.split l).snd.snd) == false && true) || true,!(((Sp.split l).snd.snd != (Sp.split l).snd.snd) == false && true) || true],[],[⟨true,false,22,[AV.vec g 3 (List.map Bk.a l)],[],AV.vec false 3 (List.map Bk.a l),[]⟩,⟨true,false,34,[AV.vec false 3 (List.map Bk.a l)],[],tu [ag [AV.vec false 3 (List.map Bk.a (Sp.split l).1),AV.vec false 2 (List.map Sb.a (Sp.split l).snd.1)],vi (Sp.split l).snd.snd],[]⟩,⟨true,false,35,[AV.vec g 3 (List.map Bk.a l)],[],tu [ag [AV.vec false 3 (List.map Bk.a (Sp.split l).1),AV.vec false 2 (List.map Sb.a (Sp.split l).snd.1)],vi (Sp.split l).snd.snd],[]⟩,⟨((Sp.split l).snd.snd != (Sp.split l).snd.snd) == false && true && true,false,25,[ag [AV.vec false 3 (List.map Bk.a (Sp.split l).1),AV.vec false 2 (List.map Sb.a (Sp.split l).snd.1)]],[],ag [AV.vec false 3 (List.map Bk.a (Sp.split l).1),AV.vec false 2 (List.map Sb.a (Sp.split l).snd.1)],[]⟩,⟨((Sp.split l).snd.snd != (Sp.split l).snd.snd) == false && true && true,false,24,[ag [AV.vec false 3 (List.map Bk.a (Sp.split l).1),AV.vec false 2 (List.map Sb.a (Sp.split l).snd.1)],ag [AV.vec false 3 (List.map Bk.a (Sp.split l).1),AV.vec false 2 (List.map Sb.a (Sp.split l).snd.1)]],[],vb (zTpA2 l),[]⟩]⟩ (by kernel_rfl) (bc (beq_f (fun h => d3 ((i_not (i_var _)).1 h))) (bc rfl (bc rfl (bc (Bool.or_true _) (bc (Bool.or_true _) b0))))) q0 (cc (fun _ => (@ev22 (g) (l) k4)) (cc (fun _ => (@ev34 (false) (l) k5)) (cc (fun _ => (@ev35 (g) (l) k5)) (cc (fun hc => ((@ev25 (false) (false) ((Sp.split l).1) ((Sp.split l).snd.1) (k7 ((i_at (i_at (i_bf i_ne))).1 hc))):Ev M1 (Conf.pure 25 [ag [AV.vec false 3 (List.map Bk.a (Sp.split l).1),AV.vec false 2 (List.map Sb.a (Sp.split l).snd.1)]]) (ag [AV.vec false 3 (List.map Bk.a (Sp.split l).1),AV.vec false 2 (List.map Sb.a (Sp.split l).snd.1)]) [])) (cc (fun hc => ((@ev24 (false) (false) (false) (false) ((Sp.split l).1) ((Sp.split l).1) ((Sp.split l).snd.1) ((Sp.split l).snd.1) (k9 ((i_at (i_at (i_bf i_ne))).1 hc))):Ev M1 (Conf.pure 24 [ag [AV.vec false 3 (List.map Bk.a (Sp.split l).1),AV.vec false 2 (List.map Sb.a (Sp.split l).snd.1)],ag [AV.vec false 3 (List.map Bk.a (Sp.split l).1),AV.vec false 2 (List.map Sb.a (Sp.split l).snd.1)]]) (vb (zTpA2 l)) [])) c0))))) ?_
  rcases xm ((¬(Sp.split l).snd.snd = (Sp.split l).snd.snd) \/ (¬(Sp.samP (Sp.split l).1 (Sp.split l).1 (Sp.split l).snd.1 (Sp.split l).snd.1 = true))) with d11 | d11
  ·have H:=H.1 d11
   exact path_re (G:=given kp9 [] []) 1000 [true] (asm:=[(zTpA1 l) == true]) (vb false) (by kernel_rfl) (bc (beq_t ((i_bor i_ne (i_not (i_var _))).2 d11)) b0) q0 c0 H
  ·have H:=H.2 d11
   obtain ⟨k13,H⟩:=H
   obtain ⟨k15,H⟩:=H
   exact path_re (G:=given kp9 [(7,4,.call (AV.vec false 3 (List.map Bk.a (Sp.join (Sp.split l).1 (Sp.split l).snd.1))) none),(7,6,.call (vb (Sp.sameL (Sp.join (Sp.split l).1 (Sp.split l).snd.1) l)) none)] []) 1000 [false] (asm:=[(zTpA1 l) == false,!(((Sp.split l).snd.snd != 0) == false && true) || true]) (calls:=[⟨((Sp.split l).snd.snd != 0) == false && true && true,false,36,[ag [AV.vec false 3 (List.map Bk.a (Sp.split l).1),AV.vec false 2 (List.map Sb.a (Sp.split l).snd.1)]],[],AV.vec false 3 (List.map Bk.a (Sp.join (Sp.split l).1 (Sp.split l).snd.1)),[]⟩,⟨((Sp.split l).snd.snd != 0) == false && true && true,false,18,[AV.vec false 3 (List.map Bk.a (Sp.join (Sp.split l).1 (Sp.split l).snd.1)),AV.vec g 3 (List.map Bk.a l)],[],vb (Sp.sameL (Sp.join (Sp.split l).1 (Sp.split l).snd.1) l),[]⟩]) (vb (bif (Sp.split l).snd.snd != 0 then true else Sp.sameL (Sp.join (Sp.split l).1 (Sp.split l).snd.1) l)) (by kernel_rfl) (bc (beq_f (fun h => d11 ((i_bor i_ne (i_not (i_var _))).1 h))) (bc (Bool.or_true _) b0)) q0 (cc (fun hc => ((@ev36 (false) (false) ((Sp.split l).1) ((Sp.split l).snd.1) (k13 ((i_at (i_at (i_bf i_ne))).1 hc))):Ev M1 (Conf.pure 36 [ag [AV.vec false 3 (List.map Bk.a (Sp.split l).1),AV.vec false 2 (List.map Sb.a (Sp.split l).snd.1)]]) (AV.vec false 3 (List.map Bk.a (Sp.join (Sp.split l).1 (Sp.split l).snd.1))) [])) (cc (fun hc => ((@ev18 (false) (g) (Sp.join (Sp.split l).1 (Sp.split l).snd.1) (l) (k15 ((i_at (i_at (i_bf i_ne))).1 hc))):Ev M1 (Conf.pure 18 [AV.vec false 3 (List.map Bk.a (Sp.join (Sp.split l).1 (Sp.split l).snd.1)),AV.vec g 3 (List.map Bk.a l)]) (vb (Sp.sameL (Sp.join (Sp.split l).1 (Sp.split l).snd.1) l)) [])) c0)) H
end Go.Av

namespace Go.Av
open Go.Proofs
def Sb.fine (x:Sb):Prop:=Sp.okBs x.bl /\ 1 <= x.n /\ x.n <= 9999
theorem bg_fine {b:Bk} (h:b.bg = true):1 <= Sp.bgV b.sk b.ws b.cm /\ Sp.bgV b.sk b.ws b.cm <= 9999 /\ b.key = (Sp.oB (Sp.bgV b.sk b.ws b.cm)).key:=by
 unfold Bk.bg Sp.bgB at h
 unfold Sp.bgV
 split at h
 ·rename_i k
  rw [if_pos k]
  obtain ⟨k1,k2⟩:=k
  have k3:=of_decide_eq_true k1
  have h:=of_decide_eq_true h
  unfold Sp.whV
  refine ⟨h.2.1,h.2.2,?_⟩
  obtain ⟨sk,f,ws,cm⟩:=b
  match ws,k3,k2,h with
  | [w],k3,k2,h =>
   obtain ⟨wl,wv⟩:=w
   have k2:wl = 79:=k2
   have h1:wv.tmod 1000 = 0:=h.1
   have h2:=Int.tmod_add_mul_tdiv wv 1000
   have h3:1000 * wv.tdiv 1000 = wv:=by omega
   show (sk,[(⟨wl,wv⟩:Wo)],cm) = (false,[⟨79,1000 * wv.tdiv 1000⟩],[])
   have k4:sk = false:=k3.2.1
   have k5:cm = []:=k3.2.2
   rw [h3,k2,k4,k5]
 ·cases h
theorem stop_key {b:Bk} (h:Sp.pStop b = true):b.key = Sp.mB.key:=by
 unfold Sp.pStop at h
 simp only [Bool.and_eq_true] at h
 have k3:=of_decide_eq_true h.1
 have h2:=h.2
 obtain ⟨sk,f,ws,cm⟩:=b
 match ws,k3,h2 with
 | [w],k3,h2 =>
  obtain ⟨wl,wv⟩:=w
  unfold Sp.backB Sp.hasW Sp.codes at h2
  show (sk,[(⟨wl,wv⟩:Wo)],cm) = (false,[⟨77,99000⟩],[])
  by_cases k:wl = 77
  ·have:wv = 99000:=by simpa [k,eq_comm] using h2
   have k4:sk = false:=k3.2.1
   have k5:cm = []:=k3.2.2
   rw [k,this,k4,k5]
  ·simp [k] at h2
theorem idxF_true {α:Type} [Inhabited α] (p:α -> Bool):∀ (r:List α) (i:Int),0 <= i -> ¬Sp.idxF p r i < 0 -> p (r.getD (Sp.idxF p r i - i).toNat default) = true
 | [],i,_,h => by simp [Sp.idxF] at h
 | b :: r,i,hi,h => by
  rw [Sp.idxF] at h ⊢
  split at h
  ·rename_i hb
   rw [if_pos hb,Int.sub_self];exact hb
  ·rename_i hb
   rw [if_neg hb]
   rcases idxF_ge p r (i + 1) (by omega) with ⟨h1,_⟩ | ⟨h1,_⟩
   ·omega
   ·have:=idxF_true p r (i + 1) (by omega) h
    rw [show (Sp.idxF p r (i + 1) - i).toNat = (Sp.idxF p r (i + 1) - (i + 1)).toNat + 1 by omega]
    exact this
structure Fine (m:List Bk) (N:Nat) (k:List (Bool × List Wo × List UInt8)) (z:List Bk × List Sb × Int):Prop where
 main:z.1 = [] \/ z.1 = m
 len:z.2.1.length <= N
 sub:∀ x ∈ z.2.1,x.fine
 key:z.2.2 = 0 -> z.1 = m /\ (Sp.joinS z.2.1).map Bk.key = k
theorem fine_no {m:List Bk} {N:Nat} {k:List (Bool × List Wo × List UInt8)} {e:Int} (he:¬e = 0):Fine m N k ([],[],e):=
 ⟨.inl rfl,Nat.zero_le _,fun _ hx => (List.not_mem_nil hx).elim,fun h => absurd h he⟩
theorem spl_fine {m:List Bk} {N:Nat}:∀ (f:Nat) (r:List Bk) (s:List Sb),Sp.okBs r -> (∀ x ∈ s,x.fine) -> s.length + r.length <= N -> Fine m N ((Sp.joinS s).map Bk.key ++ r.map Bk.key) (Sp.spl m f r s)
 | 0,r,s,_,_,_ => fine_no (by omega)
 | f + 1,r,s,hr,hs,hn => by
  rw [Sp.spl]
  split
  ·rename_i h0
   split
   ·split
    ·exact fine_no (by omega)
    ·refine ⟨.inr rfl,show s.length <= N by omega,hs,fun _ => ⟨rfl,?_⟩⟩
     rw [List.length_eq_zero_iff.1 h0];simp
   ·exact fine_no (by omega)
  ·rename_i h0
   split
   ·rename_i h
    obtain ⟨h1,h2⟩:=h
    have hb:(r.getD 0 default).bg = true:=h1
    obtain ⟨b1,b2,b3⟩:=bg_fine hb
    obtain ⟨c1,c2⟩:=stop_pos (by omega) h1 h2
    have c3:Sp.pStop (r.getD (Sp.idxP Sp.pStop r - 0).toNat default) = true:=idxF_true Sp.pStop r 0 (by omega) h2
    obtain ⟨p,hp⟩:=Int.eq_ofNat_of_zero_le (show 0 <= Sp.idxP Sp.pStop r by omega)
    rw [hp] at c1 c2 c3 ⊢
    rw [show ((p:Int) - 0).toNat = p by omega] at c3
    rw [Int.toNat_natCast,show ((p:Int) + 1).toNat = p + 1 by omega]
    have ih:=spl_fine (m:=m) (N:=N) f (r.drop (p + 1)) (s ++ [⟨Sp.bgV (r.getD 0 default).sk (r.getD 0 default).ws (r.getD 0 default).cm,false,(r.take p).drop 1⟩]) (okBs_drop hr _) (fun x hx => by
     rcases List.mem_append.1 hx with hx | hx
     ·exact hs x hx
     ·rw [List.mem_singleton] at hx;subst hx
      exact ⟨okBs_drop (okBs_take hr _) _,b1,b2⟩) (by simp;omega)
    refine ⟨ih.main,ih.len,ih.sub,fun he => ⟨(ih.key he).1,?_⟩⟩
    rw [(ih.key he).2]
    unfold Sp.joinS
    rw [List.flatMap_append,List.map_append,List.append_assoc]
    congr 1
    have e:r = r.getD 0 default :: ((r.take p).drop 1 ++ (r.getD p default :: r.drop (p + 1))):=by
     have e1:r.drop p = r.getD p default :: r.drop (p + 1):=drop_getD (by omega)
     have e2:r.take p = (r.take p).getD 0 default :: (r.take p).drop 1:=by
      have:=drop_getD (d:=r.take p) (i:=0) (by simp;omega)
      rw [List.drop_zero] at this
      exact this
     rw [getD_take' (by omega)] at e2
     rw [<- e1,<- List.cons_append,<- e2,List.take_append_drop]
    generalize hy:r.getD 0 default = y at e b3
    generalize hz:r.getD p default = z at e c3
    generalize (r.take p).drop 1 = q at e
    generalize r.drop (p + 1) = w at e
    rw [e]
    simp [Sp.one,b3,stop_key c3]
   ·exact fine_no (by omega)
theorem split_fine {l:List Bk} {N:Nat} (hl:Sp.okBs l) (hn:l.length <= N):Sp.okBs (Sp.split l).1 /\ (Sp.split l).1.length <= N /\ (Sp.split l).2.1.length <= N /\ (∀ x ∈ (Sp.split l).2.1,x.fine) /\
  ((Sp.split l).2.2 = 0 -> (Sp.join (Sp.split l).1 (Sp.split l).2.1).map Bk.key = l.map Bk.key):=by
 unfold Sp.split
 split
 ·exact ⟨⟨by simp,fun x hx => by cases hx⟩,by simp,by simp,fun x hx => (List.not_mem_nil hx).elim,fun h => by cases h⟩
 ·have h:=spl_fine (m:=l.take (Sp.idxP Sp.pEnd l + 1).toNat) (N:=N) (l.length + 1) (l.drop (Sp.idxP Sp.pEnd l + 1).toNat) [] (okBs_drop hl _) (fun x hx => (List.not_mem_nil hx).elim) (by simp;omega)
  refine ⟨?_,?_,h.len,h.sub,fun he => ?_⟩
  ·rcases h.main with h | h <;> rw [h]
   ·exact ⟨by simp,fun x hx => (List.not_mem_nil hx).elim⟩
   ·exact okBs_take hl _
  ·rcases h.main with h | h <;> rw [h] <;> simp <;> omega
  ·unfold Sp.join
   rw [List.map_append,(h.key he).1,(h.key he).2,show Sp.joinS [] = [] from rfl,List.map_nil,List.nil_append,<- List.map_append,List.take_append_drop]
end Go.Av

namespace Go.Av
open Go.Proofs
namespace Sp
end Sp
theorem key_okBs {l q:List Bk} (hl:Sp.okBs l) (h:q.map Bk.key = l.map Bk.key):Sp.okBs q:=by
 have e:=congrArg List.length h
 rw [List.length_map,List.length_map] at e
 refine ⟨by have:=hl.1;omega,fun b hb => ?_⟩
 have hm:b.key ∈ l.map Bk.key:=by rw [<- h];exact List.mem_map_of_mem hb
 obtain ⟨b',h1,h2⟩:=List.mem_map.1 hm
 have h3:b'.ws = b.ws:=congrArg (fun x => x.2.1) h2
 rw [<- h3];exact hl.2 b' h1
theorem ev9 (l:List Bk):Ev M1 (.pure 9 [bsA false l]) (.bool true) []:=by
 refine call9 (svLs false l _ ⟨show (60:Int) <= 1000000 by omega,fun _ => rfl,fun h => ?_⟩)
 have hv:=Classical.not_not.1 h
 have hk:=vals_okBs hv (by omega)
 have hn:l.length <= 60:=by have:=(vals_at hv).1;omega
 obtain ⟨f1,f2,f3,f4,f5⟩:=split_fine (N:=60) hk hn
 refine ⟨hk.1,⟨hk,by omega⟩,fun _ => show _ <= 1000000 by omega,fun _ => ⟨f1,by omega,fun x hx => (f4 x hx).1⟩,fun k => ?_,fun _ => ⟨fun _ => ⟨by omega,by omega,fun x hx => ?_⟩,fun k => key_okBs hk (f5 (Classical.not_not.1 k)),?_⟩⟩
 ·rcases k with k | k
  ·exact absurd rfl k
  ·rw [samP_refl] at k;exact absurd rfl k
 ·have:=f4 x hx
  exact ⟨this.1.1,by have:=this.2;omega,by have:=this.2;omega⟩
 ·congr 1
  cases hc:(Sp.split l).2.2 != 0 with
  | true => rfl
  | false =>
   have he:(Sp.split l).2.2 = 0:=by simpa using hc
   show Sp.sameL _ _ = true
   unfold Sp.sameL
   exact decide_eq_true (f5 he)
end Go.Av
