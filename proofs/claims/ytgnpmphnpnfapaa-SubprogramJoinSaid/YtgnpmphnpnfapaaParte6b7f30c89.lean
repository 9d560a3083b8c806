/- PART 5 of the texts of a claim, joined by a program: what each part shows stands at its head. -/
import Derived.Test.YtgnpmphnpnfapaaPart84d0c1d518

namespace Go.Av
open Go.Proofs
set_option maxRecDepth 100000
def fi53:Fi:=⟨104,[.tmp 2]⟩
def kp53:List (Nat × List Nat):=[(0,[1]),(1,[1,10]),(2,[2]),(3,[1,3]),(4,[1,3,15]),(5,[1,3]),(6,[1,3,46]),(7,[2]),(8,[1,4]),(9,[1,4,51]),(10,[1,4]),(11,[1,4,5]),(12,[1,4,5,74]),(13,[2]),(14,[1,4,5,6]),(15,[1,4,5,6,79]),(16,[1,4,5,6]),(17,[1,4,5,6,103]),(18,[2]),(19,[2])]
def fi54:Fi:=⟨25,[.tmp 2]⟩
def kp54:List (Nat × List Nat):=[(0,[1]),(1,[1,3]),(2,[1,3,4]),(3,[1,3,4,13]),(4,[1,3,4]),(5,[1,3,4]),(6,[2])]
def fi76:Fi:=⟨9,[.tmp 4]⟩
def kp76:List (Nat × List Nat):=[(0,[0,1]),(1,[4])]
def tvSu_at (a b:Int) (Q:AV -> Heap -> Prop):Prop:=Wp M1 (.run fi76 (atC (cd Try.f76) []) [(0,.int .i64 a),(1,.int .i64 b)] []) Q
def tvBl_at (g:Bool) (y:Bk) (l:List Bk) (h:Bool) (s:List Sb) (Q:AV -> Heap -> Prop):Prop:=Wp M1 (.run fi54 (atC (cd Try.f54) []) [(0,.agg [.vec g 3 ((y :: l).map Bk.a),.vec h 2 (s.map Sb.a)])] []) Q
def tvBla_at (g:Bool) (l:List Bk) (h:Bool) (s:List Sb) (i:Int) (o:List Bk) (v:Nat) (Q:AV -> Heap -> Prop):Prop:=Wp M1 (.run fi54 (atC (cd Try.f54) [1,1,0,1,0,0]) [(1,.ptr 0 0 0 0),(3,.row 1 v),(4,.int .i64 i)] [⟨[.agg [.vec g 3 (l.map Bk.a),.vec h 2 (s.map Sb.a)]],2,0,false,false⟩,⟨o.map Bk.a,3,v,false,true⟩]) Q
def tvPr_at (g:Bool) (l:List Bk) (h:Bool) (s:List Sb) (Q:AV -> Heap -> Prop):Prop:=Wp M1 (.run fi53 (atC (cd Try.f53) []) [(0,.agg [.vec g 3 (l.map Bk.a),.vec h 2 (s.map Sb.a)])] []) Q
def tvPra_at (g:Bool) (l:List Bk) (h:Bool) (s:List Sb) (i:Int) (Q:AV -> Heap -> Prop):Prop:=Wp M1 (.run fi53 (atC (cd Try.f53) [1,1,0,1,0,0]) [(1,.ptr 0 0 0 0),(3,.int .i64 i)] [⟨[.agg [.vec g 3 (l.map Bk.a),.vec h 2 (s.map Sb.a)]],2,0,false,false⟩]) Q
def tvPrb_at (g:Bool) (l:List Bk) (h:Bool) (s:List Sb) (i:Int) (Q:AV -> Heap -> Prop):Prop:=Wp M1 (.run fi53 (atC (cd Try.f53) [1,1,1,0,1,0,0]) [(1,.ptr 0 0 0 0),(4,.int .i64 i)] [⟨[.agg [.vec g 3 (l.map Bk.a),.vec h 2 (s.map Sb.a)]],2,0,false,false⟩]) Q
def tvPrc_at (g:Bool) (l:List Bk) (h:Bool) (s:List Sb) (i:Int) (sn:Int) (sf:Bool) (sb:List Bk) (k:Int) (Q:AV -> Heap -> Prop):Prop:=Wp M1 (.run fi53 (atC (cd Try.f53) [1,1,1,0,1,0,0,1,0,0,1,1,1,0,0]) [(1,.ptr 0 0 0 0),(4,.int .i64 i),(5,.ptr 1 0 0 0),(6,.int .i64 k)] [⟨[.agg [.vec g 3 (l.map Bk.a),.vec h 2 (s.map Sb.a)]],2,0,false,false⟩,⟨[.agg [.int .i64 sn,.vec sf 3 (sb.map Bk.a)]],2,0,false,false⟩]) Q
theorem call53 {args:List AV} {d:AV} (h:wc M1 fi53 Try.f53 args d):Ev M1 (.pure 53 args) d []:=pcl _ _ (by kernel_rfl) h
theorem call54 {args:List AV} {d:AV} (h:wc M1 fi54 Try.f54 args d):Ev M1 (.pure 54 args) d []:=pcl _ _ (by kernel_rfl) h
theorem call76 {args:List AV} {d:AV} (h:wc M1 fi76 Try.f76 args d):Ev M1 (.pure 76 args) d []:=pcl _ _ (by kernel_rfl) h
theorem tvSu (a b:Int)  (dq:AV) (H :
  (-9223372036854775808 <= a + b /\ a + b <= 9223372036854775807) /\
  vi (if a + b < 20001 then a + b else 20001) = dq) :
 tvSu_at a b (PureQ dq):=by
 unfold tvSu_at
 obtain ⟨k1,H⟩:=H
 have w2:wi (a + b) = a + b:=wI64 k1
 exact path_re (G:=given kp76 [] []) 1000 [] (vi (if wi (a + b) < 20001 then wi (a + b) else 20001)) (by kernel_rfl) b0 q0 c0 (by (try rw [w2]);all_goals exact H)
theorem tvBl (g:Bool) (y:Bk) (l:List Bk) (h:Bool) (s:List Sb)  (dq:AV) (H :
  ((0 + (l.length + 1)) * 48 <= 1099511627776) /\
  Wp M1 (.run fi54 (atC (cd Try.f54) [1,1,0,1,0,0]) [(1,AV.ptr 0 0 0 0),(3,AV.row 1 0),(4,vi 0)] [{ elems:=[ag [AV.vec g 3 (ag [vb y.1,AV.vec y.2 2 (List.map Wo.a y.3),AV.str y.4] :: List.map Bk.a l),AV.vec h 2 (List.map Sb.a s)]],es:=2,ver:=0,frozen:=false,clean:=false },{ elems:=ag [vb y.1,AV.vec y.2 2 (List.map Wo.a y.3),AV.str y.4] :: List.map Bk.a l,es:=3,ver:=0,frozen:=false,clean:=true }]) (PureQ dq)) :
 tvBl_at g y l h s (PureQ dq):=by
 unfold tvBl_at
 have w1:(List.map Bk.a l).length = l.length:=List.length_map ..
 have i2:(decide ((0 + ((List.map Bk.a l).length + 1)) * 48 <= 1099511627776)) = true ↔ ((0 + (l.length + 1)) * 48 <= 1099511627776):=(by (try rw [w1]);all_goals exact i_dec)
 obtain ⟨k3,H⟩:=H
 exact path_wp (G:=given kp54 [] []) 1000 [] ⟨(atC (cd Try.f54) [1,1,0,1,0,0]),[(1,AV.ptr 0 0 0 0),(3,AV.row 1 0),(4,vi 0)],[⟨[ag [AV.vec g 3 (ag [vb y.1,AV.vec y.2 2 (List.map Wo.a y.3),AV.str y.4] :: List.map Bk.a l),AV.vec h 2 (List.map Sb.a s)]],2,0,false,false⟩,⟨ag [vb y.1,AV.vec y.2 2 (List.map Wo.a y.3),AV.str y.4] :: List.map Bk.a l,3,0,false,true⟩],_,[],_⟩ (by kernel_rfl) (bc rfl (bc (i2.2 k3) b0)) q0 c0 (H)
theorem tvBla (g:Bool) (l:List Bk) (h:Bool) (s:List Sb) (i:Int) (o:List Bk) (v:Nat)  (dq:AV) (H :
  ((i < (↑s.length:Int)) -> (0 <= i) /\
   (i.toNat < s.length) /\
   ((o.length + (s.getD i.toNat default).3.length) * 48 <= 1099511627776) /\
   (-9223372036854775808 <= i + 1 /\ i + 1 <= 9223372036854775807) /\
   tvBla_at (g) (l) (h) (s) (i + 1) (o ++ (s.getD i.toNat default).3) (v + 1) (PureQ dq)) /\
  (¬(i < (↑s.length:Int)) -> Weak (AV.vec false 3 (List.map Bk.a o)) dq)) :
 tvBla_at g l h s i o v (PureQ dq):=by
 unfold tvBla_at
 have w1:(List.map Sb.a s).length = s.length:=List.length_map ..
 have i2:(decide (i < (↑(List.map Sb.a s).length:Int))) = true ↔ (i < (↑s.length:Int)):=(by (try rw [w1]);all_goals exact i_dec)
 rcases xm (i < (↑s.length:Int)) with d3 | d3
 ·have H:=H.1 d3
  obtain ⟨k5,H⟩:=H
  have i6:(decide (i.toNat < (List.map Sb.a s).length)) = true ↔ (i.toNat < s.length):=(by (try rw [w1]);all_goals exact i_dec)
  obtain ⟨k7,H⟩:=H
  have w8:(List.map Bk.a o).length = o.length:=List.length_map ..
  have w9:(List.map Bk.a (s.getD i.toNat default).3).length = (s.getD i.toNat default).3.length:=List.length_map ..
  have i10:(decide (((List.map Bk.a o).length + (List.map Bk.a (s.getD i.toNat default).3).length) * 48 <= 1099511627776)) = true ↔ ((o.length + (s.getD i.toNat default).3.length) * 48 <= 1099511627776):=(by (try rw [w8]);(try rw [w9]);all_goals exact i_dec)
  obtain ⟨k11,H⟩:=H
  have w12:List.map Bk.a o ++ List.map Bk.a (s.getD i.toNat default).3 = List.map Bk.a (o ++ (s.getD i.toNat default).3):=(lm_app rfl rfl)
  obtain ⟨k13,H⟩:=H
  have w14:wi (i + 1) = i + 1:=wI64 k13
  exact path_wp (G:=given kp54 [(5,6,.elem (ag [vi (s.getD i.toNat default).n,AV.vec (s.getD i.toNat default).2 3 (List.map Bk.a (s.getD i.toNat default).3)]))] []) 1000 [true] ⟨(atC (cd Try.f54) [1,1,0,1,0,0]),[(1,AV.ptr 0 0 0 0),(3,AV.row 1 (v + 1)),(4,vi (wi (i + 1)))],[⟨[ag [AV.vec g 3 (List.map Bk.a l),AV.vec h 2 (List.map Sb.a s)]],2,0,false,false⟩,⟨List.map Bk.a o ++ List.map Bk.a (s.getD i.toNat default).3,3,v + 1,false,true⟩],[true,(decide (i < (↑(List.map Sb.a s).length:Int))) == true,true,decide (0 <= i),decide (i.toNat < (List.map Sb.a s).length),v == v,decide (((List.map Bk.a o).length + (List.map Bk.a (s.getD i.toNat default).3).length) * 48 <= 1099511627776)],[((List.map Sb.a s).get?Internal i.toNat = some (ag [vi (s.getD i.toNat default).n,AV.vec (s.getD i.toNat default).2 3 (List.map Bk.a (s.getD i.toNat default).3)]))],_⟩ (by kernel_rfl) (bc rfl (bc (beq_t (i2.2 d3)) (bc rfl (bc (i_dec.2 k5) (bc (i6.2 k7) (bc (beq_self_eq_true _) (bc (i10.2 k11) b0))))))) (qc (el_map k7) q0) c0 (by (try rw [w12]);(try rw [w14]);all_goals exact H)
 ·have H:=H.2 d3
  exact path_ret (G:=given kp54 [] []) 1000 [false] (k:=((atC (cd Try.f54) [1,1,1,1])).tail) (env':=[(2,AV.row 1 v)]) (L':=[⟨[ag [AV.vec g 3 (List.map Bk.a l),AV.vec h 2 (List.map Sb.a s)]],2,0,false,false⟩,⟨List.map Bk.a o,3,v,false,true⟩]) (asm:=[true,(decide (i < (↑(List.map Sb.a s).length:Int))) == false]) (eqs:=[]) (calls:=[]) (AV.row 1 v) (by kernel_rfl) (by kernel_rfl) (allB_cons rfl (allB_cons (beq_f (fun h => d3 (i2.1 h))) allB_nil)) allP_nil allC_nil (pq_weak (d:=(AV.vec false 3 (List.map Bk.a o))) (bs:=[v == v]) (by kernel_rfl) (by kernel_rfl) (allB_cons (beq_self_eq_true _) allB_nil) (by kernel_rfl) H)
theorem tvPr (g:Bool) (l:List Bk) (h:Bool) (s:List Sb)  (dq:AV) (H :
  (((↑l.length:Int) = 0) -> vb false = dq) /\
  (¬((↑l.length:Int) = 0) -> tvPra_at (g) (l) (h) (s) (0) (PureQ dq))) :
 tvPr_at g l h s (PureQ dq):=by
 unfold tvPr_at
 have w1:(List.map Bk.a l).length = l.length:=List.length_map ..
 have i2:((↑(List.map Bk.a l).length:Int) == 0) = true ↔ ((↑l.length:Int) = 0):=(by (try rw [w1]);all_goals exact i_eq)
 rcases xm ((↑l.length:Int) = 0) with d3 | d3
 ·have H:=H.1 d3
  exact path_re (G:=given kp53 [] []) 1000 [true] (vb false) (by kernel_rfl) (bc rfl (bc (beq_t (i2.2 d3)) b0)) q0 c0 H
 ·have H:=H.2 d3
  exact path_wp (G:=given kp53 [] []) 1000 [false] ⟨(atC (cd Try.f53) [1,1,0,1,0,0]),[(1,AV.ptr 0 0 0 0),(3,vi 0)],[⟨[ag [AV.vec g 3 (List.map Bk.a l),AV.vec h 2 (List.map Sb.a s)]],2,0,false,false⟩],_,[],_⟩ (by kernel_rfl) (bc rfl (bc (beq_f (fun h => d3 (i2.1 h))) b0)) q0 c0 (H)
noncomputable abbrev zTpB1 (l:List Bk) (i:Int):=bif Sp.backB (l.getD i.toNat default).3 then true else Sp.letB (l.getD i.toNat default).3 79
noncomputable abbrev zTpB2 (l:List Bk) (i:Int):=Sp.backB (l.getD i.toNat default).3 == false && true
theorem tvPra (g:Bool) (l:List Bk) (h:Bool) (s:List Sb) (i:Int)  (dq:AV) (H :
  ((i < (↑l.length:Int)) -> (Sp.few6 (l.getD i.toNat default).3.length) /\
   (0 <= i) /\
   (i.toNat < l.length) /\
   ((((Sp.backB (l.getD i.toNat default).3 = true) \/ (Sp.letB (l.getD i.toNat default).3 79 = true)) \/ (¬(Sp.endB (l.getD i.toNat default).3 = (i == IntKind.i64.wrap ((↑l.length:Int) - 1))))) -> vb false = dq) /\
   (¬(((Sp.backB (l.getD i.toNat default).3 = true) \/ (Sp.letB (l.getD i.toNat default).3 79 = true)) \/ (¬(Sp.endB (l.getD i.toNat default).3 = (i == IntKind.i64.wrap ((↑l.length:Int) - 1))))) -> (-9223372036854775808 <= i + 1 /\ i + 1 <= 9223372036854775807) /\
    tvPra_at (g) (l) (h) (s) (i + 1) (PureQ dq))) /\
  (¬(i < (↑l.length:Int)) -> tvPrb_at (g) (l) (h) (s) (0) (PureQ dq))) :
 tvPra_at g l h s i (PureQ dq):=by
 unfold tvPra_at
 have w1:(List.map Bk.a l).length = l.length:=List.length_map ..
 have i2:(decide (i < (↑(List.map Bk.a l).length:Int))) = true ↔ (i < (↑l.length:Int)):=(by (try rw [w1]);all_goals exact i_dec)
 rcases xm (i < (↑l.length:Int)) with d3 | d3
 ·have H:=H.1 d3
  obtain ⟨k4,H⟩:=H
  obtain ⟨k8,H⟩:=H
  have i9:(decide (i.toNat < (List.map Bk.a l).length)) = true ↔ (i.toNat < l.length):=(by (try rw [w1]);all_goals exact i_dec)
  obtain ⟨k10,H⟩:=H
  have i12:(!(zTpB2 l i) || decide (i.toNat < (List.map Bk.a l).length)) = true ↔ ((¬(Sp.backB (l.getD i.toNat default).3 = true)) -> (i.toNat < l.length)):=(by (try rw [w1]);all_goals exact (i_imp (i_at (i_bf (i_var _))) i_dec))
  have i14:(!((zTpB1 l i) == false && true) || decide (i.toNat < (List.map Bk.a l).length)) = true ↔ ((¬((Sp.backB (l.getD i.toNat default).3 = true) \/ (Sp.letB (l.getD i.toNat default).3 79 = true))) -> (i.toNat < l.length)):=(by (try rw [w1]);all_goals exact (i_imp (i_at (i_bf (i_bor (i_var _) (i_var _)))) i_dec))
  have i17:(bif bif Sp.backB (l.getD i.toNat default).3 then true else Sp.letB (l.getD i.toNat default).3 79 then true else !Sp.endB (l.getD i.toNat default).3 == (i == wi ((↑(List.map Bk.a l).length:Int) - 1))) = true ↔ (((Sp.backB (l.getD i.toNat default).3 = true) \/ (Sp.letB (l.getD i.toNat default).3 79 = true)) \/ (¬(Sp.endB (l.getD i.toNat default).3 = (i == wi ((↑l.length:Int) - 1))))):=(by (try rw [w1]);all_goals exact (i_bor (i_bor (i_var _) (i_var _)) (i_not i_eq)))
  refine path_wp (G:=given kp53 [(6,4,.elem (ag [vb (l.getD i.toNat default).1,AV.vec (l.getD i.toNat default).2 2 (List.map Wo.a (l.getD i.toNat default).3),AV.str (l.getD i.toNat default).4])),(6,5,.call (vb (Sp.backB (l.getD i.toNat default).3)) none),(6,11,.elem (ag [vb (l.getD i.toNat default).1,AV.vec (l.getD i.toNat default).2 2 (List.map Wo.a (l.getD i.toNat default).3),AV.str (l.getD i.toNat default).4])),(6,12,.call (vb (Sp.letB (l.getD i.toNat default).3 79)) none),(6,19,.elem (ag [vb (l.getD i.toNat default).1,AV.vec (l.getD i.toNat default).2 2 (List.map Wo.a (l.getD i.toNat default).3),AV.str (l.getD i.toNat default).4])),(6,20,.call (vb (Sp.endB (l.getD i.toNat default).3)) none)] []) 9 [true] ⟨(atC (cd Try.f53) [1,1,0,1,0,0,1,0,0,1]),[(1,AV.ptr 0 0 0 0),(3,vi i),(46,vb (bif bif Sp.backB (l.getD i.toNat default).3 then true else Sp.letB (l.getD i.toNat default).3 79 then true else !Sp.endB (l.getD i.toNat default).3 == (i == wi ((↑(List.map Bk.a l).length:Int) - 1))))],[⟨[ag [AV.vec g 3 (List.map Bk.a l),AV.vec h 2 (List.map Sb.a s)]],2,0,false,false⟩],[true,(decide (i < (↑(List.map Bk.a l).length:Int))) == true,true,decide (0 <= i),decide (i.toNat < (List.map Bk.a l).length),!(zTpB2 l i) || true,!(zTpB2 l i) || decide (0 <= i),!(zTpB2 l i) || decide (i.toNat < (List.map Bk.a l).length),!((zTpB1 l i) == false && true) || true,!((zTpB1 l i) == false && true) || decide (0 <= i),!((zTpB1 l i) == false && true) || decide (i.toNat < (List.map Bk.a l).length),!((zTpB1 l i) == false && true) || true],[((List.map Bk.a l).get?Internal i.toNat = some (ag [vb (l.getD i.toNat default).1,AV.vec (l.getD i.toNat default).2 2 (List.map Wo.a (l.getD i.toNat default).3),AV.str (l.getD i.toNat default).4])),((zTpB2 l i) = true -> (List.map Bk.a l).get?Internal i.toNat = some (ag [vb (l.getD i.toNat default).1,AV.vec (l.getD i.toNat default).2 2 (List.map Wo.a (l.getD i.toNat default).3),AV.str (l.getD i.toNat default).4])),(((zTpB1 l i) == false && true) = true -> (List.map Bk.a l).get?Internal i.toNat = some (ag [vb (l.getD i.toNat default).1,AV.vec (l.getD i.toNat default).2 2 (List.map Wo.a (l.getD i.toNat default).3),AV.str (l.getD i.toNat default).4]))],[⟨true,false,65,[ag [vb (l.getD i.toNat default).1,AV.vec (l.getD i.toNat default).2 2 (List.map Wo.a (l.getD i.toNat default).3),AV.str (l.getD i.toNat default).4]],[],vb (Sp.backB (l.getD i.toNat default).3),[]⟩,⟨Sp.backB (l.getD i.toNat default).3 == false && true && true,false,66,[ag [vb (l.getD i.toNat default).1,AV.vec (l.getD i.toNat default).2 2 (List.map Wo.a (l.getD i.toNat default).3),AV.str (l.getD i.toNat default).4],AV.int IntKind.u8 79],[],vb (Sp.letB (l.getD i.toNat default).3 79),[]⟩,⟨(zTpB1 l i) == false && true && true,false,64,[ag [vb (l.getD i.toNat default).1,AV.vec (l.getD i.toNat default).2 2 (List.map Wo.a (l.getD i.toNat default).3),AV.str (l.getD i.toNat default).4]],[],vb (Sp.endB (l.getD i.toNat default).3),[]⟩]⟩ (by kernel_rfl) (bc rfl (bc (beq_t (i2.2 d3)) (bc rfl (bc (i_dec.2 k8) (bc (i9.2 k10) (bc (Bool.or_true _) (bc ((i_imp (i_at (i_bf (i_var _))) i_dec).2 (fun _ => k8)) (bc (i12.2 (fun _ => k10)) (bc (Bool.or_true _) (bc ((i_imp (i_at (i_bf (i_bor (i_var _) (i_var _)))) i_dec).2 (fun _ => k8)) (bc (i14.2 (fun _ => k10)) (bc (Bool.or_true _) b0)))))))))))) (qc (el_map k10) (qc (fun h => el_map k10) (qc (fun h => el_map k10) q0))) (cc (fun _ => (@ev65 ((l.getD i.toNat default).1) ((l.getD i.toNat default).2) ((l.getD i.toNat default).3) ((l.getD i.toNat default).4) k4)) (cc (fun hc => ((@ev66 ((l.getD i.toNat default).1) ((l.getD i.toNat default).2) ((l.getD i.toNat default).3) ((l.getD i.toNat default).4) (79) k4):Ev M1 (Conf.pure 66 [ag [vb (l.getD i.toNat default).1,AV.vec (l.getD i.toNat default).2 2 (List.map Wo.a (l.getD i.toNat default).3),AV.str (l.getD i.toNat default).4],AV.int IntKind.u8 79]) (vb (Sp.letB (l.getD i.toNat default).3 79)) [])) (cc (fun hc => ((@ev64 ((l.getD i.toNat default).1) ((l.getD i.toNat default).2) ((l.getD i.toNat default).3) ((l.getD i.toNat default).4) k4):Ev M1 (Conf.pure 64 [ag [vb (l.getD i.toNat default).1,AV.vec (l.getD i.toNat default).2 2 (List.map Wo.a (l.getD i.toNat default).3),AV.str (l.getD i.toNat default).4]]) (vb (Sp.endB (l.getD i.toNat default).3)) [])) c0))) ?_
  rcases xm (((Sp.backB (l.getD i.toNat default).3 = true) \/ (Sp.letB (l.getD i.toNat default).3 79 = true)) \/ (¬(Sp.endB (l.getD i.toNat default).3 = (i == wi ((↑l.length:Int) - 1))))) with d18 | d18
  ·have H:=H.1 d18
   exact path_re (G:=given kp53 [] []) 1000 [true] (vb false) (by kernel_rfl) (bc (beq_t (i17.2 d18)) b0) q0 c0 H
  ·have H:=H.2 d18
   obtain ⟨k19,H⟩:=H
   have w20:wi (i + 1) = i + 1:=wI64 k19
   exact path_wp (G:=given kp53 [] []) 1000 [false] ⟨(atC (cd Try.f53) [1,1,0,1,0,0]),[(1,AV.ptr 0 0 0 0),(3,vi (wi (i + 1)))],[⟨[ag [AV.vec g 3 (List.map Bk.a l),AV.vec h 2 (List.map Sb.a s)]],2,0,false,false⟩],_,[],_⟩ (by kernel_rfl) (bc (beq_f (fun h => d18 (i17.1 h))) b0) q0 c0 (by (try rw [w20]);all_goals exact H)
 ·have H:=H.2 d3
  exact path_wp (G:=given kp53 [] []) 1000 [false] ⟨(atC (cd Try.f53) [1,1,1,0,1,0,0]),[(1,AV.ptr 0 0 0 0),(4,vi 0)],[⟨[ag [AV.vec g 3 (List.map Bk.a l),AV.vec h 2 (List.map Sb.a s)]],2,0,false,false⟩],_,[],_⟩ (by kernel_rfl) (bc rfl (bc (beq_f (fun h => d3 (i2.1 h))) b0)) q0 c0 (H)
noncomputable abbrev zTpB3 (s:List Sb) (i:Int):=bif decide ((s.getD i.toNat default).n < 1) then true else decide ((s.getD i.toNat default).n > 9999)
theorem tvPrb (g:Bool) (l:List Bk) (h:Bool) (s:List Sb) (i:Int)  (dq:AV) (H :
  ((i < (↑s.length:Int)) -> (0 <= i) /\
   (i.toNat < s.length) /\
   ((¬(((s.getD i.toNat default).n < 1) \/ ((s.getD i.toNat default).n > 9999))) -> (s.length <= 1000000)) /\
   (((((s.getD i.toNat default).n < 1) \/ ((s.getD i.toNat default).n > 9999)) \/ (Sp.fnd s (s.getD i.toNat default).n < i)) -> vb false = dq) /\
   (¬((((s.getD i.toNat default).n < 1) \/ ((s.getD i.toNat default).n > 9999)) \/ (Sp.fnd s (s.getD i.toNat default).n < i)) -> tvPrc_at (g) (l) (h) (s) (i) ((s.getD i.toNat default).n) ((s.getD i.toNat default).2) ((s.getD i.toNat default).3) (0) (PureQ dq))) /\
  (¬(i < (↑s.length:Int)) -> vb true = dq)) :
 tvPrb_at g l h s i (PureQ dq):=by
 unfold tvPrb_at
 have w1:(List.map Sb.a s).length = s.length:=List.length_map ..
 have i2:(decide (i < (↑(List.map Sb.a s).length:Int))) = true ↔ (i < (↑s.length:Int)):=(by (try rw [w1]);all_goals exact i_dec)
 rcases xm (i < (↑s.length:Int)) with d3 | d3
 ·have H:=H.1 d3
  obtain ⟨k5,H⟩:=H
  have i6:(decide (i.toNat < (List.map Sb.a s).length)) = true ↔ (i.toNat < s.length):=(by (try rw [w1]);all_goals exact i_dec)
  obtain ⟨k7,H⟩:=H
  obtain ⟨k9,H⟩:=H
  refine path_wp (G:=given kp53 [(11,4,.elem (ag [vi (s.getD i.toNat default).n,AV.vec (s.getD i.toNat default).2 3 (List.map Bk.a (s.getD i.toNat default).3)])),(12,12,.call (vi (Sp.fnd s (s.getD i.toNat default).n)) none)] []) 12 [true] ⟨(atC (cd Try.f53) [1,1,1,0,1,0,0,1,0,0,1,0,1]),[(1,AV.ptr 0 0 0 0),(4,vi i),(5,AV.ptr 1 0 0 0),(74,vb (bif bif decide ((s.getD i.toNat default).n < 1) then true else decide ((s.getD i.toNat default).n > 9999) then true else decide (Sp.fnd s (s.getD i.toNat default).n < i)))],[⟨[ag [AV.vec g 3 (List.map Bk.a l),AV.vec h 2 (List.map Sb.a s)]],2,0,false,false⟩,⟨[ag [vi (s.getD i.toNat default).n,AV.vec (s.getD i.toNat default).2 3 (List.map Bk.a (s.getD i.toNat default).3)]],2,0,false,false⟩],[true,(decide (i < (↑(List.map Sb.a s).length:Int))) == true,true,decide (0 <= i),decide (i.toNat < (List.map Sb.a s).length),true,true,!(decide ((s.getD i.toNat default).n < 1) == false && true) || true,!((zTpB3 s i) == false && true) || true,!((zTpB3 s i) == false && true) || true],[((List.map Sb.a s).get?Internal i.toNat = some (ag [vi (s.getD i.toNat default).n,AV.vec (s.getD i.toNat default).2 3 (List.map Bk.a (s.getD i.toNat default).3)]))],[⟨(zTpB3 s i) == false && true && true,false,19,[ag [AV.vec g 3 (List.map Bk.a l),AV.vec h 2 (List.map Sb.a s)],vi (s.getD i.toNat default).n],[],vi (Sp.fnd s (s.getD i.toNat default).n),[]⟩]⟩ (by kernel_rfl) (bc rfl (bc (beq_t (i2.2 d3)) (bc rfl (bc (i_dec.2 k5) (bc (i6.2 k7) (bc rfl (bc rfl (bc (Bool.or_true _) (bc (Bool.or_true _) (bc (Bool.or_true _) b0)))))))))) (qc (el_map k7) q0) (cc (fun hc => ((@ev19 (g) (h) (l) (s) ((s.getD i.toNat default).n) (k9 ((i_at (i_at (i_bf (i_bor i_dec i_dec)))).1 hc))):Ev M1 (Conf.pure 19 [ag [AV.vec g 3 (List.map Bk.a l),AV.vec h 2 (List.map Sb.a s)],vi (s.getD i.toNat default).n]) (vi (Sp.fnd s (s.getD i.toNat default).n)) [])) c0) ?_
  rcases xm ((((s.getD i.toNat default).n < 1) \/ ((s.getD i.toNat default).n > 9999)) \/ (Sp.fnd s (s.getD i.toNat default).n < i)) with d11 | d11
  ·have H:=H.1 d11
   exact path_re (G:=given kp53 [] []) 1000 [true] (vb false) (by kernel_rfl) (bc (beq_t ((i_bor (i_bor i_dec i_dec) i_dec).2 d11)) b0) q0 c0 H
  ·have H:=H.2 d11
   exact path_wp (G:=given kp53 [] []) 1000 [false] ⟨(atC (cd Try.f53) [1,1,1,0,1,0,0,1,0,0,1,1,1,0,0]),[(1,AV.ptr 0 0 0 0),(4,vi i),(5,AV.ptr 1 0 0 0),(6,vi 0)],[⟨[ag [AV.vec g 3 (List.map Bk.a l),AV.vec h 2 (List.map Sb.a s)]],2,0,false,false⟩,⟨[ag [vi (s.getD i.toNat default).n,AV.vec (s.getD i.toNat default).2 3 (List.map Bk.a (s.getD i.toNat default).3)]],2,0,false,false⟩],_,[],_⟩ (by kernel_rfl) (bc (beq_f (fun h => d11 ((i_bor (i_bor i_dec i_dec) i_dec).1 h))) b0) q0 c0 (H)
 ·have H:=H.2 d3
  exact path_re (G:=given kp53 [] []) 1000 [false] (vb true) (by kernel_rfl) (bc rfl (bc (beq_f (fun h => d3 (i2.1 h))) b0)) q0 c0 H
noncomputable abbrev zTpB4 (sb:List Bk) (k:Int):=bif Sp.backB (sb.getD k.toNat default).3 then true else Sp.letB (sb.getD k.toNat default).3 79
noncomputable abbrev zTpB5 (sb:List Bk) (k:Int):=bif bif Sp.backB (sb.getD k.toNat default).3 then true else Sp.letB (sb.getD k.toNat default).3 79 then true else Sp.endB (sb.getD k.toNat default).3
noncomputable abbrev zTpB6 (sb:List Bk) (k:Int):=Sp.backB (sb.getD k.toNat default).3 == false && true
theorem tvPrc (g:Bool) (l:List Bk) (h:Bool) (s:List Sb) (i:Int) (sn:Int) (sf:Bool) (sb:List Bk) (k:Int)  (dq:AV) (H :
  ((k < (↑sb.length:Int)) -> (Sp.few6 (sb.getD k.toNat default).3.length) /\
   (0 <= k) /\
   (k.toNat < sb.length) /\
   ((((Sp.backB (sb.getD k.toNat default).3 = true) \/ (Sp.letB (sb.getD k.toNat default).3 79 = true)) \/ (Sp.endB (sb.getD k.toNat default).3 = true)) -> vb false = dq) /\
   (¬(((Sp.backB (sb.getD k.toNat default).3 = true) \/ (Sp.letB (sb.getD k.toNat default).3 79 = true)) \/ (Sp.endB (sb.getD k.toNat default).3 = true)) -> (-9223372036854775808 <= k + 1 /\ k + 1 <= 9223372036854775807) /\
    tvPrc_at (g) (l) (h) (s) (i) (sn) (sf) (sb) (k + 1) (PureQ dq))) /\
  (¬(k < (↑sb.length:Int)) -> (-9223372036854775808 <= i + 1 /\ i + 1 <= 9223372036854775807) /\
   tvPrb_at (g) (l) (h) (s) (i + 1) (PureQ dq))) :
 tvPrc_at g l h s i sn sf sb k (PureQ dq):=by
 unfold tvPrc_at
 have w1:(List.map Bk.a sb).length = sb.length:=List.length_map ..
 have i2:(decide (k < (↑(List.map Bk.a sb).length:Int))) = true ↔ (k < (↑sb.length:Int)):=(by (try rw [w1]);all_goals exact i_dec)
 rcases xm (k < (↑sb.length:Int)) with d3 | d3
 ·have H:=H.1 d3
  obtain ⟨k4,H⟩:=H
  obtain ⟨k8,H⟩:=H
  have i9:(decide (k.toNat < (List.map Bk.a sb).length)) = true ↔ (k.toNat < sb.length):=(by (try rw [w1]);all_goals exact i_dec)
  obtain ⟨k10,H⟩:=H
  have i12:(!(zTpB6 sb k) || decide (k.toNat < (List.map Bk.a sb).length)) = true ↔ ((¬(Sp.backB (sb.getD k.toNat default).3 = true)) -> (k.toNat < sb.length)):=(by (try rw [w1]);all_goals exact (i_imp (i_at (i_bf (i_var _))) i_dec))
  have i14:(!((zTpB4 sb k) == false && true) || decide (k.toNat < (List.map Bk.a sb).length)) = true ↔ ((¬((Sp.backB (sb.getD k.toNat default).3 = true) \/ (Sp.letB (sb.getD k.toNat default).3 79 = true))) -> (k.toNat < sb.length)):=(by (try rw [w1]);all_goals exact (i_imp (i_at (i_bf (i_bor (i_var _) (i_var _)))) i_dec))
  refine path_wp (G:=given kp53 [(17,4,.elem (ag [vb (sb.getD k.toNat default).1,AV.vec (sb.getD k.toNat default).2 2 (List.map Wo.a (sb.getD k.toNat default).3),AV.str (sb.getD k.toNat default).4])),(17,5,.call (vb (Sp.backB (sb.getD k.toNat default).3)) none),(17,11,.elem (ag [vb (sb.getD k.toNat default).1,AV.vec (sb.getD k.toNat default).2 2 (List.map Wo.a (sb.getD k.toNat default).3),AV.str (sb.getD k.toNat default).4])),(17,12,.call (vb (Sp.letB (sb.getD k.toNat default).3 79)) none),(17,19,.elem (ag [vb (sb.getD k.toNat default).1,AV.vec (sb.getD k.toNat default).2 2 (List.map Wo.a (sb.getD k.toNat default).3),AV.str (sb.getD k.toNat default).4])),(17,20,.call (vb (Sp.endB (sb.getD k.toNat default).3)) none)] []) 9 [true] ⟨(atC (cd Try.f53) [1,1,1,0,1,0,0,1,0,0,1,1,1,0,0,1,0,0,1]),[(1,AV.ptr 0 0 0 0),(4,vi i),(5,AV.ptr 1 0 0 0),(6,vi k),(103,vb (zTpB5 sb k))],[⟨[ag [AV.vec g 3 (List.map Bk.a l),AV.vec h 2 (List.map Sb.a s)]],2,0,false,false⟩,⟨[ag [vi sn,AV.vec sf 3 (List.map Bk.a sb)]],2,0,false,false⟩],[true,(decide (k < (↑(List.map Bk.a sb).length:Int))) == true,true,decide (0 <= k),decide (k.toNat < (List.map Bk.a sb).length),!(zTpB6 sb k) || true,!(zTpB6 sb k) || decide (0 <= k),!(zTpB6 sb k) || decide (k.toNat < (List.map Bk.a sb).length),!((zTpB4 sb k) == false && true) || true,!((zTpB4 sb k) == false && true) || decide (0 <= k),!((zTpB4 sb k) == false && true) || decide (k.toNat < (List.map Bk.a sb).length)],[((List.map Bk.a sb).get?Internal k.toNat = some (ag [vb (sb.getD k.toNat default).1,AV.vec (sb.getD k.toNat default).2 2 (List.map Wo.a (sb.getD k.toNat default).3),AV.str (sb.getD k.toNat default).4])),((zTpB6 sb k) = true -> (List.map Bk.a sb).get?Internal k.toNat = some (ag [vb (sb.getD k.toNat default).1,AV.vec (sb.getD k.toNat default).2 2 (List.map Wo.a (sb.getD k.toNat default).3),AV.str (sb.getD k.toNat default).4])),(((zTpB4 sb k) == false && true) = true -> (List.map Bk.a sb).get?Internal k.toNat = some (ag [vb (sb.getD k.toNat default).1,AV.vec (sb.getD k.toNat default).2 2 (List.map Wo.a (sb.getD k.toNat default).3),AV.str (sb.getD k.toNat default).4]))],[⟨true,false,65,[ag [vb (sb.getD k.toNat default).1,AV.vec (sb.getD k.toNat default).2 2 (List.map Wo.a (sb.getD k.toNat default).3),AV.str (sb.getD k.toNat default).4]],[],vb (Sp.backB (sb.getD k.toNat default).3),[]⟩,⟨Sp.backB (sb.getD k.toNat default).3 == false && true && true,false,66,[ag [vb (sb.getD k.toNat default).1,AV.vec (sb.getD k.toNat default).2 2 (List.map Wo.a (sb.getD k.toNat default).3),AV.str (sb.getD k.toNat default).4],AV.int IntKind.u8 79],[],vb (Sp.letB (sb.getD k.toNat default).3 79),[]⟩,⟨(zTpB4 sb k) == false && true && true,false,64,[ag [vb (sb.getD k.toNat default).1,AV.vec (sb.getD k.toNat default).2 2 (List.map Wo.a (sb.getD k.toNat default).3),AV.str (sb.getD k.toNat default).4]],[],vb (Sp.endB (sb.getD k.toNat default).3),[]⟩]⟩ (by kernel_rfl) (bc rfl (bc (beq_t (i2.2 d3)) (bc rfl (bc (i_dec.2 k8) (bc (i9.2 k10) (bc (Bool.or_true _) (bc ((i_imp (i_at (i_bf (i_var _))) i_dec).2 (fun _ => k8)) (bc (i12.2 (fun _ => k10)) (bc (Bool.or_true _) (bc ((i_imp (i_at (i_bf (i_bor (i_var _) (i_var _)))) i_dec).2 (fun _ => k8)) (bc (i14.2 (fun _ => k10)) b0))))))))))) (qc (el_map k10) (qc (fun h => el_map k10) (qc (fun h => el_map k10) q0))) (cc (fun _ => (@ev65 ((sb.getD k.toNat default).1) ((sb.getD k.toNat default).2) ((sb.getD k.toNat default).3) ((sb.getD k.toNat default).4) k4)) (cc (fun hc => ((@ev66 ((sb.getD k.toNat default).1) ((sb.getD k.toNat default).2) ((sb.getD k.toNat default).3) ((sb.getD k.toNat default).4) (79) k4):Ev M1 (Conf.pure 66 [ag [vb (sb.getD k.toNat default).1,AV.vec (sb.getD k.toNat default).2 2 (List.map Wo.a (sb.getD k.toNat default).3),AV.str (sb.getD k.toNat default).4],AV.int IntKind.u8 79]) (vb (Sp.letB (sb.getD k.toNat default).3 79)) [])) (cc (fun hc => ((@ev64 ((sb.getD k.toNat default).1) ((sb.getD k.toNat default).2) ((sb.getD k.toNat default).3) ((sb.getD k.toNat default).4) k4):Ev M1 (Conf.pure 64 [ag [vb (sb.getD k.toNat default).1,AV.vec (sb.getD k.toNat default).2 2 (List.map Wo.a (sb.getD k.toNat default).3),AV.str (sb.getD k.toNat default).4]]) (vb (Sp.endB (sb.getD k.toNat default).3)) [])) c0))) ?_
  rcases xm (((Sp.backB (sb.getD k.toNat default).3 = true) \/ (Sp.letB (sb.getD k.toNat default).3 79 = true)) \/ (Sp.endB (sb.getD k.toNat default).3 = true)) with d18 | d18
  ·have H:=H.1 d18
   exact path_re (G:=given kp53 [] []) 1000 [true] (asm:=[(zTpB5 sb k) == true]) (vb false) (by kernel_rfl) (bc (beq_t ((i_bor (i_bor (i_var _) (i_var _)) (i_var _)).2 d18)) b0) q0 c0 H
  ·have H:=H.2 d18
   obtain ⟨k19,H⟩:=H
   have w20:wi (k + 1) = k + 1:=wI64 k19
   exact path_wp (G:=given kp53 [] []) 1000 [false] ⟨(atC (cd Try.f53) [1,1,1,0,1,0,0,1,0,0,1,1,1,0,0]),[(1,AV.ptr 0 0 0 0),(4,vi i),(5,AV.ptr 1 0 0 0),(6,vi (wi (k + 1)))],[⟨[ag [AV.vec g 3 (List.map Bk.a l),AV.vec h 2 (List.map Sb.a s)]],2,0,false,false⟩,⟨[ag [vi sn,AV.vec sf 3 (List.map Bk.a sb)]],2,0,false,false⟩],[(zTpB5 sb k) == false],[],_⟩ (by kernel_rfl) (bc (beq_f (fun h => d18 ((i_bor (i_bor (i_var _) (i_var _)) (i_var _)).1 h))) b0) q0 c0 (by (try rw [w20]);all_goals exact H)
 ·have H:=H.2 d3
  obtain ⟨k21,H⟩:=H
  have w22:wi (i + 1) = i + 1:=wI64 k21
  exact path_wp (G:=given kp53 [] []) 1000 [false] ⟨(atC (cd Try.f53) [1,1,1,0,1,0,0]),[(1,AV.ptr 0 0 0 0),(4,vi (wi (i + 1)))],[⟨[ag [AV.vec g 3 (List.map Bk.a l),AV.vec h 2 (List.map Sb.a s)]],2,0,false,false⟩,⟨[ag [vi sn,AV.vec sf 3 (List.map Bk.a sb)]],2,0,false,false⟩],_,[],_⟩ (by kernel_rfl) (bc rfl (bc (beq_f (fun h => d3 (i2.1 h))) b0)) q0 c0 (by (try rw [w22]);all_goals exact wp_narrow [0] (by kernel_rfl) H)
end Go.Av

namespace Go.Av
open Go.Proofs
namespace Sp
def mOK (l:List Bk) (j:Nat):Bool:=!(backB (l.getD j default).ws) && (!(letB (l.getD j default).ws 79) && (endB (l.getD j default).ws == decide (j = l.length - 1)))
def sOK (s:List Sb) (j:Nat):Bool:=decide (1 <= (s.getD j default).n /\ (s.getD j default).n <= 9999) && (!(anyP (isN (s.getD j default).n) (s.take j)) && !(sMk (s.getD j default)))
def prpR (l:List Bk) (s:List Sb):Bool:=decide (0 < l.length) && ((List.range' 0 l.length).all (mOK l) && (List.range' 0 s.length).all (sOK s))
def blks (l:List Bk) (s:List Sb):List Bk:=l ++ s.flatMap (·.bl)
def okU (a b:Int):Prop:=0 <= a /\ a <= 20001 /\ 0 <= b /\ b <= 20001
def sumC (a b:Int):Int:=if a + b < 20001 then a + b else 20001
end Sp
theorem fnd_lt {s:List Sb} {i:Nat} (hi:i < s.length):Sp.fnd s (s.getD i default).n < (i:Int) ↔ Sp.anyP (Sp.isN (s.getD i default).n) (s.take i) = true:=by
 have hii:Sp.isN (s.getD i default).n (s.getD i default) = true:=decide_eq_true rfl
 have h0:0 <= Sp.fnd s (s.getD i default).n:=by
  rcases idxF_ge (Sp.isN (s.getD i default).n) s 0 (by omega) with ⟨_,h2⟩ | ⟨h1,_⟩
  ·rw [any_at hi hii] at h2;cases h2
  ·exact h1
 constructor
 ·intro h
  have:=idxF_true (Sp.isN (s.getD i default).n) s 0 (by omega) (show ¬Sp.idxF (Sp.isN (s.getD i default).n) s 0 < 0 from by unfold Sp.fnd Sp.idxP at h0;omega)
  obtain ⟨k,hk⟩:=Int.eq_ofNat_of_zero_le h0
  have hk':Sp.idxF (Sp.isN (s.getD i default).n) s 0 = (k:Int):=hk
  rw [hk',show ((k:Int) - 0).toNat = k by omega] at this
  exact any_at (i:=k) (by simp;omega) (by rw [getD_take' (by omega)];exact this)
 ·intro h
  refine Classical.byContradiction fun y => ?_
  unfold Sp.anyP at h
  rw [any_no (fun j hj => ?_)] at h
  ·cases h
  ·simp at hj
   rw [getD_take' (by omega)]
   refine Bool.eq_false_iff.2 fun z => y ?_
   have:Sp.fnd s (s.getD i default).n <= (j:Int):=by
    refine Classical.byContradiction fun w => ?_
    rcases idxF_ge (Sp.isN (s.getD i default).n) s 0 (by omega) with ⟨_,h2⟩ | ⟨h1,h2,_⟩
    ·rw [any_at hi hii] at h2;cases h2
    ·have e:=idxF_first (Sp.isN (s.getD i default).n) s j 0 (by omega) (by omega) z
     unfold Sp.fnd Sp.idxP at w
     omega
   omega
where
 idxF_first {α:Type} [Inhabited α] (p:α -> Bool):∀ (r:List α) (k:Nat) (i:Int),0 <= i -> k < r.length -> p (r.getD k default) = true -> Sp.idxF p r i <= i + k
  | [],k,i,_,h,_ => by simp at h
  | b :: r,0,i,_,_,h => by
   have h0:p b = true:=h
   rw [Sp.idxF,if_pos h0];omega
  | b :: r,k + 1,i,hi,hl,hk => by
   rw [Sp.idxF]
   split
   ·omega
   ·have:=idxF_first p r k (i + 1) (by omega) (by simp at hl;omega) (by simpa using hk)
    omega
theorem all_range {n:Nat} {p:Nat -> Bool}:(List.range' 0 n).all p = true ↔ ∀ j,j < n -> p j = true:=by
 rw [List.all_eq_true]
 constructor
 ·intro h j hj;exact h j (by rw [List.mem_range'_1];omega)
 ·intro h j hj;rw [List.mem_range'_1] at hj;exact h j (by omega)
theorem mOK_iff {l:List Bk} (h0:0 < l.length):(List.range' 0 l.length).all (Sp.mOK l) = true ↔ Sp.ordM l = true:=by
 rw [all_range]
 obtain ⟨n,hn⟩:∃ n,l.length = n + 1:=⟨l.length - 1,by omega⟩
 constructor
 ·intro h
  have hl:=h n (by omega)
  unfold Sp.mOK at hl
  rw [hn,Nat.add_sub_cancel,decide_eq_true rfl] at hl
  simp only [Bool.and_eq_true,Bool.not_eq_true',beq_iff_eq] at hl
  refine ordM_ok hn hl.2.2 hl.1 hl.2.1 fun j hj => ?_
  have hj2:=h j (by omega)
  unfold Sp.mOK at hj2
  rw [hn,Nat.add_sub_cancel,decide_eq_false (show ¬j = n by omega)] at hj2
  simp only [Bool.and_eq_true,Bool.not_eq_true',beq_iff_eq] at hj2
  unfold Sp.pMk Sp.mkB
  rw [hj2.1,hj2.2.1,hj2.2.2];rfl
 ·intro h j hj
  unfold Sp.mOK
  rw [hn,Nat.add_sub_cancel]
  by_cases e:j = n
  ·subst e
   cases hb:Sp.backB (l.getD j default).ws with
   | true => rw [ordM_last hn (.inl hb)] at h;cases h
   | false =>
    cases ho:Sp.letB (l.getD j default).ws 79 with
    | true => rw [ordM_last hn (.inr ho)] at h;cases h
    | false =>
     unfold Sp.ordM Sp.ordB Sp.lastB at h
     rw [hn,Nat.add_sub_cancel] at h
     simp only [Bool.and_eq_true] at h
     rw [h.2.1,decide_eq_true rfl];rfl
  ·cases hm:Sp.pMk (l.getD j default) with
   | true => rw [ordM_in hn (by omega) hm] at h;cases h
   | false =>
    unfold Sp.pMk Sp.mkB at hm
    simp only [Bool.or_eq_false_iff] at hm
    rw [hm.1,hm.2.1,hm.2.2,decide_eq_false e];rfl
theorem sOK_iff {s:List Sb}:(List.range' 0 s.length).all (Sp.sOK s) = true ↔ Sp.numB s = true /\ Sp.repB s = false /\ Sp.anyP Sp.sMk s = false:=by
 rw [all_range]
 unfold Sp.sOK
 simp only [Bool.and_eq_true,Bool.not_eq_true',decide_eq_true_eq]
 constructor
 ·intro h
  refine ⟨?_,?_,any_no fun j hj => (h j hj).2.2⟩
  ·unfold Sp.numB
   rw [List.all_eq_true]
   intro x hx
   obtain ⟨j,hj,rfl⟩:=List.getElem_of_mem hx
   have:=(h j hj).1
   rw [List.getD_eq_getElem?_getD,List.getElem?_eq_getElem hj] at this
   exact decide_eq_true this
  ·unfold Sp.repB
   rw [List.any_eq_false]
   intro j hj
   rw [List.mem_range'_1] at hj
   rw [sIs_isN,(h j (by omega)).2.1];simp
 ·intro ⟨h1,h2,h3⟩ j hj
  unfold Sp.numB at h1
  unfold Sp.repB at h2
  unfold Sp.anyP at h3
  rw [List.all_eq_true] at h1
  rw [List.any_eq_false] at h2 h3
  refine ⟨of_decide_eq_true (h1 _ (getD_mem hj)),?_,Bool.eq_false_iff.2 (h3 _ (getD_mem hj))⟩
  have:=h2 j (by rw [List.mem_range'_1];omega)
  rw [sIs_isN] at this
  exact Bool.eq_false_iff.2 this
theorem prpR_eq (l:List Bk) (s:List Sb):Sp.prpR l s = Sp.prpB l s:=by
 unfold Sp.prpR Sp.prpB
 by_cases h0:0 < l.length
 ·rw [decide_eq_true h0,Bool.true_and,ordB_eq]
  apply Bool.eq_iff_iff.2
  simp only [Bool.and_eq_true,Bool.not_eq_true']
  rw [mOK_iff h0,sOK_iff]
  constructor
  ·exact fun ⟨a,b,c,d⟩ => ⟨b,⟨a,d⟩,c⟩
  ·exact fun ⟨b,⟨a,d⟩,c⟩ => ⟨a,b,c,d⟩
 ·rw [decide_eq_false h0,Bool.false_and]
  have:Sp.ordB l s = false:=by unfold Sp.ordB;rw [decide_eq_false h0,Bool.false_and]
  rw [this];simp
theorem tvPrb_loop {g h:Bool} {l:List Bk} {s:List Sb} {dq:AV} (hk:Sp.okSs s):∀ (c i:Nat),i + c = s.length -> AV.bool ((List.range' i c).all (Sp.sOK s)) = dq -> tvPrb_at g l h s i (PureQ dq):=by
 have hs:=hk.1
 intro c
 induction c with
 | zero =>
  intro i hi hq
  exact tvPrb _ _ _ _ _ _ ⟨fun h => by omega,fun _ => hq⟩
 | succ c ih =>
  intro i hi hq
  rw [List.range'_succ,List.all_cons] at hq
  refine tvPrb _ _ _ _ _ _ ⟨fun _ => ?_,fun h => by omega⟩
  rw [Int.toNat_natCast]
  have hb:=hk.2 _ (getD_mem (show i < s.length by omega))
  have hl:=hb.1
  refine ⟨by omega,by omega,fun _ => hs,fun k => ?_,fun k => ?_⟩
  ·rw [<- hq]
   congr 1
   unfold Sp.sOK
   rcases k with k | k
   ·rw [decide_eq_false (by omega),Bool.false_and,Bool.false_and]
   ·rw [(fnd_lt (by omega)).1 k,Bool.not_true,Bool.false_and,Bool.and_false,Bool.false_and]
  ·have k1:Sp.anyP (Sp.isN (s.getD i default).n) (s.take i) = false:=Bool.eq_false_iff.2 fun y => k (.inr ((fnd_lt (by omega)).2 y))
   have k2:¬((s.getD i default).n < 1 \/ (s.getD i default).n > 9999):=fun y => k (.inl y)
   have inner:∀ (c' j:Nat),j + c' = (s.getD i default).bl.length -> AV.bool (!(((s.getD i default).bl.drop j).any Sp.pMk) && (List.range' (i + 1) c).all (Sp.sOK s)) = dq -> tvPrc_at g l h s i (s.getD i default).n (s.getD i default).f (s.getD i default).bl j (PureQ dq):=by
    intro c'
    induction c' with
    | zero =>
     intro j hj hq
     rw [List.drop_eq_nil_of_le (by omega)] at hq
     exact tvPrc _ _ _ _ _ _ _ _ _ _ ⟨fun h => by omega,fun _ => ⟨by omega,ih (i + 1) (by omega) hq⟩⟩
    | succ c' ih' =>
     intro j hj hq
     rw [drop_getD (show j < (s.getD i default).bl.length by omega),List.any_cons] at hq
     refine tvPrc _ _ _ _ _ _ _ _ _ _ ⟨fun _ => ?_,fun h => by omega⟩
     rw [Int.toNat_natCast]
     refine ⟨(hb.2 _ (getD_mem (show j < (s.getD i default).bl.length by omega))).1,by omega,by omega,fun m => ?_,fun m => ⟨by omega,ih' (j + 1) (by omega) ?_⟩⟩
     ·rw [<- hq]
      congr 1
      have:Sp.pMk ((s.getD i default).bl.getD j default) = true:=by
       unfold Sp.pMk Sp.mkB
       rcases m with (m | m) | m <;> rw [m] <;> simp
      rw [this];rfl
     ·have:Sp.pMk ((s.getD i default).bl.getD j default) = false:=by
       unfold Sp.pMk Sp.mkB
       rw [Bool.eq_false_iff.2 fun y => m (.inr y),Bool.eq_false_iff.2 fun y => m (.inl (.inl y)),Bool.eq_false_iff.2 fun y => m (.inl (.inr y))];rfl
      rw [this,Bool.false_or] at hq
      exact hq
   refine inner (s.getD i default).bl.length 0 (by omega) ?_
   rw [<- hq,List.drop_zero]
   congr 1
   unfold Sp.sOK Sp.sMk Sp.anyP
   unfold Sp.anyP at k1
   rw [k1,decide_eq_true (show 1 <= (s.getD i default).n /\ (s.getD i default).n <= 9999 by omega),Bool.true_and,Bool.not_false,Bool.true_and]
theorem tvPra_loop {g h:Bool} {l:List Bk} {s:List Sb} {dq:AV} (hl:Sp.okBs l) (hk:Sp.okSs s):∀ (c i:Nat),i + c = l.length -> AV.bool ((List.range' i c).all (Sp.mOK l) && (List.range' 0 s.length).all (Sp.sOK s)) = dq -> tvPra_at g l h s i (PureQ dq):=by
 have hn:=hl.1
 intro c
 induction c with
 | zero =>
  intro i hi hq
  exact tvPra _ _ _ _ _ _ ⟨fun h => by omega,fun _ => tvPrb_loop hk s.length 0 (by omega) hq⟩
 | succ c ih =>
  intro i hi hq
  rw [List.range'_succ,List.all_cons] at hq
  refine tvPra _ _ _ _ _ _ ⟨fun _ => ?_,fun h => by omega⟩
  rw [Int.toNat_natCast]
  have hw:IntKind.i64.wrap ((l.length:Int) - 1) = (l.length:Int) - 1:=wI64 (by omega)
  have hb:((i:Int) == IntKind.i64.wrap ((l.length:Int) - 1)) = decide (i = l.length - 1):=by
   rw [hw,show ((i:Int) == (l.length:Int) - 1) = decide ((i:Int) = (l.length:Int) - 1) from rfl]
   exact decide_eq_decide.2 ⟨fun h => by omega,fun h => by omega⟩
  rw [hb]
  refine ⟨(hl.2 _ (getD_mem (show i < l.length by omega))).1,by omega,by omega,fun k => ?_,fun k => ⟨by omega,ih (i + 1) (by omega) ?_⟩⟩
  ·rw [<- hq]
   congr 1
   unfold Sp.mOK
   rcases k with (k | k) | k
   ·rw [k];rfl
   ·rw [k,Bool.not_true,Bool.false_and,Bool.and_false];rfl
   ·rw [show (Sp.endB (l.getD i default).ws == decide (i = l.length - 1)) = false from by rw [beq_eq_false_iff_ne];exact k,Bool.and_false,Bool.and_false];rfl
  ·rw [<- hq]
   congr 1
   unfold Sp.mOK
   have k3:Sp.endB (l.getD i default).ws = decide (i = l.length - 1):=Classical.byContradiction fun y => k (.inr y)
   rw [Bool.eq_false_iff.2 fun y => k (.inl (.inl y)),Bool.eq_false_iff.2 fun y => k (.inl (.inr y)),k3,beq_self_eq_true];rfl
theorem ev53 (g h:Bool) (l:List Bk) (s:List Sb) (hk:Sp.okBs l /\ Sp.okSs s):Ev M1 (.pure 53 [pgA g h l s]) (.bool (Sp.prpB l s)) []:=by
 rw [<- prpR_eq]
 refine call53 (tvPr _ _ _ _ _ ⟨fun k => ?_,fun k => ?_⟩)
 ·unfold Sp.prpR;rw [decide_eq_false (by omega),Bool.false_and]
 ·refine tvPra_loop hk.1 hk.2 l.length 0 (by omega) ?_
  unfold Sp.prpR;rw [decide_eq_true (by omega),Bool.true_and]
theorem ev76 (a b:Int) (h:Sp.okU a b):Ev M1 (.pure 76 [.int .i64 a,.int .i64 b]) (.int .i64 (Sp.sumC a b)) []:=
 call76 (tvSu a b _ ⟨by unfold Sp.okU at h;omega,rfl⟩)
theorem tvBla_loop {g h:Bool} {l:List Bk} {s:List Sb} {dq:AV} (hs:s.length <= 1000) (hk:∀ x ∈ s,x.bl.length <= 1000000):∀ (c i v:Nat) (o:List Bk),i + c = s.length -> o.length <= 1000000 * (i + 1) -> bsA false (o ++ (s.drop i).flatMap (·.bl)) = dq -> tvBla_at g l h s i o v (PureQ dq):=by
 intro c
 induction c with
 | zero =>
  intro i v o hi ho hq
  rw [List.drop_eq_nil_of_le (by omega),List.flatMap_nil,List.append_nil] at hq
  exact tvBla _ _ _ _ _ _ _ _ ⟨fun h => by omega,fun _ => by rw [<- hq];exact .refl _⟩
 | succ c ih =>
  intro i v o hi ho hq
  have hx:=hk _ (getD_mem (show i < s.length by omega))
  rw [drop_getD (show i < s.length by omega),List.flatMap_cons,<- List.append_assoc] at hq
  refine tvBla _ _ _ _ _ _ _ _ ⟨fun _ => ?_,fun h => by omega⟩
  rw [Int.toNat_natCast]
  exact ⟨by omega,by omega,by omega,by omega,ih (i + 1) (v + 1) _ (by omega) (by rw [List.length_append];omega) hq⟩
theorem ev54 (g h:Bool) (l:List Bk) (s:List Sb) (hk:0 < l.length /\ l.length <= 1000000 /\ s.length <= 1000 /\ ∀ x ∈ s,x.bl.length <= 1000000):Ev M1 (.pure 54 [pgA g h l s]) (bsA false (Sp.blks l s)) []:=by
 obtain ⟨h0,hl,hs,hk⟩:=hk
 refine call54 ?_
 match l,h0,hl with
 | y :: l,_,hl =>
  refine tvBl _ _ _ _ _ _ ⟨by simp at hl;omega,?_⟩
  exact tvBla_loop (l:=y :: l) hs hk s.length 0 0 (y :: l) (by omega) (by omega) (by rw [List.drop_zero];rfl)
end Go.Av

namespace Go.Av
open Go.Proofs
set_option maxRecDepth 100000
def fi55:Fi:=⟨65,[.tmp 8,.tmp 9,.tmp 10]⟩
def kp55:List (Nat × List Nat):=[(0,[1,2,3,4]),(1,[1,2,3,4,11,12]),(2,[1,2,3,4,11,12,13]),(3,[1,2,3,4,11,12,13,22]),(4,[1,2,3,4,11,12,13]),(5,[1,2,3,4,11,12,13,14,15,16]),(6,[1,2,3,4,11,12,13,14,15,36]),(7,[1,2,3,4,11,12,13]),(8,[1,2,3,4,11,12,13,15,18]),(9,[1,2,3,4,11,12,13,15,18,46]),(10,[8,9,10]),(11,[1,2,3,4,11,12,13,18]),(12,[1,2,3,4,11,12,13]),(13,[8,9,10])]
def tvMe_at (g:Bool) (l:List Bk) (h:Bool) (s:List Sb) (q:Bool) (b:List Bk) (fz fd:Bool) (z d:List Int) (Q:AV -> Heap -> Prop):Prop:=Wp M1 (.run fi55 (atC (cd Try.f55) []) [(0,.agg [.vec g 3 (l.map Bk.a),.vec h 2 (s.map Sb.a)]),(1,.vec q 3 (b.map Bk.a)),(2,.vec fz 1 (z.map (.int .i64))),(3,.vec fd 1 (d.map (.int .i64)))] []) Q
def tvMea_at (g:Bool) (l:List Bk) (h:Bool) (s:List Sb) (q:Bool) (b:List Bk) (fz fd:Bool) (z d:List Int) (a e i:Int) (Q:AV -> Heap -> Prop):Prop:=Wp M1 (.run fi55 (atC (cd Try.f55) [1,1,0,1,0,0]) [(1,.vec q 3 (b.map Bk.a)),(2,.vec fz 1 (z.map (.int .i64))),(3,.vec fd 1 (d.map (.int .i64))),(4,.ptr 0 0 0 0),(11,.int .i64 a),(12,.int .i64 e),(13,.int .i64 i)] [⟨[.agg [.vec g 3 (l.map Bk.a),.vec h 2 (s.map Sb.a)]],2,0,false,false⟩]) Q
theorem call55 {args:List AV} {d:AV} (h:wc M1 fi55 Try.f55 args d):Ev M1 (.pure 55 args) d []:=pcl _ _ (by kernel_rfl) h
theorem tvMe (g:Bool) (l:List Bk) (h:Bool) (s:List Sb) (q:Bool) (b:List Bk) (fz fd:Bool) (z d:List Int)  (dq:AV) (H :
  tvMea_at (g) (l) (h) (s) (q) (b) (fz) (fd) (z) (d) (0) (0) (0) (PureQ dq)) :
 tvMe_at g l h s q b fz fd z d (PureQ dq):=by
 unfold tvMe_at
 exact path_wp (G:=given kp55 [] []) 1000 [] ⟨(atC (cd Try.f55) [1,1,0,1,0,0]),[(1,AV.vec q 3 (List.map Bk.a b)),(2,AV.vec fz 1 (List.map (vi) z)),(3,AV.vec fd 1 (List.map (vi) d)),(4,AV.ptr 0 0 0 0),(11,vi 0),(12,vi 0),(13,vi 0)],[⟨[ag [AV.vec g 3 (List.map Bk.a l),AV.vec h 2 (List.map Sb.a s)]],2,0,false,false⟩],_,[],_⟩ (by kernel_rfl) b0 q0 c0 (H)
noncomputable abbrev zTpC1 (a:Int) (z:List Int) (s:List Sb) (b:List Bk) (i:Int):=Sp.sumC a (if z.getD (Sp.fnd s (Sp.cN (b.getD i.toNat default).3)).toNat default * Sp.cT (b.getD i.toNat default).3 < 20001 then z.getD (Sp.fnd s (Sp.cN (b.getD i.toNat default).3)).toNat default * Sp.cT (b.getD i.toNat default).3 else 20001)
noncomputable abbrev zTpC2 (z:List Int) (s:List Sb) (b:List Bk) (i:Int):=vi (z.getD (Sp.fnd s (Sp.cN (b.getD i.toNat default).3)).toNat default)
theorem tvMea (g:Bool) (l:List Bk) (h:Bool) (s:List Sb) (q:Bool) (b:List Bk) (fz fd:Bool) (z d:List Int) (a e i:Int)  (dq:AV) (H :
  ((i < (↑b.length:Int)) -> (Sp.okW (b.getD i.toNat default).3) /\
   (0 <= i) /\
   (i.toNat < b.length) /\
   ((¬(Sp.cIs (b.getD i.toNat default).3 = true)) -> (Sp.okU a 1) /\
    (-9223372036854775808 <= i + 1 /\ i + 1 <= 9223372036854775807) /\
    tvMea_at (g) (l) (h) (s) (q) (b) (fz) (fd) (z) (d) (Sp.sumC a 1) (e) (i + 1) (PureQ dq)) /\
   (¬(¬(Sp.cIs (b.getD i.toNat default).3 = true)) -> (s.length <= 1000000) /\
    (0 <= Sp.fnd s (Sp.cN (b.getD i.toNat default).3)) /\
    ((Sp.fnd s (Sp.cN (b.getD i.toNat default).3)).toNat < z.length) /\
    ((z.getD (Sp.fnd s (Sp.cN (b.getD i.toNat default).3)).toNat default < 0) -> tu [vi 0,vi 0,vb false] = dq) /\
    (¬(z.getD (Sp.fnd s (Sp.cN (b.getD i.toNat default).3)).toNat default < 0) -> (-9223372036854775808 <= z.getD (Sp.fnd s (Sp.cN (b.getD i.toNat default).3)).toNat default * Sp.cT (b.getD i.toNat default).3 /\ z.getD (Sp.fnd s (Sp.cN (b.getD i.toNat default).3)).toNat default * Sp.cT (b.getD i.toNat default).3 <= 9223372036854775807) /\
     (Sp.okU a (if z.getD (Sp.fnd s (Sp.cN (b.getD i.toNat default).3)).toNat default * Sp.cT (b.getD i.toNat default).3 < 20001 then z.getD (Sp.fnd s (Sp.cN (b.getD i.toNat default).3)).toNat default * Sp.cT (b.getD i.toNat default).3 else 20001)) /\
     ((Sp.fnd s (Sp.cN (b.getD i.toNat default).3)).toNat < d.length) /\
     (-9223372036854775808 <= d.getD (Sp.fnd s (Sp.cN (b.getD i.toNat default).3)).toNat default + 1 /\ d.getD (Sp.fnd s (Sp.cN (b.getD i.toNat default).3)).toNat default + 1 <= 9223372036854775807) /\
     (-9223372036854775808 <= i + 1 /\ i + 1 <= 9223372036854775807) /\
     tvMea_at (g) (l) (h) (s) (q) (b) (fz) (fd) (z) (d) (Sp.sumC a (if z.getD (Sp.fnd s (Sp.cN (b.getD i.toNat default).3)).toNat default * Sp.cT (b.getD i.toNat default).3 < 20001 then z.getD (Sp.fnd s (Sp.cN (b.getD i.toNat default).3)).toNat default * Sp.cT (b.getD i.toNat default).3 else 20001)) (if d.getD (Sp.fnd s (Sp.cN (b.getD i.toNat default).3)).toNat default + 1 > e then d.getD (Sp.fnd s (Sp.cN (b.getD i.toNat default).3)).toNat default + 1 else e) (i + 1) (PureQ dq)))) /\
  (¬(i < (↑b.length:Int)) -> tu [vi a,vi e,vb true] = dq)) :
 tvMea_at g l h s q b fz fd z d a e i (PureQ dq):=by
 unfold tvMea_at
 have w1:(List.map Bk.a b).length = b.length:=List.length_map ..
 have i2:(decide (i < (↑(List.map Bk.a b).length:Int))) = true ↔ (i < (↑b.length:Int)):=(by (try rw [w1]);all_goals exact i_dec)
 rcases xm (i < (↑b.length:Int)) with d3 | d3
 ·have H:=H.1 d3
  obtain ⟨k4,H⟩:=H
  obtain ⟨k6,H⟩:=H
  have i7:(decide (i.toNat < (List.map Bk.a b).length)) = true ↔ (i.toNat < b.length):=(by (try rw [w1]);all_goals exact i_dec)
  obtain ⟨k8,H⟩:=H
  refine path_wp (G:=given kp55 [(5,3,.elem (ag [vb (b.getD i.toNat default).1,AV.vec (b.getD i.toNat default).2 2 (List.map Wo.a (b.getD i.toNat default).3),AV.str (b.getD i.toNat default).4])),(5,4,.call (tu [vi (Sp.cN (b.getD i.toNat default).3),vi (Sp.cT (b.getD i.toNat default).3),vb (Sp.cIs (b.getD i.toNat default).3),vi (Sp.cE (b.getD i.toNat default).3)]) none)] []) 12 [true] ⟨(atC (cd Try.f55) [1,1,0,1,0,0,1,0,0,1,0,1]),[(1,AV.vec q 3 (List.map Bk.a b)),(2,AV.vec fz 1 (List.map (vi) z)),(3,AV.vec fd 1 (List.map (vi) d)),(4,AV.ptr 0 0 0 0),(11,vi a),(12,vi e),(13,vi i),(14,vi (Sp.cN (b.getD i.toNat default).3)),(15,vi (Sp.cT (b.getD i.toNat default).3)),(36,vb !Sp.cIs (b.getD i.toNat default).3)],[⟨[ag [AV.vec g 3 (List.map Bk.a l),AV.vec h 2 (List.map Sb.a s)]],2,0,false,false⟩],_,[((List.map Bk.a b).get?Internal i.toNat = some (ag [vb (b.getD i.toNat default).1,AV.vec (b.getD i.toNat default).2 2 (List.map Wo.a (b.getD i.toNat default).3),AV.str (b.getD i.toNat default).4]))],_⟩ (by kernel_rfl) (bc (beq_t (i2.2 d3)) (bc (i_dec.2 k6) (bc (i7.2 k8) b0))) (qc (el_map k8) q0) (ce (@ev14 ((b.getD i.toNat default).1) ((b.getD i.toNat default).2) ((b.getD i.toNat default).3) ((b.getD i.toNat default).4) k4) c0) ?_
  rcases xm (¬(Sp.cIs (b.getD i.toNat default).3 = true)) with d10 | d10
  ·have H:=H.1 d10
   obtain ⟨k11,H⟩:=H
   obtain ⟨k12,H⟩:=H
   have w13:wi (i + 1) = i + 1:=wI64 k12
   exact path_wp (G:=given kp55 [(7,1,.call (vi (Sp.sumC a 1)) none)] []) 1000 [true] ⟨(atC (cd Try.f55) [1,1,0,1,0,0]),[(1,AV.vec q 3 (List.map Bk.a b)),(2,AV.vec fz 1 (List.map (vi) z)),(3,AV.vec fd 1 (List.map (vi) d)),(4,AV.ptr 0 0 0 0),(11,vi (Sp.sumC a 1)),(12,vi e),(13,vi (wi (i + 1)))],[⟨[ag [AV.vec g 3 (List.map Bk.a l),AV.vec h 2 (List.map Sb.a s)]],2,0,false,false⟩],[(!Sp.cIs (b.getD i.toNat default).3) == true],[],_⟩ (by kernel_rfl) (bc (beq_t ((i_not (i_var _)).2 d10)) b0) q0 (ce (@ev76 (a) (1) k11) c0) (by (try rw [w13]);all_goals exact H)
  ·have H:=H.2 d10
   obtain ⟨k14,H⟩:=H
   obtain ⟨k16,H⟩:=H
   have w17:(List.map (vi) z).length = z.length:=List.length_map ..
   have i18:(decide ((Sp.fnd s (Sp.cN (b.getD i.toNat default).3)).toNat < (List.map (vi) z).length)) = true ↔ ((Sp.fnd s (Sp.cN (b.getD i.toNat default).3)).toNat < z.length):=(by (try rw [w17]);all_goals exact i_dec)
   obtain ⟨k19,H⟩:=H
   refine path_wp (G:=given kp55 [(8,2,.call (vi (Sp.fnd s (Sp.cN (b.getD i.toNat default).3))) none),(9,3,.elem (zTpC2 z s b i))] []) 7 [false] ⟨(atC (cd Try.f55) [1,1,0,1,0,0,1,0,0,1,1,1,0,1]),[(1,AV.vec q 3 (List.map Bk.a b)),(2,AV.vec fz 1 (List.map (vi) z)),(3,AV.vec fd 1 (List.map (vi) d)),(4,AV.ptr 0 0 0 0),(11,vi a),(12,vi e),(13,vi i),(15,vi (Sp.cT (b.getD i.toNat default).3)),(18,vi (Sp.fnd s (Sp.cN (b.getD i.toNat default).3))),(46,vb (decide (z.getD (Sp.fnd s (Sp.cN (b.getD i.toNat default).3)).toNat default < 0)))],[⟨[ag [AV.vec g 3 (List.map Bk.a l),AV.vec h 2 (List.map Sb.a s)]],2,0,false,false⟩],[(!Sp.cIs (b.getD i.toNat default).3) == false,true,decide (0 <= Sp.fnd s (Sp.cN (b.getD i.toNat default).3)),decide ((Sp.fnd s (Sp.cN (b.getD i.toNat default).3)).toNat < (List.map (vi) z).length)],[((List.map (vi) z).get?Internal (Sp.fnd s (Sp.cN (b.getD i.toNat default).3)).toNat = some (zTpC2 z s b i))],_⟩ (by kernel_rfl) (bc (beq_f (fun h => d10 ((i_not (i_var _)).1 h))) (bc rfl (bc (i_dec.2 k16) (bc (i18.2 k19) b0)))) (qc (el_map k19) q0) (ce (@ev19 (g) (h) (l) (s) (Sp.cN (b.getD i.toNat default).3) k14) c0) ?_
   rcases xm (z.getD (Sp.fnd s (Sp.cN (b.getD i.toNat default).3)).toNat default < 0) with d21 | d21
   ·have H:=H.1 d21
    exact path_re (G:=given kp55 [] []) 1000 [true] (tu [vi 0,vi 0,vb false]) (by kernel_rfl) (bc (beq_t (i_dec.2 d21)) b0) q0 c0 H
   ·have H:=H.2 d21
    obtain ⟨k22,H⟩:=H
    have w23:wi (z.getD (Sp.fnd s (Sp.cN (b.getD i.toNat default).3)).toNat default * Sp.cT (b.getD i.toNat default).3) = z.getD (Sp.fnd s (Sp.cN (b.getD i.toNat default).3)).toNat default * Sp.cT (b.getD i.toNat default).3:=wI64 k22
    obtain ⟨k24,H⟩:=H
    have i26:(decide ((Sp.fnd s (Sp.cN (b.getD i.toNat default).3)).toNat < (List.map (vi) z).length)) = true ↔ ((Sp.fnd s (Sp.cN (b.getD i.toNat default).3)).toNat < z.length):=(by (try rw [w17]);all_goals exact i_dec)
    have w28:(List.map (vi) d).length = d.length:=List.length_map ..
    have i29:(decide ((Sp.fnd s (Sp.cN (b.getD i.toNat default).3)).toNat < (List.map (vi) d).length)) = true ↔ ((Sp.fnd s (Sp.cN (b.getD i.toNat default).3)).toNat < d.length):=(by (try rw [w28]);all_goals exact i_dec)
    obtain ⟨k30,H⟩:=H
    obtain ⟨k31,H⟩:=H
    have w32:wi (d.getD (Sp.fnd s (Sp.cN (b.getD i.toNat default).3)).toNat default + 1) = d.getD (Sp.fnd s (Sp.cN (b.getD i.toNat default).3)).toNat default + 1:=wI64 k31
    obtain ⟨k33,H⟩:=H
    have w34:wi (i + 1) = i + 1:=wI64 k33
    exact path_wp (G:=given kp55 [(11,4,.elem (zTpC2 z s b i)),(11,8,.call (vi (zTpC1 a z s b i)) none),(12,4,.elem (vi (d.getD (Sp.fnd s (Sp.cN (b.getD i.toNat default).3)).toNat default)))] []) 1000 [false] ⟨(atC (cd Try.f55) [1,1,0,1,0,0]),[(1,AV.vec q 3 (List.map Bk.a b)),(2,AV.vec fz 1 (List.map (vi) z)),(3,AV.vec fd 1 (List.map (vi) d)),(4,AV.ptr 0 0 0 0),(11,vi (zTpC1 a z s b i)),(12,vi (if wi (d.getD (Sp.fnd s (Sp.cN (b.getD i.toNat default).3)).toNat default + 1) > e then wi (d.getD (Sp.fnd s (Sp.cN (b.getD i.toNat default).3)).toNat default + 1) else e)),(13,vi (wi (i + 1)))],[⟨[ag [AV.vec g 3 (List.map Bk.a l),AV.vec h 2 (List.map Sb.a s)]],2,0,false,false⟩],_,[((List.map (vi) z).get?Internal (Sp.fnd s (Sp.cN (b.getD i.toNat default).3)).toNat = some (zTpC2 z s b i)),((List.map (vi) d).get?Internal (Sp.fnd s (Sp.cN (b.getD i.toNat default).3)).toNat = some (vi (d.getD (Sp.fnd s (Sp.cN (b.getD i.toNat default).3)).toNat default)))],[pc 76 [vi a,vi (if wi (z.getD (Sp.fnd s (Sp.cN (b.getD i.toNat default).3)).toNat default * Sp.cT (b.getD i.toNat default).3) < 20001 then wi (z.getD (Sp.fnd s (Sp.cN (b.getD i.toNat default).3)).toNat default * Sp.cT (b.getD i.toNat default).3) else 20001)] (vi (zTpC1 a z s b i))]⟩ (by kernel_rfl) (bc (beq_f (fun h => d21 (i_dec.1 h))) (bc (i_dec.2 k16) (bc (i26.2 k19) (bc (i_dec.2 k16) (bc (i29.2 k30) b0))))) (qc (el_map k19) (qc (el_map k30) q0)) (ce (by (try rw [w23]);all_goals exact (@ev76 (a) (if z.getD (Sp.fnd s (Sp.cN (b.getD i.toNat default).3)).toNat default * Sp.cT (b.getD i.toNat default).3 < 20001 then z.getD (Sp.fnd s (Sp.cN (b.getD i.toNat default).3)).toNat default * Sp.cT (b.getD i.toNat default).3 else 20001) k24)) c0) (by (try rw [w32]);(try rw [w34]);all_goals exact H)
 ·have H:=H.2 d3
  exact path_re (G:=given kp55 [] []) 1000 [false] (tu [vi a,vi e,vb true]) (by kernel_rfl) (bc (beq_f (fun h => d3 (i2.1 h))) b0) q0 c0 H
end Go.Av

namespace Go.Av
open Go.Proofs
namespace Sp
def cap (x:Int):Int:=if x < 20001 then x else 20001
def mx (a b:Int):Int:=if a > b then a else b
def at' (s:List Sb) (x:Bk):Nat:=(fnd s (cN x.ws)).toNat
def meaR (s:List Sb) (z d:List Int):List Bk -> Int -> Int -> Int × Int × Bool
 | [],a,e => (a,e,true)
 | x :: r,a,e =>
  if cIs x.ws = true then
   (if z.getD (at' s x) default < 0 then (0,0,false) else meaR s z d r (sumC a (cap (z.getD (at' s x) default * cT x.ws))) (mx (d.getD (at' s x) default + 1) e))
  else meaR s z d r (sumC a 1) e
def found (s:List Sb) (b:List Bk):Prop:=∀ x ∈ b,cIs x.ws = true -> 0 <= fnd s (cN x.ws)
def okZ (z d:List Int) (n:Nat):Prop:=z.length = n /\ d.length = n /\ (∀ x ∈ z,-1 <= x /\ x <= 20001) /\ ∀ x ∈ d,0 <= x /\ x <= 1000000
def okM (s:List Sb) (b:List Bk) (z d:List Int):Prop:=s.length <= 1000000 /\ okBs b /\ found s b /\ okZ z d s.length
end Sp
theorem lastD_mem:∀ (l:List Int) (d:Int),Sp.lastD l d = d \/ Sp.lastD l d ∈ l:=by
 intro l
 unfold Sp.lastD
 induction l with
 | nil => intro d;exact .inl rfl
 | cons x l ih =>
  intro d
  rw [List.foldl_cons]
  rcases ih x with h | h
  ·right;rw [h];exact List.mem_cons_self
  ·right;exact List.mem_cons_of_mem _ h
theorem whB_rng {x:Int} (h:Sp.whB x = true):1 <= Sp.whV x /\ Sp.whV x <= 9999:=by
 unfold Sp.whB at h
 exact (of_decide_eq_true h).2
theorem codes_mem {ws:List Wo} {c x:Int} (h:x ∈ Sp.codes ws c):∃ w ∈ ws,w.l = c /\ w.v = x:=by
 unfold Sp.codes at h
 obtain ⟨w,h1,h2⟩:=List.mem_map.1 h
 obtain ⟨h3,h4⟩:=List.mem_filter.1 h1
 exact ⟨w,h3,of_decide_eq_true h4,h2⟩
theorem cIs_at {ws:List Wo} (h:Sp.cIs ws = true):(1 <= Sp.cT ws /\ Sp.cT ws <= 9999) /\ (1 <= Sp.cN ws /\ Sp.cN ws <= 9999):=by
 unfold Sp.cT Sp.cN
 rw [if_pos h,if_pos h]
 unfold Sp.cIs Sp.okC at h
 simp only [Bool.and_eq_true] at h
 obtain ⟨_,h1,h2⟩:=h
 have h2:=of_decide_eq_true h2
 rw [List.all_eq_true] at h1
 have key:∀ (c d:Int),(c = 80 \/ c = 76) -> Sp.whB d = true \/ 0 < (Sp.codes ws c).length -> 1 <= Sp.whV (Sp.lastD (Sp.codes ws c) d) /\ Sp.whV (Sp.lastD (Sp.codes ws c) d) <= 9999:=by
  intro c d hc hd
  have inl:Sp.lastD (Sp.codes ws c) d ∈ Sp.codes ws c -> 1 <= Sp.whV (Sp.lastD (Sp.codes ws c) d) /\ Sp.whV (Sp.lastD (Sp.codes ws c) d) <= 9999:=fun hm => by
   obtain ⟨w,k1,k2,k3⟩:=codes_mem hm
   have:=h1 w k1
   unfold Sp.okL at this
   rw [if_pos (by rw [k2];exact hc),k3] at this
   exact whB_rng this
  rcases hd with hd | hd
  ·rcases lastD_mem (Sp.codes ws c) d with e | e
   ·rw [e];exact whB_rng hd
   ·exact inl e
  ·match hl:Sp.codes ws c,hd with
   | x :: r,_ =>
    rw [hl] at inl
    refine inl ?_
    unfold Sp.lastD
    rw [List.foldl_cons]
    rcases lastD_mem r x with e | e
    ·unfold Sp.lastD at e;rw [e];exact List.mem_cons_self
    ·unfold Sp.lastD at e;exact List.mem_cons_of_mem _ e
 refine ⟨key 76 1000 (.inr rfl) (.inl (by decide)),key 80 0 (.inl rfl) (.inr ?_)⟩
 have:=h2.2.1
 unfold Sp.cnt at this
 omega
theorem fnd_len (s:List Sb) (m:Int):Sp.fnd s m < s.length:=by
 unfold Sp.fnd Sp.idxP
 rcases idxF_ge (Sp.isN m) s 0 (by omega) with ⟨h,_⟩ | ⟨_,h,_⟩ <;> omega
theorem at_len {s:List Sb} {x:Bk} (h:0 <= Sp.fnd s (Sp.cN x.ws)):Sp.at' s x < s.length:=by
 have:=fnd_len s (Sp.cN x.ws)
 unfold Sp.at'
 omega
theorem cap_le (x:Int):Sp.cap x <= 20001:=by unfold Sp.cap;split <;> omega
theorem cap_ge {x:Int} (h:0 <= x):0 <= Sp.cap x:=by unfold Sp.cap;split <;> omega
theorem sumC_eq (a b:Int):Sp.sumC a b = Sp.cap (a + b):=rfl
theorem mul_rng {x t:Int} (h1:0 <= x) (h2:x <= 20001) (h3:1 <= t) (h4:t <= 9999):0 <= x * t /\ x * t <= 200000000:=by
 have h5:0 <= x * t:=Int.mul_nonneg h1 (by omega)
 have h6:x * t <= 20001 * 9999:=Int.mul_le_mul h2 h4 (by omega) (by omega)
 omega
theorem tvMea_loop {g h q fz fd:Bool} {l b:List Bk} {s:List Sb} {z d:List Int} {dq:AV} (hk:Sp.okM s b z d):∀ (c i:Nat) (a e:Int),i + c = b.length -> 0 <= a -> a <= 20001 -> (∀ r,r = Sp.meaR s z d (b.drop i) a e -> AV.tup [.int .i64 r.1,.int .i64 r.2.1,.bool r.2.2] = dq) -> tvMea_at g l h s q b fz fd z d a e i (PureQ dq):=by
 obtain ⟨hs,hb,hf,hz1,hd1,hz,hd⟩:=hk
 have hbl:=hb.1
 intro c
 induction c with
 | zero =>
  intro i a e hi _ _ hq
  rw [List.drop_eq_nil_of_le (by omega)] at hq
  exact tvMea _ _ _ _ _ _ _ _ _ _ _ _ _ _ ⟨fun h => by omega,fun _ => hq _ rfl⟩
 | succ c ih =>
  intro i a e hi ha1 ha2 hq
  rw [drop_getD (show i < b.length by omega),Sp.meaR] at hq
  have hm:=getD_mem (show i < b.length by omega)
  refine tvMea _ _ _ _ _ _ _ _ _ _ _ _ _ _ ⟨fun _ => ?_,fun h => by omega⟩
  rw [Int.toNat_natCast]
  refine ⟨hb.2 _ hm,by omega,by omega,fun k => ?_,fun k => ?_⟩
  ·rw [if_neg k] at hq
   refine ⟨⟨ha1,ha2,by omega,by omega⟩,by omega,ih (i + 1) _ _ (by omega) ?_ ?_ hq⟩
   ·rw [sumC_eq];exact cap_ge (by omega)
   ·rw [sumC_eq];exact cap_le _
  ·have k1:=Classical.not_not.1 k
   rw [if_pos k1] at hq
   have hfn:=hf _ hm k1
   have hat:=at_len hfn
   have hct:=(cIs_at k1).1
   unfold Sp.at' at hq hat
   have hzm:=hz _ (getD_mem (show (Sp.fnd s (Sp.cN (b.getD i default).ws)).toNat < z.length by omega))
   have hdm:=hd _ (getD_mem (show (Sp.fnd s (Sp.cN (b.getD i default).ws)).toNat < d.length by omega))
   refine ⟨hs,hfn,by omega,fun k2 => ?_,fun k2 => ?_⟩
   ·rw [if_pos k2] at hq;exact hq _ rfl
   ·rw [if_neg k2] at hq
    have hr:=mul_rng (show 0 <= z.getD (Sp.fnd s (Sp.cN (b.getD i default).ws)).toNat default by omega) hzm.2 hct.1 hct.2
    refine ⟨by omega,⟨ha1,ha2,cap_ge hr.1,cap_le _⟩,by omega,by omega,by omega,ih (i + 1) _ _ (by omega) ?_ ?_ hq⟩
    ·rw [sumC_eq];exact cap_ge (by have:=cap_ge hr.1;unfold Sp.cap at this;omega)
    ·rw [sumC_eq];exact cap_le _
theorem ev55 (g h q fz fd:Bool) (l b:List Bk) (s:List Sb) (z d:List Int) (hk:Sp.okM s b z d):Ev M1 (.pure 55 [pgA g h l s,bsA q b,.vec fz 1 (z.map (.int .i64)),.vec fd 1 (d.map (.int .i64))]) (.tup [.int .i64 (Sp.meaR s z d b 0 0).1,.int .i64 (Sp.meaR s z d b 0 0).2.1,.bool (Sp.meaR s z d b 0 0).2.2]) []:=
 call55 (tvMe _ _ _ _ _ _ _ _ _ _ _ (tvMea_loop hk b.length 0 0 0 (by omega) (by omega) (by omega) (fun r hr => by rw [hr,List.drop_zero])))
end Go.Av

namespace Go.Av
open Go.Proofs
set_option maxRecDepth 100000
def fi26:Fi:=⟨155,[.tmp 2,.tmp 3]⟩
def kp26:List (Nat × List Nat):=[(0,[1]),(1,[1,29]),(2,[2,3]),(3,[1,4]),(4,[1,4,5]),(5,[1,4,5,35]),(6,[1,4,5]),(7,[1,4,5,9]),(8,[1,4,5,49]),(9,[2,3]),(10,[1,4,10]),(11,[1,4,10,53]),(12,[1,4,10]),(13,[1,4,10,11,13]),(14,[1,4,10,72]),(15,[2,3]),(16,[1,15,16]),(17,[1,15,16,17]),(18,[1,15,16,17,84]),(19,[1,15,16,17]),(20,[1,15,16,17]),(21,[1,15,16,18]),(22,[1,15,16,18,94]),(23,[1,15,16,18]),(24,[1,15,16,18,19]),(25,[1,15,16,18,19,101]),(26,[1,15,16,18,19]),(27,[1,15,16,18,19,20,21,22]),(28,[1,15,16,18,19,20,21,118]),(29,[1,15,16,18,19]),(30,[1,15,16,23]),(31,[1,15,16,23,130]),(32,[1,15,16,23]),(33,[1,15,16,23,137]),(34,[2,3]),(35,[24,25]),(36,[24,153]),(37,[2,3]),(38,[2,3])]
def tvCk_at (g:Bool) (l:List Bk) (h:Bool) (s:List Sb) (Q:AV -> Heap -> Prop):Prop:=Wp M1 (.run fi26 (atC (cd Try.f26) []) [(0,.agg [.vec g 3 (l.map Bk.a),.vec h 2 (s.map Sb.a)])] []) Q
def tvCka_at (g:Bool) (l:List Bk) (h:Bool) (s:List Sb) (o:List Bk) (i:Int) (Q:AV -> Heap -> Prop):Prop:=Wp M1 (.run fi26 (atC (cd Try.f26) [1,1,1,0,1,0,0]) [(1,.ptr 0 0 0 0),(4,.vec false 3 (o.map Bk.a)),(5,.int .i64 i)] [⟨[.agg [.vec g 3 (l.map Bk.a),.vec h 2 (s.map Sb.a)]],2,0,false,false⟩]) Q
def tvCkb_at (g:Bool) (l:List Bk) (h:Bool) (s:List Sb) (o:List Bk) (i:Int) (Q:AV -> Heap -> Prop):Prop:=Wp M1 (.run fi26 (atC (cd Try.f26) [1,1,1,1,0,1,0,0]) [(1,.ptr 0 0 0 0),(4,.vec false 3 (o.map Bk.a)),(10,.int .i64 i)] [⟨[.agg [.vec g 3 (l.map Bk.a),.vec h 2 (s.map Sb.a)]],2,0,false,false⟩]) Q
def tvCkg_at (g:Bool) (l:List Bk) (h:Bool) (s:List Sb) (z d:List Int) (zv dv:Nat) (Q:AV -> Heap -> Prop):Prop:=Wp M1 (.run fi26 (atC (cd Try.f26) [1,1,1,1,1,1,0,0]) [(1,.ptr 0 0 0 0),(15,.row 1 zv),(16,.row 2 dv)] [⟨[.agg [.vec g 3 (l.map Bk.a),.vec h 2 (s.map Sb.a)]],2,0,false,false⟩,⟨z.map (.int .i64),1,zv,false,true⟩,⟨d.map (.int .i64),1,dv,false,true⟩]) Q
def tvCkc_at (g:Bool) (l:List Bk) (h:Bool) (s:List Sb) (z d:List Int) (zv dv:Nat) (i:Int) (Q:AV -> Heap -> Prop):Prop:=Wp M1 (.run fi26 (atC (cd Try.f26) [1,1,1,1,1,1,0,1,0,0]) [(1,.ptr 0 0 0 0),(15,.row 1 zv),(16,.row 2 dv),(17,.int .i64 i)] [⟨[.agg [.vec g 3 (l.map Bk.a),.vec h 2 (s.map Sb.a)]],2,0,false,false⟩,⟨z.map (.int .i64),1,zv,false,true⟩,⟨d.map (.int .i64),1,dv,false,true⟩]) Q
def tvCkd_at (g:Bool) (l:List Bk) (h:Bool) (s:List Sb) (z d:List Int) (zv dv:Nat) (r:Int) (Q:AV -> Heap -> Prop):Prop:=Wp M1 (.run fi26 (atC (cd Try.f26) [1,1,1,1,1,1,1,0,1,0,0]) [(1,.ptr 0 0 0 0),(15,.row 1 zv),(16,.row 2 dv),(18,.int .i64 r)] [⟨[.agg [.vec g 3 (l.map Bk.a),.vec h 2 (s.map Sb.a)]],2,0,false,false⟩,⟨z.map (.int .i64),1,zv,false,true⟩,⟨d.map (.int .i64),1,dv,false,true⟩]) Q
def tvCke_at (g:Bool) (l:List Bk) (h:Bool) (s:List Sb) (z d:List Int) (zv dv:Nat) (r i:Int) (Q:AV -> Heap -> Prop):Prop:=Wp M1 (.run fi26 (atC (cd Try.f26) [1,1,1,1,1,1,1,0,1,0,0,1,0,0,1,0,0]) [(1,.ptr 0 0 0 0),(15,.row 1 zv),(16,.row 2 dv),(18,.int .i64 r),(19,.int .i64 i)] [⟨[.agg [.vec g 3 (l.map Bk.a),.vec h 2 (s.map Sb.a)]],2,0,false,false⟩,⟨z.map (.int .i64),1,zv,false,true⟩,⟨d.map (.int .i64),1,dv,false,true⟩]) Q
def tvCkf_at (g:Bool) (l:List Bk) (h:Bool) (s:List Sb) (z d:List Int) (zv dv:Nat) (i:Int) (Q:AV -> Heap -> Prop):Prop:=Wp M1 (.run fi26 (atC (cd Try.f26) [1,1,1,1,1,1,1,1,0,1,0,0]) [(1,.ptr 0 0 0 0),(15,.row 1 zv),(16,.row 2 dv),(23,.int .i64 i)] [⟨[.agg [.vec g 3 (l.map Bk.a),.vec h 2 (s.map Sb.a)]],2,0,false,false⟩,⟨z.map (.int .i64),1,zv,false,true⟩,⟨d.map (.int .i64),1,dv,false,true⟩]) Q
theorem call26 {args:List AV} {d:AV} (h:wc M1 fi26 Try.f26 args d):Ev M1 (.pure 26 args) d []:=pcl _ _ (by kernel_rfl) h
theorem tvCk (g:Bool) (l:List Bk) (h:Bool) (s:List Sb)  (dq:AV) (H :
  (Sp.okBs l /\ Sp.okSs s) /\
  ((¬(Sp.prpB l s = true)) -> tu [vi 0,vi 1] = dq) /\
  (¬(¬(Sp.prpB l s = true)) -> (0 < l.length /\ l.length <= 1000000 /\ s.length <= 1000 /\ ∀ (x:Sb),x ∈ s -> x.bl.length <= 1000000) /\
   tvCka_at (g) (l) (h) (s) (Sp.blks l s) (0) (PureQ dq))) :
 tvCk_at g l h s (PureQ dq):=by
 unfold tvCk_at
 obtain ⟨k1,H⟩:=H
 refine path_wp (G:=given kp26 [(1,1,.call (vb (Sp.prpB l s)) none)] []) 5 [] ⟨(atC (cd Try.f26) [1,0,1]),[(1,AV.ptr 0 0 0 0),(29,vb !Sp.prpB l s)],[⟨[ag [AV.vec g 3 (List.map Bk.a l),AV.vec h 2 (List.map Sb.a s)]],2,0,false,false⟩],_,[],_⟩ (by kernel_rfl) (bc rfl b0) q0 (ce (@ev53 (g) (h) (l) (s) k1) c0) ?_
 rcases xm (¬(Sp.prpB l s = true)) with d3 | d3
 ·have H:=H.1 d3
  exact path_re (G:=given kp26 [] []) 1000 [true] (asm:=[(!Sp.prpB l s) == true]) (tu [vi 0,vi 1]) (by kernel_rfl) (bc (beq_t ((i_not (i_var _)).2 d3)) b0) q0 c0 H
 ·have H:=H.2 d3
  obtain ⟨k4,H⟩:=H
  exact path_wp (G:=given kp26 [(3,1,.call (AV.vec false 3 (List.map Bk.a (Sp.blks l s))) none)] []) 1000 [false] ⟨(atC (cd Try.f26) [1,1,1,0,1,0,0]),[(1,AV.ptr 0 0 0 0),(4,AV.vec false 3 (List.map Bk.a (Sp.blks l s))),(5,vi 0)],[⟨[ag [AV.vec g 3 (List.map Bk.a l),AV.vec h 2 (List.map Sb.a s)]],2,0,false,false⟩],[(!Sp.prpB l s) == false,true],[],_⟩ (by kernel_rfl) (bc (beq_f (fun h => d3 ((i_not (i_var _)).1 h))) (bc rfl b0)) q0 (ce (@ev54 (g) (h) (l) (s) k4) c0) (H)
theorem tvCka (g:Bool) (l:List Bk) (h:Bool) (s:List Sb) (o:List Bk) (i:Int)  (dq:AV) (H :
  ((i < (↑o.length:Int)) -> (Sp.okW (o.getD i.toNat default).3) /\
   (0 <= i) /\
   (i.toNat < o.length) /\
   ((¬Sp.cE (o.getD i.toNat default).3 = 0) -> tu [vi 0,vi 1] = dq) /\
   (¬(¬Sp.cE (o.getD i.toNat default).3 = 0) -> (-9223372036854775808 <= i + 1 /\ i + 1 <= 9223372036854775807) /\
    tvCka_at (g) (l) (h) (s) (o) (i + 1) (PureQ dq))) /\
  (¬(i < (↑o.length:Int)) -> tvCkb_at (g) (l) (h) (s) (o) (0) (PureQ dq))) :
 tvCka_at g l h s o i (PureQ dq):=by
 unfold tvCka_at
 have w1:(List.map Bk.a o).length = o.length:=List.length_map ..
 have i2:(decide (i < (↑(List.map Bk.a o).length:Int))) = true ↔ (i < (↑o.length:Int)):=(by (try rw [w1]);all_goals exact i_dec)
 rcases xm (i < (↑o.length:Int)) with d3 | d3
 ·have H:=H.1 d3
  obtain ⟨k4,H⟩:=H
  obtain ⟨k6,H⟩:=H
  have i7:(decide (i.toNat < (List.map Bk.a o).length)) = true ↔ (i.toNat < o.length):=(by (try rw [w1]);all_goals exact i_dec)
  obtain ⟨k8,H⟩:=H
  refine path_wp (G:=given kp26 [(7,3,.elem (ag [vb (o.getD i.toNat default).1,AV.vec (o.getD i.toNat default).2 2 (List.map Wo.a (o.getD i.toNat default).3),AV.str (o.getD i.toNat default).4])),(7,4,.call (tu [vi (Sp.cN (o.getD i.toNat default).3),vi (Sp.cT (o.getD i.toNat default).3),vb (Sp.cIs (o.getD i.toNat default).3),vi (Sp.cE (o.getD i.toNat default).3)]) none)] []) 11 [true] ⟨(atC (cd Try.f26) [1,1,1,0,1,0,0,1,0,0,1,1]),[(1,AV.ptr 0 0 0 0),(4,AV.vec false 3 (List.map Bk.a o)),(5,vi i),(49,vb (Sp.cE (o.getD i.toNat default).3 != 0))],[⟨[ag [AV.vec g 3 (List.map Bk.a l),AV.vec h 2 (List.map Sb.a s)]],2,0,false,false⟩],_,[((List.map Bk.a o).get?Internal i.toNat = some (ag [vb (o.getD i.toNat default).1,AV.vec (o.getD i.toNat default).2 2 (List.map Wo.a (o.getD i.toNat default).3),AV.str (o.getD i.toNat default).4]))],_⟩ (by kernel_rfl) (bc (beq_t (i2.2 d3)) (bc (i_dec.2 k6) (bc (i7.2 k8) b0))) (qc (el_map k8) q0) (ce (@ev14 ((o.getD i.toNat default).1) ((o.getD i.toNat default).2) ((o.getD i.toNat default).3) ((o.getD i.toNat default).4) k4) c0) ?_
  rcases xm (¬Sp.cE (o.getD i.toNat default).3 = 0) with d10 | d10
  ·have H:=H.1 d10
   exact path_re (G:=given kp26 [] []) 1000 [true] (tu [vi 0,vi 1]) (by kernel_rfl) (bc (beq_t (i_ne.2 d10)) b0) q0 c0 H
  ·have H:=H.2 d10
   obtain ⟨k11,H⟩:=H
   have w12:wi (i + 1) = i + 1:=wI64 k11
   exact path_wp (G:=given kp26 [] []) 1000 [false] ⟨(atC (cd Try.f26) [1,1,1,0,1,0,0]),[(1,AV.ptr 0 0 0 0),(4,AV.vec false 3 (List.map Bk.a o)),(5,vi (wi (i + 1)))],[⟨[ag [AV.vec g 3 (List.map Bk.a l),AV.vec h 2 (List.map Sb.a s)]],2,0,false,false⟩],_,[],_⟩ (by kernel_rfl) (bc (beq_f (fun h => d10 (i_ne.1 h))) b0) q0 c0 (by (try rw [w12]);all_goals exact H)
 ·have H:=H.2 d3
  exact path_wp (G:=given kp26 [] []) 1000 [false] ⟨(atC (cd Try.f26) [1,1,1,1,0,1,0,0]),[(1,AV.ptr 0 0 0 0),(4,AV.vec false 3 (List.map Bk.a o)),(10,vi 0)],[⟨[ag [AV.vec g 3 (List.map Bk.a l),AV.vec h 2 (List.map Sb.a s)]],2,0,false,false⟩],_,[],_⟩ (by kernel_rfl) (bc (beq_f (fun h => d3 (i2.1 h))) b0) q0 c0 (H)
noncomputable abbrev zTpD1 (o:List Bk) (i:Int):=tu [vi (Sp.cN (o.getD i.toNat default).3),vi (Sp.cT (o.getD i.toNat default).3),vb (Sp.cIs (o.getD i.toNat default).3),vi (Sp.cE (o.getD i.toNat default).3)]
noncomputable abbrev zTpD2 (o:List Bk) (i:Int) (s:List Sb):=bif Sp.cIs (o.getD i.toNat default).3 then decide (Sp.fnd s (Sp.cN (o.getD i.toNat default).3) < 0) else false
theorem tvCkb (g:Bool) (l:List Bk) (h:Bool) (s:List Sb) (o:List Bk) (i:Int)  (dq:AV) (H :
  ((i < (↑o.length:Int)) -> (Sp.okW (o.getD i.toNat default).3) /\
   (0 <= i) /\
   (i.toNat < o.length) /\
   ((Sp.cIs (o.getD i.toNat default).3 = true) -> (s.length <= 1000000)) /\
   (((Sp.cIs (o.getD i.toNat default).3 = true) /\ (Sp.fnd s (Sp.cN (o.getD i.toNat default).3) < 0)) -> tu [vi 0,vi 4] = dq) /\
   (¬((Sp.cIs (o.getD i.toNat default).3 = true) /\ (Sp.fnd s (Sp.cN (o.getD i.toNat default).3) < 0)) -> (-9223372036854775808 <= i + 1 /\ i + 1 <= 9223372036854775807) /\
    tvCkb_at (g) (l) (h) (s) (o) (i + 1) (PureQ dq))) /\
  (¬(i < (↑o.length:Int)) -> Wp M1 (.run fi26 (atC (cd Try.f26) [1,1,1,1,1,0]) [(1,AV.ptr 0 0 0 0),(4,AV.vec false 3 (List.map Bk.a o)),(10,vi i),(53,vb (decide (i < (↑o.length:Int))))] [{ elems:=[ag [AV.vec g 3 (List.map Bk.a l),AV.vec h 2 (List.map Sb.a s)]],es:=2,ver:=0,frozen:=false,clean:=false }]) (PureQ dq))) :
 tvCkb_at g l h s o i (PureQ dq):=by
 unfold tvCkb_at
 have w1:(List.map Bk.a o).length = o.length:=List.length_map ..
 have i2:(decide (i < (↑(List.map Bk.a o).length:Int))) = true ↔ (i < (↑o.length:Int)):=(by (try rw [w1]);all_goals exact i_dec)
 rcases xm (i < (↑o.length:Int)) with d3 | d3
 ·have H:=H.1 d3
  obtain ⟨k4,H⟩:=H
  obtain ⟨k6,H⟩:=H
  have i7:(decide (i.toNat < (List.map Bk.a o).length)) = true ↔ (i.toNat < o.length):=(by (try rw [w1]);all_goals exact i_dec)
  obtain ⟨k8,H⟩:=H
  obtain ⟨k10,H⟩:=H
  refine path_wp (G:=given kp26 [(13,3,.elem (ag [vb (o.getD i.toNat default).1,AV.vec (o.getD i.toNat default).2 2 (List.map Wo.a (o.getD i.toNat default).3),AV.str (o.getD i.toNat default).4])),(13,4,.call ((zTpD1 o i)) none),(14,4,.call (vi (Sp.fnd s (Sp.cN (o.getD i.toNat default).3))) none)] []) 11 [true] ⟨(atC (cd Try.f26) [1,1,1,1,0,1,0,0,1,0,0,1,1]),[(1,AV.ptr 0 0 0 0),(4,AV.vec false 3 (List.map Bk.a o)),(10,vi i),(72,vb (zTpD2 o i s))],[⟨[ag [AV.vec g 3 (List.map Bk.a l),AV.vec h 2 (List.map Sb.a s)]],2,0,false,false⟩],[(decide (i < (↑(List.map Bk.a o).length:Int))) == true,decide (0 <= i),decide (i.toNat < (List.map Bk.a o).length),!(Sp.cIs (o.getD i.toNat default).3 == true && true) || true],[((List.map Bk.a o).get?Internal i.toNat = some (ag [vb (o.getD i.toNat default).1,AV.vec (o.getD i.toNat default).2 2 (List.map Wo.a (o.getD i.toNat default).3),AV.str (o.getD i.toNat default).4]))],[⟨true,false,14,[ag [vb (o.getD i.toNat default).1,AV.vec (o.getD i.toNat default).2 2 (List.map Wo.a (o.getD i.toNat default).3),AV.str (o.getD i.toNat default).4]],[],(zTpD1 o i),[]⟩,⟨Sp.cIs (o.getD i.toNat default).3 == true && true && true,false,19,[ag [AV.vec g 3 (List.map Bk.a l),AV.vec h 2 (List.map Sb.a s)],vi (Sp.cN (o.getD i.toNat default).3)],[],vi (Sp.fnd s (Sp.cN (o.getD i.toNat default).3)),[]⟩]⟩ (by kernel_rfl) (bc (beq_t (i2.2 d3)) (bc (i_dec.2 k6) (bc (i7.2 k8) (bc (Bool.or_true _) b0)))) (qc (el_map k8) q0) (cc (fun _ => (@ev14 ((o.getD i.toNat default).1) ((o.getD i.toNat default).2) ((o.getD i.toNat default).3) ((o.getD i.toNat default).4) k4)) (cc (fun hc => ((@ev19 (g) (h) (l) (s) (Sp.cN (o.getD i.toNat default).3) (k10 ((i_at (i_at (i_bt (i_var _)))).1 hc))):Ev M1 (Conf.pure 19 [ag [AV.vec g 3 (List.map Bk.a l),AV.vec h 2 (List.map Sb.a s)],vi (Sp.cN (o.getD i.toNat default).3)]) (vi (Sp.fnd s (Sp.cN (o.getD i.toNat default).3))) [])) c0)) ?_
  rcases xm ((Sp.cIs (o.getD i.toNat default).3 = true) /\ (Sp.fnd s (Sp.cN (o.getD i.toNat default).3) < 0)) with d12 | d12
  ·have H:=H.1 d12
   exact path_re (G:=given kp26 [] []) 1000 [true] (asm:=[(zTpD2 o i s) == true]) (tu [vi 0,vi 4]) (by kernel_rfl) (bc (beq_t ((i_band (i_var _) i_dec).2 d12)) b0) q0 c0 H
  ·have H:=H.2 d12
   obtain ⟨k13,H⟩:=H
   have w14:wi (i + 1) = i + 1:=wI64 k13
   exact path_wp (G:=given kp26 [] []) 1000 [false] ⟨(atC (cd Try.f26) [1,1,1,1,0,1,0,0]),[(1,AV.ptr 0 0 0 0),(4,AV.vec false 3 (List.map Bk.a o)),(10,vi (wi (i + 1)))],[⟨[ag [AV.vec g 3 (List.map Bk.a l),AV.vec h 2 (List.map Sb.a s)]],2,0,false,false⟩],[(zTpD2 o i s) == false],[],_⟩ (by kernel_rfl) (bc (beq_f (fun h => d12 ((i_band (i_var _) i_dec).1 h))) b0) q0 c0 (by (try rw [w14]);all_goals exact H)
 ·have H:=H.2 d3
  exact path_wp (G:=given kp26 [] []) 6 [false] ⟨(atC (cd Try.f26) [1,1,1,1,1,0]),[(1,AV.ptr 0 0 0 0),(4,AV.vec false 3 (List.map Bk.a o)),(10,vi i),(53,vb (decide (i < (↑(List.map Bk.a o).length:Int))))],[⟨[ag [AV.vec g 3 (List.map Bk.a l),AV.vec h 2 (List.map Sb.a s)]],2,0,false,false⟩],_,[],_⟩ (by kernel_rfl) (bc (beq_f (fun h => d3 (i2.1 h))) b0) q0 c0 (by (try rw [w1]);all_goals exact H)
theorem tvCkg (g:Bool) (l:List Bk) (h:Bool) (s:List Sb) (z d:List Int) (zv dv:Nat)  (dq:AV) (H :
  tvCkc_at (g) (l) (h) (s) (z) (d) (zv) (dv) (0) (PureQ dq)) :
 tvCkg_at g l h s z d zv dv (PureQ dq):=by
 unfold tvCkg_at
 exact path_wp (G:=given kp26 [] []) 1000 [] ⟨(atC (cd Try.f26) [1,1,1,1,1,1,0,1,0,0]),[(1,AV.ptr 0 0 0 0),(15,AV.row 1 zv),(16,AV.row 2 dv),(17,vi 0)],[⟨[ag [AV.vec g 3 (List.map Bk.a l),AV.vec h 2 (List.map Sb.a s)]],2,0,false,false⟩,⟨List.map (vi) z,1,zv,false,true⟩,⟨List.map (vi) d,1,dv,false,true⟩],_,[],_⟩ (by kernel_rfl) b0 q0 c0 (H)
theorem tvCkc (g:Bool) (l:List Bk) (h:Bool) (s:List Sb) (z d:List Int) (zv dv:Nat) (i:Int)  (dq:AV) (H :
  ((i < (↑z.length:Int)) -> (0 <= i) /\
   (i.toNat < z.length) /\
   (-9223372036854775808 <= i + 1 /\ i + 1 <= 9223372036854775807) /\
   tvCkc_at (g) (l) (h) (s) (z.set i.toNat (-1)) (d) (zv) (dv) (i + 1) (PureQ dq)) /\
  (¬(i < (↑z.length:Int)) -> tvCkd_at (g) (l) (h) (s) (z) (d) (zv) (dv) (0) (PureQ dq))) :
 tvCkc_at g l h s z d zv dv i (PureQ dq):=by
 unfold tvCkc_at
 have w1:(List.map (vi) z).length = z.length:=List.length_map ..
 have i2:(decide (i < (↑(List.map (vi) z).length:Int))) = true ↔ (i < (↑z.length:Int)):=(by (try rw [w1]);all_goals exact i_dec)
 rcases xm (i < (↑z.length:Int)) with d3 | d3
 ·have H:=H.1 d3
  obtain ⟨k5,H⟩:=H
  have i6:(decide (i.toNat < (List.map (vi) z).length)) = true ↔ (i.toNat < z.length):=(by (try rw [w1]);all_goals exact i_dec)
  obtain ⟨k7,H⟩:=H
  have w8:(List.map (vi) z).set i.toNat (vi (-1)) = List.map (vi) (z.set i.toNat (-1)):=(lm_set rfl rfl)
  obtain ⟨k9,H⟩:=H
  have w10:wi (i + 1) = i + 1:=wI64 k9
  exact path_wp (G:=given kp26 [(20,3,.elem (vi (z.getD i.toNat default)))] []) 1000 [true] ⟨(atC (cd Try.f26) [1,1,1,1,1,1,0,1,0,0]),[(1,AV.ptr 0 0 0 0),(15,AV.row 1 zv),(16,AV.row 2 dv),(17,vi (wi (i + 1)))],[⟨[ag [AV.vec g 3 (List.map Bk.a l),AV.vec h 2 (List.map Sb.a s)]],2,0,false,false⟩,⟨(List.map (vi) z).set i.toNat (vi (-1)),1,zv,false,true⟩,⟨List.map (vi) d,1,dv,false,true⟩],[zv == zv,(decide (i < (↑(List.map (vi) z).length:Int))) == true,zv == zv,decide (0 <= i),decide (i.toNat < (List.map (vi) z).length),zv == zv],[((List.map (vi) z).get?Internal i.toNat = some (vi (z.getD i.toNat default)))],_⟩ (by kernel_rfl) (bc (beq_self_eq_true _) (bc (beq_t (i2.2 d3)) (bc (beq_self_eq_true _) (bc (i_dec.2 k5) (bc (i6.2 k7) (bc (beq_self_eq_true _) b0)))))) (qc (el_map k7) q0) c0 (by (try rw [w8]);(try rw [w10]);all_goals exact H)
 ·have H:=H.2 d3
  exact path_wp (G:=given kp26 [] []) 1000 [false] ⟨(atC (cd Try.f26) [1,1,1,1,1,1,1,0,1,0,0]),[(1,AV.ptr 0 0 0 0),(15,AV.row 1 zv),(16,AV.row 2 dv),(18,vi 0)],[⟨[ag [AV.vec g 3 (List.map Bk.a l),AV.vec h 2 (List.map Sb.a s)]],2,0,false,false⟩,⟨List.map (vi) z,1,zv,false,true⟩,⟨List.map (vi) d,1,dv,false,true⟩],[zv == zv,(decide (i < (↑(List.map (vi) z).length:Int))) == false],[],_⟩ (by kernel_rfl) (bc (beq_self_eq_true _) (bc (beq_f (fun h => d3 (i2.1 h))) b0)) q0 c0 (H)
theorem tvCkd (g:Bool) (l:List Bk) (h:Bool) (s:List Sb) (z d:List Int) (zv dv:Nat) (r:Int)  (dq:AV) (H :
  ((r < (↑s.length:Int)) -> tvCke_at (g) (l) (h) (s) (z) (d) (zv) (dv) (r) (0) (PureQ dq)) /\
  (¬(r < (↑s.length:Int)) -> tvCkf_at (g) (l) (h) (s) (z) (d) (zv) (dv) (0) (PureQ dq))) :
 tvCkd_at g l h s z d zv dv r (PureQ dq):=by
 unfold tvCkd_at
 have w1:(List.map Sb.a s).length = s.length:=List.length_map ..
 have i2:(decide (r < (↑(List.map Sb.a s).length:Int))) = true ↔ (r < (↑s.length:Int)):=(by (try rw [w1]);all_goals exact i_dec)
 rcases xm (r < (↑s.length:Int)) with d3 | d3
 ·have H:=H.1 d3
  exact path_wp (G:=given kp26 [] []) 1000 [true] ⟨(atC (cd Try.f26) [1,1,1,1,1,1,1,0,1,0,0,1,0,0,1,0,0]),[(1,AV.ptr 0 0 0 0),(15,AV.row 1 zv),(16,AV.row 2 dv),(18,vi r),(19,vi 0)],[⟨[ag [AV.vec g 3 (List.map Bk.a l),AV.vec h 2 (List.map Sb.a s)]],2,0,false,false⟩,⟨List.map (vi) z,1,zv,false,true⟩,⟨List.map (vi) d,1,dv,false,true⟩],_,[],_⟩ (by kernel_rfl) (bc rfl (bc (beq_t (i2.2 d3)) b0)) q0 c0 (H)
 ·have H:=H.2 d3
  exact path_wp (G:=given kp26 [] []) 1000 [false] ⟨(atC (cd Try.f26) [1,1,1,1,1,1,1,1,0,1,0,0]),[(1,AV.ptr 0 0 0 0),(15,AV.row 1 zv),(16,AV.row 2 dv),(23,vi 0)],[⟨[ag [AV.vec g 3 (List.map Bk.a l),AV.vec h 2 (List.map Sb.a s)]],2,0,false,false⟩,⟨List.map (vi) z,1,zv,false,true⟩,⟨List.map (vi) d,1,dv,false,true⟩],_,[],_⟩ (by kernel_rfl) (bc rfl (bc (beq_f (fun h => d3 (i2.1 h))) b0)) q0 c0 (H)
theorem tvCke (g:Bool) (l:List Bk) (h:Bool) (s:List Sb) (z d:List Int) (zv dv:Nat) (r i:Int)  (dq:AV) (H :
  ((i < (↑s.length:Int)) -> (Sp.okM s (s.getD i.toNat default).3 z d) /\
   (0 <= i) /\
   (i.toNat < s.length) /\
   (((Sp.meaR s z d (s.getD i.toNat default).3 0 0).snd.2 = true) -> (i.toNat < z.length) /\
    (i.toNat < d.length) /\
    (-9223372036854775808 <= i + 1 /\ i + 1 <= 9223372036854775807) /\
    tvCke_at (g) (l) (h) (s) (z.set i.toNat (Sp.meaR s z d (s.getD i.toNat default).3 0 0).fst) (d.set i.toNat (Sp.meaR s z d (s.getD i.toNat default).3 0 0).snd.fst) (zv) (dv) (r) (i + 1) (PureQ dq)) /\
   (¬((Sp.meaR s z d (s.getD i.toNat default).3 0 0).snd.2 = true) -> (-9223372036854775808 <= i + 1 /\ i + 1 <= 9223372036854775807) /\
    tvCke_at (g) (l) (h) (s) (z) (d) (zv) (dv) (r) (i + 1) (PureQ dq))) /\
  (¬(i < (↑s.length:Int)) -> (-9223372036854775808 <= r + 1 /\ r + 1 <= 9223372036854775807) /\
   tvCkd_at (g) (l) (h) (s) (z) (d) (zv) (dv) (r + 1) (PureQ dq))) :
 tvCke_at g l h s z d zv dv r i (PureQ dq):=by
 unfold tvCke_at
 have w1:(List.map Sb.a s).length = s.length:=List.length_map ..
 have i2:(decide (i < (↑(List.map Sb.a s).length:Int))) = true ↔ (i < (↑s.length:Int)):=(by (try rw [w1]);all_goals exact i_dec)
 rcases xm (i < (↑s.length:Int)) with d3 | d3
 ·have H:=H.1 d3
  obtain ⟨k4,H⟩:=H
  obtain ⟨k6,H⟩:=H
  have i7:(decide (i.toNat < (List.map Sb.a s).length)) = true ↔ (i.toNat < s.length):=(by (try rw [w1]);all_goals exact i_dec)
  obtain ⟨k8,H⟩:=H
  refine path_wp (G:=given kp26 [(27,6,.elem (ag [vi (s.getD i.toNat default).n,AV.vec (s.getD i.toNat default).2 3 (List.map Bk.a (s.getD i.toNat default).3)])),(27,9,.call (tu [vi (Sp.meaR s z d (s.getD i.toNat default).3 0 0).fst,vi (Sp.meaR s z d (s.getD i.toNat default).3 0 0).snd.fst,vb (Sp.meaR s z d (s.getD i.toNat default).3 0 0).snd.2]) none)] []) 11 [true] ⟨(atC (cd Try.f26) [1,1,1,1,1,1,1,0,1,0,0,1,0,0,1,0,0,1,0,0,1,1]),[(1,AV.ptr 0 0 0 0),(15,AV.row 1 zv),(16,AV.row 2 dv),(18,vi r),(19,vi i),(20,vi (Sp.meaR s z d (s.getD i.toNat default).3 0 0).fst),(21,vi (Sp.meaR s z d (s.getD i.toNat default).3 0 0).snd.fst),(118,vb (Sp.meaR s z d (s.getD i.toNat default).3 0 0).snd.2)],[⟨[ag [AV.vec g 3 (List.map Bk.a l),AV.vec h 2 (List.map Sb.a s)]],2,0,false,false⟩,⟨List.map (vi) z,1,zv,false,true⟩,⟨List.map (vi) d,1,dv,false,true⟩],[true,(decide (i < (↑(List.map Sb.a s).length:Int))) == true,true,true,decide (0 <= i),decide (i.toNat < (List.map Sb.a s).length),zv == zv,dv == dv],[((List.map Sb.a s).get?Internal i.toNat = some (ag [vi (s.getD i.toNat default).n,AV.vec (s.getD i.toNat default).2 3 (List.map Bk.a (s.getD i.toNat default).3)]))],_⟩ (by kernel_rfl) (bc rfl (bc (beq_t (i2.2 d3)) (bc rfl (bc rfl (bc (i_dec.2 k6) (bc (i7.2 k8) (bc (beq_self_eq_true _) (bc (beq_self_eq_true _) b0)))))))) (qc (el_map k8) q0) (ce (@ev55 (g) (h) ((s.getD i.toNat default).2) (false) (false) (l) ((s.getD i.toNat default).3) (s) (z) (d) k4) c0) ?_
  rcases xm ((Sp.meaR s z d (s.getD i.toNat default).3 0 0).snd.2 = true) with d10 | d10
  ·have H:=H.1 d10
   have w12:(List.map (vi) z).length = z.length:=List.length_map ..
   have i13:(decide (i.toNat < (List.map (vi) z).length)) = true ↔ (i.toNat < z.length):=(by (try rw [w12]);all_goals exact i_dec)
   obtain ⟨k14,H⟩:=H
   have w16:(List.map (vi) d).length = d.length:=List.length_map ..
   have i17:(decide (i.toNat < (List.map (vi) d).length)) = true ↔ (i.toNat < d.length):=(by (try rw [w16]);all_goals exact i_dec)
   obtain ⟨k18,H⟩:=H
   have w19:(List.map (vi) z).set i.toNat (vi (Sp.meaR s z d (s.getD i.toNat default).3 0 0).fst) = List.map (vi) (z.set i.toNat (Sp.meaR s z d (s.getD i.toNat default).3 0 0).fst):=(lm_set rfl rfl)
   have w20:(List.map (vi) d).set i.toNat (vi (Sp.meaR s z d (s.getD i.toNat default).3 0 0).snd.fst) = List.map (vi) (d.set i.toNat (Sp.meaR s z d (s.getD i.toNat default).3 0 0).snd.fst):=(lm_set rfl rfl)
   obtain ⟨k21,H⟩:=H
   have w22:wi (i + 1) = i + 1:=wI64 k21
   exact path_wp (G:=given kp26 [(29,7,.elem (vi (z.getD i.toNat default))),(29,9,.elem (vi (d.getD i.toNat default)))] []) 1000 [true] ⟨(atC (cd Try.f26) [1,1,1,1,1,1,1,0,1,0,0,1,0,0,1,0,0]),[(1,AV.ptr 0 0 0 0),(15,AV.row 1 zv),(16,AV.row 2 dv),(18,vi r),(19,vi (wi (i + 1)))],[⟨[ag [AV.vec g 3 (List.map Bk.a l),AV.vec h 2 (List.map Sb.a s)]],2,0,false,false⟩,⟨(List.map (vi) z).set i.toNat (vi (Sp.meaR s z d (s.getD i.toNat default).3 0 0).fst),1,zv,false,true⟩,⟨(List.map (vi) d).set i.toNat (vi (Sp.meaR s z d (s.getD i.toNat default).3 0 0).snd.fst),1,dv,false,true⟩],[((Sp.meaR s z d (s.getD i.toNat default).3 0 0).snd.2) == true,zv == zv,decide (0 <= i),decide (i.toNat < (List.map (vi) z).length),zv == zv,dv == dv,decide (0 <= i),decide (i.toNat < (List.map (vi) d).length),dv == dv],[((List.map (vi) z).get?Internal i.toNat = some (vi (z.getD i.toNat default))),((List.map (vi) d).get?Internal i.toNat = some (vi (d.getD i.toNat default)))],_⟩ (by kernel_rfl) (bc (beq_t ((i_var _).2 d10)) (bc (beq_self_eq_true _) (bc (i_dec.2 k6) (bc (i13.2 k14) (bc (beq_self_eq_true _) (bc (beq_self_eq_true _) (bc (i_dec.2 k6) (bc (i17.2 k18) (bc (beq_self_eq_true _) b0))))))))) (qc (el_map k14) (qc (el_map k18) q0)) c0 (by (try rw [w19]);(try rw [w20]);(try rw [w22]);all_goals exact H)
  ·have H:=H.2 d10
   obtain ⟨k23,H⟩:=H
   have w24:wi (i + 1) = i + 1:=wI64 k23
   exact path_wp (G:=given kp26 [] []) 1000 [false] ⟨(atC (cd Try.f26) [1,1,1,1,1,1,1,0,1,0,0,1,0,0,1,0,0]),[(1,AV.ptr 0 0 0 0),(15,AV.row 1 zv),(16,AV.row 2 dv),(18,vi r),(19,vi (wi (i + 1)))],[⟨[ag [AV.vec g 3 (List.map Bk.a l),AV.vec h 2 (List.map Sb.a s)]],2,0,false,false⟩,⟨List.map (vi) z,1,zv,false,true⟩,⟨List.map (vi) d,1,dv,false,true⟩],[((Sp.meaR s z d (s.getD i.toNat default).3 0 0).snd.2) == false],[],_⟩ (by kernel_rfl) (bc (beq_f (fun h => d10 ((i_var _).1 h))) b0) q0 c0 (by (try rw [w24]);all_goals exact H)
 ·have H:=H.2 d3
  obtain ⟨k25,H⟩:=H
  have w26:wi (r + 1) = r + 1:=wI64 k25
  exact path_wp (G:=given kp26 [] []) 1000 [false] ⟨(atC (cd Try.f26) [1,1,1,1,1,1,1,0,1,0,0]),[(1,AV.ptr 0 0 0 0),(15,AV.row 1 zv),(16,AV.row 2 dv),(18,vi (wi (r + 1)))],[⟨[ag [AV.vec g 3 (List.map Bk.a l),AV.vec h 2 (List.map Sb.a s)]],2,0,false,false⟩,⟨List.map (vi) z,1,zv,false,true⟩,⟨List.map (vi) d,1,dv,false,true⟩],_,[],_⟩ (by kernel_rfl) (bc rfl (bc (beq_f (fun h => d3 (i2.1 h))) b0)) q0 c0 (by (try rw [w26]);all_goals exact H)
theorem tvCkf (g:Bool) (l:List Bk) (h:Bool) (s:List Sb) (z d:List Int) (zv dv:Nat) (i:Int)  (dq:AV) (H :
  ((i < (↑z.length:Int)) -> (0 <= i) /\
   (i.toNat < z.length) /\
   ((z.getD i.toNat default < 0) -> tu [vi 0,vi 12] = dq) /\
   (¬(z.getD i.toNat default < 0) -> (-9223372036854775808 <= i + 1 /\ i + 1 <= 9223372036854775807) /\
    tvCkf_at (g) (l) (h) (s) (z) (d) (zv) (dv) (i + 1) (PureQ dq))) /\
  (¬(i < (↑z.length:Int)) -> (Sp.okM s l z d) /\
   ((((Sp.meaR s z d l 0 0).snd.fst > 8) \/ ((Sp.meaR s z d l 0 0).fst > 20000)) -> tu [vi 0,vi 3] = dq) /\
   (¬(((Sp.meaR s z d l 0 0).snd.fst > 8) \/ ((Sp.meaR s z d l 0 0).fst > 20000)) -> tu [vi (Sp.meaR s z d l 0 0).fst,vi 0] = dq))) :
 tvCkf_at g l h s z d zv dv i (PureQ dq):=by
 unfold tvCkf_at
 have w1:(List.map (vi) z).length = z.length:=List.length_map ..
 have i2:(decide (i < (↑(List.map (vi) z).length:Int))) = true ↔ (i < (↑z.length:Int)):=(by (try rw [w1]);all_goals exact i_dec)
 rcases xm (i < (↑z.length:Int)) with d3 | d3
 ·have H:=H.1 d3
  obtain ⟨k5,H⟩:=H
  have i6:(decide (i.toNat < (List.map (vi) z).length)) = true ↔ (i.toNat < z.length):=(by (try rw [w1]);all_goals exact i_dec)
  obtain ⟨k7,H⟩:=H
  refine path_wp (G:=given kp26 [(33,3,.elem (vi (z.getD i.toNat default)))] []) 9 [true] ⟨(atC (cd Try.f26) [1,1,1,1,1,1,1,1,0,1,0,0,1,0,0,1]),[(1,AV.ptr 0 0 0 0),(15,AV.row 1 zv),(16,AV.row 2 dv),(23,vi i),(137,vb (decide (z.getD i.toNat default < 0)))],[⟨[ag [AV.vec g 3 (List.map Bk.a l),AV.vec h 2 (List.map Sb.a s)]],2,0,false,false⟩,⟨List.map (vi) z,1,zv,false,true⟩,⟨List.map (vi) d,1,dv,false,true⟩],[zv == zv,(decide (i < (↑(List.map (vi) z).length:Int))) == true,zv == zv,decide (0 <= i),decide (i.toNat < (List.map (vi) z).length),zv == zv],[((List.map (vi) z).get?Internal i.toNat = some (vi (z.getD i.toNat default)))],_⟩ (by kernel_rfl) (bc (beq_self_eq_true _) (bc (beq_t (i2.2 d3)) (bc (beq_self_eq_true _) (bc (i_dec.2 k5) (bc (i6.2 k7) (bc (beq_self_eq_true _) b0)))))) (qc (el_map k7) q0) c0 ?_
  rcases xm (z.getD i.toNat default < 0) with d9 | d9
  ·have H:=H.1 d9
   exact path_re (G:=given kp26 [] []) 1000 [true] (tu [vi 0,vi 12]) (by kernel_rfl) (bc (beq_t (i_dec.2 d9)) b0) q0 c0 H
  ·have H:=H.2 d9
   obtain ⟨k10,H⟩:=H
   have w11:wi (i + 1) = i + 1:=wI64 k10
   exact path_wp (G:=given kp26 [] []) 1000 [false] ⟨(atC (cd Try.f26) [1,1,1,1,1,1,1,1,0,1,0,0]),[(1,AV.ptr 0 0 0 0),(15,AV.row 1 zv),(16,AV.row 2 dv),(23,vi (wi (i + 1)))],[⟨[ag [AV.vec g 3 (List.map Bk.a l),AV.vec h 2 (List.map Sb.a s)]],2,0,false,false⟩,⟨List.map (vi) z,1,zv,false,true⟩,⟨List.map (vi) d,1,dv,false,true⟩],_,[],_⟩ (by kernel_rfl) (bc (beq_f (fun h => d9 (i_dec.1 h))) b0) q0 c0 (by (try rw [w11]);all_goals exact H)
 ·have H:=H.2 d3
  obtain ⟨k12,H⟩:=H
  refine path_wp (G:=given kp26 [(35,5,.call (tu [vi (Sp.meaR s z d l 0 0).fst,vi (Sp.meaR s z d l 0 0).snd.fst,vb (Sp.meaR s z d l 0 0).snd.2]) none)] []) 10 [false] ⟨(atC (cd Try.f26) [1,1,1,1,1,1,1,1,1,1,0,1]),[(24,vi (Sp.meaR s z d l 0 0).fst),(153,vb (bif decide ((Sp.meaR s z d l 0 0).snd.fst > 8) then true else decide ((Sp.meaR s z d l 0 0).fst > 20000)))],[⟨[ag [AV.vec g 3 (List.map Bk.a l),AV.vec h 2 (List.map Sb.a s)]],2,0,false,false⟩,⟨List.map (vi) z,1,zv,false,true⟩,⟨List.map (vi) d,1,dv,false,true⟩],[zv == zv,(decide (i < (↑(List.map (vi) z).length:Int))) == false,true,true,zv == zv,dv == dv],[],_⟩ (by kernel_rfl) (bc (beq_self_eq_true _) (bc (beq_f (fun h => d3 (i2.1 h))) (bc rfl (bc rfl (bc (beq_self_eq_true _) (bc (beq_self_eq_true _) b0)))))) q0 (ce (@ev55 (g) (h) (g) (false) (false) (l) (l) (s) (z) (d) k12) c0) ?_
  rcases xm (((Sp.meaR s z d l 0 0).snd.fst > 8) \/ ((Sp.meaR s z d l 0 0).fst > 20000)) with d14 | d14
  ·have H:=H.1 d14
   exact path_re (G:=given kp26 [] []) 1000 [true] (tu [vi 0,vi 3]) (by kernel_rfl) (bc (beq_t ((i_bor i_dec i_dec).2 d14)) b0) q0 c0 H
  ·have H:=H.2 d14
   exact path_re (G:=given kp26 [] []) 1000 [false] (tu [vi (Sp.meaR s z d l 0 0).fst,vi 0]) (by kernel_rfl) (bc (beq_f (fun h => d14 ((i_bor i_dec i_dec).1 h))) b0) q0 c0 H
end Go.Av

namespace Go.Av
open Go.RowKit
theorem wp_any2 {M:Mach} (hm:(M.P ()).follows .mixedOrders = true) {fi:Fi} {id:Nat} {ops:Array Oper} {ans:Nat -> Option Ans} {keep:List Nat} {env e1:Vars} {L L1:Heap} {k:List Item} {Q:AV -> Heap -> Prop} {c d:Nat} {a1 a2:List Bool}
  (hcd:noDup [c,d] = true) (h1:ordX M (fun _ _ _ => none) fi.n ops ans keep [c,d] env L [c,d] = some (e1,L1,a1,[],[])) (h2:ordX M (fun _ _ _ => none) fi.n ops ans keep [c,d] env L [d,c] = some (e1,L1,a2,[],[]))
  (hA1:∀ b ∈ a1,b = true) (hA2:∀ b ∈ a2,b = true) (hk:Wp M (.run fi k e1 L1) Q):Wp M (.run fi (.code (.region id ops true) :: k) env L) Q:=by
 refine .sem (RunSnd.after fun S a h5 h6 h7 h8 b k2 cs hbb => ?_)
 obtain ⟨a',w',⟨S',e0,n1,n2,n3,n4,n5,n6⟩,hs⟩:=any_sound hm (id:=id) (fi:=fi) (ops:=ops) (env:=env) (L:=L) (call:=fun _ _ _ => none) (ans:=ans) (keep:=keep) (C:=[c,d])
  (hot:=hotX M (fun _ _ _ => none) fi.n ops ans [c,d] env L) (l:=fun σ => ordGo ops [c,d] ops.size σ (List.range ops.size) []) (rs:=rsX M (fun _ _ _ => none) fi.n ops ans [c,d] env L) (e1:=e1) (L1:=L1) ((noDup_iff [c,d]).1 hcd) (fun σ hσ => by
   have:σ = [c,d] \/ σ = [d,c]:=by simpa [perms,inserts] using hσ
   rcases this with rfl | rfl
   ·exact ⟨a1,[],[],h1,hA1,by simp,by simp⟩
   ·exact ⟨a2,[],[],h2,hA2,by simp,by simp⟩) h5 h6 h7 h8 b k2 cs hbb
 exact ⟨a',w',⟨S',e1,e0,n1,n2,n3.symm ▸ wp_sound hm hk,n4,n5,n6⟩,hs⟩
end Go.Av

namespace Go.Av
open Go.Proofs
noncomputable def ops16:Array Oper:=match atC (cd Try.f26) [1,1,1,1,1,0] with
 | .code (.region _ ops _) :: _ => ops
 | _ => #[]
noncomputable def H16 (g h:Bool) (l s:List AV):Heap:=[⟨[AV.agg [AV.vec g 3 l,AV.vec h 2 s]],2,0,false,false⟩]
noncomputable def X16 (g h:Bool) (l s o:List AV) (i:Int) (b:Bool) (σ:List Nat):=ordX M1 (fun _ _ _ => none) fi26.n ops16 (fun _ => none) [1,15,16] [3,7] [(1,AV.ptr 0 0 0 0),(4,AV.vec false 3 o),(10,.int .i64 i),(53,.bool b)] (H16 g h l s) σ
def zrow (n:Nat):Row:=⟨List.replicate n (.int .i64 0),1,0,false,true⟩
def mkAsm (n:Int):List Bool:=[decide (0 <= n),decide (n <= n),decide (n * 8 <= 1099511627776),decide (n <= 1099511627776)]
theorem X16_a (g h:Bool) (l s o:List AV) (i:Int) (b:Bool):X16 g h l s o i b [3,7] = some ([(1,AV.ptr 0 0 0 0),(15,AV.row 1 0),(16,AV.row 2 0)],[⟨[AV.agg [AV.vec g 3 l,AV.vec h 2 s]],2,0,false,false⟩,zrow (s.length:Int).toNat,zrow (s.length:Int).toNat],(0 == 0) :: (mkAsm s.length ++ ((0 == 0) :: mkAsm s.length)),[],[]):=by kernel_rfl
theorem X16_b (g h:Bool) (l s o:List AV) (i:Int) (b:Bool):X16 g h l s o i b [7,3] = some ([(1,AV.ptr 0 0 0 0),(15,AV.row 1 0),(16,AV.row 2 0)],[⟨[AV.agg [AV.vec g 3 l,AV.vec h 2 s]],2,0,false,false⟩,zrow (s.length:Int).toNat,zrow (s.length:Int).toNat],(0 == 0) :: (0 == 0) :: (mkAsm s.length ++ mkAsm s.length),[],[]):=by kernel_rfl
theorem mkAsm_ok {n:Nat} (h:n <= 1000000):∀ b ∈ mkAsm n,b = true:=by
 intro b hb
 unfold mkAsm at hb
 simp only [List.mem_cons,List.not_mem_nil,or_false] at hb
 rcases hb with rfl | rfl | rfl | rfl <;> exact decide_eq_true (by omega)
theorem tvC16 {g h:Bool} {l:List Bk} {s:List Sb} {o:List Bk} {i:Int} {b:Bool} {dq:AV} (hs:s.length <= 1000000) (H:tvCkg_at g l h s (List.replicate s.length 0) (List.replicate s.length 0) 0 0 (PureQ dq)) :
  Wp M1 (.run fi26 (atC (cd Try.f26) [1,1,1,1,1,0]) [(1,AV.ptr 0 0 0 0),(4,AV.vec false 3 (o.map Bk.a)),(10,.int .i64 i),(53,.bool b)] [⟨[AV.agg [AV.vec g 3 (l.map Bk.a),AV.vec h 2 (s.map Sb.a)]],2,0,false,false⟩]) (PureQ dq):=by
 have hm:∀ b ∈ mkAsm (s.map Sb.a).length,b = true:=by rw [List.length_map];exact mkAsm_ok hs
 refine wp_any2 (id:=16) (ops:=ops16) (c:=3) (d:=7) hm1 rfl (X16_a g h (l.map Bk.a) (s.map Sb.a) (o.map Bk.a) i b) (X16_b g h (l.map Bk.a) (s.map Sb.a) (o.map Bk.a) i b) (fun b hb => ?_) (fun b hb => ?_) ?_
 ·simp only [List.mem_cons,List.mem_append] at hb
  rcases hb with rfl | hb | rfl | hb
  ·rfl
  ·exact hm b hb
  ·rfl
  ·exact hm b hb
 ·simp only [List.mem_cons,List.mem_append] at hb
  rcases hb with rfl | rfl | hb | hb
  ·rfl
  ·rfl
  ·exact hm b hb
  ·exact hm b hb
 ·rw [List.length_map,Int.toNat_natCast]
  unfold tvCkg_at at H
  rw [List.map_replicate] at H
  refine Wp.seq (Wp.seq ?_)
  exact H
end Go.Av

namespace Go.Av
open Go.Proofs
namespace Sp
def stepR (s:List Sb) (zd:List Int × List Int) (i:Nat):List Int × List Int:=
 if (meaR s zd.1 zd.2 (s.getD i default).bl 0 0).2.2 = true then (zd.1.set i (meaR s zd.1 zd.2 (s.getD i default).bl 0 0).1,zd.2.set i (meaR s zd.1 zd.2 (s.getD i default).bl 0 0).2.1) else zd
def stepsR (s:List Sb):Nat -> Nat -> List Int × List Int -> List Int × List Int
 | 0,_,zd => zd
 | c + 1,i,zd => stepsR s c (i + 1) (stepR s zd i)
def roundsR (s:List Sb):Nat -> List Int × List Int -> List Int × List Int
 | 0,zd => zd
 | c + 1,zd => roundsR s c (stepsR s s.length 0 zd)
def finR (s:List Sb):List Int × List Int:=roundsR s s.length (List.replicate s.length (-1),List.replicate s.length 0)
def badB (x:Bk):Bool:=decide (¬cE x.ws = 0)
def lostB (s:List Sb) (x:Bk):Bool:=cIs x.ws && decide (fnd s (cN x.ws) < 0)
def endR (s:List Sb) (l:List Bk) (zd:List Int × List Int):Int × Int:=
 if (zd.1.any fun x => decide (x < 0)) = true then (0,12)
 else if (meaR s zd.1 zd.2 l 0 0).2.1 > 8 \/ (meaR s zd.1 zd.2 l 0 0).1 > 20000 then (0,3) else ((meaR s zd.1 zd.2 l 0 0).1,0)
def chk (l:List Bk) (s:List Sb):Int × Int:=
 if ¬prpB l s = true then (0,1) else if (blks l s).any badB = true then (0,1) else if (blks l s).any (lostB s) = true then (0,4) else endR s l (finR s)
def okT (zd:List Int × List Int) (n t:Nat):Prop:=zd.1.length = n /\ zd.2.length = n /\ (∀ x ∈ zd.1,-1 <= x /\ x <= 20001) /\ ∀ x ∈ zd.2,0 <= x /\ x <= t
end Sp
theorem meaR_rng {s:List Sb} {z d:List Int} {t:Nat} (hd:∀ x ∈ d,0 <= x /\ x <= t) (hdl:d.length = s.length):∀ (b:List Bk) (a e:Int),Sp.found s b -> (∀ x ∈ b,Sp.cIs x.ws = true -> 0 <= z.getD (Sp.at' s x) default -> 0 <= z.getD (Sp.at' s x) default * Sp.cT x.ws) -> 0 <= a -> a <= 20001 -> 0 <= e -> e <= t + 1 ->
  (0 <= (Sp.meaR s z d b a e).1 /\ (Sp.meaR s z d b a e).1 <= 20001) /\ 0 <= (Sp.meaR s z d b a e).2.1 /\ (Sp.meaR s z d b a e).2.1 <= t + 1
 | [],a,e,_,_,h1,h2,h3,h4 => ⟨⟨h1,h2⟩,h3,h4⟩
 | x :: b,a,e,hf,hz,h1,h2,h3,h4 => by
  rw [Sp.meaR]
  have hf':Sp.found s b:=fun y hy => hf y (List.mem_cons_of_mem _ hy)
  have hz':=fun y hy => hz y (List.mem_cons_of_mem _ hy)
  split
  ·rename_i k
   split
   ·exact ⟨⟨by show (0:Int) <= 0;omega,by show (0:Int) <= 20001;omega⟩,by show (0:Int) <= 0;omega,by show (0:Int) <= t + 1;omega⟩
   ·rename_i k2
    have hm:=hd _ (getD_mem (show Sp.at' s x < d.length by rw [hdl];exact at_len (hf x (by simp) k)))
    have hc:=cap_ge (hz x (by simp) k (by omega))
    refine meaR_rng hd hdl b _ _ hf' hz' ?_ ?_ ?_ ?_
    ·rw [sumC_eq];exact cap_ge (by omega)
    ·rw [sumC_eq];exact cap_le _
    ·unfold Sp.mx;split <;> omega
    ·unfold Sp.mx;split <;> omega
  ·refine meaR_rng hd hdl b _ _ hf' hz' ?_ ?_ h3 h4
   ·rw [sumC_eq];exact cap_ge (by omega)
   ·rw [sumC_eq];exact cap_le _
theorem meaR_ok {s:List Sb} {z d:List Int} {t:Nat} {b:List Bk} (h:Sp.okT (z,d) s.length t) (hf:Sp.found s b) :
  (0 <= (Sp.meaR s z d b 0 0).1 /\ (Sp.meaR s z d b 0 0).1 <= 20001) /\ 0 <= (Sp.meaR s z d b 0 0).2.1 /\ (Sp.meaR s z d b 0 0).2.1 <= t + 1:=by
 obtain ⟨h1,h2,h3,h4⟩:=h
 refine meaR_rng h4 h2 b 0 0 hf (fun x hx k hz => ?_) (by omega) (by omega) (by omega) (by omega)
 have:=(cIs_at k).1
 exact Int.mul_nonneg hz (by omega)
theorem mem_set' {α:Type} {l:List α} {i:Nat} {a x:α} (h:x ∈ l.set i a):x ∈ l \/ x = a:=List.mem_or_eq_of_mem_set h
theorem stepR_ok {s:List Sb} {zd:List Int × List Int} {t i:Nat} (h:Sp.okT zd s.length t) (hf:Sp.found s (s.getD i default).bl):Sp.okT (Sp.stepR s zd i) s.length (t + 1):=by
 obtain ⟨m1,m2,m3⟩:=meaR_ok (z:=zd.1) (d:=zd.2) h hf
 obtain ⟨h1,h2,h3,h4⟩:=h
 unfold Sp.stepR
 split
 ·refine ⟨by simp [h1],by simp [h2],fun x hx => ?_,fun x hx => ?_⟩
  ·rcases mem_set' hx with hx | rfl
   ·exact h3 x hx
   ·omega
  ·rcases mem_set' hx with hx | rfl
   ·have:=h4 x hx;omega
   ·omega
 ·exact ⟨h1,h2,h3,fun x hx => by have:=h4 x hx;omega⟩
theorem okT_M {s:List Sb} {z d:List Int} {t:Nat} {b:List Bk} (h:Sp.okT (z,d) s.length t) (ht:t <= 1000000) (hs:s.length <= 1000000) (hb:Sp.okBs b) (hf:Sp.found s b):Sp.okM s b z d:=by
 obtain ⟨h1,h2,h3,h4⟩:=h
 exact ⟨hs,hb,hf,h1,h2,h3,fun x hx => by have:=h4 x hx;omega⟩
def Sp.allF (s:List Sb):Prop:=∀ x ∈ s,Sp.okBs x.bl /\ Sp.found s x.bl
theorem tvCkf_loop {g h:Bool} {l:List Bk} {s:List Sb} {z d:List Int} {zv dv:Nat} {dq:AV} {t:Nat} (hok:Sp.okT (z,d) s.length t) (ht:t <= 1000000) (hs:s.length <= 1000000) (hl:Sp.okBs l) (hf:Sp.found s l):∀ (c i:Nat),i + c = z.length ->
  (∀ r,r = (if ((z.drop i).any fun x => decide (x < 0)) = true then ((0,12):Int × Int) else if (Sp.meaR s z d l 0 0).2.1 > 8 \/ (Sp.meaR s z d l 0 0).1 > 20000 then (0,3) else ((Sp.meaR s z d l 0 0).1,0)) -> AV.tup [.int .i64 r.1,.int .i64 r.2] = dq) -> tvCkf_at g l h s z d zv dv i (PureQ dq):=by
 intro c
 induction c with
 | zero =>
  intro i hi hq
  rw [List.drop_eq_nil_of_le (by omega),if_neg (by simp)] at hq
  refine tvCkf _ _ _ _ _ _ _ _ _ _ ⟨fun h => by omega,fun _ => ⟨okT_M hok ht hs hl hf,fun k => ?_,fun k => ?_⟩⟩
  ·rw [if_pos k] at hq;exact hq _ rfl
  ·rw [if_neg k] at hq;exact hq _ rfl
 | succ c ih =>
  intro i hi hq
  have hn:=hok.1
  simp only at hn
  rw [drop_getD (show i < z.length by omega),List.any_cons] at hq
  refine tvCkf _ _ _ _ _ _ _ _ _ _ ⟨fun _ => ?_,fun h => by omega⟩
  rw [Int.toNat_natCast]
  refine ⟨by omega,by omega,fun k => ?_,fun k => ⟨by omega,ih (i + 1) (by omega) ?_⟩⟩
  ·rw [decide_eq_true k,Bool.true_or,if_pos rfl] at hq;exact hq _ rfl
  ·rw [decide_eq_false k,Bool.false_or] at hq;exact hq
theorem tvCkd_loop {g h:Bool} {l:List Bk} {s:List Sb} {zv dv:Nat} {dq:AV} (hs:s.length <= 1000) (ha:Sp.allF s) (hl:Sp.okBs l) (hf:Sp.found s l):∀ (c r:Nat) (z d:List Int),r + c = s.length -> Sp.okT (z,d) s.length (r * s.length) ->
  (∀ x,x = Sp.endR s l (Sp.roundsR s c (z,d)) -> AV.tup [.int .i64 x.1,.int .i64 x.2] = dq) -> tvCkd_at g l h s z d zv dv r (PureQ dq):=by
 intro c
 induction c with
 | zero =>
  intro r z d hr hok hq
  have hrn:r = s.length:=by omega
  refine tvCkd _ _ _ _ _ _ _ _ _ _ ⟨fun h => by omega,fun _ => tvCkf_loop hok ?_ (by omega) hl hf z.length 0 (by omega) (by rw [List.drop_zero];exact hq)⟩
  calc r * s.length <= 1000 * 1000:=Nat.mul_le_mul (by omega) (by omega)
   _ <= 1000000:=by omega
 | succ c ih =>
  intro r z d hr hok hq
  refine tvCkd _ _ _ _ _ _ _ _ _ _ ⟨fun _ => ?_,fun h => by omega⟩
  have inner:∀ (c' i:Nat) (z d:List Int),i + c' = s.length -> Sp.okT (z,d) s.length (r * s.length + i) -> (∀ x,x = Sp.endR s l (Sp.roundsR s c (Sp.stepsR s c' i (z,d))) -> AV.tup [.int .i64 x.1,.int .i64 x.2] = dq) -> tvCke_at g l h s z d zv dv r i (PureQ dq):=by
   intro c'
   induction c' with
   | zero =>
    intro i z d hi hok hq
    refine tvCke _ _ _ _ _ _ _ _ _ _ _ ⟨fun h => by omega,fun _ => ⟨by omega,ih (r + 1) z d (by omega) ?_ hq⟩⟩
    have:r * s.length + i = (r + 1) * s.length:=by rw [Nat.succ_mul];omega
    rw [<- this];exact hok
   | succ c' ih' =>
    intro i z d hi hok hq
    have hx:=ha _ (getD_mem (show i < s.length by omega))
    have hlen1:z.length = s.length:=hok.1
    have hlen2:d.length = s.length:=hok.2.1
    have htt:r * s.length + i <= 1000000:=by
     have:r * s.length <= 999 * 1000:=Nat.mul_le_mul (by omega) (by omega)
     omega
    have hnext:=stepR_ok (zd:=(z,d)) (i:=i) hok hx.2
    rw [Sp.stepsR] at hq
    refine tvCke _ _ _ _ _ _ _ _ _ _ _ ⟨fun _ => ?_,fun h => by omega⟩
    rw [Int.toNat_natCast]
    refine ⟨okT_M hok htt (by omega) hx.1 hx.2,by omega,by omega,fun k => ⟨by omega,by omega,by omega,?_⟩,fun k => ⟨by omega,?_⟩⟩
    ·unfold Sp.stepR at hq hnext
     rw [if_pos k] at hq hnext
     exact ih' (i + 1) _ _ (by omega) hnext hq
    ·unfold Sp.stepR at hq hnext
     rw [if_neg k] at hq hnext
     exact ih' (i + 1) _ _ (by omega) hnext hq
  exact inner s.length 0 z d (by omega) hok hq
theorem tvCkc_loop {g h:Bool} {l:List Bk} {s:List Sb} {zv dv:Nat} {dq:AV} (hs:s.length <= 1000) (ha:Sp.allF s) (hl:Sp.okBs l) (hf:Sp.found s l)
  (hq:∀ x,x = Sp.endR s l (Sp.finR s) -> AV.tup [.int .i64 x.1,.int .i64 x.2] = dq):∀ (c i:Nat),i + c = s.length -> tvCkc_at g l h s (List.replicate i (-1) ++ List.replicate c 0) (List.replicate s.length 0) zv dv i (PureQ dq):=by
 intro c
 induction c with
 | zero =>
  intro i hi
  have hin:i = s.length:=by omega
  subst hin
  refine tvCkc _ _ _ _ _ _ _ _ _ _ ⟨fun h => by simp at h,fun _ => tvCkd_loop hs ha hl hf s.length 0 _ _ (by omega) ?_ ?_⟩
  ·refine ⟨by simp,by simp,fun x hx => ?_,fun x hx => ?_⟩
   ·simp at hx;omega
   ·simp at hx;omega
  ·rw [List.replicate_zero,List.append_nil];exact hq
 | succ c ih =>
  intro i hi
  refine tvCkc _ _ _ _ _ _ _ _ _ _ ⟨fun _ => ?_,fun h => by simp at h;omega⟩
  rw [Int.toNat_natCast]
  refine ⟨by omega,by simp,by omega,?_⟩
  have e:(List.replicate i (-1:Int) ++ List.replicate (c + 1) 0).set i (-1) = List.replicate (i + 1) (-1) ++ List.replicate c 0:=by
   rw [List.set_append_right _ _ (by simp),List.length_replicate,Nat.sub_self,List.replicate_succ,List.set_cons_zero,List.replicate_succ',List.append_assoc];rfl
  rw [e]
  exact ih (i + 1) (by omega)
theorem found_of {s:List Sb} {b:List Bk} (h:b.any (Sp.lostB s) = false):Sp.found s b:=fun x hx k => by
 rw [List.any_eq_false] at h
 have:=h x hx
 unfold Sp.lostB at this
 rw [k,Bool.true_and] at this
 simpa using this
theorem blks_any {l:List Bk} {s:List Sb} {p:Bk -> Bool}:(Sp.blks l s).any p = (l.any p || s.any fun x => x.bl.any p):=by
 unfold Sp.blks
 rw [List.any_append,List.any_flatMap]
theorem tvCkb_loop {g h:Bool} {l:List Bk} {s:List Sb} {o:List Bk} {dq:AV} (hs:s.length <= 1000) (ho:Sp.okBs o) (hl:Sp.okBs l) (hsb:∀ x ∈ s,Sp.okBs x.bl) (hoe:o = Sp.blks l s):∀ (c i:Nat),i + c = o.length ->
  (o.take i).any (Sp.lostB s) = false -> (∀ x,x = (if (o.drop i).any (Sp.lostB s) = true then ((0,4):Int × Int) else Sp.endR s l (Sp.finR s)) -> AV.tup [.int .i64 x.1,.int .i64 x.2] = dq) -> tvCkb_at g l h s o i (PureQ dq):=by
 have hol:=ho.1
 intro c
 induction c with
 | zero =>
  intro i hi hb hq
  rw [List.take_of_length_le (by omega),hoe,blks_any,Bool.or_eq_false_iff] at hb
  rw [List.drop_eq_nil_of_le (by omega),if_neg (by simp)] at hq
  refine tvCkb _ _ _ _ _ _ _ ⟨fun h => by omega,fun _ => tvC16 (by omega) (tvCkg _ _ _ _ _ _ _ _ _ ?_)⟩
  have:=tvCkc_loop (g:=g) (h:=h) (zv:=0) (dv:=0) hs (fun x hx => ⟨hsb x hx,found_of (by
   have:=hb.2
   rw [List.any_eq_false] at this
   exact Bool.eq_false_iff.2 (this x hx))⟩) hl (found_of hb.1) hq s.length 0 (by omega)
  rw [List.replicate_zero,List.nil_append] at this
  exact this
 | succ c ih =>
  intro i hi hb hq
  have hm:=ho.2 _ (getD_mem (show i < o.length by omega))
  rw [drop_getD (show i < o.length by omega),List.any_cons] at hq
  refine tvCkb _ _ _ _ _ _ _ ⟨fun _ => ?_,fun h => by omega⟩
  rw [Int.toNat_natCast]
  refine ⟨hm,by omega,by omega,fun _ => by omega,fun k => ?_,fun k => ⟨by omega,ih (i + 1) (by omega) ?_ ?_⟩⟩
  ·have:Sp.lostB s (o.getD i default) = true:=by unfold Sp.lostB;rw [k.1,decide_eq_true k.2];rfl
   rw [this,Bool.true_or,if_pos rfl] at hq;exact hq _ rfl
  ·have:Sp.lostB s (o.getD i default) = false:=by
    refine Bool.eq_false_iff.2 fun y => k ?_
    unfold Sp.lostB at y
    simp only [Bool.and_eq_true,decide_eq_true_eq] at y
    exact y
   rw [List.take_add_one,List.any_append,hb,List.getElem?_eq_getElem (show i < o.length by omega)]
   rw [List.getD_eq_getElem?_getD,List.getElem?_eq_getElem (show i < o.length by omega)] at this
   simpa using this
  ·have:Sp.lostB s (o.getD i default) = false:=by
    refine Bool.eq_false_iff.2 fun y => k ?_
    unfold Sp.lostB at y
    simp only [Bool.and_eq_true,decide_eq_true_eq] at y
    exact y
   rw [this,Bool.false_or] at hq;exact hq
theorem tvCka_loop {g h:Bool} {l:List Bk} {s:List Sb} {o:List Bk} {dq:AV} (hs:s.length <= 1000) (ho:Sp.okBs o) (hl:Sp.okBs l) (hsb:∀ x ∈ s,Sp.okBs x.bl) (hoe:o = Sp.blks l s):∀ (c i:Nat),i + c = o.length ->
  (∀ x,x = (if (o.drop i).any Sp.badB = true then ((0,1):Int × Int) else if o.any (Sp.lostB s) = true then (0,4) else Sp.endR s l (Sp.finR s)) -> AV.tup [.int .i64 x.1,.int .i64 x.2] = dq) -> tvCka_at g l h s o i (PureQ dq):=by
 have hol:=ho.1
 intro c
 induction c with
 | zero =>
  intro i hi hq
  rw [List.drop_eq_nil_of_le (by omega),if_neg (by simp)] at hq
  exact tvCka _ _ _ _ _ _ _ ⟨fun h => by omega,fun _ => tvCkb_loop hs ho hl hsb hoe o.length 0 (by omega) rfl (by rw [List.drop_zero];exact hq)⟩
 | succ c ih =>
  intro i hi hq
  have hm:=ho.2 _ (getD_mem (show i < o.length by omega))
  rw [drop_getD (show i < o.length by omega),List.any_cons] at hq
  refine tvCka _ _ _ _ _ _ _ ⟨fun _ => ?_,fun h => by omega⟩
  rw [Int.toNat_natCast]
  refine ⟨hm,by omega,by omega,fun k => ?_,fun k => ⟨by omega,ih (i + 1) (by omega) ?_⟩⟩
  ·rw [show Sp.badB (o.getD i default) = true from decide_eq_true k,Bool.true_or,if_pos rfl] at hq;exact hq _ rfl
  ·rw [show Sp.badB (o.getD i default) = false from decide_eq_false k,Bool.false_or] at hq;exact hq
def Sp.okC1 (l:List Bk) (s:List Sb):Prop:=Sp.okBs l /\ s.length <= 100 /\ l.length <= 1000 /\ ∀ x ∈ s,Sp.okBs x.bl /\ x.bl.length <= 1000
theorem blks_ok {l:List Bk} {s:List Sb} (h:Sp.okC1 l s):Sp.okBs (Sp.blks l s):=by
 obtain ⟨h1,h2,h3,h4⟩:=h
 unfold Sp.blks
 refine ⟨?_,fun b hb => ?_⟩
 ·have:∀ (s:List Sb),(∀ x ∈ s,Sp.okBs x.bl /\ x.bl.length <= 1000) -> (s.flatMap (·.bl)).length <= 1000 * s.length:=by
   intro s
   induction s with
   | nil => intro _;simp
   | cons x s ih =>
    intro h
    have:=ih fun y hy => h y (List.mem_cons_of_mem _ hy)
    have:=(h x (by simp)).2
    rw [List.flatMap_cons,List.length_append,List.length_cons]
    omega
  have:=this s h4
  rw [List.length_append]
  omega
 ·rcases List.mem_append.1 hb with hb | hb
  ·exact h1.2 b hb
  ·obtain ⟨x,hx,hb⟩:=List.mem_flatMap.1 hb
   exact (h4 x hx).1.2 b hb
theorem ev26 (g h:Bool) (l:List Bk) (s:List Sb) (hk:Sp.okC1 l s):Ev M1 (.pure 26 [pgA g h l s]) (.tup [.int .i64 (Sp.chk l s).1,.int .i64 (Sp.chk l s).2]) []:=by
 have hbk:=blks_ok hk
 obtain ⟨h1,h2,h3,h4⟩:=hk
 have hss:Sp.okSs s:=⟨by omega,fun x hx => (h4 x hx).1⟩
 refine call26 (tvCk _ _ _ _ _ ⟨⟨h1,hss⟩,fun k => ?_,fun k => ?_⟩)
 ·unfold Sp.chk;rw [if_pos k]
 ·have hp:=Classical.not_not.1 k
  have h0:0 < l.length:=by
   refine Classical.byContradiction fun y => ?_
   unfold Sp.prpB Sp.ordB at hp
   rw [decide_eq_false y,Bool.false_and,Bool.false_and,Bool.and_false] at hp
   cases hp
  refine ⟨⟨h0,by omega,by omega,fun x hx => by have:=(h4 x hx).2;omega⟩,?_⟩
  refine tvCka_loop (by omega) hbk h1 (fun x hx => (h4 x hx).1) rfl (Sp.blks l s).length 0 (by omega) fun x hx => ?_
  rw [hx,List.drop_zero]
  unfold Sp.chk
  rw [if_neg k]
end Go.Av

namespace Go.Av
open Go.Proofs
set_option maxRecDepth 100000
def fi10:Fi:=⟨44,[.tmp 2]⟩
def kp10:List (Nat × List Nat):=[(0,[1]),(1,[1,14]),(2,[2]),(3,[1,3]),(4,[1,3,23]),(5,[2]),(6,[1,3,5]),(7,[1,3,30]),(8,[2]),(9,[1,6,7]),(10,[2])]
def tvLj_at (g:Bool) (l:List Bk) (h:Bool) (s:List Sb) (Q:AV -> Heap -> Prop):Prop:=Wp M1 (.run fi10 (atC (cd Try.f10) []) [(0,.agg [.vec g 3 (l.map Bk.a),.vec h 2 (s.map Sb.a)])] []) Q
theorem call10 {args:List AV} {d:AV} (h:wc M1 fi10 Try.f10 args d):Ev M1 (.pure 10 args) d []:=pcl _ _ (by kernel_rfl) h
noncomputable abbrev zTpE1 (l:List Bk) (s:List Sb):=Sp.samP (Sp.split (Sp.join l (Sp.own s))).1 l (Sp.split (Sp.join l (Sp.own s))).snd.1 s
theorem tvLj (g:Bool) (l:List Bk) (h:Bool) (s:List Sb)  (dq:AV) (H :
  ((¬(Sp.fewA l s = true)) -> vb true = dq) /\
  (¬(¬(Sp.fewA l s = true)) -> (l.length <= 1000000 /\ s.length <= 1000000 /\ ∀ (x:Sb),x ∈ s -> x.bl.length <= 1000000) /\
   (Sp.okJ l (Sp.own s)) /\
   (Sp.okJ l s) /\
   (Sp.okBs (Sp.join l (Sp.own s))) /\
   ((¬(Sp.sameL (Sp.join l (Sp.own s)) (Sp.join l s) = true)) -> vb false = dq) /\
   (¬(¬(Sp.sameL (Sp.join l (Sp.own s)) (Sp.join l s) = true)) -> (Sp.okC1 l s) /\
    (((Sp.chk l s).snd = 1) -> vb true = dq) /\
    (¬((Sp.chk l s).snd = 1) -> (Sp.okBs (Sp.join l (Sp.own s)) /\ (Sp.join l (Sp.own s)).length <= 999999) /\
     (((Sp.split (Sp.join l (Sp.own s))).snd.snd = 0) -> (Sp.few6 (Sp.split (Sp.join l (Sp.own s))).snd.1.length)) /\
     (((Sp.split (Sp.join l (Sp.own s))).snd.snd = 0) -> (Sp.okPs (Sp.split (Sp.join l (Sp.own s))).1 (Sp.split (Sp.join l (Sp.own s))).snd.1)) /\
     vb (bif (Sp.split (Sp.join l (Sp.own s))).snd.snd == 0 then Sp.samP (Sp.split (Sp.join l (Sp.own s))).1 l (Sp.split (Sp.join l (Sp.own s))).snd.1 s else false) = dq)))) :
 tvLj_at g l h s (PureQ dq):=by
 unfold tvLj_at
 refine path_wp (G:=given kp10 [(1,0,.call (vb true) none),(1,4,.call (vb (Sp.fewA l s)) none)] []) 5 [] ⟨(atC (cd Try.f10) [1,0,1]),[(1,AV.ptr 0 0 0 0),(14,vb !Sp.fewA l s)],[⟨[ag [AV.vec g 3 (List.map Bk.a l),AV.vec h 2 (List.map Sb.a s)]],2,0,false,false⟩],_,[],_⟩ (by kernel_rfl) (bc rfl b0) q0 (ce (@ev11 ) (ce (@ev15 (g) (h) (l) (s)) c0)) ?_
 rcases xm (¬(Sp.fewA l s = true)) with d2 | d2
 ·have H:=H.1 d2
  exact path_re (G:=given kp10 [(2,0,.call (vb true) none)] []) 1000 [true] (asm:=[(!Sp.fewA l s) == true]) (vb true) (by kernel_rfl) (bc (beq_t ((i_not (i_var _)).2 d2)) b0) q0 (ce (@ev11 ) c0) H
 ·have H:=H.2 d2
  obtain ⟨k3,H⟩:=H
  obtain ⟨k4,H⟩:=H
  obtain ⟨k5,H⟩:=H
  obtain ⟨k6,H⟩:=H
  refine path_wp (G:=given kp10 [(3,1,.call (ag [AV.vec false 3 (List.map Bk.a l),AV.vec false 2 (List.map Sb.a (Sp.own s))]) none),(3,2,.call (AV.vec false 3 (List.map Bk.a (Sp.join l (Sp.own s)))) none),(4,2,.call (AV.vec false 3 (List.map Bk.a (Sp.join l s))) none),(4,3,.call (vb (Sp.sameL (Sp.join l (Sp.own s)) (Sp.join l s))) none)] []) 7 [false] ⟨(atC (cd Try.f10) [1,1,1,0,1]),[(1,AV.ptr 0 0 0 0),(3,AV.vec false 3 (List.map Bk.a (Sp.join l (Sp.own s)))),(23,vb !Sp.sameL (Sp.join l (Sp.own s)) (Sp.join l s))],[⟨[ag [AV.vec g 3 (List.map Bk.a l),AV.vec h 2 (List.map Sb.a s)]],2,0,false,false⟩],[(!Sp.fewA l s) == false,true,true],[],_⟩ (by kernel_rfl) (bc (beq_f (fun h => d2 ((i_not (i_var _)).1 h))) (bc rfl (bc rfl b0))) q0 (ce (@ev17 (g) (h) (l) (s) k3) (ce (@ev36 (false) (false) (l) (Sp.own s) k4) (ce (@ev37 (g) (h) (l) (s) k5) (ce (@ev18 (false) (false) (Sp.join l (Sp.own s)) (Sp.join l s) k6) c0)))) ?_
  rcases xm (¬(Sp.sameL (Sp.join l (Sp.own s)) (Sp.join l s) = true)) with d8 | d8
  ·have H:=H.1 d8
   exact path_re (G:=given kp10 [] []) 1000 [true] (asm:=[(!Sp.sameL (Sp.join l (Sp.own s)) (Sp.join l s)) == true]) (vb false) (by kernel_rfl) (bc (beq_t ((i_not (i_var _)).2 d8)) b0) q0 c0 H
  ·have H:=H.2 d8
   obtain ⟨k9,H⟩:=H
   refine path_wp (G:=given kp10 [(6,1,.call (tu [vi (Sp.chk l s).fst,vi (Sp.chk l s).snd]) none)] []) 7 [false] ⟨(atC (cd Try.f10) [1,1,1,1,1,0,1]),[(1,AV.ptr 0 0 0 0),(3,AV.vec false 3 (List.map Bk.a (Sp.join l (Sp.own s)))),(30,vb ((Sp.chk l s).snd == 1))],[⟨[ag [AV.vec g 3 (List.map Bk.a l),AV.vec h 2 (List.map Sb.a s)]],2,0,false,false⟩],[(!Sp.sameL (Sp.join l (Sp.own s)) (Sp.join l s)) == false,true],[],_⟩ (by kernel_rfl) (bc (beq_f (fun h => d8 ((i_not (i_var _)).1 h))) (bc rfl b0)) q0 (ce (@ev26 (g) (h) (l) (s) k9) c0) ?_
   rcases xm ((Sp.chk l s).snd = 1) with d11 | d11
   ·have H:=H.1 d11
    exact path_re (G:=given kp10 [] []) 1000 [true] (vb true) (by kernel_rfl) (bc (beq_t (i_eq.2 d11)) b0) q0 c0 H
   ·have H:=H.2 d11
    obtain ⟨k12,H⟩:=H
    obtain ⟨k14,H⟩:=H
    obtain ⟨k16,H⟩:=H
    exact path_re (G:=given kp10 [(9,1,.call (tu [ag [AV.vec false 3 (List.map Bk.a (Sp.split (Sp.join l (Sp.own s))).1),AV.vec false 2 (List.map Sb.a (Sp.split (Sp.join l (Sp.own s))).snd.1)],vi (Sp.split (Sp.join l (Sp.own s))).snd.snd]) none),(10,4,.call (ag [AV.vec false 3 (List.map Bk.a (Sp.split (Sp.join l (Sp.own s))).1),AV.vec false 2 (List.map Sb.a (Sp.split (Sp.join l (Sp.own s))).snd.1)]) none),(10,6,.call (vb (zTpE1 l s)) none)] []) 1000 [false] (asm:=[((Sp.chk l s).snd == 1) == false,true,!(((Sp.split (Sp.join l (Sp.own s))).snd.snd == 0) == true && true) || true,!(((Sp.split (Sp.join l (Sp.own s))).snd.snd == 0) == true && true) || true]) (calls:=[⟨true,false,34,[AV.vec false 3 (List.map Bk.a (Sp.join l (Sp.own s)))],[],tu [ag [AV.vec false 3 (List.map Bk.a (Sp.split (Sp.join l (Sp.own s))).1),AV.vec false 2 (List.map Sb.a (Sp.split (Sp.join l (Sp.own s))).snd.1)],vi (Sp.split (Sp.join l (Sp.own s))).snd.snd],[]⟩,⟨((Sp.split (Sp.join l (Sp.own s))).snd.snd == 0) == true && true && true,false,25,[ag [AV.vec false 3 (List.map Bk.a (Sp.split (Sp.join l (Sp.own s))).1),AV.vec false 2 (List.map Sb.a (Sp.split (Sp.join l (Sp.own s))).snd.1)]],[],ag [AV.vec false 3 (List.map Bk.a (Sp.split (Sp.join l (Sp.own s))).1),AV.vec false 2 (List.map Sb.a (Sp.split (Sp.join l (Sp.own s))).snd.1)],[]⟩,⟨((Sp.split (Sp.join l (Sp.own s))).snd.snd == 0) == true && true && true,false,24,[ag [AV.vec false 3 (List.map Bk.a (Sp.split (Sp.join l (Sp.own s))).1),AV.vec false 2 (List.map Sb.a (Sp.split (Sp.join l (Sp.own s))).snd.1)],ag [AV.vec g 3 (List.map Bk.a l),AV.vec h 2 (List.map Sb.a s)]],[],vb (zTpE1 l s),[]⟩]) (vb (bif (Sp.split (Sp.join l (Sp.own s))).snd.snd == 0 then Sp.samP (Sp.split (Sp.join l (Sp.own s))).1 l (Sp.split (Sp.join l (Sp.own s))).snd.1 s else false)) (by kernel_rfl) (bc (beq_f (fun h => d11 (i_eq.1 h))) (bc rfl (bc (Bool.or_true _) (bc (Bool.or_true _) b0)))) q0 (cc (fun _ => (@ev34 (false) (Sp.join l (Sp.own s)) k12)) (cc (fun hc => ((@ev25 (false) (false) ((Sp.split (Sp.join l (Sp.own s))).1) ((Sp.split (Sp.join l (Sp.own s))).snd.1) (k14 ((i_at (i_at (i_bt i_eq))).1 hc))):Ev M1 (Conf.pure 25 [ag [AV.vec false 3 (List.map Bk.a (Sp.split (Sp.join l (Sp.own s))).1),AV.vec false 2 (List.map Sb.a (Sp.split (Sp.join l (Sp.own s))).snd.1)]]) (ag [AV.vec false 3 (List.map Bk.a (Sp.split (Sp.join l (Sp.own s))).1),AV.vec false 2 (List.map Sb.a (Sp.split (Sp.join l (Sp.own s))).snd.1)]) [])) (cc (fun hc => ((@ev24 (false) (false) (g) (h) ((Sp.split (Sp.join l (Sp.own s))).1) (l) ((Sp.split (Sp.join l (Sp.own s))).snd.1) (s) (k16 ((i_at (i_at (i_bt i_eq))).1 hc))):Ev M1 (Conf.pure 24 [ag [AV.vec false 3 (List.map Bk.a (Sp.split (Sp.join l (Sp.own s))).1),AV.vec false 2 (List.map Sb.a (Sp.split (Sp.join l (Sp.own s))).snd.1)],ag [AV.vec g 3 (List.map Bk.a l),AV.vec h 2 (List.map Sb.a s)]]) (vb (zTpE1 l s)) [])) c0))) H
end Go.Av

namespace Go.Av
open Go.Proofs
theorem whR_mul {n:Int} (h:1 <= n /\ n <= 9999):Sp.whR (1000 * n) = n:=by
 have h1:(1000 * n).tmod 1000 = 0:=Int.mul_tmod_right 1000 n
 have h2:(1000 * n).tdiv 1000 = n:=Int.mul_tdiv_cancel_left n (by omega)
 unfold Sp.whR Sp.whB Sp.whV
 rw [h1,h2,if_pos (decide_eq_true ⟨rfl,h.1,h.2⟩)]
theorem oB_bg {n:Int} (h:1 <= n /\ n <= 9999):(Sp.oB n).bg = true /\ Sp.bgV (Sp.oB n).sk (Sp.oB n).ws (Sp.oB n).cm = n:=by
 have h1:Sp.whR ((Sp.oB n).ws.getD 0 default).v = n:=whR_mul h
 have h2:(Sp.oB n).bg = true:=(bg_iff _).2 ⟨rfl,by rw [h1];omega⟩
 exact ⟨h2,by rw [bg_val h2,h1]⟩
theorem mB_stop:Sp.pStop Sp.mB = true:=by decide
theorem joinS_own (s:List Sb):Sp.joinS (Sp.own s) = Sp.joinS s:=by
 unfold Sp.joinS Sp.own
 rw [List.flatMap_map];rfl
theorem spl_joinS {l:List Bk}:∀ (s:List Sb) (f:Nat) (t:List Sb),s.length < f -> (∀ x ∈ s,(1 <= x.n /\ x.n <= 9999) /\ Sp.sMk x = false) ->
  Sp.spl l f (Sp.joinS s) t = if Sp.ordB l (t ++ Sp.own s) = true then (if Sp.repB (t ++ Sp.own s) = true then ([],[],5) else (l,t ++ Sp.own s,0)) else ([],[],1)
 | [],f + 1,t,_,_ => by
  rw [Sp.spl,if_pos (by rfl),show Sp.own [] = [] from rfl,List.append_nil]
 | x :: s,f + 1,t,hf,h => by
  obtain ⟨h1,h2⟩:=h x (by simp)
  obtain ⟨b1,b2⟩:=oB_bg h1
  have hj:Sp.joinS (x :: s) = Sp.oB x.n :: (x.bl ++ Sp.mB :: Sp.joinS s):=by
   unfold Sp.joinS
   rw [List.flatMap_cons]
   unfold Sp.one
   simp
  have g0:(Sp.joinS (x :: s)).getD 0 default = Sp.oB x.n:=by rw [hj];rfl
  have gk:(Sp.joinS (x :: s)).getD (x.bl.length + 1) default = Sp.mB:=by
   rw [hj,List.getD_cons_succ,List.getD_eq_getElem?_getD,List.getElem?_append_right (by omega),Nat.sub_self];rfl
  have gj:∀ j,j < x.bl.length + 1 -> Sp.pStop ((Sp.joinS (x :: s)).getD j default) = false:=by
   intro j hj2
   cases j with
   | zero => rw [g0];exact bg_stop (f:=true) b1
   | succ j =>
    rw [hj,List.getD_cons_succ,List.getD_eq_getElem?_getD,List.getElem?_append_left (by omega),<- List.getD_eq_getElem?_getD]
    unfold Sp.sMk Sp.anyP at h2
    rw [List.any_eq_false] at h2
    exact unmk_stop (Bool.eq_false_iff.2 (h2 _ (getD_mem (by omega))))
  rw [spl_next (k:=x.bl.length + 1) (by rw [hj];simp) (by rw [g0];exact b1) gj (by rw [gk];exact mB_stop),g0,b2]
  have e1:(Sp.joinS (x :: s)).drop (x.bl.length + 1 + 1) = Sp.joinS s:=by
   rw [hj,List.drop_succ_cons,show x.bl ++ Sp.mB :: Sp.joinS s = (x.bl ++ [Sp.mB]) ++ Sp.joinS s by simp]
   exact List.drop_left' (by simp)
  have e2:((Sp.joinS (x :: s)).take (x.bl.length + 1)).drop 1 = x.bl:=by
   rw [hj,List.take_succ_cons,List.drop_one,List.tail_cons,List.take_left']
   rfl
  rw [e1,e2,spl_joinS s f _ (by simp at hf;omega) fun y hy => h y (List.mem_cons_of_mem _ hy)]
  rw [List.append_assoc];rfl
theorem own_any (s:List Sb):Sp.anyP Sp.sMk (Sp.own s) = Sp.anyP Sp.sMk s:=by
 unfold Sp.anyP Sp.own
 rw [List.any_map];rfl
theorem own_rep (s:List Sb):Sp.repB (Sp.own s) = Sp.repB s:=by
 unfold Sp.repB
 rw [show (Sp.own s).length = s.length from by unfold Sp.own;simp]
 refine any_congr' fun i hi => ?_
 rw [List.mem_range'_1] at hi
 unfold Sp.own Sp.anyP
 rw [<- List.map_take,List.any_map,List.getD_eq_getElem?_getD,List.getElem?_map,List.getD_eq_getElem?_getD,List.getElem?_eq_getElem (show i < s.length by omega)]
 rfl
theorem split_joinS {l:List Bk} {s:List Sb} (h:Sp.prpB l s = true):Sp.split (Sp.join l s) = (l,Sp.own s,0):=by
 unfold Sp.prpB at h
 rw [ordB_eq] at h
 simp only [Bool.and_eq_true,Bool.not_eq_true'] at h
 obtain ⟨h1,⟨h2,h3⟩,h4⟩:=h
 have h0:0 < l.length:=by
  refine Classical.byContradiction fun y => ?_
  unfold Sp.ordM Sp.ordB at h2
  rw [decide_eq_false y,Bool.false_and] at h2;cases h2
 have hm:=(mOK_iff h0).2 h2
 rw [all_range] at hm
 have gl:∀ j,j < l.length -> (Sp.join l s).getD j default = l.getD j default:=fun j hj => by
  unfold Sp.join
  rw [List.getD_eq_getElem?_getD,List.getElem?_append_left hj,<- List.getD_eq_getElem?_getD]
 have hE:∀ j,j < l.length -> Sp.pEnd (l.getD j default) = decide (j = l.length - 1):=fun j hj => by
  have:=hm j hj
  unfold Sp.mOK at this
  simp only [Bool.and_eq_true,beq_iff_eq] at this
  exact this.2.2
 rw [split_at (i:=l.length - 1) (by unfold Sp.join;simp;omega) (fun j hj => by rw [gl j (by omega),hE j (by omega)];exact decide_eq_false (by omega)) (by rw [gl _ (by omega),hE _ (by omega)];exact decide_eq_true rfl),show l.length - 1 + 1 = l.length by omega]
 have e1:(Sp.join l s).take l.length = l:=by unfold Sp.join;exact List.take_left' rfl
 have e2:(Sp.join l s).drop l.length = Sp.joinS s:=by unfold Sp.join;exact List.drop_left' rfl
 have hlen:s.length <= (Sp.joinS s).length:=by
  have:∀ s:List Sb,s.length <= (Sp.joinS s).length:=by
   intro s
   induction s with
   | nil => simp
   | cons x s ih => unfold Sp.joinS at ih ⊢;rw [List.flatMap_cons,List.length_append,one_len,List.length_cons];omega
  exact this s
 rw [e1,e2,spl_joinS s _ [] (by unfold Sp.join;rw [List.length_append];omega) (fun x hx => ⟨by
  unfold Sp.numB at h1
  rw [List.all_eq_true] at h1
  exact of_decide_eq_true (h1 x hx),by
  unfold Sp.anyP at h3
  rw [List.any_eq_false] at h3
  exact Bool.eq_false_iff.2 (h3 x hx)⟩),List.nil_append,ordB_eq,h2,own_any,h3,own_rep,h4]
 rfl
theorem fewA_at {l:List Bk} {s:List Sb} (h:Sp.fewA l s = true):s.length <= 12 /\ Sp.okBs l /\ l.length <= 40 /\ ∀ x ∈ s,(Sp.okBs x.bl /\ x.bl.length <= 40) /\ -1000000 <= x.n /\ x.n <= 1000000:=by
 unfold Sp.fewA Sp.fewP at h
 simp only [Bool.and_eq_true,List.all_eq_true,decide_eq_true_eq] at h
 obtain ⟨⟨h1,_,h2⟩,h3,h4⟩:=h
 refine ⟨by omega,vals_okBs h3 (by omega),by have:=(vals_at h3).1;omega,fun x hx => ⟨⟨vals_okBs (h4 x hx) (by omega),by have:=(vals_at (h4 x hx)).1;omega⟩,(h2 x hx).2⟩⟩
theorem okW_oB {n:Int} (h:-1000000 <= n /\ n <= 1000000):Sp.okW (Sp.oB n).ws:=by
 refine ⟨by simp [Sp.oB],fun w hw => ?_⟩
 simp only [Sp.oB,List.mem_singleton] at hw
 unfold Sp.okV
 subst hw
 show -9000000000000000000 <= 1000 * n /\ 1000 * n <= 9000000000000000000
 omega
theorem okW_mB:Sp.okW Sp.mB.ws:=by
 refine ⟨by simp [Sp.mB],fun w hw => ?_⟩
 simp only [Sp.mB,List.mem_singleton] at hw
 unfold Sp.okV
 subst hw
 show -9000000000000000000 <= (99000:Int) /\ (99000:Int) <= 9000000000000000000
 omega
theorem join_ok {l:List Bk} {s:List Sb} (h:Sp.fewA l s = true):Sp.okBs (Sp.join l s) /\ (Sp.join l s).length <= 1000:=by
 obtain ⟨h1,h2,h3,h4⟩:=fewA_at h
 have hl:∀ s:List Sb,(∀ x ∈ s,x.bl.length <= 40) -> (Sp.joinS s).length <= 42 * s.length:=by
  intro s
  induction s with
  | nil => intro _;simp [Sp.joinS]
  | cons x s ih =>
   intro h
   have:=ih fun y hy => h y (List.mem_cons_of_mem _ hy)
   have:=h x (by simp)
   unfold Sp.joinS at *
   rw [List.flatMap_cons,List.length_append,one_len,List.length_cons];omega
 have:=hl s fun x hx => (h4 x hx).1.2
 have hlen:(Sp.join l s).length <= 1000:=by unfold Sp.join;rw [List.length_append];omega
 refine ⟨⟨by omega,fun b hb => ?_⟩,hlen⟩
 unfold Sp.join at hb
 rcases List.mem_append.1 hb with hb | hb
 ·exact h2.2 b hb
 ·unfold Sp.joinS at hb
  obtain ⟨x,hx,hb⟩:=List.mem_flatMap.1 hb
  unfold Sp.one at hb
  rcases List.mem_append.1 hb with hb | hb
  ·rcases List.mem_cons.1 hb with rfl | hb
   ·exact okW_oB (h4 x hx).2
   ·exact (h4 x hx).1.1.2 b hb
  ·rw [List.mem_singleton] at hb;subst hb;exact okW_mB
theorem own_mem {s:List Sb} {p:Int -> List Bk -> Prop} (h:∀ x ∈ s,p x.n x.bl):∀ x ∈ Sp.own s,p x.n x.bl:=by
 intro x hx
 unfold Sp.own at hx
 obtain ⟨y,hy,rfl⟩:=List.mem_map.1 hx
 exact h y hy
theorem own_len (s:List Sb):(Sp.own s).length = s.length:=by unfold Sp.own;simp
theorem join_own (l:List Bk) (s:List Sb):Sp.join l (Sp.own s) = Sp.join l s:=by unfold Sp.join;rw [joinS_own]
theorem chk_prp {l:List Bk} {s:List Sb} (h:¬(Sp.chk l s).2 = 1):Sp.prpB l s = true:=by
 refine Classical.byContradiction fun y => h ?_
 unfold Sp.chk
 rw [if_pos y]
theorem own_key (s:List Sb):(Sp.own s).map Sb.key = s.map Sb.key:=by
 unfold Sp.own
 rw [List.map_map];rfl
theorem ev10 (l:List Bk) (s:List Sb):Ev M1 (.pure 10 [pgA false false l s]) (.bool true) []:=by
 refine call10 (tvLj false l false s _ ⟨fun _ => rfl,fun h => ?_⟩)
 have hf:=Classical.not_not.1 h
 obtain ⟨h1,h2,h3,h4⟩:=fewA_at hf
 obtain ⟨j1,j2⟩:=join_ok hf
 rw [join_own]
 refine ⟨⟨by omega,by omega,fun x hx => by have:=(h4 x hx).1.2;omega⟩,⟨by omega,by rw [own_len];omega,own_mem (p:=fun n b => b.length <= 1000000 /\ -1000000 <= n /\ n <= 1000000) fun x hx => ⟨by have:=(h4 x hx).1.2;omega,(h4 x hx).2⟩⟩,⟨by omega,by omega,fun x hx => ⟨by have:=(h4 x hx).1.2;omega,(h4 x hx).2⟩⟩,j1,fun k => ?_,fun _ => ⟨⟨h2,by omega,by omega,fun x hx => ⟨(h4 x hx).1.1,by have:=(h4 x hx).1.2;omega⟩⟩,fun _ => rfl,fun k => ?_⟩⟩
 ·exact absurd (show Sp.sameL (Sp.join l s) (Sp.join l s) = true from decide_eq_true rfl) k
 ·rw [split_joinS (chk_prp k)]
  refine ⟨⟨j1,by omega⟩,fun _ => show (Sp.own s).length <= 1000000 by rw [own_len];omega,fun _ => ⟨h2,by rw [own_len];omega,own_mem (p:=fun _ b => Sp.okBs b) fun x hx => (h4 x hx).1.1⟩,?_⟩
  show AV.bool (Sp.samP l l (Sp.own s) s) = .bool true
  unfold Sp.samP Sp.sameL
  rw [own_key,decide_eq_true rfl,decide_eq_true rfl];rfl
end Go.Av
