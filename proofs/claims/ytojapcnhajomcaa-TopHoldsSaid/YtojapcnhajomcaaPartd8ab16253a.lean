/- PART 6 of the texts of a claim, joined by a program: what each part shows stands at its head. -/
import Derived.Test.YtojapcnhajomcaaPartc184a72f88

namespace Go.Av
open Go.Proofs
set_option maxRecDepth 100000
def fi3:Fi:=⟨116,[.tmp 4]⟩
def kp3:List (Nat × List Nat):=[(0,[1,2]),(1,[1,5,6,7]),(2,[1,5,6,33]),(3,[4]),(4,[1,5,8,9]),(5,[1,5,8,42]),(6,[4]),(7,[5,8,43,44,45]),(8,[5,8,43,44,45,46]),(9,[5,8,11,43,44,45]),(10,[5,8,43,44,45,49,50]),(11,[5,8,43,44,45,49,50,51]),(12,[5,8,43,44,45,49,50]),(13,[5,8,43,44,45,49,50]),(14,[5,8,43,44,45]),(15,[5,8,12,43,44,45]),(16,[5,8,12,43,44,45,58]),(17,[5,8,12,43,44,45]),(18,[5,8,12,43,44,45,62]),(19,[4]),(20,[5,8,13,14,43,44,45]),(21,[5,8,43,44,45,73]),(22,[4]),(23,[5,8,15,16,43,44,45]),(24,[5,8,43,44,45,91]),(25,[4]),(26,[5,8,43,44,45]),(27,[5,8,43,44,45]),(28,[4])]
def hsA_at (fx fy fz:Int) (fw:Bool) (W:List Wy) (S A j:Int) (hf:Bool) (U:List Int) (Q:AV->Heap->Prop):Prop:=Wp M1 (.run fi3 (atC (cd Try.f3) []) [(0,.agg [.int .i16 fx,.int .i16 fy,.int .i16 fz,.vec fw 4 (W.map Wy.a),.int .i64 S,.int .i64 A,.int .i64 j]),(1,.vec hf 1 (U.map (.int .u8)))] []) Q
def ZgI (l:List Mo) (hf:Bool) (U:List Int) (m i:Int) (L:Heap) (Q:AV->Heap->Prop):Prop:=Wp M1 (.run fi3 (atC (cd Try.f3) [1,1,1,1,1,0,1,0,0]) [(5,.vec false 9 (l.map Mo.a)),(8,.ptr 0 0 0 0),(43,.vec hf 1 (U.map (.int .u8))),(44,.int .i64 m),(45,.int .i64 i)] L) Q
def hsT_at (l:List Mo) (hf:Bool) (U:List Int) (m i:Int) (h e:Int) (L:Heap) (Q:AV->Heap->Prop):Prop:=Wp M1 (.run fi3 (atC (cd Try.f3) [1,1,1,1,1,0,1,0,0,1,1,0,0,1,0,1,0,0]) [(5,.vec false 9 (l.map Mo.a)),(8,.ptr 0 0 0 0),(43,.vec hf 1 (U.map (.int .u8))),(44,.int .i64 m),(45,.int .i64 i),(49,.int .u8 h),(50,.int .u8 e)] L) Q
def hsU_at (l:List Mo) (hf:Bool) (U:List Int) (m i:Int) (h e:Int) (L:Heap) (Q:AV->Heap->Prop):Prop:=Wp M1 (.run fi3 (atC (cd Try.f3) [1,1,1,1,1,0,1,0,0,1,1,0,0,1,0,1,0,0,1,1,1]) [(5,.vec false 9 (l.map Mo.a)),(8,.ptr 0 0 0 0),(43,.vec hf 1 (U.map (.int .u8))),(44,.int .i64 m),(45,.int .i64 i),(49,.int .u8 h),(50,.int .u8 e)] L) Q
def hsV_at (l:List Mo) (hf:Bool) (U:List Int) (m i:Int) (L:Heap) (Q:AV->Heap->Prop):Prop:=Wp M1 (.run fi3 (atC (cd Try.f3) [1,1,1,1,1,0,1,0,0,1,1,0,0,1,1,1,0]) [(5,.vec false 9 (l.map Mo.a)),(8,.ptr 0 0 0 0),(43,.vec hf 1 (U.map (.int .u8))),(44,.int .i64 m),(45,.int .i64 i)] L) Q
def hsW_at (l:List Mo) (hf:Bool) (U:List Int) (m i:Int) (n:Int) (L:Heap) (Q:AV->Heap->Prop):Prop:=Wp M1 (.run fi3 (atC (cd Try.f3) [1,1,1,1,1,0,1,0,0,1,1,0,0,1,1,1,1,0,0,0]) [(5,.vec false 9 (l.map Mo.a)),(8,.ptr 0 0 0 0),(43,.vec hf 1 (U.map (.int .u8))),(44,.int .i64 m),(45,.int .i64 i),(12,.int .i64 n)] L) Q
def hsX_at (l:List Mo) (hf:Bool) (U:List Int) (m i:Int) (n:Int) (b:Bool) (L:Heap) (Q:AV->Heap->Prop):Prop:=Wp M1 (.run fi3 (atC (cd Try.f3) [1,1,1,1,1,0,1,0,0,1,1,0,0,1,1,1,1,0,0,0,0,1]) [(5,.vec false 9 (l.map Mo.a)),(8,.ptr 0 0 0 0),(43,.vec hf 1 (U.map (.int .u8))),(44,.int .i64 m),(45,.int .i64 i),(12,.int .i64 n),(58,.bool b)] L) Q
def hsYA_at (fm:Bool) (l:List Mo) (S A j ix p:Int) (qx qy qz:Int) (hf:Bool) (U:List Int) (m i:Int) (Q:AV->Heap->Prop):Prop:=Wp M1 (.run fi3 (atC (cd Try.f3) [1,1,1,1,1,0,1,0,0,1,1,0,0,1,1,1,1,1,0,0]) [(5,.vec false 9 (l.map Mo.a)),(8,.ptr 0 0 0 0),(43,.vec hf 1 (U.map (.int .u8))),(44,.int .i64 m),(45,.int .i64 i)] [⟨[.agg [.vec fm 9 (l.map Mo.a),.int .i64 S,.int .i64 A,.int .i64 j,.int .i64 ix,.int .i64 p,.vnil,.int .i64 0,.bool false,.bool true,.bool false,.vnil,.int .i64 qx,.int .i64 qy,.int .i64 qz]],15,0,false,false⟩]) Q
def hsYB_at (fm:Bool) (l:List Mo) (S A j ix p:Int) (qx qy qz:Int) (P:List Mo) (w:Nat) (hf:Bool) (U:List Int) (m i:Int) (Q:AV->Heap->Prop):Prop:=Wp M1 (.run fi3 (atC (cd Try.f3) [1,1,1,1,1,0,1,0,0,1,1,0,0,1,1,1,1,1,0,0]) [(5,.vec false 9 (l.map Mo.a)),(8,.ptr 0 0 0 0),(43,.vec hf 1 (U.map (.int .u8))),(44,.int .i64 m),(45,.int .i64 i)] [⟨[.agg [.vec fm 9 (l.map Mo.a),.int .i64 S,.int .i64 A,.int .i64 j,.int .i64 ix,.int .i64 p,.vnil,.int .i64 0,.bool false,.bool true,.bool false,.row 1 w,.int .i64 qx,.int .i64 qy,.int .i64 qz]],15,0,false,false⟩,⟨P.map Mo.a,9,w,false,true⟩]) Q
def hsZaa_at (fm:Bool) (l:List Mo) (S A j ix p:Int) (qx qy qz:Int) (Q:AV->Heap->Prop):Prop:=Wp M1 (.run fi3 (atC (cd Try.f3) [1,1,1,1,1,1,0]) [(5,.vec false 9 (l.map Mo.a)),(8,.ptr 0 0 0 0)] [⟨[.agg [.vec fm 9 (l.map Mo.a),.int .i64 S,.int .i64 A,.int .i64 j,.int .i64 ix,.int .i64 p,.vnil,.int .i64 0,.bool false,.bool false,.bool false,.vnil,.int .i64 qx,.int .i64 qy,.int .i64 qz]],15,0,false,false⟩]) Q
def hsZab_at (fm:Bool) (l:List Mo) (S A j ix p:Int) (qx qy qz:Int) (Q:AV->Heap->Prop):Prop:=Wp M1 (.run fi3 (atC (cd Try.f3) [1,1,1,1,1,1,0]) [(5,.vec false 9 (l.map Mo.a)),(8,.ptr 0 0 0 0)] [⟨[.agg [.vec fm 9 (l.map Mo.a),.int .i64 S,.int .i64 A,.int .i64 j,.int .i64 ix,.int .i64 p,.vnil,.int .i64 0,.bool false,.bool false,.bool false,.vnil,.int .i64 qx,.int .i64 qy,.int .i64 qz]],15,0,false,false⟩]) Q
def hsZbb_at (fm:Bool) (l:List Mo) (S A j ix p:Int) (qx qy qz:Int) (P:List Mo) (w:Nat) (Q:AV->Heap->Prop):Prop:=Wp M1 (.run fi3 (atC (cd Try.f3) [1,1,1,1,1,1,0]) [(5,.vec false 9 (l.map Mo.a)),(8,.ptr 0 0 0 0)] [⟨[.agg [.vec fm 9 (l.map Mo.a),.int .i64 S,.int .i64 A,.int .i64 j,.int .i64 ix,.int .i64 p,.vnil,.int .i64 0,.bool false,.bool false,.bool false,.row 1 w,.int .i64 qx,.int .i64 qy,.int .i64 qz]],15,0,false,false⟩,⟨P.map Mo.a,9,w,false,true⟩]) Q
theorem call3 {args:List AV} {d:AV} (h:wc M1 fi3 Try.f3 args d):Ev M1 (.pure 3 args) d []:=pcl _ _ (by kernel_rfl) h
noncomputable abbrev zCxY1 (S:Int) (A:Int) (j:Int):=ag [vi S,vi A,vi j]
theorem hsA (fx fy fz:Int) (fw:Bool) (W:List Wy) (S A j:Int) (hf:Bool) (U:List Int)  (dq:AV) (H :
  (N.okTr fx fy fz W) /\
  ∃ (b1:Bool),
  (Ev M1 (Conf.pure 8 []) (vb b1) []) /\
  ((((¬(b1=true))\/(¬(N.trB W S A j=true)))\/((↑U.length:Int)>6)) -> ∃ (b2:Bool),
   (Ev M1 (Conf.pure 8 []) (vb b2) []) /\
   vb b2=dq) /\
  (¬(((¬(b1=true))\/(¬(N.trB W S A j=true)))\/((↑U.length:Int)>6))->(N.okCk (N.trL fx fy fz W S A j) S A j) /\
   ZgI (N.trL fx fy fz W S A j) hf U ((↑U.length:Int)) 0 ([{ elems:=[ag [AV.vec false 9 (List.map Mo.a (N.trL fx fy fz W S A j)),vi S,vi A,vi j,vi (N.skI (N.trL fx fy fz W S A j) 0),vi 0,AV.vnil,vi 0,vb false,vb false,vb false,AV.vnil,vi (N.q0x (N.trL fx fy fz W S A j)),vi (N.q0y (N.trL fx fy fz W S A j)),vi (N.q0z (N.trL fx fy fz W S A j))]],es:=15,ver:=0,frozen:=false,clean:=false }]) (Zaj dq))) :
 hsA_at fx fy fz fw W S A j hf U (Zaj dq):=by
 unfold hsA_at
 obtain ⟨k1,b1,k2,H⟩:=H
 have w3:(List.map (AV.int IntKind.u8) U).length=U.length:=List.length_map ..
 have i4:(bif bif !b1 then true else !N.trB W S A j then true else decide ((↑(List.map (AV.int IntKind.u8) U).length:Int)>6))=true ↔ (((¬(b1=true))\/(¬(N.trB W S A j=true)))\/((↑U.length:Int)>6)):=(by (try rw [w3]);all_goals exact (ZaK (ZaK (ZaO (Zas _)) (ZaO (Zas _))) Zae))
 refine Zac (G:=Zab kp3 [(1,1,.call (tu [AV.vec false 9 (List.map Mo.a (N.trL fx fy fz W S A j)),(zCxY1 S A j),vb (N.trB W S A j)]) none),(2,0,.call (vb b1) none)] []) 7 [] ⟨(atC (cd Try.f3) [1,1,0,1]),[(1,AV.vec hf 1 (List.map (AV.int IntKind.u8) U)),(5,AV.vec false 9 (List.map Mo.a (N.trL fx fy fz W S A j))),(6,AV.ptr 1 0 0 0),(33,vb (bif bif !b1 then true else !N.trB W S A j then true else decide ((↑(List.map (AV.int IntKind.u8) U).length:Int)>6)))],[⟨[ag [AV.int IntKind.i16 fx,AV.int IntKind.i16 fy,AV.int IntKind.i16 fz,AV.vec fw 4 (List.map Wy.a W),vi S,vi A,vi j]],7,0,false,false⟩,⟨[(zCxY1 S A j)],3,0,false,false⟩],_,[],_⟩ (by kernel_rfl) (bc rfl (bc rfl b0)) q0 (ce (@ev7 fx fy fz fw W S A j k1) (ce k2 c0)) ?_
 rcases xq H with ⟨d5,H⟩|⟨d5,H⟩
 ·obtain ⟨b2,k6,H⟩:=H
  exact Zao (G:=Zab kp3 [(3,0,.call (vb b2) none)] []) 1000 [true] (vb b2) (by kernel_rfl) (bc (Zam (i4.2 d5)) b0) q0 (ce k6 c0) H
 ·obtain ⟨k7,H⟩:=H
  exact Zac (G:=Zab kp3 [(4,2,.call (tu [AV.ptr 0 0 0 0,vi 0]) (some [⟨[ag [AV.vec false 9 (List.map Mo.a (N.trL fx fy fz W S A j)),vi S,vi A,vi j,vi (N.skI (N.trL fx fy fz W S A j) 0),vi 0,AV.vnil,vi 0,vb false,vb false,vb false,AV.vnil,vi (N.q0x (N.trL fx fy fz W S A j)),vi (N.q0y (N.trL fx fy fz W S A j)),vi (N.q0z (N.trL fx fy fz W S A j))]],15,0,false,false⟩]))] []) 1000 [false,false] ⟨(atC (cd Try.f3) [1,1,1,1,1,0,1,0,0]),[(5,AV.vec false 9 (List.map Mo.a (N.trL fx fy fz W S A j))),(8,AV.ptr 2 0 0 0),(43,AV.vec hf 1 (List.map (AV.int IntKind.u8) U)),(44,vi (↑(List.map (AV.int IntKind.u8) U).length:Int)),(45,vi 0)],[⟨[ag [AV.int IntKind.i16 fx,AV.int IntKind.i16 fy,AV.int IntKind.i16 fz,AV.vec fw 4 (List.map Wy.a W),vi S,vi A,vi j]],7,0,false,false⟩,⟨[(zCxY1 S A j)],3,0,false,false⟩,⟨[ag [AV.vec false 9 (List.map Mo.a (N.trL fx fy fz W S A j)),vi S,vi A,vi j,vi (N.skI (N.trL fx fy fz W S A j) 0),vi 0,AV.vnil,vi 0,vb false,vb false,vb false,AV.vnil,vi (N.q0x (N.trL fx fy fz W S A j)),vi (N.q0y (N.trL fx fy fz W S A j)),vi (N.q0z (N.trL fx fy fz W S A j))]],15,0,false,false⟩],_,[],[⟨true,true,9,[AV.vec false 9 (List.map Mo.a (N.trL fx fy fz W S A j)),(zCxY1 S A j)],[],tu [AV.ptr 0 0 0 0,vi 0],[⟨[ag [AV.vec false 9 (List.map Mo.a (N.trL fx fy fz W S A j)),vi S,vi A,vi j,vi (N.skI (N.trL fx fy fz W S A j) 0),vi 0,AV.vnil,vi 0,vb false,vb false,vb false,AV.vnil,vi (N.q0x (N.trL fx fy fz W S A j)),vi (N.q0y (N.trL fx fy fz W S A j)),vi (N.q0z (N.trL fx fy fz W S A j))]],15,0,false,false⟩]⟩]⟩ (by kernel_rfl) (bc (Zal (fun h=>d5 (i4.1 h))) (bc rfl (bc rfl b0))) q0 (cc (fun _=>(@evo9 false (N.trL fx fy fz W S A j) S A j k7)) c0) (by (try rw [w3]);all_goals exact Zar [2] (by kernel_rfl) H)
theorem hsL (l:List Mo) (hf:Bool) (U:List Int) (m i:Int) (L:Heap)  (dq:AV) (H :
  ((i<m)->(0<=i) /\
   (i.toNat<U.length) /\
   hsT_at l hf U m i (U.getD i.toNat default) 0 L (Zaj dq)) /\
  (¬(i<m)->Wp M1 (.run fi3 (atC (cd Try.f3) [1,1,1,1,1,1,0]) [(5,AV.vec false 9 (List.map Mo.a l)),(8,AV.ptr 0 0 0 0)] L) (Zaj dq))) :
 ZgI l hf U m i L (Zaj dq):=by
 unfold ZgI
 rcases xq H with ⟨d2,H⟩|⟨d2,H⟩
 ·obtain ⟨k4,H⟩:=H
  have w5:(List.map (AV.int IntKind.u8) U).length=U.length:=List.length_map ..
  have i6:(decide (i.toNat<(List.map (AV.int IntKind.u8) U).length))=true ↔ (i.toNat<U.length):=(by (try rw [w5]);all_goals exact Zae)
  obtain ⟨k7,H⟩:=H
  exact Zac (G:=Zab kp3 [(9,1,.elem (AV.int IntKind.u8 (U.getD i.toNat default)))] []) 1000 [true] ⟨(atC (cd Try.f3) [1,1,1,1,1,0,1,0,0,1,1,0,0,1,0,1,0,0]),[(5,AV.vec false 9 (List.map Mo.a l)),(8,AV.ptr 0 0 0 0),(43,AV.vec hf 1 (List.map (AV.int IntKind.u8) U)),(44,vi m),(45,vi i),(49,AV.int IntKind.u8 (U.getD i.toNat default)),(50,AV.int IntKind.u8 0)],L,_,[((List.map (AV.int IntKind.u8) U).get?Internal i.toNat=some (AV.int IntKind.u8 (U.getD i.toNat default)))],_⟩ (by kernel_rfl) (bc (Zam (Zae.2 d2)) (bc (Zae.2 k4) (bc (i6.2 k7) b0))) (qc (Zax k7) q0) c0 H
 ·exact Zac (G:=Zab kp3 [] []) 6 [false] ⟨(atC (cd Try.f3) [1,1,1,1,1,1,0]),[(5,AV.vec false 9 (List.map Mo.a l)),(8,AV.ptr 0 0 0 0),(43,AV.vec hf 1 (List.map (AV.int IntKind.u8) U)),(44,vi m),(45,vi i),(46,vb (decide (i<m)))],L,_,[],_⟩ (by kernel_rfl) (bc (Zal (fun h=>d2 (Zae.1 h))) b0) q0 c0 (Wp.less [5,8] H)
theorem hsT (l:List Mo) (hf:Bool) (U:List Int) (m i:Int) (h e:Int) (L:Heap)  (dq:AV) (H :
  ((e<h)->Wp M1 (.run fi3 (atC (cd Try.f3) [1,1,1,1,1,0,1,0,0,1,1,0,0,1,0,1,0,0,1,1,0,0]) [(5,AV.vec false 9 (List.map Mo.a l)),(8,AV.ptr 0 0 0 0),(43,AV.vec hf 1 (List.map (AV.int IntKind.u8) U)),(44,vi m),(45,vi i),(49,AV.int IntKind.u8 h),(50,AV.int IntKind.u8 e),(51,vb (decide (e<h)))] L) (Zaj dq)) /\
  (¬(e<h)->Wp M1 (.run fi3 (atC (cd Try.f3) [1,1,1,1,1,0,1,0,0,1,1,0,0,1,1,0]) [(5,AV.vec false 9 (List.map Mo.a l)),(8,AV.ptr 0 0 0 0),(43,AV.vec hf 1 (List.map (AV.int IntKind.u8) U)),(44,vi m),(45,vi i),(49,AV.int IntKind.u8 h),(50,AV.int IntKind.u8 e),(51,vb (decide (e<h)))] L) (Zaj dq))) :
 hsT_at l hf U m i h e L (Zaj dq):=by
 unfold hsT_at
 rcases xq H with ⟨d2,H⟩|⟨d2,H⟩
 ·exact Zac (G:=Zab kp3 [] []) 7 [true] ⟨(atC (cd Try.f3) [1,1,1,1,1,0,1,0,0,1,1,0,0,1,0,1,0,0,1,1,0,0]),[(5,AV.vec false 9 (List.map Mo.a l)),(8,AV.ptr 0 0 0 0),(43,AV.vec hf 1 (List.map (AV.int IntKind.u8) U)),(44,vi m),(45,vi i),(49,AV.int IntKind.u8 h),(50,AV.int IntKind.u8 e),(51,vb (decide (e<h)))],L,_,[],_⟩ (by kernel_rfl) (bc (Zam (Zae.2 d2)) b0) q0 c0 H
 ·exact Zac (G:=Zab kp3 [] []) 6 [false] ⟨(atC (cd Try.f3) [1,1,1,1,1,0,1,0,0,1,1,0,0,1,1,0]),[(5,AV.vec false 9 (List.map Mo.a l)),(8,AV.ptr 0 0 0 0),(43,AV.vec hf 1 (List.map (AV.int IntKind.u8) U)),(44,vi m),(45,vi i),(49,AV.int IntKind.u8 h),(50,AV.int IntKind.u8 e),(51,vb (decide (e<h)))],L,_,[],_⟩ (by kernel_rfl) (bc (Zal (fun h=>d2 (Zae.1 h))) b0) q0 c0 H
theorem hsU (l:List Mo) (hf:Bool) (U:List Int) (m i:Int) (h e:Int) (L:Heap)  (dq:AV) (H :
  (0<=e+1/\e+1<=255) /\
  hsT_at l hf U m i h (e+1) L (Zaj dq)) :
 hsU_at l hf U m i h e L (Zaj dq):=by
 unfold hsU_at
 obtain ⟨k1,H⟩:=H
 have w2:IntKind.u8.wrap (e+1)=e+1:=wU8 k1
 exact Zac (G:=Zab kp3 [] []) 1000 [] ⟨(atC (cd Try.f3) [1,1,1,1,1,0,1,0,0,1,1,0,0,1,0,1,0,0]),[(5,AV.vec false 9 (List.map Mo.a l)),(8,AV.ptr 0 0 0 0),(43,AV.vec hf 1 (List.map (AV.int IntKind.u8) U)),(44,vi m),(45,vi i),(49,AV.int IntKind.u8 h),(50,AV.int IntKind.u8 (IntKind.u8.wrap (e+1)))],L,_,[],_⟩ (by kernel_rfl) b0 q0 c0 (by (try rw [w2]);all_goals exact H)
theorem hsV (l:List Mo) (hf:Bool) (U:List Int) (m i:Int) (L:Heap)  (dq:AV) (H :
  hsW_at l hf U m i 0 L (Zaj dq)) :
 hsV_at l hf U m i L (Zaj dq):=by
 unfold hsV_at
 exact Zac (G:=Zab kp3 [] []) 1000 [] ⟨(atC (cd Try.f3) [1,1,1,1,1,0,1,0,0,1,1,0,0,1,1,1,1,0,0,0]),[(5,AV.vec false 9 (List.map Mo.a l)),(8,AV.ptr 0 0 0 0),(12,vi 0),(43,AV.vec hf 1 (List.map (AV.int IntKind.u8) U)),(44,vi m),(45,vi i)],L,_,[],_⟩ (by kernel_rfl) b0 q0 c0 (Wp.less [5,8,43,44,45,12] H)
theorem hsW (l:List Mo) (hf:Bool) (U:List Int) (m i:Int) (n:Int) (L:Heap)  (dq:AV) (H :
  Wp M1 (.run fi3 (atC (cd Try.f3) [1,1,1,1,1,0,1,0,0,1,1,0,0,1,1,1,1,0,0,0,0,0]) [(5,AV.vec false 9 (List.map Mo.a l)),(8,AV.ptr 0 0 0 0),(43,AV.vec hf 1 (List.map (AV.int IntKind.u8) U)),(44,vi m),(45,vi i),(12,vi n)] L) (Zaj dq)) :
 hsW_at l hf U m i n L (Zaj dq):=by
 unfold hsW_at
 exact Zac (G:=Zab kp3 [] []) 2 [] ⟨(atC (cd Try.f3) [1,1,1,1,1,0,1,0,0,1,1,0,0,1,1,1,1,0,0,0,0,0]),[(5,AV.vec false 9 (List.map Mo.a l)),(8,AV.ptr 0 0 0 0),(43,AV.vec hf 1 (List.map (AV.int IntKind.u8) U)),(44,vi m),(45,vi i),(12,vi n)],L,_,[],_⟩ (by kernel_rfl) b0 q0 c0 H
theorem hsX (l:List Mo) (hf:Bool) (U:List Int) (m i:Int) (n:Int) (b:Bool) (L:Heap)  (dq:AV) (H :
  ((b=true)->(-9223372036854775808<=n+1/\n+1<=9223372036854775807) /\
   ((n+1>20000)->vb false=dq) /\
   (¬(n+1>20000)->hsW_at l hf U m i (n+1) L (Zaj dq))) /\
  (¬(b=true)->Wp M1 (.run fi3 (atC (cd Try.f3) [1,1,1,1,1,0,1,0,0,1,1,0,0,1,1,1,1,1,0,0]) [(5,AV.vec false 9 (List.map Mo.a l)),(8,AV.ptr 0 0 0 0),(43,AV.vec hf 1 (List.map (AV.int IntKind.u8) U)),(44,vi m),(45,vi i)] L) (Zaj dq))) :
 hsX_at l hf U m i n b L (Zaj dq):=by
 unfold hsX_at
 rcases xq H with ⟨d2,H⟩|⟨d2,H⟩
 ·obtain ⟨k3,H⟩:=H
  have w4:wi (n+1)=n+1:=wI64 k3
  have i5:(decide (wi (n+1)>20000))=true ↔ (n+1>20000):=(by (try rw [w4]);all_goals exact Zae)
  rcases xq H with ⟨d6,H⟩|⟨d6,H⟩
  ·exact Zao (G:=Zab kp3 [] []) 1000 [true,true] (asm:=[(b)==true,(decide (wi (n+1)>20000))==true]) (vb false) (by kernel_rfl) (bc (Zam ((Zas _).2 d2)) (bc (Zam (i5.2 d6)) b0)) q0 c0 H
  ·exact Zac (G:=Zab kp3 [] []) 1000 [true,false] ⟨(atC (cd Try.f3) [1,1,1,1,1,0,1,0,0,1,1,0,0,1,1,1,1,0,0,0]),[(5,AV.vec false 9 (List.map Mo.a l)),(8,AV.ptr 0 0 0 0),(12,vi (wi (n+1))),(43,AV.vec hf 1 (List.map (AV.int IntKind.u8) U)),(44,vi m),(45,vi i),(62,vb (decide (wi (n+1)>20000)))],L,[(b)==true,(decide (wi (n+1)>20000))==false],[],_⟩ (by kernel_rfl) (bc (Zam ((Zas _).2 d2)) (bc (Zal (fun h=>d6 (i5.1 h))) b0)) q0 c0 (by (try rw [w4]);all_goals exact Wp.less [5,8,43,44,45,12] H)
 ·exact Zac (G:=Zab kp3 [] []) 4 [false] ⟨(atC (cd Try.f3) [1,1,1,1,1,0,1,0,0,1,1,0,0,1,1,1,1,1,0,0]),[(5,AV.vec false 9 (List.map Mo.a l)),(8,AV.ptr 0 0 0 0),(43,AV.vec hf 1 (List.map (AV.int IntKind.u8) U)),(44,vi m),(45,vi i),(12,vi n),(58,vb b)],L,[(b)==false],[],_⟩ (by kernel_rfl) (bc (Zal (fun h=>d2 ((Zas _).1 h))) b0) q0 c0 (Wp.less [5,8,43,44,45] H)
noncomputable abbrev zCxY2 (l:List Mo) (ix:Int) (p:Int):=ag [vi (N.pox l ix p),vi (N.poy l ix p),vi (N.poz l ix p)]
theorem hsYA (fm:Bool) (l:List Mo) (S A j ix p:Int) (qx qy qz:Int) (hf:Bool) (U:List Int) (m i:Int)  (dq:AV) (H :
  (N.okC l ix p) /\
  (N.okOff l ix false true) /\
  (((¬((N.pox l ix p=N.pox l ix p)/\((N.poy l ix p=N.poy l ix p)/\(N.poz l ix p=N.poz l ix p))))\/(¬ix=ix))->vb false=dq) /\
  (¬((¬((N.pox l ix p=N.pox l ix p)/\((N.poy l ix p=N.poy l ix p)/\(N.poz l ix p=N.poz l ix p))))\/(¬ix=ix))->(-9223372036854775808<=i+1/\i+1<=9223372036854775807) /\
   ZgI l hf U m (i+1) ([{ elems:=[ag [AV.vec fm 9 (List.map Mo.a l),vi S,vi A,vi j,vi ix,vi p,AV.vnil,vi 0,vb false,vb false,vb false,AV.vnil,vi qx,vi qy,vi qz]],es:=15,ver:=0,frozen:=false,clean:=false }]) (Zaj dq))) :
 hsYA_at fm l S A j ix p qx qy qz hf U m i (Zaj dq):=by
 unfold hsYA_at
 obtain ⟨k1,k2,H⟩:=H
 refine Zac (G:=Zab kp3 [(20,1,.call (tu [vb true,vb true]) none),(23,1,.call ((zCxY2 l ix p)) none),(23,3,.call (vi ix) none),(24,1,.call (vb false) none),(24,4,.call ((zCxY2 l ix p)) none),(24,10,.call (vi ix) none)] [(24,[1010,1004,1001])]) 10 [false] ⟨(atC (cd Try.f3) [1,1,1,1,1,0,1,0,0,1,1,0,0,1,1,1,1,1,1,1,0,1]),[(5,AV.vec false 9 (List.map Mo.a l)),(8,AV.ptr 0 0 0 0),(43,AV.vec hf 1 (List.map (AV.int IntKind.u8) U)),(44,vi m),(45,vi i),(91,vb (bif !(N.pox l ix p==N.pox l ix p&&(N.poy l ix p==N.poy l ix p&&(N.poz l ix p==N.poz l ix p&&true))) then true else ix != ix))],[⟨[ag [AV.vec fm 9 (List.map Mo.a l),vi S,vi A,vi j,vi ix,vi p,AV.vnil,vi 0,vb false,vb true,vb false,AV.vnil,vi qx,vi qy,vi qz]],15,0,false,false⟩,⟨[(zCxY2 l ix p)],3,0,false,false⟩],_,[],[⟨true,true,12,[AV.ptr 0 0 0 0],[⟨[ag [AV.vec fm 9 (List.map Mo.a l),vi S,vi A,vi j,vi ix,vi p,AV.vnil,vi 0,vb false,vb true,vb false,AV.vnil,vi qx,vi qy,vi qz]],15,0,false,false⟩],tu [vb true,vb true],[⟨[ag [AV.vec fm 9 (List.map Mo.a l),vi S,vi A,vi j,vi ix,vi p,AV.vnil,vi 0,vb false,vb true,vb false,AV.vnil,vi qx,vi qy,vi qz]],15,0,false,false⟩]⟩,⟨true,true,13,[AV.ptr 0 0 0 0],[⟨[ag [AV.vec fm 9 (List.map Mo.a l),vi S,vi A,vi j,vi ix,vi p,AV.vnil,vi 0,vb false,vb true,vb false,AV.vnil,vi qx,vi qy,vi qz]],15,0,false,false⟩],(zCxY2 l ix p),[⟨[ag [AV.vec fm 9 (List.map Mo.a l),vi S,vi A,vi j,vi ix,vi p,AV.vnil,vi 0,vb false,vb true,vb false,AV.vnil,vi qx,vi qy,vi qz]],15,0,false,false⟩]⟩,⟨true,true,14,[AV.ptr 0 0 0 0],[⟨[ag [AV.vec fm 9 (List.map Mo.a l),vi S,vi A,vi j,vi ix,vi p,AV.vnil,vi 0,vb false,vb true,vb false,AV.vnil,vi qx,vi qy,vi qz]],15,0,false,false⟩],vi ix,[⟨[ag [AV.vec fm 9 (List.map Mo.a l),vi S,vi A,vi j,vi ix,vi p,AV.vnil,vi 0,vb false,vb true,vb false,AV.vnil,vi qx,vi qy,vi qz]],15,0,false,false⟩]⟩,⟨true,true,10,[AV.ptr 0 0 0 0],[⟨[ag [AV.vec fm 9 (List.map Mo.a l),vi S,vi A,vi j,vi ix,vi p,AV.vnil,vi 0,vb false,vb true,vb false,AV.vnil,vi qx,vi qy,vi qz]],15,0,false,false⟩],vb false,[⟨[ag [AV.vec fm 9 (List.map Mo.a l),vi S,vi A,vi j,vi ix,vi p,AV.vnil,vi 0,vb false,vb true,vb false,AV.vnil,vi qx,vi qy,vi qz]],15,0,false,false⟩]⟩,⟨true,true,13,[AV.ptr 0 0 0 0],[⟨[ag [AV.vec fm 9 (List.map Mo.a l),vi S,vi A,vi j,vi ix,vi p,AV.vnil,vi 0,vb false,vb true,vb false,AV.vnil,vi qx,vi qy,vi qz]],15,0,false,false⟩],(zCxY2 l ix p),[⟨[ag [AV.vec fm 9 (List.map Mo.a l),vi S,vi A,vi j,vi ix,vi p,AV.vnil,vi 0,vb false,vb true,vb false,AV.vnil,vi qx,vi qy,vi qz]],15,0,false,false⟩]⟩,⟨(!(N.pox l ix p==N.pox l ix p&&(N.poy l ix p==N.poy l ix p&&(N.poz l ix p==N.poz l ix p&&true))))==false&&true&&true,true,14,[AV.ptr 0 0 0 0],[⟨[ag [AV.vec fm 9 (List.map Mo.a l),vi S,vi A,vi j,vi ix,vi p,AV.vnil,vi 0,vb false,vb true,vb false,AV.vnil,vi qx,vi qy,vi qz]],15,0,false,false⟩],vi ix,[⟨[ag [AV.vec fm 9 (List.map Mo.a l),vi S,vi A,vi j,vi ix,vi p,AV.vnil,vi 0,vb false,vb true,vb false,AV.vnil,vi qx,vi qy,vi qz]],15,0,false,false⟩]⟩]⟩ (by kernel_rfl) (bc rfl (bc rfl (bc rfl b0))) q0 (cc (fun _=>(@evo12_a fm l S A j ix p true false qx qy qz)) (cc (fun _=>(@Zen fm l S A j ix p 0 false true false qx qy qz k1)) (cc (fun _=>(@evo14_a fm l S A j ix p true false qx qy qz)) (cc (fun _=>(@evo10_a fm l S A j ix p true false qx qy qz k2)) (cc (fun _=>(@Zen fm l S A j ix p 0 false true false qx qy qz k1)) (cc (fun hc=>((@evo14_a fm l S A j ix p true false qx qy qz):Ev M1 (Conf.own 14 [AV.ptr 0 0 0 0] [⟨[ag [AV.vec fm 9 (List.map Mo.a l),vi S,vi A,vi j,vi ix,vi p,AV.vnil,vi 0,vb false,vb true,vb false,AV.vnil,vi qx,vi qy,vi qz]],15,0,false,false⟩]) (vi ix) [⟨[ag [AV.vec fm 9 (List.map Mo.a l),vi S,vi A,vi j,vi ix,vi p,AV.vnil,vi 0,vb false,vb true,vb false,AV.vnil,vi qx,vi qy,vi qz]],15,0,false,false⟩])) c0)))))) ?_
 rcases xq H with ⟨d5,H⟩|⟨d5,H⟩
 ·exact Zao (G:=Zab kp3 [] []) 1000 [true] (vb false) (by kernel_rfl) (bc (Zam ((ZaK (ZaO (ZaG i_eq (ZaG i_eq (i_at i_eq)))) i_ne).2 d5)) b0) q0 c0 H
 ·obtain ⟨k6,H⟩:=H
  have w7:wi (i+1)=i+1:=wI64 k6
  exact Zac (G:=Zab kp3 [(26,1,.call (tu []) (some [⟨[ag [AV.vec fm 9 (List.map Mo.a l),vi S,vi A,vi j,vi ix,vi p,AV.vnil,vi 0,vb false,vb false,vb false,AV.vnil,vi qx,vi qy,vi qz]],15,0,false,false⟩]))] []) 1000 [false] ⟨(atC (cd Try.f3) [1,1,1,1,1,0,1,0,0]),[(5,AV.vec false 9 (List.map Mo.a l)),(8,AV.ptr 0 0 0 0),(43,AV.vec hf 1 (List.map (AV.int IntKind.u8) U)),(44,vi m),(45,vi (wi (i+1)))],[⟨[ag [AV.vec fm 9 (List.map Mo.a l),vi S,vi A,vi j,vi ix,vi p,AV.vnil,vi 0,vb false,vb false,vb false,AV.vnil,vi qx,vi qy,vi qz]],15,0,false,false⟩,⟨[(zCxY2 l ix p)],3,0,false,false⟩],_,[],[⟨true,true,15,[AV.ptr 0 0 0 0],[⟨[ag [AV.vec fm 9 (List.map Mo.a l),vi S,vi A,vi j,vi ix,vi p,AV.vnil,vi 0,vb false,vb true,vb false,AV.vnil,vi qx,vi qy,vi qz]],15,0,false,false⟩],tu [],[⟨[ag [AV.vec fm 9 (List.map Mo.a l),vi S,vi A,vi j,vi ix,vi p,AV.vnil,vi 0,vb false,vb false,vb false,AV.vnil,vi qx,vi qy,vi qz]],15,0,false,false⟩]⟩]⟩ (by kernel_rfl) (bc (Zal (fun h=>d5 ((ZaK (ZaO (ZaG i_eq (ZaG i_eq (i_at i_eq)))) i_ne).1 h))) b0) q0 (cc (fun _=>(@evo15_a fm l S A j ix p true false qx qy qz)) c0) (by (try rw [w7]);all_goals exact Zar [0] (by kernel_rfl) H)
noncomputable abbrev zCxY3 (l:List Mo) (ix:Int) (p:Int):=ag [vi (N.pox l ix p),vi (N.poy l ix p),vi (N.poz l ix p)]
theorem hsYB (fm:Bool) (l:List Mo) (S A j ix p:Int) (qx qy qz:Int) (P:List Mo) (w:Nat) (hf:Bool) (U:List Int) (m i:Int)  (dq:AV) (H :
  (N.okC l ix p) /\
  (N.okOff l ix false true) /\
  (((¬((N.pox l ix p=N.pox l ix p)/\((N.poy l ix p=N.poy l ix p)/\(N.poz l ix p=N.poz l ix p))))\/(¬ix=ix))->vb false=dq) /\
  (¬((¬((N.pox l ix p=N.pox l ix p)/\((N.poy l ix p=N.poy l ix p)/\(N.poz l ix p=N.poz l ix p))))\/(¬ix=ix))->(-9223372036854775808<=i+1/\i+1<=9223372036854775807) /\
   ZgI l hf U m (i+1) ([{ elems:=[ag [AV.vec fm 9 (List.map Mo.a l),vi S,vi A,vi j,vi ix,vi p,AV.vnil,vi 0,vb false,vb false,vb false,AV.row 1 w,vi qx,vi qy,vi qz]],es:=15,ver:=0,frozen:=false,clean:=false },{ elems:=List.map Mo.a P,es:=9,ver:=w,frozen:=false,clean:=true }]) (Zaj dq))) :
 hsYB_at fm l S A j ix p qx qy qz P w hf U m i (Zaj dq):=by
 unfold hsYB_at
 obtain ⟨k1,k2,H⟩:=H
 refine Zac (G:=Zab kp3 [(20,1,.call (tu [vb true,vb true]) none),(23,1,.call ((zCxY3 l ix p)) none),(23,3,.call (vi ix) none),(24,1,.call (vb false) none),(24,4,.call ((zCxY3 l ix p)) none),(24,10,.call (vi ix) none)] [(24,[1010,1004,1001])]) 10 [false] ⟨(atC (cd Try.f3) [1,1,1,1,1,0,1,0,0,1,1,0,0,1,1,1,1,1,1,1,0,1]),[(5,AV.vec false 9 (List.map Mo.a l)),(8,AV.ptr 0 0 0 0),(43,AV.vec hf 1 (List.map (AV.int IntKind.u8) U)),(44,vi m),(45,vi i),(91,vb (bif !(N.pox l ix p==N.pox l ix p&&(N.poy l ix p==N.poy l ix p&&(N.poz l ix p==N.poz l ix p&&true))) then true else ix != ix))],[⟨[ag [AV.vec fm 9 (List.map Mo.a l),vi S,vi A,vi j,vi ix,vi p,AV.vnil,vi 0,vb false,vb true,vb false,AV.row 1 w,vi qx,vi qy,vi qz]],15,0,false,false⟩,⟨List.map Mo.a P,9,w,false,true⟩,⟨[(zCxY3 l ix p)],3,0,false,false⟩],_,[],[⟨true,true,12,[AV.ptr 0 0 0 0],[⟨[ag [AV.vec fm 9 (List.map Mo.a l),vi S,vi A,vi j,vi ix,vi p,AV.vnil,vi 0,vb false,vb true,vb false,AV.row 1 w,vi qx,vi qy,vi qz]],15,0,false,false⟩,⟨List.map Mo.a P,9,w,false,true⟩],tu [vb true,vb true],[⟨[ag [AV.vec fm 9 (List.map Mo.a l),vi S,vi A,vi j,vi ix,vi p,AV.vnil,vi 0,vb false,vb true,vb false,AV.row 1 w,vi qx,vi qy,vi qz]],15,0,false,false⟩,⟨List.map Mo.a P,9,w,false,true⟩]⟩,⟨true,true,13,[AV.ptr 0 0 0 0],[⟨[ag [AV.vec fm 9 (List.map Mo.a l),vi S,vi A,vi j,vi ix,vi p,AV.vnil,vi 0,vb false,vb true,vb false,AV.row 1 w,vi qx,vi qy,vi qz]],15,0,false,false⟩,⟨List.map Mo.a P,9,w,false,true⟩],(zCxY3 l ix p),[⟨[ag [AV.vec fm 9 (List.map Mo.a l),vi S,vi A,vi j,vi ix,vi p,AV.vnil,vi 0,vb false,vb true,vb false,AV.row 1 w,vi qx,vi qy,vi qz]],15,0,false,false⟩,⟨List.map Mo.a P,9,w,false,true⟩]⟩,⟨true,true,14,[AV.ptr 0 0 0 0],[⟨[ag [AV.vec fm 9 (List.map Mo.a l),vi S,vi A,vi j,vi ix,vi p,AV.vnil,vi 0,vb false,vb true,vb false,AV.row 1 w,vi qx,vi qy,vi qz]],15,0,false,false⟩,⟨List.map Mo.a P,9,w,false,true⟩],vi ix,[⟨[ag [AV.vec fm 9 (List.map Mo.a l),vi S,vi A,vi j,vi ix,vi p,AV.vnil,vi 0,vb false,vb true,vb false,AV.row 1 w,vi qx,vi qy,vi qz]],15,0,false,false⟩,⟨List.map Mo.a P,9,w,false,true⟩]⟩,⟨true,true,10,[AV.ptr 0 0 0 0],[⟨[ag [AV.vec fm 9 (List.map Mo.a l),vi S,vi A,vi j,vi ix,vi p,AV.vnil,vi 0,vb false,vb true,vb false,AV.row 1 w,vi qx,vi qy,vi qz]],15,0,false,false⟩,⟨List.map Mo.a P,9,w,false,true⟩],vb false,[⟨[ag [AV.vec fm 9 (List.map Mo.a l),vi S,vi A,vi j,vi ix,vi p,AV.vnil,vi 0,vb false,vb true,vb false,AV.row 1 w,vi qx,vi qy,vi qz]],15,0,false,false⟩,⟨List.map Mo.a P,9,w,false,true⟩]⟩,⟨true,true,13,[AV.ptr 0 0 0 0],[⟨[ag [AV.vec fm 9 (List.map Mo.a l),vi S,vi A,vi j,vi ix,vi p,AV.vnil,vi 0,vb false,vb true,vb false,AV.row 1 w,vi qx,vi qy,vi qz]],15,0,false,false⟩,⟨List.map Mo.a P,9,w,false,true⟩],(zCxY3 l ix p),[⟨[ag [AV.vec fm 9 (List.map Mo.a l),vi S,vi A,vi j,vi ix,vi p,AV.vnil,vi 0,vb false,vb true,vb false,AV.row 1 w,vi qx,vi qy,vi qz]],15,0,false,false⟩,⟨List.map Mo.a P,9,w,false,true⟩]⟩,⟨(!(N.pox l ix p==N.pox l ix p&&(N.poy l ix p==N.poy l ix p&&(N.poz l ix p==N.poz l ix p&&true))))==false&&true&&true,true,14,[AV.ptr 0 0 0 0],[⟨[ag [AV.vec fm 9 (List.map Mo.a l),vi S,vi A,vi j,vi ix,vi p,AV.vnil,vi 0,vb false,vb true,vb false,AV.row 1 w,vi qx,vi qy,vi qz]],15,0,false,false⟩,⟨List.map Mo.a P,9,w,false,true⟩],vi ix,[⟨[ag [AV.vec fm 9 (List.map Mo.a l),vi S,vi A,vi j,vi ix,vi p,AV.vnil,vi 0,vb false,vb true,vb false,AV.row 1 w,vi qx,vi qy,vi qz]],15,0,false,false⟩,⟨List.map Mo.a P,9,w,false,true⟩]⟩]⟩ (by kernel_rfl) (bc rfl (bc rfl (bc rfl b0))) q0 (cc (fun _=>(@evo12_b fm l S A j ix p true false qx qy qz P w false)) (cc (fun _=>(@ZcP fm l S A j ix p 0 false true false qx qy qz P w false k1)) (cc (fun _=>(@evo14_b fm l S A j ix p true false qx qy qz P w false)) (cc (fun _=>(@evo10_b fm l S A j ix p true false qx qy qz P w k2)) (cc (fun _=>(@ZcP fm l S A j ix p 0 false true false qx qy qz P w false k1)) (cc (fun hc=>((@evo14_b fm l S A j ix p true false qx qy qz P w false):Ev M1 (Conf.own 14 [AV.ptr 0 0 0 0] [⟨[ag [AV.vec fm 9 (List.map Mo.a l),vi S,vi A,vi j,vi ix,vi p,AV.vnil,vi 0,vb false,vb true,vb false,AV.row 1 w,vi qx,vi qy,vi qz]],15,0,false,false⟩,⟨List.map Mo.a P,9,w,false,true⟩]) (vi ix) [⟨[ag [AV.vec fm 9 (List.map Mo.a l),vi S,vi A,vi j,vi ix,vi p,AV.vnil,vi 0,vb false,vb true,vb false,AV.row 1 w,vi qx,vi qy,vi qz]],15,0,false,false⟩,⟨List.map Mo.a P,9,w,false,true⟩])) c0)))))) ?_
 rcases xq H with ⟨d5,H⟩|⟨d5,H⟩
 ·exact Zao (G:=Zab kp3 [] []) 1000 [true] (vb false) (by kernel_rfl) (bc (Zam ((ZaK (ZaO (ZaG i_eq (ZaG i_eq (i_at i_eq)))) i_ne).2 d5)) b0) q0 c0 H
 ·obtain ⟨k6,H⟩:=H
  have w7:wi (i+1)=i+1:=wI64 k6
  exact Zac (G:=Zab kp3 [(26,1,.call (tu []) (some [⟨[ag [AV.vec fm 9 (List.map Mo.a l),vi S,vi A,vi j,vi ix,vi p,AV.vnil,vi 0,vb false,vb false,vb false,AV.row 1 w,vi qx,vi qy,vi qz]],15,0,false,false⟩,⟨List.map Mo.a P,9,w,false,true⟩]))] []) 1000 [false] ⟨(atC (cd Try.f3) [1,1,1,1,1,0,1,0,0]),[(5,AV.vec false 9 (List.map Mo.a l)),(8,AV.ptr 0 0 0 0),(43,AV.vec hf 1 (List.map (AV.int IntKind.u8) U)),(44,vi m),(45,vi (wi (i+1)))],[⟨[ag [AV.vec fm 9 (List.map Mo.a l),vi S,vi A,vi j,vi ix,vi p,AV.vnil,vi 0,vb false,vb false,vb false,AV.row 1 w,vi qx,vi qy,vi qz]],15,0,false,false⟩,⟨List.map Mo.a P,9,w,false,true⟩,⟨[(zCxY3 l ix p)],3,0,false,false⟩],_,[],[⟨true,true,15,[AV.ptr 0 0 0 0],[⟨[ag [AV.vec fm 9 (List.map Mo.a l),vi S,vi A,vi j,vi ix,vi p,AV.vnil,vi 0,vb false,vb true,vb false,AV.row 1 w,vi qx,vi qy,vi qz]],15,0,false,false⟩,⟨List.map Mo.a P,9,w,false,true⟩],tu [],[⟨[ag [AV.vec fm 9 (List.map Mo.a l),vi S,vi A,vi j,vi ix,vi p,AV.vnil,vi 0,vb false,vb false,vb false,AV.row 1 w,vi qx,vi qy,vi qz]],15,0,false,false⟩,⟨List.map Mo.a P,9,w,false,true⟩]⟩]⟩ (by kernel_rfl) (bc (Zal (fun h=>d5 ((ZaK (ZaO (ZaG i_eq (ZaG i_eq (i_at i_eq)))) i_ne).1 h))) b0) q0 (cc (fun _=>(@evo15_b fm l S A j ix p true false qx qy qz P w)) c0) (by (try rw [w7]);all_goals exact Zar [0,1] (by kernel_rfl) H)
noncomputable abbrev zCxY4 (l:List Mo) (iy:Int) (py:Int):=ag [vi (N.pox l iy py),vi (N.poy l iy py),vi (N.poz l iy py)]
noncomputable abbrev zCxY5 (l:List Mo) (iy:Int) (py:Int):=N.enP (N.pox l iy py) (N.poy l iy py) (N.poz l iy py) l
noncomputable abbrev zCxY6 (l:List Mo) (iy:Int) (py:Int):=ag [vi (zCxY5 l iy py).x,vi (zCxY5 l iy py).y,vi (zCxY5 l iy py).z]
theorem hsZaa (fm:Bool) (l:List Mo) (S A j ix p:Int) (qx qy qz:Int) (iy py rx ry rz:Int) (dq:AV) (H :
  (Ev M1 (Conf.own 16 [AV.ptr 0 0 0 0,vi (↑(List.map Mo.a l).length:Int)] [{ elems:=[ag [AV.vec fm 9 (List.map Mo.a l),vi S,vi A,vi j,vi ix,vi p,AV.vnil,vi 0,vb false,vb false,vb false,AV.vnil,vi qx,vi qy,vi qz]],es:=15,ver:=0,frozen:=false,clean:=false }]) (vb true) [{ elems:=[ag [AV.vec fm 9 (List.map Mo.a l),vi S,vi A,vi j,vi iy,vi py,AV.vnil,vi 0,vb false,vb false,vb false,AV.vnil,vi rx,vi ry,vi rz]],es:=15,ver:=0,frozen:=false,clean:=false }]) /\
  (N.okC l iy py) /\
  ∃ (l1:List Mo),
  (Ev M1 (Conf.pure 18 [AV.vec false 9 []]) (AV.vec false 9 (List.map Mo.a l1)) []) /\
  (N.ZeZ l) /\
  (N.okSm l1 (N.lng l)) /\
  vb (bif N.smM l1 (N.lng l) then N.pox l iy py==(N.enP (N.pox l iy py) (N.poy l iy py) (N.poz l iy py) l).x&&(N.poy l iy py==(N.enP (N.pox l iy py) (N.poy l iy py) (N.poz l iy py) l).y&&(N.poz l iy py==(N.enP (N.pox l iy py) (N.poy l iy py) (N.poz l iy py) l).z&&true)) else false)=dq) :
 hsZaa_at fm l S A j ix p qx qy qz (Zaj dq):=by
 unfold hsZaa_at
 obtain ⟨k1,k2,l1,k3,k4,k5,H⟩:=H
 exact Zao (G:=Zab kp3 [(28,3,(.call (.bool true) (some [⟨[.agg [.vec fm 9 (l.map Mo.a),.int .i64 S,.int .i64 A,.int .i64 j,.int .i64 iy,.int .i64 py,.vnil,.int .i64 0,.bool false,.bool false,.bool false,.vnil,.int .i64 rx,.int .i64 ry,.int .i64 rz]],15,0,false,false⟩]):Ans)),(28,6,.call (AV.vec false 9 []) none),(28,7,.call (AV.vec false 9 (List.map Mo.a l1)) none),(28,9,.call (AV.vec false 9 (List.map Mo.a (N.lng l))) none),(28,10,.call (vb (N.smM l1 (N.lng l))) none),(28,14,.call ((zCxY4 l iy py)) none),(28,16,.call ((zCxY4 l iy py)) none),(28,18,.call ((zCxY6 l iy py)) none)] []) 1000 [] (calls:=[⟨true,true,16,[AV.ptr 0 0 0 0,vi (↑(List.map Mo.a l).length:Int)],[⟨[ag [AV.vec fm 9 (List.map Mo.a l),vi S,vi A,vi j,vi ix,vi p,AV.vnil,vi 0,vb false,vb false,vb false,AV.vnil,vi qx,vi qy,vi qz]],15,0,false,false⟩],vb true,[⟨[ag [AV.vec fm 9 (List.map Mo.a l),vi S,vi A,vi j,vi iy,vi py,AV.vnil,vi 0,vb false,vb false,vb false,AV.vnil,vi rx,vi ry,vi rz]],15,0,false,false⟩]⟩,⟨true,true,19,[AV.ptr 0 0 0 0],[⟨[ag [AV.vec fm 9 (List.map Mo.a l),vi S,vi A,vi j,vi iy,vi py,AV.vnil,vi 0,vb false,vb false,vb false,AV.vnil,vi rx,vi ry,vi rz]],15,0,false,false⟩],AV.vec false 9 [],[⟨[ag [AV.vec fm 9 (List.map Mo.a l),vi S,vi A,vi j,vi iy,vi py,AV.vnil,vi 0,vb false,vb false,vb false,AV.vnil,vi rx,vi ry,vi rz]],15,0,false,false⟩]⟩,⟨true,false,18,[AV.vec false 9 []],[],AV.vec false 9 (List.map Mo.a l1),[]⟩,⟨true,false,20,[AV.vec false 9 (List.map Mo.a l)],[],AV.vec false 9 (List.map Mo.a (N.lng l)),[]⟩,⟨true,false,17,[AV.vec false 9 (List.map Mo.a l1),AV.vec false 9 (List.map Mo.a (N.lng l))],[],vb (N.smM l1 (N.lng l)),[]⟩,⟨N.smM l1 (N.lng l)==true&&true&&true,true,13,[AV.ptr 0 0 0 0],[⟨[ag [AV.vec fm 9 (List.map Mo.a l),vi S,vi A,vi j,vi iy,vi py,AV.vnil,vi 0,vb false,vb false,vb false,AV.vnil,vi rx,vi ry,vi rz]],15,0,false,false⟩],(zCxY4 l iy py),[⟨[ag [AV.vec fm 9 (List.map Mo.a l),vi S,vi A,vi j,vi iy,vi py,AV.vnil,vi 0,vb false,vb false,vb false,AV.vnil,vi rx,vi ry,vi rz]],15,0,false,false⟩]⟩,⟨N.smM l1 (N.lng l)==true&&true&&true,true,13,[AV.ptr 0 0 0 0],[⟨[ag [AV.vec fm 9 (List.map Mo.a l),vi S,vi A,vi j,vi iy,vi py,AV.vnil,vi 0,vb false,vb false,vb false,AV.vnil,vi rx,vi ry,vi rz]],15,0,false,false⟩],(zCxY4 l iy py),[⟨[ag [AV.vec fm 9 (List.map Mo.a l),vi S,vi A,vi j,vi iy,vi py,AV.vnil,vi 0,vb false,vb false,vb false,AV.vnil,vi rx,vi ry,vi rz]],15,0,false,false⟩]⟩,⟨N.smM l1 (N.lng l)==true&&true&&true,false,21,[(zCxY4 l iy py),AV.vec false 9 (List.map Mo.a l)],[],(zCxY6 l iy py),[]⟩]) (vb (bif N.smM l1 (N.lng l) then N.pox l iy py==(zCxY5 l iy py).x&&(N.poy l iy py==(zCxY5 l iy py).y&&(N.poz l iy py==(zCxY5 l iy py).z&&true)) else false)) (by kernel_rfl) b0 q0 (cc (fun _=>k1) (cc (fun _=>(@evo19_a fm l S A j iy py false false rx ry rz k2)) (cc (fun _=>k3) (cc (fun _=>(@ev20 false l k4)) (cc (fun _=>(@ev17 false false l1 (N.lng l) k5)) (cc (fun hc=>((@Zen fm l S A j iy py 0 false false false rx ry rz k2):Ev M1 (Conf.own 13 [AV.ptr 0 0 0 0] [⟨[ag [AV.vec fm 9 (List.map Mo.a l),vi S,vi A,vi j,vi iy,vi py,AV.vnil,vi 0,vb false,vb false,vb false,AV.vnil,vi rx,vi ry,vi rz]],15,0,false,false⟩]) ((zCxY4 l iy py)) [⟨[ag [AV.vec fm 9 (List.map Mo.a l),vi S,vi A,vi j,vi iy,vi py,AV.vnil,vi 0,vb false,vb false,vb false,AV.vnil,vi rx,vi ry,vi rz]],15,0,false,false⟩])) (cc (fun hc=>((@Zen fm l S A j iy py 0 false false false rx ry rz k2):Ev M1 (Conf.own 13 [AV.ptr 0 0 0 0] [⟨[ag [AV.vec fm 9 (List.map Mo.a l),vi S,vi A,vi j,vi iy,vi py,AV.vnil,vi 0,vb false,vb false,vb false,AV.vnil,vi rx,vi ry,vi rz]],15,0,false,false⟩]) ((zCxY4 l iy py)) [⟨[ag [AV.vec fm 9 (List.map Mo.a l),vi S,vi A,vi j,vi iy,vi py,AV.vnil,vi 0,vb false,vb false,vb false,AV.vnil,vi rx,vi ry,vi rz]],15,0,false,false⟩])) (cc (fun hc=>((@ev21 (N.pox l iy py) (N.poy l iy py) (N.poz l iy py) false l k4):Ev M1 (Conf.pure 21 [(zCxY4 l iy py),AV.vec false 9 (List.map Mo.a l)]) ((zCxY6 l iy py)) [])) c0)))))))) H
noncomputable abbrev zCxY7 (l:List Mo) (iy:Int) (py:Int):=ag [vi (N.pox l iy py),vi (N.poy l iy py),vi (N.poz l iy py)]
noncomputable abbrev zCxY8 (l:List Mo) (iy:Int) (py:Int):=N.enP (N.pox l iy py) (N.poy l iy py) (N.poz l iy py) l
noncomputable abbrev zCxY9 (l:List Mo) (iy:Int) (py:Int):=ag [vi (zCxY8 l iy py).x,vi (zCxY8 l iy py).y,vi (zCxY8 l iy py).z]
theorem hsZab (fm:Bool) (l:List Mo) (S A j ix p:Int) (qx qy qz:Int) (iy py rx ry rz:Int) (R:List Mo) (wy:Nat) (dq:AV) (H :
  (Ev M1 (Conf.own 16 [AV.ptr 0 0 0 0,vi (↑(List.map Mo.a l).length:Int)] [{ elems:=[ag [AV.vec fm 9 (List.map Mo.a l),vi S,vi A,vi j,vi ix,vi p,AV.vnil,vi 0,vb false,vb false,vb false,AV.vnil,vi qx,vi qy,vi qz]],es:=15,ver:=0,frozen:=false,clean:=false }]) (vb true) [{ elems:=[ag [AV.vec fm 9 (List.map Mo.a l),vi S,vi A,vi j,vi iy,vi py,AV.vnil,vi 0,vb false,vb false,vb false,AV.row 1 wy,vi rx,vi ry,vi rz]],es:=15,ver:=0,frozen:=false,clean:=false },{ elems:=List.map Mo.a R,es:=9,ver:=wy,frozen:=false,clean:=true }]) /\
  (N.okDn l iy py R) /\
  (N.ZeZ R) /\
  (N.ZeZ l) /\
  (N.okSm (N.wh R) (N.lng l)) /\
  ((N.smM (N.wh R) (N.lng l)=true)->(N.okC l iy py)) /\
  vb (bif N.smM (N.wh R) (N.lng l) then N.pox l iy py==(N.enP (N.pox l iy py) (N.poy l iy py) (N.poz l iy py) l).x&&(N.poy l iy py==(N.enP (N.pox l iy py) (N.poy l iy py) (N.poz l iy py) l).y&&(N.poz l iy py==(N.enP (N.pox l iy py) (N.poy l iy py) (N.poz l iy py) l).z&&true)) else false)=dq) :
 hsZab_at fm l S A j ix p qx qy qz (Zaj dq):=by
 unfold hsZab_at
 obtain ⟨k1,k2,k3,k4,k5,k7,H⟩:=H
 exact Zao (G:=Zab kp3 [(28,3,(.call (.bool true) (some [⟨[.agg [.vec fm 9 (l.map Mo.a),.int .i64 S,.int .i64 A,.int .i64 j,.int .i64 iy,.int .i64 py,.vnil,.int .i64 0,.bool false,.bool false,.bool false,.row 1 wy,.int .i64 rx,.int .i64 ry,.int .i64 rz]],15,0,false,false⟩,⟨R.map Mo.a,9,wy,false,true⟩]):Ans)),(28,6,.call (AV.vec false 9 (List.map Mo.a R)) (some [⟨[ag [AV.vec fm 9 (List.map Mo.a l),vi S,vi A,vi j,vi iy,vi py,AV.vnil,vi 0,vb false,vb false,vb false,AV.row 1 wy,vi rx,vi ry,vi rz]],15,0,false,false⟩,⟨List.map Mo.a R,9,wy,true,true⟩])),(28,7,.call (AV.vec false 9 (List.map Mo.a (N.wh R))) none),(28,9,.call (AV.vec false 9 (List.map Mo.a (N.lng l))) none),(28,10,.call (vb (N.smM (N.wh R) (N.lng l))) none),(28,14,.call ((zCxY7 l iy py)) none),(28,16,.call ((zCxY7 l iy py)) none),(28,18,.call ((zCxY9 l iy py)) none)] []) 1000 [] (calls:=[⟨true,true,16,[AV.ptr 0 0 0 0,vi (↑(List.map Mo.a l).length:Int)],[⟨[ag [AV.vec fm 9 (List.map Mo.a l),vi S,vi A,vi j,vi ix,vi p,AV.vnil,vi 0,vb false,vb false,vb false,AV.vnil,vi qx,vi qy,vi qz]],15,0,false,false⟩],vb true,[⟨[ag [AV.vec fm 9 (List.map Mo.a l),vi S,vi A,vi j,vi iy,vi py,AV.vnil,vi 0,vb false,vb false,vb false,AV.row 1 wy,vi rx,vi ry,vi rz]],15,0,false,false⟩,⟨List.map Mo.a R,9,wy,false,true⟩]⟩,⟨true,true,19,[AV.ptr 0 0 0 0],[⟨[ag [AV.vec fm 9 (List.map Mo.a l),vi S,vi A,vi j,vi iy,vi py,AV.vnil,vi 0,vb false,vb false,vb false,AV.row 1 wy,vi rx,vi ry,vi rz]],15,0,false,false⟩,⟨List.map Mo.a R,9,wy,false,true⟩],AV.vec false 9 (List.map Mo.a R),[⟨[ag [AV.vec fm 9 (List.map Mo.a l),vi S,vi A,vi j,vi iy,vi py,AV.vnil,vi 0,vb false,vb false,vb false,AV.row 1 wy,vi rx,vi ry,vi rz]],15,0,false,false⟩,⟨List.map Mo.a R,9,wy,true,true⟩]⟩,⟨true,false,18,[AV.vec false 9 (List.map Mo.a R)],[],AV.vec false 9 (List.map Mo.a (N.wh R)),[]⟩,⟨true,false,20,[AV.vec false 9 (List.map Mo.a l)],[],AV.vec false 9 (List.map Mo.a (N.lng l)),[]⟩,⟨true,false,17,[AV.vec false 9 (List.map Mo.a (N.wh R)),AV.vec false 9 (List.map Mo.a (N.lng l))],[],vb (N.smM (N.wh R) (N.lng l)),[]⟩,⟨N.smM (N.wh R) (N.lng l)==true&&true&&true,true,13,[AV.ptr 0 0 0 0],[⟨[ag [AV.vec fm 9 (List.map Mo.a l),vi S,vi A,vi j,vi iy,vi py,AV.vnil,vi 0,vb false,vb false,vb false,AV.row 1 wy,vi rx,vi ry,vi rz]],15,0,false,false⟩,⟨List.map Mo.a R,9,wy,true,true⟩],(zCxY7 l iy py),[⟨[ag [AV.vec fm 9 (List.map Mo.a l),vi S,vi A,vi j,vi iy,vi py,AV.vnil,vi 0,vb false,vb false,vb false,AV.row 1 wy,vi rx,vi ry,vi rz]],15,0,false,false⟩,⟨List.map Mo.a R,9,wy,true,true⟩]⟩,⟨N.smM (N.wh R) (N.lng l)==true&&true&&true,true,13,[AV.ptr 0 0 0 0],[⟨[ag [AV.vec fm 9 (List.map Mo.a l),vi S,vi A,vi j,vi iy,vi py,AV.vnil,vi 0,vb false,vb false,vb false,AV.row 1 wy,vi rx,vi ry,vi rz]],15,0,false,false⟩,⟨List.map Mo.a R,9,wy,true,true⟩],(zCxY7 l iy py),[⟨[ag [AV.vec fm 9 (List.map Mo.a l),vi S,vi A,vi j,vi iy,vi py,AV.vnil,vi 0,vb false,vb false,vb false,AV.row 1 wy,vi rx,vi ry,vi rz]],15,0,false,false⟩,⟨List.map Mo.a R,9,wy,true,true⟩]⟩,⟨N.smM (N.wh R) (N.lng l)==true&&true&&true,false,21,[(zCxY7 l iy py),AV.vec false 9 (List.map Mo.a l)],[],(zCxY9 l iy py),[]⟩]) (vb (bif N.smM (N.wh R) (N.lng l) then N.pox l iy py==(zCxY8 l iy py).x&&(N.poy l iy py==(zCxY8 l iy py).y&&(N.poz l iy py==(zCxY8 l iy py).z&&true)) else false)) (by kernel_rfl) b0 q0 (cc (fun _=>k1) (cc (fun _=>(@evo19_b fm l S A j iy py false false rx ry rz R wy k2)) (cc (fun _=>(@ev18 false R k3)) (cc (fun _=>(@ev20 false l k4)) (cc (fun _=>(@ev17 false false (N.wh R) (N.lng l) k5)) (cc (fun hc=>((@ZcP fm l S A j iy py 0 false false false rx ry rz R wy true (k7 ((i_at (i_at (i_bt (Zas _)))).1 hc))):Ev M1 (Conf.own 13 [AV.ptr 0 0 0 0] [⟨[ag [AV.vec fm 9 (List.map Mo.a l),vi S,vi A,vi j,vi iy,vi py,AV.vnil,vi 0,vb false,vb false,vb false,AV.row 1 wy,vi rx,vi ry,vi rz]],15,0,false,false⟩,⟨List.map Mo.a R,9,wy,true,true⟩]) ((zCxY7 l iy py)) [⟨[ag [AV.vec fm 9 (List.map Mo.a l),vi S,vi A,vi j,vi iy,vi py,AV.vnil,vi 0,vb false,vb false,vb false,AV.row 1 wy,vi rx,vi ry,vi rz]],15,0,false,false⟩,⟨List.map Mo.a R,9,wy,true,true⟩])) (cc (fun hc=>((@ZcP fm l S A j iy py 0 false false false rx ry rz R wy true (k7 ((i_at (i_at (i_bt (Zas _)))).1 hc))):Ev M1 (Conf.own 13 [AV.ptr 0 0 0 0] [⟨[ag [AV.vec fm 9 (List.map Mo.a l),vi S,vi A,vi j,vi iy,vi py,AV.vnil,vi 0,vb false,vb false,vb false,AV.row 1 wy,vi rx,vi ry,vi rz]],15,0,false,false⟩,⟨List.map Mo.a R,9,wy,true,true⟩]) ((zCxY7 l iy py)) [⟨[ag [AV.vec fm 9 (List.map Mo.a l),vi S,vi A,vi j,vi iy,vi py,AV.vnil,vi 0,vb false,vb false,vb false,AV.row 1 wy,vi rx,vi ry,vi rz]],15,0,false,false⟩,⟨List.map Mo.a R,9,wy,true,true⟩])) (cc (fun hc=>((@ev21 (N.pox l iy py) (N.poy l iy py) (N.poz l iy py) false l k4):Ev M1 (Conf.pure 21 [(zCxY7 l iy py),AV.vec false 9 (List.map Mo.a l)]) ((zCxY9 l iy py)) [])) c0)))))))) H
noncomputable abbrev ZeA (l:List Mo) (iy:Int) (py:Int):=ag [vi (N.pox l iy py),vi (N.poy l iy py),vi (N.poz l iy py)]
noncomputable abbrev Zf6 (l:List Mo) (iy:Int) (py:Int):=N.enP (N.pox l iy py) (N.poy l iy py) (N.poz l iy py) l
noncomputable abbrev zCxY12 (l:List Mo) (iy:Int) (py:Int):=ag [vi (Zf6 l iy py).x,vi (Zf6 l iy py).y,vi (Zf6 l iy py).z]
theorem hsZbb (fm:Bool) (l:List Mo) (S A j ix p:Int) (qx qy qz:Int) (P:List Mo) (w:Nat) (iy py rx ry rz:Int) (R:List Mo) (wy:Nat) (dq:AV) (H :
  (Ev M1 (Conf.own 16 [AV.ptr 0 0 0 0,vi (↑(List.map Mo.a l).length:Int)] [{ elems:=[ag [AV.vec fm 9 (List.map Mo.a l),vi S,vi A,vi j,vi ix,vi p,AV.vnil,vi 0,vb false,vb false,vb false,AV.row 1 w,vi qx,vi qy,vi qz]],es:=15,ver:=0,frozen:=false,clean:=false },{ elems:=List.map Mo.a P,es:=9,ver:=w,frozen:=false,clean:=true }]) (vb true) [{ elems:=[ag [AV.vec fm 9 (List.map Mo.a l),vi S,vi A,vi j,vi iy,vi py,AV.vnil,vi 0,vb false,vb false,vb false,AV.row 1 wy,vi rx,vi ry,vi rz]],es:=15,ver:=0,frozen:=false,clean:=false },{ elems:=List.map Mo.a R,es:=9,ver:=wy,frozen:=false,clean:=true }]) /\
  (N.okDn l iy py R) /\
  (N.ZeZ R) /\
  (N.ZeZ l) /\
  (N.okSm (N.wh R) (N.lng l)) /\
  ((N.smM (N.wh R) (N.lng l)=true)->(N.okC l iy py)) /\
  vb (bif N.smM (N.wh R) (N.lng l) then N.pox l iy py==(N.enP (N.pox l iy py) (N.poy l iy py) (N.poz l iy py) l).x&&(N.poy l iy py==(N.enP (N.pox l iy py) (N.poy l iy py) (N.poz l iy py) l).y&&(N.poz l iy py==(N.enP (N.pox l iy py) (N.poy l iy py) (N.poz l iy py) l).z&&true)) else false)=dq) :
 hsZbb_at fm l S A j ix p qx qy qz P w (Zaj dq):=by
 unfold hsZbb_at
 obtain ⟨k1,k2,k3,k4,k5,k7,H⟩:=H
 exact Zao (G:=Zab kp3 [(28,3,(.call (.bool true) (some [⟨[.agg [.vec fm 9 (l.map Mo.a),.int .i64 S,.int .i64 A,.int .i64 j,.int .i64 iy,.int .i64 py,.vnil,.int .i64 0,.bool false,.bool false,.bool false,.row 1 wy,.int .i64 rx,.int .i64 ry,.int .i64 rz]],15,0,false,false⟩,⟨R.map Mo.a,9,wy,false,true⟩]):Ans)),(28,6,.call (AV.vec false 9 (List.map Mo.a R)) (some [⟨[ag [AV.vec fm 9 (List.map Mo.a l),vi S,vi A,vi j,vi iy,vi py,AV.vnil,vi 0,vb false,vb false,vb false,AV.row 1 wy,vi rx,vi ry,vi rz]],15,0,false,false⟩,⟨List.map Mo.a R,9,wy,true,true⟩])),(28,7,.call (AV.vec false 9 (List.map Mo.a (N.wh R))) none),(28,9,.call (AV.vec false 9 (List.map Mo.a (N.lng l))) none),(28,10,.call (vb (N.smM (N.wh R) (N.lng l))) none),(28,14,.call ((ZeA l iy py)) none),(28,16,.call ((ZeA l iy py)) none),(28,18,.call ((zCxY12 l iy py)) none)] []) 1000 [] (calls:=[⟨true,true,16,[AV.ptr 0 0 0 0,vi (↑(List.map Mo.a l).length:Int)],[⟨[ag [AV.vec fm 9 (List.map Mo.a l),vi S,vi A,vi j,vi ix,vi p,AV.vnil,vi 0,vb false,vb false,vb false,AV.row 1 w,vi qx,vi qy,vi qz]],15,0,false,false⟩,⟨List.map Mo.a P,9,w,false,true⟩],vb true,[⟨[ag [AV.vec fm 9 (List.map Mo.a l),vi S,vi A,vi j,vi iy,vi py,AV.vnil,vi 0,vb false,vb false,vb false,AV.row 1 wy,vi rx,vi ry,vi rz]],15,0,false,false⟩,⟨List.map Mo.a R,9,wy,false,true⟩]⟩,⟨true,true,19,[AV.ptr 0 0 0 0],[⟨[ag [AV.vec fm 9 (List.map Mo.a l),vi S,vi A,vi j,vi iy,vi py,AV.vnil,vi 0,vb false,vb false,vb false,AV.row 1 wy,vi rx,vi ry,vi rz]],15,0,false,false⟩,⟨List.map Mo.a R,9,wy,false,true⟩],AV.vec false 9 (List.map Mo.a R),[⟨[ag [AV.vec fm 9 (List.map Mo.a l),vi S,vi A,vi j,vi iy,vi py,AV.vnil,vi 0,vb false,vb false,vb false,AV.row 1 wy,vi rx,vi ry,vi rz]],15,0,false,false⟩,⟨List.map Mo.a R,9,wy,true,true⟩]⟩,⟨true,false,18,[AV.vec false 9 (List.map Mo.a R)],[],AV.vec false 9 (List.map Mo.a (N.wh R)),[]⟩,⟨true,false,20,[AV.vec false 9 (List.map Mo.a l)],[],AV.vec false 9 (List.map Mo.a (N.lng l)),[]⟩,⟨true,false,17,[AV.vec false 9 (List.map Mo.a (N.wh R)),AV.vec false 9 (List.map Mo.a (N.lng l))],[],vb (N.smM (N.wh R) (N.lng l)),[]⟩,⟨N.smM (N.wh R) (N.lng l)==true&&true&&true,true,13,[AV.ptr 0 0 0 0],[⟨[ag [AV.vec fm 9 (List.map Mo.a l),vi S,vi A,vi j,vi iy,vi py,AV.vnil,vi 0,vb false,vb false,vb false,AV.row 1 wy,vi rx,vi ry,vi rz]],15,0,false,false⟩,⟨List.map Mo.a R,9,wy,true,true⟩],(ZeA l iy py),[⟨[ag [AV.vec fm 9 (List.map Mo.a l),vi S,vi A,vi j,vi iy,vi py,AV.vnil,vi 0,vb false,vb false,vb false,AV.row 1 wy,vi rx,vi ry,vi rz]],15,0,false,false⟩,⟨List.map Mo.a R,9,wy,true,true⟩]⟩,⟨N.smM (N.wh R) (N.lng l)==true&&true&&true,true,13,[AV.ptr 0 0 0 0],[⟨[ag [AV.vec fm 9 (List.map Mo.a l),vi S,vi A,vi j,vi iy,vi py,AV.vnil,vi 0,vb false,vb false,vb false,AV.row 1 wy,vi rx,vi ry,vi rz]],15,0,false,false⟩,⟨List.map Mo.a R,9,wy,true,true⟩],(ZeA l iy py),[⟨[ag [AV.vec fm 9 (List.map Mo.a l),vi S,vi A,vi j,vi iy,vi py,AV.vnil,vi 0,vb false,vb false,vb false,AV.row 1 wy,vi rx,vi ry,vi rz]],15,0,false,false⟩,⟨List.map Mo.a R,9,wy,true,true⟩]⟩,⟨N.smM (N.wh R) (N.lng l)==true&&true&&true,false,21,[(ZeA l iy py),AV.vec false 9 (List.map Mo.a l)],[],(zCxY12 l iy py),[]⟩]) (vb (bif N.smM (N.wh R) (N.lng l) then N.pox l iy py==(Zf6 l iy py).x&&(N.poy l iy py==(Zf6 l iy py).y&&(N.poz l iy py==(Zf6 l iy py).z&&true)) else false)) (by kernel_rfl) b0 q0 (cc (fun _=>k1) (cc (fun _=>(@evo19_b fm l S A j iy py false false rx ry rz R wy k2)) (cc (fun _=>(@ev18 false R k3)) (cc (fun _=>(@ev20 false l k4)) (cc (fun _=>(@ev17 false false (N.wh R) (N.lng l) k5)) (cc (fun hc=>((@ZcP fm l S A j iy py 0 false false false rx ry rz R wy true (k7 ((i_at (i_at (i_bt (Zas _)))).1 hc))):Ev M1 (Conf.own 13 [AV.ptr 0 0 0 0] [⟨[ag [AV.vec fm 9 (List.map Mo.a l),vi S,vi A,vi j,vi iy,vi py,AV.vnil,vi 0,vb false,vb false,vb false,AV.row 1 wy,vi rx,vi ry,vi rz]],15,0,false,false⟩,⟨List.map Mo.a R,9,wy,true,true⟩]) ((ZeA l iy py)) [⟨[ag [AV.vec fm 9 (List.map Mo.a l),vi S,vi A,vi j,vi iy,vi py,AV.vnil,vi 0,vb false,vb false,vb false,AV.row 1 wy,vi rx,vi ry,vi rz]],15,0,false,false⟩,⟨List.map Mo.a R,9,wy,true,true⟩])) (cc (fun hc=>((@ZcP fm l S A j iy py 0 false false false rx ry rz R wy true (k7 ((i_at (i_at (i_bt (Zas _)))).1 hc))):Ev M1 (Conf.own 13 [AV.ptr 0 0 0 0] [⟨[ag [AV.vec fm 9 (List.map Mo.a l),vi S,vi A,vi j,vi iy,vi py,AV.vnil,vi 0,vb false,vb false,vb false,AV.row 1 wy,vi rx,vi ry,vi rz]],15,0,false,false⟩,⟨List.map Mo.a R,9,wy,true,true⟩]) ((ZeA l iy py)) [⟨[ag [AV.vec fm 9 (List.map Mo.a l),vi S,vi A,vi j,vi iy,vi py,AV.vnil,vi 0,vb false,vb false,vb false,AV.row 1 wy,vi rx,vi ry,vi rz]],15,0,false,false⟩,⟨List.map Mo.a R,9,wy,true,true⟩])) (cc (fun hc=>((@ev21 (N.pox l iy py) (N.poy l iy py) (N.poz l iy py) false l k4):Ev M1 (Conf.pure 21 [(ZeA l iy py),AV.vec false 9 (List.map Mo.a l)]) ((zCxY12 l iy py)) [])) c0)))))))) H
end Go.Av

namespace Go.Av
open Go.Proofs
noncomputable def h12O:Array Oper:=match atC (cd Try.f3) [1,1,1,1,1,0,1,0,0,1,1,0,0,1,0,1,0,0,1,1,0,0] with
 | .code (.region _ ops _)::_=>ops
 | _ => #[]
theorem h12C:atC (cd Try.f3) [1,1,1,1,1,0,1,0,0,1,1,0,0,1,0,1,0,0,1,1,0,0] = .code (.region 12 h12O false) :: .inBlock 3::atC (cd Try.f3) [1,1,1,1,1,0,1,0,0,1,1,0,0,1,0,1,0,0,1,1,1]:=by kernel_rfl
noncomputable def h14O:Array Oper:=match atC (cd Try.f3) [1,1,1,1,1,0,1,0,0,1,1,0,0,1,1,0] with
 | .code (.region _ ops _)::_=>ops
 | _ => #[]
theorem h14C:atC (cd Try.f3) [1,1,1,1,1,0,1,0,0,1,1,0,0,1,1,0] = .code (.region 14 h14O false)::atC (cd Try.f3) [1,1,1,1,1,0,1,0,0,1,1,0,0,1,1,1]:=by kernel_rfl
noncomputable def h16O:Array Oper:=match atC (cd Try.f3) [1,1,1,1,1,0,1,0,0,1,1,0,0,1,1,1,1,0,0,0,0,0] with
 | .code (.region _ ops _)::_=>ops
 | _ => #[]
theorem h16C:atC (cd Try.f3) [1,1,1,1,1,0,1,0,0,1,1,0,0,1,1,1,1,0,0,0,0,0] = .code (.region 16 h16O false)::atC (cd Try.f3) [1,1,1,1,1,0,1,0,0,1,1,0,0,1,1,1,1,0,0,0,0,1]:=by kernel_rfl
theorem h12R:List.range h12O.size=[0]++1::[]:=by kernel_rfl
theorem h14R:List.range h14O.size=[0]++1::[]:=by kernel_rfl
theorem h16R:List.range h16O.size=[0]++1::[]:=by kernel_rfl
section
variable (l:List Mo) (hf:Bool) (U:List Int) (m i:Int) (h e n:Int) (L:Heap) (v:AV)
def hE:Vars:=[(5,.vec false 9 (l.map Mo.a)),(8,.ptr 0 0 0 0),(43,.vec hf 1 (U.map (.int .u8))),(44,.int .i64 m),(45,.int .i64 i)]
def hE2:Vars:=hE l hf U m i++[(49,.int .u8 h),(50,.int .u8 e)]
def hE3:Vars:=hE l hf U m i++[(12,.int .i64 n)]
theorem h12V:runW M1 fi3.n h12O cNo [0] [5,8,43,44,45,49,50,52] (hE2 l hf U m i h e) L=some (hE2 l hf U m i h e++[(52,.ptr 0 0 0 0)],L,[],[]):=by kernel_rfl
theorem h12K:Zdi h12O 1 (hE2 l hf U m i h e++[(52,.ptr 0 0 0 0)])=some (53,10,[.ptr 0 0 0 0]):=by kernel_rfl
theorem h12W:runW M1 fi3.n h12O cNo [] [5,8,43,44,45,49,50] ((53,v)::(hE2 l hf U m i h e++[(52,.ptr 0 0 0 0)])) L=some (hE2 l hf U m i h e,L,[],[]):=by kernel_rfl
theorem h14V:runW M1 fi3.n h14O cNo [0] [5,8,43,44,45,55] (hE l hf U m i) L=some (hE l hf U m i++[(55,.ptr 0 0 0 0)],L,[],[]):=by kernel_rfl
theorem h14K:Zdi h14O 1 (hE l hf U m i++[(55,.ptr 0 0 0 0)])=some (56,11,[.ptr 0 0 0 0]):=by kernel_rfl
theorem h14W:runW M1 fi3.n h14O cNo [] [5,8,43,44,45] ((56,v)::(hE l hf U m i++[(55,.ptr 0 0 0 0)])) L=some (hE l hf U m i,L,[],[]):=by kernel_rfl
theorem h16V:runW M1 fi3.n h16O cNo [0] [5,8,43,44,45,12,57] (hE3 l hf U m i n) L=some (hE3 l hf U m i n++[(57,.ptr 0 0 0 0)],L,[],[]):=by kernel_rfl
theorem h16K:Zdi h16O 1 (hE3 l hf U m i n++[(57,.ptr 0 0 0 0)])=some (58,10,[.ptr 0 0 0 0]):=by kernel_rfl
theorem h16W:runW M1 fi3.n h16O cNo [] [5,8,43,44,45,12,58] ((58,v)::(hE3 l hf U m i n++[(57,.ptr 0 0 0 0)])) L=some (hE3 l hf U m i n++[(58,v)],L,[],[]):=by kernel_rfl
end
section
variable {l:List Mo} {B S A j:Int} {fm:Bool}
theorem Ze8 (ht:N.okT l) (hg:N.good l S A j) {s:Cs} (hs:Iv l B s):Iv l B (N.Zbp l S A j s).1/\((N.Zbp l S A j s).1.hd=s.hd/\(N.Zbp l S A j s).1.br=s.br)/\((N.Zbp l S A j s).2=true->N.D l (N.Zbp l S A j s).1.ix (N.Zbp l S A j s).1.p<N.D l s.ix s.p)/\((N.Zbp l S A j s).2=false->(N.Zbp l S A j s).1=s/\(s.br=false->s.X=none)):=by
 by_cases h1:s.br=true\/s.ix=l.length
 ·rw [Zdl h1]
  refine ⟨hs,⟨rfl,rfl⟩,fun h=>(nomatch h),fun _=>⟨rfl,fun hb => ?_⟩⟩
  rcases h1 with y | y
  ·rw [y] at hb;cases hb
  ·exact (hs.fin y).2
 ·by_cases h2:s.X=none/\s.hd=true
  ·rw [ZeT h1 h2.1 h2.2]
   exact ⟨hs,⟨rfl,rfl⟩,fun h=>(nomatch h),fun _=>⟨rfl,fun _=>h2.1⟩⟩
  ·obtain ⟨k1,k2,k3,k4,k5⟩:=tick_ok ht hg hs h1 fun hX hh=>h2 ⟨hX,hh⟩
   exact ⟨k2,⟨k4,k5⟩,fun _=>k3,fun h=>by rw [k1] at h;cases h⟩
theorem rx_narrow {s:Cs} {L:Heap} {k:List Item} {d:AV} (hf:Bool) (U:List Int) (m i:Int) (h:RX fm l S A j s L) (hk:∀ f:Option Nat,(f=none->s.P=[])->Wp M1 (.run fi3 k (hE l hf U m i) (N.hq fm l S A j s f)) (Zaj d)):Wp M1 (.run fi3 k (hE l hf U m i) L) (Zaj d):=by
 obtain ⟨ix,p,X,kk,bk,hd,br,P,q⟩:=s
 cases X with
 | none =>
  cases h with
  | nil hP=>exact hk none fun _=>hP
  | row w=>exact hk (some w) fun y=>nomatch y
  | nilx x hP=>exact Zar [0] (by kernel_rfl) (hk none fun _=>hP)
  | rowx x w=>exact Zar [0,2] (by kernel_rfl) (hk (some w) fun y=>nomatch y)
  | roww x w=>exact Zar [0,1] (by kernel_rfl) (hk (some w) fun y=>nomatch y)
 | some X =>
  cases h with
  | nil hP=>exact hk none fun _=>hP
  | row w=>exact hk (some w) fun y=>nomatch y
  | nilx x hP=>exact Zar [0] (by kernel_rfl) (hk none fun _=>hP)
  | rowx x w=>exact Zar [0,2] (by kernel_rfl) (hk (some w) fun y=>nomatch y)
  | roww x w=>exact Zar [0,1] (by kernel_rfl) (hk (some w) fun y=>nomatch y)
theorem hs_ticks (ht:N.okT l) (hg:N.good l S A j) (hB:B<=1000000000) {hf:Bool} {U:List Int} {m i h:Int} {d:AV} (hh:h<=255)
  (hK:∀ s f,Iv l B s->s.br=false->(f=none->s.P=[])->Wp M1 (.run fi3 (atC (cd Try.f3) [1,1,1,1,1,0,1,0,0,1,1,0,0,1,1,0]) (hE l hf U m i) (N.hq fm l S A j s f)) (Zaj d)) :
  ∀ (k:Nat) (e:Int) (s:Cs) (f:Option Nat),0<=e->h-e<=k->Iv l B s->s.br=false->(f=none->s.P=[])->hsT_at l hf U m i h e (N.hq fm l S A j s f) (Zaj d):=by
 intro k
 induction k with
 | zero =>
  intro e s f h0 he hs hb hfP
  refine hsT _ _ _ _ _ _ _ _ _ ⟨fun y=>absurd y (by omega),fun _ => .less [5,8,43,44,45] ?_⟩
  exact hK s f hs hb hfP
 | succ k ih =>
  intro e s f h0 he hs hb hfP
  by_cases hlt:e<h
  ·refine hsT _ _ _ _ _ _ _ _ _ ⟨fun _ => .less [5,8,43,44,45,49,50] ?_,fun y=>absurd hlt y⟩
   rw [h12C]
   refine Zee hm1 _ h12R (.run _ _ (h12V _ _ _ _ _ _ _ _) cB0 cP0 (.call hm1 (h12K _ _ _ _ _ _ _) (by decide) (tick_ex ht.1 hg hB hs hfP) fun v L2 ⟨e1,e2⟩ => ?_))
   subst e1;subst e2
   refine .last _ _ (h12W _ _ _ _ _ _ _ _ _) cB0 cP0 (.inBlock ?_)
   obtain ⟨q1,⟨q2,q3⟩,_,_⟩:=Ze8 ht hg hs
   exact hsU _ _ _ _ _ _ _ _ _ ⟨by omega,ih (e+1) _ _ (by omega) (by omega) q1 (q3.trans hb) (tickF_P ht.1 hg hs hfP)⟩
  ·refine hsT _ _ _ _ _ _ _ _ _ ⟨fun y=>absurd y hlt,fun _ => .less [5,8,43,44,45] ?_⟩
   exact hK s f hs hb hfP
theorem hs_rest (ht:N.okT l) (hg:N.good l S A j) (hB:B<=1000000000) {hf:Bool} {U:List Int} {m i:Int} {d:AV}
  (hK:∀ s f,Iv l B s->s.br=false->s.hd=true->s.X=none->(f=none->s.P=[])->Wp M1 (.run fi3 (atC (cd Try.f3) [1,1,1,1,1,0,1,0,0,1,1,0,0,1,1,1,1,1,0,0]) (hE l hf U m i) (N.hq fm l S A j s f)) (Zaj d)) :
  ∀ (k:Nat) (n:Int) (s:Cs) (f:Option Nat),0<=n->N.D l s.ix s.p<=k->n+k<=20000->Iv l B s->s.br=false->s.hd=true->(f=none->s.P=[])->hsW_at l hf U m i n (N.hq fm l S A j s f) (Zaj d):=by
 intro k
 induction k with
 | zero =>
  intro n s f h0 hD hn hs hb hh hfP
  refine hsW _ _ _ _ _ _ _ _ ?_
  rw [h16C]
  refine Zee hm1 _ h16R (.run _ _ (h16V _ _ _ _ _ _ _) cB0 cP0 (.call hm1 (h16K _ _ _ _ _ _) (by decide) (tick_ex ht.1 hg hB hs hfP) fun v L2 ⟨e1,e2⟩ => ?_))
  subst e1;subst e2
  refine .last _ _ (h16W _ _ _ _ _ _ _ _) cB0 cP0 ?_
  obtain ⟨q1,⟨q2,q3⟩,q4,q5⟩:=Ze8 ht hg hs
  have hf2:=tickF_P ht.1 hg hs hfP
  have hD0:=iv_D q1
  refine hsX _ _ _ _ _ _ _ _ _ ⟨fun hv => ?_,fun hv => ?_⟩
  ·have:=q4 hv;omega
  ·have hv:=q5 (by simpa using hv)
   refine hK _ _ q1 (q3.trans hb) (q2.trans hh) (by rw [hv.1];exact hv.2 hb) hf2
 | succ k ih =>
  intro n s f h0 hD hn hs hb hh hfP
  refine hsW _ _ _ _ _ _ _ _ ?_
  rw [h16C]
  refine Zee hm1 _ h16R (.run _ _ (h16V _ _ _ _ _ _ _) cB0 cP0 (.call hm1 (h16K _ _ _ _ _ _) (by decide) (tick_ex ht.1 hg hB hs hfP) fun v L2 ⟨e1,e2⟩ => ?_))
  subst e1;subst e2
  refine .last _ _ (h16W _ _ _ _ _ _ _ _) cB0 cP0 ?_
  obtain ⟨q1,⟨q2,q3⟩,q4,q5⟩:=Ze8 ht hg hs
  have hf2:=tickF_P ht.1 hg hs hfP
  refine hsX _ _ _ _ _ _ _ _ _ ⟨fun hv => ?_,fun hv => ?_⟩
  ·have:=q4 hv
   exact ⟨by omega,fun y=>absurd y (by omega),fun _=>ih (n+1) _ _ (by omega) (by omega) (by omega) q1 (q3.trans hb) (q2.trans hh) hf2⟩
  ·have hv:=q5 (by simpa using hv)
   refine hK _ _ q1 (q3.trans hb) (q2.trans hh) (by rw [hv.1];exact hv.2 hb) hf2
theorem en_po {ix p:Int} (h:ix=l.length) (x y z:Int):¬(l.length:Int)=0->N.enP x y z l=N.po l ix p:=fun h0=>by
 unfold N.enP N.po
 rw [if_neg h0,if_neg h0,if_pos h,h]
theorem en_eq {ix p:Int} (h:ix=l.length):N.enP (N.pox l ix p) (N.poy l ix p) (N.poz l ix p) l=N.po l ix p:=by
 by_cases h0:(l.length:Int)=0
 ·unfold N.enP
  rw [if_pos h0]
  unfold N.pox N.poy N.poz
  rfl
 ·exact en_po h _ _ _ h0
theorem en_b {ix p:Int} (h:ix=l.length) {R:List Mo} (hR:N.wh R=N.lng l):AV.bool (bif N.smM (N.wh R) (N.lng l) then N.pox l ix p==(N.enP (N.pox l ix p) (N.poy l ix p) (N.poz l ix p) l).x&&(N.poy l ix p==(N.enP (N.pox l ix p) (N.poy l ix p) (N.poz l ix p) l).y&&(N.poz l ix p==(N.enP (N.pox l ix p) (N.poy l ix p) (N.poz l ix p) l).z&&true)) else false) = .bool true:=by
 have e:N.smM (N.wh R) (N.lng l)=true:=by unfold N.smM;exact decide_eq_true hR
 rw [e,en_eq h]
 unfold N.pox N.poy N.poz
 simp
theorem hs_end (ht:N.okT l) (hg:N.good l S A j) (hb9:N.hasB l) (hB:B<=20000) {s:Cs} {f:Option Nat} (hs:Iv l B s) (hb:s.br=false) (hh:s.hd=false) (hX:s.X=none) (hfP:f=none->s.P=[]) :
  Wp M1 (.run fi3 (atC (cd Try.f3) [1,1,1,1,1,1,0]) [(5,.vec false 9 (l.map Mo.a)),(8,.ptr 0 0 0 0)] (N.hq fm l S A j s f)) (Zaj (.bool true)):=by
 have hfew:=hs.few
 have hD0:=iv_D hs
 obtain ⟨s',f',⟨⟨hI,hb',hh'⟩,hix,hf',hff⟩,hev⟩:=finish_ex (B:=B) fm ht.1 hg (by omega) (J:=fun s=>Iv l B s/\s.br=false/\s.hd=false) (m:=fun s=>N.D l s.ix s.p) (fun s ⟨h1,h2,h3⟩=>⟨h1,iv_D h1,fun hlt=>by
   obtain ⟨k1,k2,k3,k4,k5⟩:=tick_ok ht hg h1 (by rintro (y | y);rw [h2] at y;cases y;omega) (fun _ y=>by rw [h3] at y;cases y)
   exact ⟨k1,⟨k2,k5.trans h2,k4.trans h3⟩,k3⟩⟩) (s:=s) (f:=f) ⟨hs,hb,hh⟩ (show N.D l s.ix s.p<=20000 by split at hfew <;> omega) hfP
 obtain ⟨hp0,hX'⟩:=hI.fin hix
 obtain ⟨hk',hbk',_⟩:=hI.rest hX'
 obtain ⟨hk,hbk,_⟩:=hs.rest hX
 have hW:N.wh s'.P=N.lng l:=by
  rcases hI.wi hb9 with ⟨h1,_⟩ | ⟨h1,_⟩
  ·rw [h1,hix,Int.toNat_natCast,List.take_length]
  ·omega
 have hC:=iv_C ht.1 hI
 have hC':=hC
 have hfew':=hI.few
 have hD':=iv_D hI
 have hll:=ht.1.1
 have hPl:s'.P.length<=1000000000:=by split at hfew' <;> omega
 have hlg:=lng_len l
 have hlf:N.ZeZ l:=by unfold N.ZeZ;omega
 have hsm:N.okSm (N.wh s'.P) (N.lng l):=by rw [hW];unfold N.okSm;omega
 obtain ⟨ix,p,X,k,bk,hd,br,P,q⟩:=s
 obtain ⟨ix',p',X',k',bk',hd',br',P',q'⟩:=s'
 simp only at hX hk hbk hb hh hix hX' hk' hbk' hb' hh' hW hC hPl hsm hf' hff hfP
 subst hX;subst hk;subst hbk;subst hb;subst hh;subst hX';subst hk';subst hbk';subst hb';subst hh'
 have elen:(l.map Mo.a).length=l.length:=List.length_map ..
 rw [<- elen] at hev
 cases f with
 | none =>
  cases f' with
  | none =>
   have hP':=hf' rfl
   subst hP'
   refine hsZaa fm l S A j ix p q.x q.y q.z ix' p' q'.x q'.y q'.z _ ⟨hev,hC,N.wh [],ev18 false [] (by unfold N.ZeZ;simp),hlf,hsm,en_b hix hW⟩
  | some w=>exact hsZab fm l S A j ix p q.x q.y q.z ix' p' q'.x q'.y q'.z P' w _ ⟨hev,⟨hC,hPl⟩,hPl,hlf,hsm,fun _=>hC,en_b hix hW⟩
 | some v =>
  cases f' with
  | none=>cases hff rfl
  | some w=>exact hsZbb fm l S A j ix p q.x q.y q.z P v ix' p' q'.x q'.y q'.z P' w _ ⟨hev,⟨hC,hPl⟩,hPl,hlf,hsm,fun _=>hC,en_b hix hW⟩
theorem hs_loop (ht:N.okT l) (hg:N.good l S A j) (hb9:N.hasB l) (hB:B<=20000) {hf:Bool} {U:List Int} (hU:U.length<=1000 /\ ∀ h ∈ U,h<=255) :
  ∀ (k:Nat) (i:Int) (s:Cs) (f:Option Nat),0<=i->U.length-i=k->Iv l B s->s.br=false->s.hd=false->s.X=none->(f=none->s.P=[])->ZgI l hf U U.length i (N.hq fm l S A j s f) (Zaj (.bool true)):=by
 intro k
 induction k with
 | zero =>
  intro i s f h0 hi hs hb hh hX hfP
  exact hsL _ _ _ _ _ _ _ ⟨fun y=>absurd y (by omega),fun _=>hs_end ht hg hb9 hB hs hb hh hX hfP⟩
 | succ k ih =>
  intro i s f h0 hi hs hb hh hX hfP
  refine hsL _ _ _ _ _ _ _ ⟨fun _=>⟨h0,by omega,?_⟩,fun y=>absurd (by omega) y⟩
  have hel:U.getD i.toNat default<=255:=hU.2 _ (by
   rw [List.getD_eq_getElem?_getD,List.getElem?_eq_getElem (by omega)]
   exact List.getElem_mem _)
  refine hs_ticks ht hg (by omega) hel (fun s f hs hb hfP => ?_) (U.getD i.toNat default).toNat 0 s f (by omega) (by omega) hs hb hfP
  rw [h14C]
  refine Zee hm1 _ h14R (.run _ _ (h14V _ _ _ _ _ _) cB0 cP0 (.call hm1 (h14K _ _ _ _ _) (by decide) (hold_wp ht hg (by omega) hs (RM_hq hfP)) fun v L2 ⟨e1,hR⟩ => ?_))
  subst e1
  refine .last _ _ (h14W _ _ _ _ _ _ _) cB0 cP0 ?_
  obtain ⟨q1,q2,q3,q4⟩:=hl_ok (S:=S) (A:=A) (j:=j) ht hs
  refine rx_narrow hf U _ i hR fun f hfP => .seq ?_
  refine hsV _ _ _ _ _ _ _ ?_
  have hfew:=q1.few
  have hD:=iv_D q1
  refine hs_rest ht hg (by omega) (fun s f hs hb hh hX hfP => ?_) 20000 0 _ f (Int.le_refl _) (by split at hfew <;> omega) (by omega) q1 (q3.trans hb) (q2 hb) hfP
  obtain ⟨hk,hbk,_⟩:=hs.rest hX
  have hC:=iv_C ht.1 hs
  have hll:=ht.1.1
  have hn:Iv l B { s with hd:=false }:=⟨hs.ixr,hs.mot,hs.fin,hs.plan,hs.rest,hs.pb,hs.kb,hs.wi,hs.few⟩
  have hnx:=ih (i+1) { s with hd:=false } f (by omega) (by omega) hn hb rfl hX hfP
  obtain ⟨ix,p,X,k,bk,hd,br,P,q⟩:=s
  simp only at hX hk hbk hb hh hC hfP hnx
  subst hX;subst hk;subst hbk;subst hb;subst hh
  cases f with
  | none=>exact hsYA fm l S A j ix p q.x q.y q.z hf U _ i _ ⟨hC,.inr rfl,fun y=>absurd y (by simp),fun _=>⟨by omega,hnx⟩⟩
  | some w=>exact hsYB fm l S A j ix p q.x q.y q.z P w hf U _ i _ ⟨hC,.inr rfl,fun y=>absurd y (by simp),fun _=>⟨by omega,hnx⟩⟩
end
theorem holds_law (ha:Ev M1 (.pure 8 []) (.bool true) []) (fx fy fz:Int) (fw:Bool) (W:List Wy) (S A j:Int) (hf:Bool) (U:List Int) (hW:N.okTr fx fy fz W) (hU:∀ h ∈ U,0<=h/\h<=255) :
  Ev M1 (.pure 3 [.agg [.int .i16 fx,.int .i16 fy,.int .i16 fz,.vec fw 4 (W.map Wy.a),.int .i64 S,.int .i64 A,.int .i64 j],.vec hf 1 (U.map (.int .u8))]) (.bool true) []:=by
 refine call3 (hsA fx fy fz fw W S A j hf U _ ⟨hW,true,ha,fun _=>⟨true,ha,rfl⟩,fun h => ?_⟩)
 have hb:N.trB W S A j=true:=Classical.byContradiction fun y=>h (.inl (.inr y))
 have hn:U.length<=6:=Nat.not_lt.1 fun y=>h (.inr (by omega))
 obtain ⟨_,hbig⟩:=trB_iff.1 hb
 have hok:=trL_ok hW hb
 have hD:=tr_D hok
 have hg:=rts_good hbig hok.r
 obtain ⟨n1,n2⟩:=new_ok (B:=7200) hok.t hD
 exact ⟨rts_ck hbig hok.t (by have:=hok.n;omega) hok.r,hs_loop (B:=7200) hok.t hg hok.b (by omega) ⟨by omega,fun h hh=>(hU h hh).2⟩ U.length 0 (N.newS (N.trL fx fy fz W S A j)) none (Int.le_refl _) (by omega) n1 rfl rfl rfl fun _=>rfl⟩
end Go.Av

namespace Go.Av
open Go.RowKit
def Zel (x:Nat):List Nat->List (List Nat)
 | []=>[[x]]
 | y::l=>(x::y::l)::(Zel x l).map (y :: ·)
def perms:List Nat->List (List Nat)
 | []=>[[]]
 | x::l=>(perms l).flatMap (Zel x)
theorem Zfy {x:Nat}:∀ (s t:List Nat),s++x::t ∈ Zel x (s++t)
 | [],[]=>by simp [Zel]
 | [],y::t=>by simp [Zel]
 | y::s,t=>by
  simp only [List.cons_append,Zel]
  exact List.mem_cons_of_mem _ (List.mem_map.2 ⟨_,Zfy s t,rfl⟩)
theorem perms_mem:∀ (l:List Nat) {σ:List Nat},σ.Perm l->σ ∈ perms l
 | [],σ,h=>by rw [List.Perm.eq_nil h];simp [perms]
 | x::l,σ,h=>by
  obtain ⟨s,t,rfl⟩:=List.append_of_mem (h.mem_iff.2 (List.mem_cons_self ..))
  have:(s++t).Perm l:=List.Perm.cons_inv ((List.perm_middle (a:=x) (l₁:=s) (l₂:=t)).symm.trans h)
  exact List.mem_flatMap.2 ⟨_,perms_mem l this,Zfy s t⟩
def Ahead (l:List Nat) (i j:Nat):Prop:=Zap l i<Zap l j
structure OrdOk (ops:Array Oper) (C σ:List Nat) (hot:Nat->Nat) (l:List Nat):Prop where
 edge:∀ (j:Nat) (o:Oper),ops[j]? = some o -> ∀ e ∈ o.after,Region.binds .any e=true->e.on<j/\¬Ahead l j e.on
 swap:∀ i j a b,Ahead l i j->ops[i]? = some a->ops[j]? = some b->(i ∈ C/\j ∈ C/\Zap σ i<Zap σ j)\/Zcb hot ops i j a b=true\/ZeM ops i ops.size j=true
section
variable {M:Mach} {call:Zaw} {n:Nat} {ops:Array Oper} {ans:Nat->Option Ans} {Q:Exit->Act->World->Prop}
def Alts (M:Mach) (call:Zaw) (n:Nat) (ops:Array Oper) (ans:Nat->Option Ans) (Q:Exit->Act->World->Prop) (C:List Nat) (hot:List Nat->Nat->Nat) (l:List Nat->List Nat) (fuel:Nat) (listed:Array Bool) (s:RS) (S:St) (a:Act) (π:List Nat):Prop:=
 ∀ σ:List Nat,σ.Perm C->π <+: σ -> ∃ rest f,Left M call n ops ans (hot σ) (Ahead (l σ)) listed rest s f/\rest.length<=fuel /\
  (∀ b ∈ f.asm,b=true)/\(∀ q ∈ f.eqs,q)/\(∀ c ∈ f.calls,c.cond=true->ZbO M c) /\
  (∀ S' a',HeapOk S'->Ext S S'->S'.L=f.L->TRel S' f.env a'.tmps->a'.tmps.size=a.tmps.size->a'.defers=a.defers->Q .normal a' S'.w)
theorem draw_any {C:List Nat} {hot:List Nat->Nat->Nat} {l:List Nat->List Nat} (hnd:C.Nodup) (hok:∀ σ:List Nat,σ.Perm C->OrdOk ops C σ (hot σ) (l σ)) :
  ∀ (fuel:Nat) (listed:Array Bool) (s:RS) (S:St) (a:Act) (π:List Nat),(∃ σ:List Nat,σ.Perm C/\π <+: σ)->(∀ c ∈ C,c ∈ π ↔ listed.getD c false=true)->Alts M call n ops ans Q C hot l fuel listed s S a π ->
  HeapOk S->S.L=s.L->TRel S s.env a.tmps->n<=a.tmps.size->wpAny (M.P ()) .any ops Q fuel listed a S.w:=by
 intro fuel
 induction fuel with
 | zero =>
  intro listed s S a π ⟨σ,p1,p2⟩ hC hA hS hL hT hn
  obtain ⟨rest,f,hl,hlen,_,_,_,hK⟩:=hA σ p1 p2
  have:rest=[]:=List.length_eq_zero_iff.1 (Nat.le_zero.1 hlen)
  subst this
  have h:=hl.run
  simp only [Zat,Option.some.injEq] at h;subst h
  refine ⟨?_,hK S a hS (Ext.refl S) hL hT rfl rfl⟩
  apply List.eq_nil_iff_forall_not_mem.2
  intro j hj
  obtain ⟨h1,o,h2,_⟩:=mem_ready.1 hj
  have:=(hl.mem j).2 ⟨(Array.getElem?_eq_some_iff.1 h2).1,h1⟩
  cases this
 | succ fuel ih =>
  intro listed s S a π ⟨σ0,p1,p2⟩ hC hA hS hL hT hn
  refine ⟨fun hnil => ?_,fun j hj => ?_⟩
  ·obtain ⟨rest,f,hl,hlen,_,_,_,hK⟩:=hA σ0 p1 p2
   have:=hl.none (hok σ0 p1).edge hnil
   subst this
   have h:=hl.run
   simp only [Zat,Option.some.injEq] at h;subst h
   exact hK S a hS (Ext.refl S) hL hT rfl rfl
  ·obtain ⟨j1,oj0,j2,_⟩:=mem_ready.1 hj
   have hjs:j<ops.size:=(Array.getElem?_eq_some_iff.1 j2).1
   have hsz:listed.size=ops.size:=by
    obtain ⟨rest,f,hl,_⟩:=hA σ0 p1 p2
    exact hl.size
   obtain ⟨π',hπ',hpre,hex,hCj⟩:∃ π':List Nat,(j ∈ C->π'=π++[j])/\(∀ σ:List Nat,π' <+: σ->π <+: σ)/\(∃ σ:List Nat,σ.Perm C/\π' <+: σ)/\(∀ c ∈ C,c ∈ π' ↔ (listed.setIfInBounds j true).getD c false=true):=by
    by_cases hjC:j ∈ C
    ·refine ⟨π++[j],fun _=>rfl,fun σ h=>(List.prefix_append π [j]).trans h,?_,fun c hc => ?_⟩
     ·obtain ⟨τ,rfl⟩:=p2
      have hjn:j ∉ π:=fun h=>by
       have:=(hC j hjC).1 h
       rw [ZcB (by omega) false true] at this
       rw [j1] at this;cases this
      have hjt:j ∈ τ:=by
       rcases List.mem_append.1 (p1.mem_iff.2 hjC) with h | h
       ·exact absurd h hjn
       ·exact h
      refine ⟨π++[j]++τ.erase j,?_,List.prefix_append _ _⟩
      rw [List.append_assoc]
      exact ((List.perm_cons_erase hjt).symm.append_left π).trans p1
     ·by_cases e:j=c
      ·subst e
       simp [show j<listed.size by omega]
      ·rw [getD_set_ne false e,<- hC c hc]
       simp only [List.mem_append,List.mem_singleton]
       exact ⟨fun h=>h.resolve_right fun h=>e h.symm,.inl⟩
    ·refine ⟨π,fun h=>absurd h hjC,fun σ h=>h,⟨σ0,p1,p2⟩,fun c hc => ?_⟩
     rw [getD_set_ne false (fun e:j=c=>hjC (by rw [e];exact hc)),<- hC c hc]
   have pick:∀ σ:List Nat,σ.Perm C->π' <+: σ -> ∃ oj s1 f f' rest',ops[j]? = some oj/\Zbk M.P M.inl call n ops (ans j) (hot σ j) oj s=some s1/\Left M call n ops ans (hot σ) (Ahead (l σ)) (listed.setIfInBounds j true) rest' s1 f'/\RSEq f f'/\rest'.length<=fuel /\
     (∀ b ∈ f.asm,b=true)/\(∀ q ∈ f.eqs,q)/\(∀ c ∈ f.calls,c.cond=true->ZbO M c) /\
     (∀ S' a',HeapOk S'->Ext S S'->S'.L=f.L->TRel S' f.env a'.tmps->a'.tmps.size=a.tmps.size->a'.defers=a.defers->Q .normal a' S'.w):=by
    intro σ q1 q2
    obtain ⟨rest,f,hl,hlen,f1,f2,f3,f4⟩:=hA σ q1 (hpre σ q2)
    have hl2:Left M call n ops ans (hot σ) (fun i k=>Ahead (l σ) i k/\listed.getD i true=false) listed rest s f:=
     ⟨hl.size,hl.pw.imp_of_mem fun {x y} hx _ h=>⟨h,((hl.mem x).1 hx).2⟩,hl.mem,hl.closed,hl.run⟩
    obtain ⟨oj,s1,f',rest',g1,g2,g3,g4,g5⟩:=hl2.pick (fun i h=>Nat.lt_irrefl _ h.1) hj fun i a b h hi hb=>by
     rcases (hok σ q1).swap i j a b h.1 hi hb with ⟨c1,c2,c3⟩ | h
     ·exfalso
      rw [hπ' c2] at q2
      obtain ⟨τ,rfl⟩:=q2
      have hnd2:(π++[j]++τ).Nodup:=q1.nodup_iff.2 hnd
      have e1:Zap (π++[j]++τ) j=π.length:=ZcN hnd2 (by simp)
      rw [e1] at c3
      have e2:=ZbA (q1.mem_iff.2 c1)
      rw [List.append_assoc,List.getElem?_append_left (by rw [List.append_assoc] at c3;exact c3)] at e2
      have:=(hC i c1).1 (List.mem_of_getElem? e2)
      rw [ZcB (by rw [hsz];exact (Array.getElem?_eq_some_iff.1 hi).1) false true,h.2] at this
      cases this
     ·exact h
    exact ⟨oj,s1,f,f',rest',g1,g2,⟨g3.size,g3.pw.imp fun h=>h.1,g3.mem,g3.closed,g3.run⟩,g4,by omega,f1,f2,f3,f4⟩
   obtain ⟨σ1,r1,r2⟩:=hex
   obtain ⟨oj,s1,f,f',rest',hoj,h2,hl',k2,_,f1,f2,f3,_⟩:=pick σ1 r1 r2
   obtain ⟨env,L,x,y,z,he,_⟩:=ZaW _ hl'.run
   have hA':∀ b ∈ f'.asm,b=true:=fun b hb=>f1 b ((k2.a b).2 hb)
   have hQ':∀ b ∈ f'.eqs,b:=fun b hb=>f2 b ((k2.q b).2 hb)
   have hC':∀ c ∈ f'.calls,c.cond=true->ZbO M c:=fun b hb=>f3 b ((k2.k b).2 hb)
   refine Zck hS hL hT hn hoj h2 (fun b hb=>hA' b (by rw [he];simp [hb])) (fun b hb=>hQ' b (by rw [he];simp [hb])) (fun b hb=>hC' b (by rw [he];simp [hb])) fun S' a' m1 m2 m3 m4 m5 m6 => ?_
   refine ih _ s1 S' a' π' ⟨σ1,r1,r2⟩ hCj (fun σ q1 q2 => ?_) m1 m3 m4 (by rw [m5];exact hn)
   obtain ⟨oj2,s2,g,g',rest2,hoj2,h22,hl2',kk2,hlen2,g1,g2,g3,g4⟩:=pick σ q1 q2
   rw [hoj] at hoj2;cases hoj2
   have:=runOp_hot h2 h22
   subst this
   exact ⟨rest2,g',hl2',hlen2,fun b hb=>g1 b ((kk2.a b).2 hb),fun b hb=>g2 b ((kk2.q b).2 hb),fun b hb=>g3 b ((kk2.k b).2 hb),
    fun S'' a'' q1 q2 q3 q4 q5 q6=>g4 S'' a'' q1 (m2.trans q2) (q3.trans kk2.L.symm) (q4.congr fun t=>(kk2.get t).symm) (q5.trans m5) (q6.trans m6)⟩
end
def ordOk (ops:Array Oper) (C σ:List Nat) (hot:Nat->Nat) (l:List Nat):Bool:=
 (Zft l&&(((List.range ops.size).all fun i=>l.contains i)&&l.all fun i=>Nat.blt i ops.size)) &&
 ((List.range ops.size).all fun j=>match ops[j]? with
  | some o=>o.after.toList.all fun e => !Region.binds .any e||(Nat.blt e.on j&&Nat.ble (Zap l e.on) (Zap l j))
  | none=>true) &&
 ((List.range ops.size).all fun j=>(List.range ops.size).all fun i => !Nat.blt (Zap l i) (Zap l j)||((C.contains i&&(C.contains j&&Nat.blt (Zap σ i) (Zap σ j))) ||
  match ops[i]?,ops[j]? with
  | some a,some b=>Zcb hot ops i j a b||ZeM ops i ops.size j
  | _,_=>true))
theorem Zgu {ops:Array Oper} {C σ:List Nat} {hot:Nat->Nat} {l:List Nat} (h:ordOk ops C σ hot l=true):OrdOk ops C σ hot l/\l.Nodup/\(∀ i,i ∈ l ↔ i<ops.size):=by
 unfold ordOk at h
 simp only [Bool.and_eq_true,List.all_eq_true,List.mem_range,List.contains_iff_mem,Nat.blt_eq] at h
 obtain ⟨⟨⟨h1,h2,h3⟩,h4⟩,h5⟩:=h
 have hnd:=(Zbl l).1 h1
 refine ⟨⟨fun j o ho e he hb => ?_,fun i j a b hij hi hj => ?_⟩,hnd,fun i=>⟨h3 i,fun hi => ?_⟩⟩
 ·have:=h4 j (Array.getElem?_eq_some_iff.1 ho).1
  rw [ho] at this
  have:=List.all_eq_true.1 this e (by simpa using he)
  rw [hb] at this
  simp only [Bool.not_true,Bool.false_or,Bool.and_eq_true,Nat.blt_eq,Nat.ble_eq] at this
  exact ⟨this.1,Nat.not_lt.2 this.2⟩
 ·have:=h5 j (Array.getElem?_eq_some_iff.1 hj).1 i (Array.getElem?_eq_some_iff.1 hi).1
  rw [hi,hj] at this
  simp only [Bool.or_eq_true,Bool.not_eq_true',Bool.and_eq_true,List.contains_iff_mem,Nat.blt_eq] at this
  rcases this with h | h | h
  ·have:=Nat.blt_eq.mpr hij
   rw [this] at h;cases h
  ·exact .inl ⟨h.1,h.2.1,h.2.2⟩
  ·exact .inr h
 ·exact h2 i hi
def ordRun (M:Mach) (call:Zaw) (n:Nat) (ops:Array Oper) (ans:Nat->Option Ans) (hot:Nat->Nat) (keep C σ l rs:List Nat) (env:Vars) (L:Heap):Option (Vars × Heap × List Bool × List Prop × List CF):=
 match ordOk ops C σ hot l,Zat M.P M.inl call n ops ans hot l ⟨lift env,L,[],[],[]⟩ with
 | true,some s=>match Zbo s.L rs (Zbt keep s.env),Nat.beq rs.length s.L.length&&(List.range L.length).all fun i=>(match rs[i]? with | some r=>Nat.beq r i | none=>false) with
  | some (e,K),true=>some (e,K,s.asm,s.eqs,s.calls)
  | _,_=>none
 | _,_=>none
theorem any_sound {M:Mach} (hm:(M.P ()).follows .mixedOrders=true) {fi:Fi} {id:Nat} {ops:Array Oper} {env:Vars} {L:Heap} {call:Zaw} {ans:Nat->Option Ans} {keep C:List Nat} {hot:List Nat->Nat->Nat} {l rs:List Nat->List Nat} {e1:Vars} {L1:Heap} (hnd:C.Nodup)
  (h:∀ σ ∈ perms C,∃ asl qs cl,ordRun M call fi.n ops ans (hot σ) keep C σ (l σ) (rs σ) env L=some (e1,L1,asl,qs,cl)/\(∀ b ∈ asl,b=true)/\(∀ q ∈ qs,q)/\(∀ c ∈ cl,c.cond=true->ZbO M c))
  {S:St} {a:Act} (h5:HeapOk S) (h6:S.L=L) (h7:VRel S env a.tmps) (h8:fi.n<=a.tmps.size) :
  RegR (M.P ()) id ops true (fun a' w' => ∃ S':St,S'.w=w'/\HeapOk S'/\Ext S S'/\S'.L=L1/\VRel S' e1 a'.tmps/\a'.tmps.size=a.tmps.size/\a'.defers=a.defers) a S.w:=by
 refine regR_any hm ?_
 obtain ⟨n1,n2⟩:=Zca h5 (w':={ S.w with drawn:=S.w.drawn+1 }) ⟨rfl,rfl,rfl,Nat.le_refl _,fun _ _=>rfl⟩ (fun _ _=>rfl)
 have key:∀ σ:List Nat,σ.Perm C -> ∃ s asl qs cl,ordOk ops C σ (hot σ) (l σ)=true/\Zat M.P M.inl call fi.n ops ans (hot σ) (l σ) ⟨lift env,L,[],[],[]⟩=some s/\Zbo s.L (rs σ) (Zbt keep s.env)=some (e1,L1) /\
   (∀ r,r<L.length->(rs σ)[r]? = some r)/\(∀ b ∈ s.asm,b=true)/\(∀ q ∈ s.eqs,q)/\(∀ c ∈ s.calls,c.cond=true->ZbO M c)/\asl=s.asm/\qs=s.eqs/\cl=s.calls:=by
  intro σ hσ
  obtain ⟨asl,qs,cl,hr,h1,h2,h3⟩:=h σ (perms_mem C hσ)
  unfold ordRun at hr
  split at hr
  ·rename_i s ho hs
   split at hr
   ·rename_i e K hn hall
    simp only [Option.some.injEq,Prod.mk.injEq] at hr
    obtain ⟨rfl,rfl,rfl,rfl,rfl⟩:=hr
    simp only [Bool.and_eq_true,List.all_eq_true,List.mem_range] at hall
    refine ⟨s,_,_,_,ho,hs,hn,fun r hr => ?_,h1,h2,h3,rfl,rfl,rfl⟩
    have:=hall.2 r hr
    cases h:(rs σ)[r]? with
    | none=>rw [h] at this;simp at this
    | some q=>rw [h] at this;simp only [Nat.beq_eq] at this;rw [this]
   ·simp at hr
  ·simp at hr
 refine draw_any (call:=call) (ans:=ans) (C:=C) (hot:=hot) (l:=l) hnd (fun σ hσ => ?_) ops.size (Array.replicate ops.size false) ⟨lift env,L,[],[],[]⟩ ⟨S.base,S.acc,S.L,S.β,{ S.w with drawn:=S.w.drawn+1 }⟩ a [] ⟨C,.refl _,List.nil_prefix⟩ (fun c hc => ?_) (fun σ hσ _ => ?_) n1 h6 ((Zcm h7).mono n2) h8
 ·obtain ⟨s,_,_,_,ho,_⟩:=key σ hσ
  exact (Zgu ho).1
 ·constructor
  ·intro h;cases h
  ·intro h
   by_cases hlt:c<ops.size <;> simp [hlt] at h
 ·obtain ⟨s,_,_,_,ho,hs,hn,hid,a1,a2,a3,_⟩:=key σ hσ
  obtain ⟨_,hndl,hmem⟩:=Zgu ho
  refine ⟨l σ,s,⟨by simp,?_,fun i => ?_,fun j o _ hj => ?_,hs⟩,?_,a1,a2,a3,fun S' a' k1 k2 k3 k4 k5 k6 => ?_⟩
  ·refine List.pairwise_iff_getElem.2 fun i j hi hj hij => ?_
   show Zap _ _<Zap _ _
   rw [ZcN hndl (List.getElem?_eq_getElem hi),ZcN hndl (List.getElem?_eq_getElem hj)]
   exact hij
  ·rw [hmem]
   constructor
   ·intro h;exact ⟨h,by simp [h]⟩
   ·intro h;exact h.1
  ·by_cases hlt:j<ops.size <;> simp [hlt] at hj
  ·have hp:(l σ).Perm (List.range ops.size):=(List.perm_ext_iff_of_nodup hndl List.nodup_range).2 fun i=>by rw [hmem,List.mem_range]
   rw [hp.length_eq];simp
  ·unfold Zbo at hn
   split at hn
   ·rename_i rows hrows
    split at hn
    ·rename_i hc
     simp only [Option.some.injEq,Prod.mk.injEq] at hn
     obtain ⟨rfl,rfl⟩:=hn
     simp only [Bool.and_eq_true,List.all_eq_true,List.contains_iff_mem] at hc
     obtain ⟨hnd',ha,hcl⟩:=hc
     have hnd':=(Zbl (rs σ)).1 hnd'
     rw [<- k3] at hrows
     obtain ⟨p1,p2,p3⟩:=perm_ok k1 n1 k2 hrows hnd' hcl (fun r hr=>hid r (by rw [<- h6];exact hr))
     refine ⟨⟨S'.base,S'.acc,rows.map (Zak (Zap (rs σ))),subβ S'.β (rs σ),S'.w⟩,rfl,p1,n2.trans p2,rfl,fun t => ?_,k5,k6⟩
     rw [get_renV]
     exact p3 _ _ (ZbK k4 keep t) fun r hr=>ha r (rows_get hr)
    ·simp at hn
   ·simp at hn
end Go.Av

namespace Go.Av
structure EG where
 keep:List (Nat × List (Nat × List Nat))
 hot:List (Nat × List (Nat × List Nat))
 known:List (Nat × List AV × AV):=[]
 rows:List (Nat × List (Nat × List Nat)):=[]
mutual
def beqA:AV->AV->Bool
 | .bool a,.bool b=>a==b
 | .int k n,.int j m=>decide (k=j)&&n==m
 | .str a,.str b=>a==b
 | .flt a,.flt b=>a==b
 | .agg a,.agg b=>beqAL a b
 | .tup a,.tup b=>beqAL a b
 | .vec f es a,.vec g fs b=>f==g&&(es==fs&&beqAL a b)
 | .nilp,.nilp=>true
 | .vnil,.vnil=>true
 | _,_=>false
def beqAL:List AV->List AV->Bool
 | [],[]=>true
 | a::l,b::m=>beqA a b&&beqAL l m
 | _,_=>false
end
mutual
theorem beqA_eq:∀ (a b:AV),beqA a b=true->a=b
 | .bool a,b,h=>by cases b <;> simp [beqA] at h;rw [h]
 | .int k n,b,h=>by cases b <;> simp [beqA] at h;rw [h.1,h.2]
 | .str a,b,h=>by cases b <;> simp [beqA] at h;rw [h]
 | .flt a,b,h=>by cases b <;> simp [beqA] at h;rw [h]
 | .agg a,b,h=>by cases b <;> simp [beqA] at h;rw [beqAL_eq a _ h]
 | .tup a,b,h=>by cases b <;> simp [beqA] at h;rw [beqAL_eq a _ h]
 | .vec f es a,b,h=>by cases b <;> simp [beqA] at h;rw [h.1,h.2.1,beqAL_eq a _ h.2.2]
 | .nilp,b,h=>by cases b <;> simp [beqA] at h;rfl
 | .vnil,b,h=>by cases b <;> simp [beqA] at h;rfl
 | .any,b,h=>by cases b <;> simp [beqA] at h
 | .ptr ..,b,h=>by cases b <;> simp [beqA] at h
 | .eptr ..,b,h=>by cases b <;> simp [beqA] at h
 | .row ..,b,h=>by cases b <;> simp [beqA] at h
 | .ref ..,b,h=>by cases b <;> simp [beqA] at h
 | .func ..,b,h=>by cases b <;> simp [beqA] at h
 | .nilf,b,h=>by cases b <;> simp [beqA] at h
 | .mapr ..,b,h=>by cases b <;> simp [beqA] at h
 | .nilm,b,h=>by cases b <;> simp [beqA] at h
theorem beqAL_eq:∀ (a b:List AV),beqAL a b=true->a=b
 | [],b,h=>by cases b <;> simp [beqAL] at h;rfl
 | a::l,b,h=>by
  cases b with
  | nil=>simp [beqAL] at h
  | cons b m=>simp [beqAL] at h;rw [beqA_eq a b h.1,beqAL_eq l m h.2]
end
def Zek (f:Nat) (args:List AV):List (Nat × List AV × AV)->Option AV
 | []=>none
 | (g,bs,v)::l=>bif Nat.beq f g&&beqAL args bs then some v else Zek f args l
theorem known_in {f:Nat} {args:List AV} {v:AV}:∀ {l:List (Nat × List AV × AV)},Zek f args l=some v->(f,args,v) ∈ l
 | [],h=>by simp [Zek] at h
 | (g,bs,u)::l,h=>by
  unfold Zek at h
  cases hb:(Nat.beq f g&&beqAL args bs) with
  | true =>
   rw [hb] at h
   simp only [cond_true,Option.some.injEq] at h
   simp only [Bool.and_eq_true,Nat.beq_eq] at hb
   rw [h,hb.1,beqAL_eq _ _ hb.2];exact .head _
  | false=>rw [hb] at h;exact .tail _ (known_in h)
def ofFn:List (Nat × List (Nat × List Nat))->Nat->List (Nat × List Nat)
 | [],_=>[]
 | (f,l)::t,g=>bif Nat.beq f g then l else ofFn t g
def Zdc (l:List Nat) (i:Nat):Option Ans:=bif l.contains i then some .keep else none
def runX (M:Mach) (fi:Fi) (kp ht kr:List (Nat × List Nat)) (call:Zaw):Nat->List Item->Vars->Heap->Option (AV × Heap)
 | 0,_,_,_=>none
 | n+1,todo,env,L =>
  match todo with
  | []=>match finish M.P fi env L with
   | some v=>some (v,L)
   | none=>none
  | .inBlock _::k=>runX M fi kp ht kr call n k env L
  | .inLoop b::k=>runX M fi kp ht kr call n (.code b :: .inLoop b::k) env L
  | .code c::k =>
   match c with
   | .skip=>runX M fi kp ht kr call n k env L
   | .seq a b=>runX M fi kp ht kr call n (.code a :: .code b::k) env L
   | .cond c a b=>match evV env c with
    | .bool t=>runX M fi kp ht kr call n (.code (bif t then a else b)::k) env L
    | _=>none
   | .block id b=>runX M fi kp ht kr call n (.code b :: .inBlock id::k) env L
   | .loop b=>runX M fi kp ht kr call n (.code b :: .inLoop b::k) env L
   | .exit id=>match exitTo id k with
    | some k'=>runX M fi kp ht kr call n k' env L
    | none=>none
   | .region id ops draw =>
    match (bif draw then ZgP (hotOf ops (ZaE ht id)) ops else true) with
    | false=>none
    | true =>
     match Zat M.P M.inl call fi.n ops (Zdc (ZaE kr id)) (bif draw then hotOf ops (ZaE ht id) else fun _=>2) (List.range ops.size) ⟨lift env,L,[],[],[]⟩ with
     | some s=>match s.asm.all (fun b=>b),s.eqs with
      | true,[]=>runX M fi kp ht kr call n k (Zbt (ZaE kp id) s.env) s.L
      | _,_=>none
     | none=>none
   | .ret=>match finish M.P fi env L with
    | some v=>some (v,L)
    | none=>none
   | _=>none
  | _=>none
def ansX (M:Mach) (K:List (Nat × List AV × AV)) (ex:FuncId->List AV->Heap->Option (AV × Heap)):Zaw:=fun g args L =>
 match M.inl g with
 | true=>match ex g args L with
  | some (v,L')=>some (v,some L')
  | none=>none
 | false=>match Zek g args K with
  | some d=>some (d,none)
  | none=>match ex g args [] with
   | some (v,L')=>match pureA L' v with
    | some d=>bif (versA L' v).all (fun b=>b)&&d.clean then some (d,none) else none
    | none=>none
   | none=>none
def execX (M:Mach) (G:EG):Nat->FuncId->List AV->Heap->Option (AV × Heap)
 | 0=>fun _ _ _=>none
 | n+1=>fun f args L =>
  match (M.P ()).funcs[f]? with
  | some fn=>match fn.body,fn.name == "runtime.NumGoroutine" with
   | some c,false=>runX M ⟨fn.ntmps,fn.results.toList⟩ (ofFn G.keep f) (ofFn G.hot f) (ofFn G.rows f) (ansX M G.known (execX M G n)) 100000 [.code c] (ZaM 0 args) L
   | _,_=>none
  | none=>none
def Zf5 (inl:FuncId->Bool) (call:Zaw) (c:CF):Prop:=
 (c.own=true/\inl c.f=true /\ ∃ o,call c.f c.args c.L=some (c.v,o)/\c.L'=o.getD c.L) \/
 (inl c.f=false /\ ∃ L1,call c.f c.args []=some (c.v,some L1)) \/
 (c.own=false/\inl c.f=false/\call c.f c.args []=some (c.v,none))
section
variable {P:Unit->Program}
theorem Zbn {x:Option AV} {r:SR} (h:ZbG x=some r):r.calls=[]:=by
 unfold ZbG at h;split at h
 ·simp only [Option.some.injEq] at h;subst h;rfl
 ·simp at h
theorem convS_no {src dst:TypeId} {x:AV} {r:SR} (h:convS P src dst x=some r):r.calls=[]:=by
 unfold convS at h
 repeat' split at h
 all_goals first | (simp only [Option.some.injEq] at h;subst h;rfl) | simp at h
theorem intBin_no {op:BinOp} {k:IntKind} {x y:Int} {r:SR} (h:ZgG op k x y=some r):r.calls=[]:=by
 unfold ZgG at h
 split at h <;> first | (simp only [Option.some.injEq] at h;subst h;rfl) | (simp at h)
theorem strBin_no {op:BinOp} {x y:List UInt8} {r:SR} (h:Zgi op x y=some r):r.calls=[]:=by
 unfold Zgi at h
 split at h <;> first | (simp only [Option.some.injEq] at h;subst h;rfl) | (simp at h)
theorem binA_no {op:BinOp} {T:TypeId} {x y:AV} {r:SR} (h:binA P op T x y=some r):r.calls=[]:=by
 unfold binA at h
 split at h
 ·simp only [Option.some.injEq] at h;subst h;rfl
 ·simp only [Option.some.injEq] at h;subst h;rfl
 ·split at h
  ·exact intBin_no h
  ·simp at h
 ·exact strBin_no h
 ·split at h
  ·exact Zbn h
  ·simp at h
 ·split at h
  ·exact Zbn h
  ·simp at h
 ·simp at h
theorem boxA_no {L:Heap} {x:AV} {r:SR} (h:boxA L x=some r):r.calls=[]:=by
 unfold boxA at h;split at h
 ·simp only [Option.some.injEq] at h;subst h;rfl
 ·simp at h
theorem loadA_no {el:Option AV} {L:Heap} {T:TypeId} {p:AV} {r:SR} (h:loadA P el L T p=some r):r.calls=[]:=by
 unfold loadA at h
 repeat' split at h
 all_goals first | (simp only [Option.some.injEq] at h;subst h;rfl) | (simp at h)
theorem storeA_no {el:Option AV} {L:Heap} {T:TypeId} {p v:AV} {r:SR} (h:Zgj P el L T p v=some r):r.calls=[]:=by
 unfold Zgj at h
 repeat' split at h
 all_goals first | (simp only [Option.some.injEq] at h;subst h;rfl) | (simp at h)
theorem Zf4 {keep:Bool} {L:Heap} {T:TypeId} {len:Nat} {parts:List (Nat × AV)} {r:SR} (h:Zbc P keep L T len parts=some r):r.calls=[]:=by
 unfold Zbc at h
 cases keep <;> simp only [cond_true,cond_false] at h <;> (repeat' split at h) <;> first | (simp only [Option.some.injEq] at h;subst h;rfl) | (simp at h)
theorem indexAddrA_no {L:Heap} {T:TypeId} {x i:AV} {r:SR} (h:ZbI P L T x i=some r):r.calls=[]:=by
 unfold ZbI at h
 repeat' split at h
 all_goals first | (simp only [Option.some.injEq] at h;subst h;rfl) | (simp at h)
theorem indexA_no {T:TypeId} {x i:AV} {r:SR} (h:ZgH P T x i=some r):r.calls=[]:=by
 unfold ZgH at h
 repeat' split at h
 all_goals first | (simp only [Option.some.injEq] at h;subst h;rfl) | (simp at h)
theorem sliceA_no {L:Heap} {T:TypeId} {x:AV} {lo hi mx:Option AV} {r:SR} (h:Zgm P L T x lo hi mx=some r):r.calls=[]:=by
 unfold Zgm at h
 repeat' split at h
 all_goals first | (simp only [Option.some.injEq] at h;subst h;rfl) | (simp at h)
theorem ZgU {L:Heap} {T:TypeId} {s x:AV} {r:SR} (h:Zcq P L T s x=some r):r.calls=[]:=by
 unfold Zcq at h
 repeat' split at h
 all_goals first | (simp only [Option.some.injEq] at h;subst h;rfl) | (simp at h)
theorem clearA_no {L:Heap} {T:TypeId} {d:AV} {r:SR} (h:clearA P L T d=some r):r.calls=[]:=by
 unfold clearA at h
 repeat' split at h
 all_goals first | (simp only [Option.some.injEq] at h;subst h;rfl) | (simp at h)
theorem lenA_no {L:Heap} {T:TypeId} {x:AV} {r:SR} (h:lenA P L T x=some r):r.calls=[]:=by
 unfold lenA at h
 repeat' split at h
 all_goals first | (simp only [Option.some.injEq] at h;subst h;rfl) | (simp at h)
theorem makeSliceA_no {L:Heap} {T:TypeId} {a b:AV} {r:SR} (h:Zb8 P L T a b=some r):r.calls=[]:=by
 unfold Zb8 at h
 repeat' split at h
 all_goals first | (simp only [Option.some.injEq] at h;subst h;rfl) | (simp at h)
theorem sliceArrA_no {L:Heap} {n:Nat} {e:TypeId} {x:AV} {r:SR} (h:Zbx P L n e x=some r):r.calls=[]:=by
 unfold Zbx at h
 repeat' split at h
 all_goals first | (simp only [Option.some.injEq] at h;subst h;rfl) | (simp at h)
theorem appendZ_no {L:Heap} {T:TypeId} {s x:AV} {r:SR} (h:ZdQ P L T s x=some r):r.calls=[]:=by
 unfold ZdQ at h
 repeat' split at h
 all_goals first | (simp only [Option.some.injEq] at h;subst h;rfl) | (simp at h)
theorem makeMapA_no {L:Heap} {T:TypeId} {r:SR} (h:Zd5 P L T=some r):r.calls=[]:=by
 unfold Zd5 at h
 repeat' split at h
 all_goals first | (simp only [Option.some.injEq] at h;subst h;rfl) | (simp at h)
theorem lookupA_no {el:Option AV} {L:Heap} {T:TypeId} {m k:AV} {ok:Bool} {r:SR} (h:Zfx P el L T m k ok=some r):r.calls=[]:=by
 unfold Zfx at h
 repeat' split at h
 all_goals first | (simp only [Option.some.injEq] at h;subst h;rfl) | (simp at h)
theorem mapUpdateA_no {L:Heap} {T:TypeId} {m k v:AV} {r:SR} (h:ZcA P L T m k v=some r):r.calls=[]:=by
 unfold ZcA at h
 repeat' split at h
 all_goals first | (simp only [Option.some.injEq] at h;subst h;rfl) | (simp at h)
theorem mapEntryA_no {el:Option AV} {L:Heap} {T:TypeId} {m k:AV} {r:SR} (h:Zdb P el L T m k=some r):r.calls=[]:=by
 unfold Zdb at h
 repeat' split at h
 all_goals first | (simp only [Option.some.injEq] at h;subst h;rfl) | (simp at h)
theorem Zf3 {L:Heap} {m i v:AV} {r:SR} (h:Zce L m i v=some r):r.calls=[]:=by
 unfold Zce at h
 repeat' split at h
 all_goals first | (simp only [Option.some.injEq] at h;subst h;rfl) | (simp at h)
theorem callF_good {inl:FuncId->Bool} {call:Zaw} {L:Heap} {g:FuncId} {args:List AV} {r:SR} (h:Zet inl call L g args=some r):∀ c ∈ r.calls,Zf5 inl call c:=by
 unfold Zet at h
 cases hi:inl g with
 | true =>
  rw [hi] at h
  simp only [cond_true] at h
  split at h
  ·rename_i rs args' Lc hin
   split at h
   ·rename_i v o hc
    split at h
    ·simp only [Option.some.injEq] at h
     subst h
     intro c hm
     simp only [List.mem_singleton] at hm
     subst hm
     exact .inl ⟨rfl,hi,o,hc,rfl⟩
    ·simp at h
   ·simp at h
  ·simp at h
 | false =>
  rw [hi] at h
  simp only [cond_false] at h
  split at h
  ·rename_i ds hds
   split at h
   ·rename_i d hc
    split at h
    ·split at h
     all_goals
      simp only [Option.some.injEq] at h
      subst h
      intro c hm
      simp only [List.mem_singleton] at hm
      subst hm
      exact .inr (.inr ⟨rfl,hi,hc⟩)
    ·simp at h
   ·rename_i v L1 hc
    split at h
    ·split at h
     ·split at h
      ·simp only [Option.some.injEq] at h
       subst h
       intro c hm
       simp only [List.mem_singleton] at hm
       subst hm
       exact .inr (.inl ⟨hi,L1,hc⟩)
      ·simp at h
     ·simp at h
    ·simp at h
   ·simp at h
  ·simp at h
theorem ZaJ {inl:FuncId->Bool} {call:Zaw} {r:SR} (h:r.calls=[]):∀ c ∈ r.calls,Zf5 inl call c:=by
 rw [h];intro c hc;cases hc
theorem callA_good {inl:FuncId->Bool} {call:Zaw} {ρ:Operand->AV} {L:Heap} {c:Call} {r:SR} (h:Zbw P inl call ρ L c=some r):∀ c ∈ r.calls,Zf5 inl call c:=by
 unfold Zbw at h
 split at h
 ·apply ZaJ
  split at h
  ·split at h
   ·exact ZgU h
   ·exact ZgU h
   ·exact appendZ_no h
   ·simp at h
  ·exact clearA_no h
  ·exact lenA_no h
  ·exact Zbn h
  ·exact Zbn h
  ·exact Zbn h
  ·simp at h
 ·split at h
  ·exact callF_good h
  ·simp at h
 ·simp at h
theorem stepA_good {inl:FuncId->Bool} {call:Zaw} {ρ:Za4->Operand->AV} {L:Heap} {o:Oper} {r:SR} {an:Option Ans} (han:an=none\/an=some .keep) (h:ZaX P inl call an ρ L o=some r):∀ c ∈ r.calls,Zf5 inl call c:=by
 unfold ZaX at h
 simp only at h
 split at h
 ·simp only [Option.some.injEq] at h;subst h;exact ZaJ rfl
 ·simp only [Option.some.injEq] at h;subst h;exact ZaJ rfl
 ·split at h
  ·exact ZaJ (Zbn h)
  ·exact ZaJ (Zbn h)
 ·split at h
  ·exact ZaJ (boxA_no h)
  ·simp at h
 ·exact ZaJ (boxA_no h)
 ·exact ZaJ (Zbn h)
 ·exact ZaJ (Zf4 h)
 ·exact ZaJ (loadA_no h)
 ·exact ZaJ (storeA_no h)
 ·split at h
  ·simp only [Option.some.injEq] at h;subst h;exact ZaJ rfl
  ·simp only [Option.some.injEq] at h;subst h;exact ZaJ rfl
  ·simp at h
 ·exact ZaJ (binA_no h)
 ·exact ZaJ (Zbn h)
 ·exact ZaJ (convS_no h)
 ·simp only [Option.some.injEq] at h;subst h;exact ZaJ rfl
 ·exact ZaJ (makeSliceA_no h)
 ·split at h
  ·split at h
   ·exact ZaJ (sliceArrA_no h)
   ·simp at h
  ·exact ZaJ (sliceA_no h)
 ·exact ZaJ (Zbn h)
 ·exact ZaJ (Zbn h)
 ·exact ZaJ (indexAddrA_no h)
 ·exact ZaJ (indexA_no h)
 ·split at h
  ·exact ZaJ (makeMapA_no h)
  ·simp at h
 ·exact ZaJ (lookupA_no h)
 ·exact ZaJ (mapUpdateA_no h)
 ·exact ZaJ (mapEntryA_no h)
 ·exact ZaJ (Zf3 h)
 ·split at h
  ·exact ZaJ (Zbn h)
  ·simp at h
 ·rcases han with rfl | rfl <;> exact callA_good h
 ·simp at h
theorem runOp_good {inl:FuncId->Bool} {call:Zaw} {n:Nat} {ops:Array Oper} {hot:Nat} {o:Oper} {s s':RS} {an:Option Ans} (han:an=none\/an=some .keep) (h:Zbk P inl call n ops an hot o s=some s') (hs:∀ c ∈ s.calls,Zf5 inl call c) :
  ∀ c ∈ s'.calls,Zf5 inl call c:=by
 unfold Zbk at h
 split at h
 ·simp at h
 ·split at h
  ·simp only [Option.some.injEq] at h;subst h;exact hs
  ·simp at h
 ·split at h
  ·split at h
   ·simp at h
   ·split at h
    ·simp only [Option.some.injEq] at h;subst h;exact hs
    ·simp at h
  ·rename_i r hr
   have hg:=stepA_good han hr
   split at h
   ·simp at h
   ·split at h
    ·simp at h
    ·split at h
     ·simp only [Option.some.injEq] at h;subst h
      intro c hc
      rcases List.mem_append.1 hc with hc | hc
      ·exact hs c hc
      ·exact hg c hc
     ·simp only [Option.some.injEq] at h;subst h
      intro c hc
      rcases List.mem_append.1 hc with hc | hc
      ·exact hs c hc
      ·obtain ⟨c0,h1,rfl⟩:=List.mem_map.1 hc
       exact hg c0 h1
theorem Zdv (l:List Nat) (i:Nat):Zdc l i=none\/Zdc l i=some .keep:=by
 unfold Zdc
 cases l.contains i with
 | true=>exact .inr rfl
 | false=>exact .inl rfl
theorem ZdA {inl:FuncId->Bool} {call:Zaw} {n:Nat} {ops:Array Oper} {hot:Nat->Nat} {ans:Nat->Option Ans} (hans:∀ i,ans i=none\/ans i=some .keep):∀ (l:List Nat) {s s':RS},Zat P inl call n ops ans hot l s=some s'->(∀ c ∈ s.calls,Zf5 inl call c) ->
  ∀ c ∈ s'.calls,Zf5 inl call c:=by
 intro l
 induction l with
 | nil=>intro s s' h hs;simp only [Zat,Option.some.injEq] at h;subst h;exact hs
 | cons i rest ih =>
  intro s s' h hs
  simp only [Zat] at h
  split at h
  ·exact ih h hs
  ·split at h
   ·rename_i s1 h1
    exact ih h (runOp_good (hans _) h1 hs)
   ·simp at h
end
def AnsOk (M:Mach) (call:Zaw):Prop:=∀ f args L v o,call f args L=some (v,o) ->
 (M.inl f=true->Ev M (.own f args L) v (o.getD L))/\(M.inl f=false->o=none/\Ev M (.pure f args) v [])
theorem runX_sound {M:Mach} {fi:Fi} {kp ht kr:List (Nat × List Nat)} {call:Zaw} (hc:AnsOk M call):∀ (n:Nat) {todo:List Item} {env:Vars} {L L':Heap} {v:AV},runX M fi kp ht kr call n todo env L=some (v,L') ->
  Ev M (.run fi todo env L) v L':=by
 intro n
 induction n with
 | zero=>intro todo env L L' v h;simp [runX] at h
 | succ n ih =>
  intro todo env L L' v h
  unfold runX at h
  split at h
  ·split at h
   ·rename_i w hf
    simp only [Option.some.injEq,Prod.mk.injEq] at h
    obtain ⟨rfl,rfl⟩:=h
    exact .done hf ⟨rfl,rfl⟩
   ·simp at h
  ·exact .inBlock (ih h)
  ·exact .inLoop (ih h)
  ·split at h
   ·exact .skip (ih h)
   ·exact .seq (ih h)
   ·split at h
    ·rename_i t ht
     exact .cond t ht (ih h)
    ·simp at h
   ·exact .block (ih h)
   ·exact .loop (ih h)
   ·split at h
    ·rename_i k' hk
     exact .exit hk (ih h)
    ·simp at h
   ·split at h
    ·simp at h
    ·rename_i id ops draw _ hd
     split at h
     ·rename_i s hr
      split at h
      ·rename_i ha he
       have hg:=ZdA (Zdv _) _ hr (by intro c hc;cases hc)
       refine .region call (Zdc (ZaE kr id)) _ _ s (fun h1 => ?_) hr (fun b hb => ?_) (fun p hp => ?_) (fun c hcm _ ho => ?_) (fun c hcm _ ho => ?_) (ih h)
       ·subst h1;exact hd
       ·exact (List.all_eq_true.1 ha) b hb
       ·rw [he] at hp;cases hp
       ·rcases hg c hcm with ⟨_,h2,o,h3,h4⟩ | ⟨h2,L1,h3⟩ | ⟨h2,_⟩
        ·rw [h4];exact (hc _ _ _ _ _ h3).1 h2
        ·have:=((hc _ _ _ _ _ h3).2 h2).1;simp at this
        ·rw [ho] at h2;simp at h2
       ·rcases hg c hcm with ⟨h2,_⟩ | ⟨h2,L1,h3⟩ | ⟨_,h2,h3⟩
        ·rw [ho] at h2;simp at h2
        ·have:=((hc _ _ _ _ _ h3).2 h2).1;simp at this
        ·exact ((hc _ _ _ _ _ h3).2 h2).2
      ·simp at h
     ·simp at h
   ·split at h
    ·rename_i w hf
     simp only [Option.some.injEq,Prod.mk.injEq] at h
     obtain ⟨rfl,rfl⟩:=h
     exact .ret hf ⟨rfl,rfl⟩
    ·simp at h
   ·simp at h
  ·simp at h
def Zcr (M:Mach) (G:EG):Prop:=∀ k ∈ G.known,Ev M (.pure k.1 k.2.1) k.2.2 []
theorem ZaY {M:Mach} {a b c:List (Nat × List (Nat × List Nat))}:Zcr M ⟨a,b,[],c⟩:=fun _ hk=>nomatch hk
theorem ansX_ok {M:Mach} {G:EG} (hK:Zcr M G) {ex:FuncId->List AV->Heap->Option (AV × Heap)} (h:∀ f args L v L',ex f args L=some (v,L')->Ev M (.own f args L) v L'):AnsOk M (ansX M G.known ex):=by
 intro f args L v o hc
 unfold ansX at hc
 split at hc
 ·rename_i hi
  refine ⟨fun _ => ?_,fun h2=>by rw [hi] at h2;simp at h2⟩
  split at hc
  ·rename_i w L' he
   simp only [Option.some.injEq,Prod.mk.injEq] at hc
   obtain ⟨rfl,rfl⟩:=hc
   exact h _ _ _ _ _ he
  ·simp at hc
 ·rename_i hi
  refine ⟨fun h2=>by rw [hi] at h2;simp at h2,fun _ => ?_⟩
  split at hc
  ·rename_i d hd
   simp only [Option.some.injEq,Prod.mk.injEq] at hc
   obtain ⟨rfl,rfl⟩:=hc
   exact ⟨rfl,hK _ (known_in hd)⟩
  split at hc
  ·rename_i w L' he
   split at hc
   ·rename_i d hd
    cases hb:((versA L' w).all (fun b=>b)&&d.clean) with
    | false=>rw [hb] at hc;simp at hc
    | true =>
     rw [hb] at hc
     simp only [cond_true,Option.some.injEq,Prod.mk.injEq] at hc
     obtain ⟨rfl,rfl⟩:=hc
     simp only [Bool.and_eq_true,List.all_eq_true] at hb
     exact ⟨rfl,.pure (.mono (h _ _ _ _ _ he) fun x K ⟨e1,e2⟩=>by subst e1;subst e2;exact ⟨d,d,hd,hb.1,hb.2,.refl d,rfl,rfl⟩)⟩
   ·simp at hc
  ·simp at hc
theorem execX_sound {M:Mach} {G:EG} (hK:Zcr M G):∀ (n:Nat) (f:FuncId) (args:List AV) (L:Heap) (v:AV) (L':Heap),execX M G n f args L=some (v,L')->Ev M (.own f args L) v L':=by
 intro n
 induction n with
 | zero=>intro f args L v L' h;simp [execX] at h
 | succ n ih =>
  intro f args L v L' h
  unfold execX at h
  split at h
  ·rename_i fn hf
   split at h
   ·rename_i c hb hn
    exact .own fn c hf hb hn (runX_sound (ansX_ok hK fun f args L v L' h=>ih f args L v L' h) _ h)
   ·simp at h
  ·simp at h
def execP (M:Mach) (G:EG) (n:Nat) (f:FuncId) (args:List AV):Option AV:=
 match execX M G n f args [] with
 | some (v,L')=>match pureA L' v with
  | some d=>bif (versA L' v).all (fun b=>b)&&d.clean then some d else none
  | none=>none
 | none=>none
theorem Zbq {M:Mach} {G:EG} (hK:Zcr M G) (n:Nat) {f:FuncId} {args:List AV} {d:AV} (h:execP M G n f args=some d):Ev M (.pure f args) d []:=by
 unfold execP at h
 split at h
 ·rename_i v L' he
  split at h
  ·rename_i d0 hd
   cases hb:((versA L' v).all (fun b=>b)&&d0.clean) with
   | false=>rw [hb] at h;simp at h
   | true =>
    rw [hb] at h
    simp only [cond_true,Option.some.injEq] at h
    subst h
    simp only [Bool.and_eq_true,List.all_eq_true] at hb
    exact .pure (.mono (execX_sound hK n _ _ _ _ _ he) fun x K ⟨e1,e2⟩=>by subst e1;subst e2;exact ⟨d0,d0,hd,hb.1,hb.2,.refl d0,rfl,rfl⟩)
  ·simp at h
 ·simp at h
end Go.Av

namespace Go.Av
open Go.RowKit
mutual
def deepA (L:Heap):AV->Option AV
 | .row r _=>match L[r]? with
  | some row=>bif row.clean then some (.vec false row.es row.elems) else match pureL L row.elems with
   | some ys=>some (.vec false row.es ys)
   | none=>none
  | none=>none
 | .agg cs=>match deepL L cs with
  | some ds=>some (.agg ds)
  | none=>none
 | .tup cs=>match deepL L cs with
  | some ds=>some (.tup ds)
  | none=>none
 | a=>pureA L a
def deepL (L:Heap):List AV->Option (List AV)
 | []=>some []
 | c::r=>match deepA L c,deepL L r with
  | some d,some ds=>some (d::ds)
  | _,_=>none
end
mutual
def deepV (L:Heap):AV->List Bool
 | .row r v=>Zb3 L r v::(match L[r]? with
  | some row=>bif row.clean then [] else versL L row.elems
  | none=>[])
 | .agg cs=>deepVL L cs
 | .tup cs=>deepVL L cs
 | a=>versA L a
def deepVL (L:Heap):List AV->List Bool
 | []=>[]
 | c::r=>deepV L c++deepVL L r
end
theorem deep_get {L:Heap}:∀ {l ds:List AV},pureL L l=some ds->ds.length=l.length /\ ∀ (i:Nat) d,ds[i]? = some d -> ∃ c,l[i]? = some c/\pureA L c=some d
 | [],ds,h=>by simp only [pureL,Option.some.injEq] at h;subst h;exact ⟨rfl,by simp⟩
 | c::l,ds,h=>by
  simp only [pureL] at h
  split at h
  ·rename_i d ds' hd hds
   simp only [Option.some.injEq] at h;subst h
   obtain ⟨h1,h2⟩:=deep_get hds
   refine ⟨by simp [h1],fun i x hx => ?_⟩
   cases i with
   | zero=>simp at hx;subst hx;exact ⟨c,rfl,hd⟩
   | succ i=>obtain ⟨y,q1,q2⟩:=h2 i x (by simpa using hx);exact ⟨y,by simpa using q1,q2⟩
  ·simp at h
theorem ZgQ {L:Heap} {c d:AV} (h:pureA L c=some d) (hp:c.plain=true):d.plain=true:=by
 cases c with
 | any=>simp [AV.plain] at hp
 | agg cs=>simp [AV.plain] at hp
 | tup cs=>simp [AV.plain] at hp
 | row r v =>
  simp only [pureA] at h
  repeat' split at h
  all_goals first | (simp only [Option.some.injEq] at h;subst h;rfl) | (simp at h)
 | ref r v lo len =>
  simp only [pureA] at h
  repeat' split at h
  all_goals first | (simp only [Option.some.injEq] at h;subst h;rfl) | (simp at h)
 | ptr r v i j =>
  simp only [pureA] at h
  repeat' split at h
  all_goals first | (simp only [Option.some.injEq] at h;subst h;rfl) | (simp at h)
 | func fn a b =>
  simp only [pureA] at h
  repeat' split at h
  all_goals first | (simp only [Option.some.injEq] at h;subst h;rfl) | (simp at h)
 | mapr r=>simp [pureA] at h
 | _=>simp only [pureA,Option.some.injEq] at h;subst h;rfl
theorem cells_one {c:AV} (hp:c.plain=true):c.cells=[c]:=by
 cases c <;> first | rfl | (simp [AV.plain] at hp)
theorem Ze7 {L:Heap}:∀ {l:List AV} {i:Nat} {c:AV} {b:Bool},l[i]? = some c->b ∈ versA L c->b ∈ versL L l
 | [],i,c,b,h,_=>by simp at h
 | x::l,i,c,b,h,hb=>by
  simp only [versL,List.mem_append]
  cases i with
  | zero=>simp at h;subst h;exact .inl hb
  | succ i=>exact .inr (Ze7 (by simpa using h) hb)
theorem Zeq {L:Heap} {x y:AV} (h:pureA L x=some y) (hp:x.cells.all AV.plain=true) :
  y.cells.length=x.cells.length/\y.cells.all AV.plain=true /\ ∀ (k:Nat) c,y.cells[k]? = some c -> ∃ c0,x.cells[k]? = some c0/\pureA L c0=some c /\ ∀ b ∈ versA L c0,b ∈ versA L x:=by
 have single:x.plain=true->y.cells.length=x.cells.length/\y.cells.all AV.plain=true /\ ∀ (k:Nat) c,y.cells[k]? = some c -> ∃ c0,x.cells[k]? = some c0/\pureA L c0=some c /\ ∀ b ∈ versA L c0,b ∈ versA L x:=by
  intro hx
  have hy:=ZgQ h hx
  rw [cells_one hx,cells_one hy]
  refine ⟨rfl,by simp [hy],fun k c hk => ?_⟩
  cases k with
  | zero=>simp at hk;subst hk;exact ⟨x,rfl,h,fun b hb=>hb⟩
  | succ k=>simp at hk
 cases x with
 | agg cs =>
  simp only [pureA] at h
  split at h
  ·rename_i ds hd
   simp only [Option.some.injEq] at h;subst h
   obtain ⟨h1,h2⟩:=deep_get hd
   simp only [AV.cells] at hp ⊢
   refine ⟨h1,List.all_eq_true.2 fun d hdm => ?_,fun k c hk => ?_⟩
   ·obtain ⟨i,hi⟩:=List.getElem?_of_mem hdm
    obtain ⟨c,q1,q2⟩:=h2 i d hi
    exact ZgQ q2 (List.all_eq_true.1 hp c (List.mem_of_getElem? q1))
   ·obtain ⟨c0,q1,q2⟩:=h2 k c hk
    exact ⟨c0,q1,q2,fun b hb=>by simp only [versA];exact Ze7 q1 hb⟩
  ·simp at h
 | any=>simp [pureA] at h
 | tup cs=>simp [AV.cells,AV.plain] at hp
 | _=>exact single (by simpa [AV.cells] using hp)
theorem row_deep {S S':St} (hS:HeapOk S) (hw:S'.w=S.w) (hi:∀ b off,Imm S b off->b<S.w.heap.size->Imm S' b off) {r:Nat} {row:Row} {info:BI} (hr:S.L[r]? = some row) (hb:S.β[r]? = some info) (hmp:info.mp=false)
  (hh:∀ rs,Zez S S' rs) {ys:List AV} (hy:pureL S.L row.elems=some ys) (hv:∀ b ∈ versL S.L row.elems,b=true) (cap:Nat) (hc:row.elems.length<=cap) :
  DRel S' (.vec false row.es ys) (.slice (some ⟨info.blk,info.off,none⟩) row.elems.length cap):=by
 have hes:=(hS.cells r row info hr hb hmp).1
 obtain ⟨hlen,hget⟩:=deep_get hy
 have:=DRel.vec (S:=S') false row.es ys info.blk info.off cap
  (fun i y hyi=>by
   obtain ⟨x,q1,q2⟩:=hget i y hyi
   obtain ⟨o1,o2⟩:=hS.elems r row hr i x q1
   obtain ⟨p1,p2,_⟩:=Zeq q2 o2
   exact ⟨p1.trans o1,p2⟩) (by simp) (by rw [hlen];exact hc)
  (fun i y k c hyi hk=>by
   obtain ⟨x,q1,q2⟩:=hget i y hyi
   obtain ⟨o1,o2⟩:=hS.elems r row hr i x q1
   obtain ⟨p1,p2,_⟩:=Zeq q2 o2
   have hk2:k<info.es:=by rw [hes,<- o1,<- p1];exact Zah hk
   obtain ⟨cv,h3⟩:=ZdW hS hr hb hmp q1 hk2
   rw [hes] at h3
   refine ⟨⟨cv,by rw [hw];exact h3⟩,hh [r] r (by simp) row info hr hb _ (by omega) ?_⟩
   have:=Zb0 (Zah q1) (Nat.le_refl row.elems.length) hk2
   rw [hes] at this ⊢
   omega)
  (fun i y k c cv hyi hk hcv=>by
   obtain ⟨x,q1,q2⟩:=hget i y hyi
   obtain ⟨o1,o2⟩:=hS.elems r row hr i x q1
   obtain ⟨p1,p2,p3⟩:=Zeq q2 o2
   obtain ⟨c0,z1,z2,z3⟩:=p3 k c hk
   rw [hw,<- hes] at hcv
   exact pure_rel hS hw hi c0 (hS.rel r row info i x k c0 cv hr hb q1 z1 hcv) z2 (fun b hb=>hv b (Ze7 q1 (z3 b hb))) (hh _))
 rw [hlen] at this
 exact this
mutual
theorem deep_rel {S S':St} (hS:HeapOk S) (hw:S'.w=S.w) (hi:∀ b off,Imm S b off->b<S.w.heap.size->Imm S' b off) (hh:∀ rs,Zez S S' rs):∀ (a:AV) {d:AV} {v:Value},Rel S a v->deepA S.L a=some d ->
  (∀ b ∈ deepV S.L a,b=true)->DRel S' d v
 | .any,_,_,hr,h,hv=>pure_rel hS hw hi _ hr h hv (hh _)
 | .bool b,_,_,hr,h,hv=>pure_rel hS hw hi _ hr h hv (hh _)
 | .int k n,_,_,hr,h,hv=>pure_rel hS hw hi _ hr h hv (hh _)
 | .str s,_,_,hr,h,hv=>pure_rel hS hw hi _ hr h hv (hh _)
 | .flt s,_,_,hr,h,hv=>pure_rel hS hw hi _ hr h hv (hh _)
 | .nilp,_,_,hr,h,hv=>pure_rel hS hw hi _ hr h hv (hh _)
 | .nilf,_,_,hr,h,hv=>pure_rel hS hw hi _ hr h hv (hh _)
 | .nilm,_,_,hr,h,hv=>pure_rel hS hw hi _ hr h hv (hh _)
 | .mapr _,_,_,hr,h,hv=>pure_rel hS hw hi _ hr h hv (hh _)
 | .vnil,_,_,hr,h,hv=>pure_rel hS hw hi _ hr h hv (hh _)
 | .vec f es xs,_,_,hr,h,hv=>pure_rel hS hw hi _ hr h hv (hh _)
 | .eptr es xs i j,_,_,hr,h,hv=>pure_rel hS hw hi _ hr h hv (hh _)
 | .func fn a b,_,_,hr,h,hv=>pure_rel hS hw hi _ hr h hv (hh _)
 | .ptr r ver i j,_,_,hr,h,hv=>pure_rel hS hw hi _ hr h hv (hh _)
 | .ref r ver lo len,_,_,hr,h,hv=>pure_rel hS hw hi _ hr h hv (hh _)
 | .agg cs,_,_,hr,h,hv=>by
  simp only [deepA] at h
  split at h
  ·rename_i ds hd
   simp only [Option.some.injEq] at h;subst h
   obtain ⟨vs,rfl,l1,r1⟩:=ZbW hr
   obtain ⟨l2,r2⟩:=deep_relL hS hw hi hh cs ⟨l1,r1⟩ hd (by simpa [deepV] using hv)
   exact .agg ds vs l2 r2
  ·simp at h
 | .tup cs,_,_,hr,h,hv=>by
  simp only [deepA] at h
  split at h
  ·rename_i ds hd
   simp only [Option.some.injEq] at h;subst h
   obtain ⟨vs,rfl,l1,r1⟩:=rel_tup hr
   obtain ⟨l2,r2⟩:=deep_relL hS hw hi hh cs ⟨l1,r1⟩ hd (by simpa [deepV] using hv)
   exact .tup ds vs l2 r2
  ·simp at h
 | .row r ver,_,_,hr,h,hv=>by
  simp only [deepA] at h
  split at h
  ·rename_i row hrow
   cases hcl:row.clean with
   | true =>
    rw [hcl] at h
    exact pure_rel hS hw hi (.row r ver) hr (by simpa [pureA,hrow,hcl] using h) (fun b hb=>hv b (by simp only [versA,List.mem_singleton] at hb;simp [deepV,hb])) (hh _)
   | false =>
    rw [hcl] at h
    simp only [cond_false] at h
    split at h
    ·rename_i ys hys
     simp only [Option.some.injEq] at h;subst h
     obtain ⟨row',info,a1,a2,a3,hmp⟩:=Zc3 hr
     rw [hrow] at a1
     simp only [Option.some.injEq] at a1;subst a1
     have hver:row.ver=ver:=by
      have:=hv (Zb3 S.L r ver) (by simp [deepV])
      simpa [Zb3,hrow] using this
     rw [a3 hver]
     exact row_deep hS hw hi hrow a2 hmp hh hys (fun b hb=>hv b (by simp [deepV,hrow,hcl,hb])) info.cap (hS.cells r row info hrow a2 hmp).2.1
    ·simp at h
  ·simp at h
theorem deep_relL {S S':St} (hS:HeapOk S) (hw:S'.w=S.w) (hi:∀ b off,Imm S b off->b<S.w.heap.size->Imm S' b off) (hh:∀ rs,Zez S S' rs):∀ (l:List AV) {ds:List AV} {vs:List Value},RelL S l vs->deepL S.L l=some ds ->
  (∀ b ∈ deepVL S.L l,b=true)->ds.length=vs.length /\ ∀ (i:Nat) c v,ds[i]? = some c->vs[i]? = some v->DRel S' c v
 | [],_,vs,hr,h,_=>by
  simp only [deepL,Option.some.injEq] at h;subst h
  exact ⟨by simpa using hr.1,by simp⟩
 | c::l,_,[],hr,h,_=>by have:=hr.1;simp at this
 | c::l,_,u::vs,hr,h,hv=>by
  simp only [deepL] at h
  split at h
  ·rename_i d ds hd hds
   simp only [Option.some.injEq] at h;subst h
   have h1:=deep_rel hS hw hi hh c hr.head hd (fun b hb=>hv b (by simp [deepVL,hb]))
   obtain ⟨l2,r2⟩:=deep_relL hS hw hi hh l hr.tail hds (fun b hb=>hv b (by simp [deepVL,hb]))
   refine ⟨by simp [l2],fun i a b ha hb => ?_⟩
   cases i with
   | zero=>simp at ha hb;subst ha;subst hb;exact h1
   | succ i=>exact r2 i a b (by simpa using ha) (by simpa using hb)
  ·simp at h
end
def DeepQ (d:AV):AV->Heap->Prop:=fun v L => ∃ d0,deepA L v=some d0/\allB (deepV L v)/\Weak d0 d
theorem deep_of {L:Heap} {v d:AV} (h1:deepA L v=some d) (h2:allB (deepV L v)):DeepQ d v L:=⟨d,h1,h2,.refl _⟩
theorem deep_pure {M:Mach} (hm:(M.P ()).follows .mixedOrders=true) {f:FuncId} {args:List AV} {d:AV} (h:Wp M (.own f args []) (DeepQ d)):Ev M (.pure f args) d []:=by
 refine .sem ?_
 have h':OwnQ M f args [] (DeepQ d):=Zbm hm h
 intro base acc w cargs hb hac hr
 have hS:HeapOk ⟨base,acc,[],[],w⟩:=⟨hb,rfl,by simp,by simp,by simp,by simp,by simp,by simp,by simp,by simp,fun b off h=>hac b off (Nat.le_trans hb h)⟩
 obtain ⟨k1,k2⟩:=h' ⟨base,acc,[],[],w⟩ cargs hS rfl hr
 refine ⟨k1,Calls.mono k2 fun e w' he => ?_⟩
 cases e with
 | returned cv =>
  obtain ⟨v,L',β',⟨d0,hd,hv,hwk⟩,m1,m2,m3⟩:=he
  exact ⟨d,⟨rfl,rfl⟩,m2.below,ZeP hwk (deep_rel (S:=⟨base,acc,L',β',w'⟩) (S':=⟨base,acc,[],[],w'⟩) m1 rfl (fun b off hi _=>⟨hi.1,by simp⟩)
   (fun rs r hr row info q1 q2 off _ _=>⟨m1.acq r info off q2,by simp⟩) v m3 hd ((Zb6 _).1 hv))⟩
 | panicked c=>exact he.elim
 | outgrown=>exact he.elim
def ansY (M:Mach) (K:List (Nat × List AV × AV)) (ex:FuncId->List AV->Heap->Option (AV × Heap)):Zaw:=fun g args L =>
 match M.inl g with
 | true=>match ex g args L with
  | some (v,L')=>some (v,some L')
  | none=>none
 | false=>match Zek g args K with
  | some d=>some (d,none)
  | none=>match ex g args [] with
   | some (v,L')=>match deepA L' v with
    | some d=>bif (deepV L' v).all (fun b=>b) then some (d,none) else none
    | none=>none
   | none=>none
theorem ansY_ok {M:Mach} (hm:(M.P ()).follows .mixedOrders=true) {G:EG} (hK:Zcr M G) {ex:FuncId->List AV->Heap->Option (AV × Heap)} (h:∀ f args L v L',ex f args L=some (v,L')->Ev M (.own f args L) v L'):AnsOk M (ansY M G.known ex):=by
 intro f args L v o hc
 unfold ansY at hc
 split at hc
 ·rename_i hi
  refine ⟨fun _ => ?_,fun h2=>by rw [hi] at h2;simp at h2⟩
  split at hc
  ·rename_i w L' he
   simp only [Option.some.injEq,Prod.mk.injEq] at hc
   obtain ⟨rfl,rfl⟩:=hc
   exact h _ _ _ _ _ he
  ·simp at hc
 ·rename_i hi
  refine ⟨fun h2=>by rw [hi] at h2;simp at h2,fun _ => ?_⟩
  split at hc
  ·rename_i d hd
   simp only [Option.some.injEq,Prod.mk.injEq] at hc
   obtain ⟨rfl,rfl⟩:=hc
   exact ⟨rfl,hK _ (known_in hd)⟩
  split at hc
  ·rename_i w L' he
   split at hc
   ·rename_i d hd
    cases hb:(deepV L' w).all (fun b=>b) with
    | false=>rw [hb] at hc;simp at hc
    | true =>
     rw [hb] at hc
     simp only [cond_true,Option.some.injEq,Prod.mk.injEq] at hc
     obtain ⟨rfl,rfl⟩:=hc
     exact ⟨rfl,deep_pure hm (.mono (h _ _ _ _ _ he) fun x K ⟨e1,e2⟩=>by subst e1;subst e2;exact deep_of hd ((Zb6 _).2 fun b hbm=>(List.all_eq_true.1 hb) b hbm))⟩
   ·simp at hc
  ·simp at hc
end Go.Av

namespace Go.Av
open Go.RowKit
def tryHot (P:Unit->Program) (inl:FuncId->Bool) (call:Zaw) (n:Nat) (ops:Array Oper) (an:Option Ans) (i:Nat) (o:Oper) (s:RS):List (List Nat)->Option (List Nat × RS)
 | []=>none
 | c::cs=>match Zbk P inl call n ops an (hotOf ops c i) o s with
  | some s'=>some (c,s')
  | none=>tryHot P inl call n ops an i o s cs
def hotCands (ρ:Operand->AV) (L:Heap) (i:Nat) (o:Oper):List (List Nat):=
 (match Zfp ρ o with
  | some [r]=>[[i+1000*(r+2)]]
  | some []=>[[i+502000]]
  | _=>[])++(match Zb9 ρ L o with
  | some [r]=>[[i+1000*(r+2)],[i,i+1000*(r+2)]]
  | _=>[])++[[],[i+1000],[i]]
def autoHot (P:Unit->Program) (inl:FuncId->Bool) (call:Zaw) (n:Nat) (ops:Array Oper) (ans:Nat->Option Ans):List Nat->RS->List Nat
 | [],_=>[]
 | i::rest,s=>match ops[i]? with
  | none=>autoHot P inl call n ops ans rest s
  | some o=>match tryHot P inl call n ops (ans i) i o s (hotCands (ev s.env []) s.L i o) with
   | some (c,s')=>c++autoHot P inl call n ops ans rest s'
   | none=>[]
def layOps (P:Unit->Program) (inl:FuncId->Bool) (call:Zaw) (n:Nat) (ops:Array Oper) (ans:Nat->Option Ans):List Nat->RS->List Nat
 | [],_=>[]
 | i::rest,s=>match ops[i]? with
  | none=>layOps P inl call n ops ans rest s
  | some o=>match Zbk P inl call n ops (ans i) 2 o s with
   | some s'=>bif Nat.blt s.L.length s'.L.length then i::layOps P inl call n ops ans rest s' else layOps P inl call n ops ans rest s'
   | none=>[]
def readyO (ops:Array Oper) (done:List Nat) (i:Nat):Bool:=match ops[i]? with
 | some o=>o.after.toList.all fun e => !Region.binds .any e||done.contains e.on
 | none=>true
def ordGo (ops:Array Oper) (C:List Nat):Nat->List Nat->List Nat->List Nat->List Nat
 | 0,_,_,_=>[]
 | n+1,σ,rest,done=>match rest.find? (fun i=>readyO ops done i&&(!C.contains i||(match σ with
   | c::_=>Nat.beq c i
   | []=>false))) with
  | some i=>i::ordGo ops C n (bif C.contains i then σ.tail else σ) (rest.erase i) (i::done)
  | none=>[]
def hotX (M:Mach) (call:Zaw) (n:Nat) (ops:Array Oper) (ans:Nat->Option Ans) (C:List Nat) (env:Vars) (L:Heap) (σ:List Nat):Nat->Nat:=
 hotOf ops (autoHot M.P M.inl call n ops ans (ordGo ops C ops.size σ (List.range ops.size) []) ⟨lift env,L,[],[],[]⟩)
def rsX (M:Mach) (call:Zaw) (n:Nat) (ops:Array Oper) (ans:Nat->Option Ans) (C:List Nat) (env:Vars) (L:Heap) (σ:List Nat):List Nat:=
 List.range L.length++(match C with
  | []=>(match Zat M.P M.inl call n ops ans (hotX M call n ops ans C env L σ) (ordGo ops C ops.size σ (List.range ops.size) []) ⟨lift env,L,[],[],[]⟩ with
   | some s=>List.range' L.length (s.L.length-L.length)
   | none=>[])
  | _=>C.map fun c=>L.length+Zap σ c)
def ordX (M:Mach) (call:Zaw) (n:Nat) (ops:Array Oper) (ans:Nat->Option Ans) (keep C:List Nat) (env:Vars) (L:Heap) (σ:List Nat):Option (Vars × Heap × List Bool × List Prop × List CF):=
 ordRun M call n ops ans (hotX M call n ops ans C env L σ) keep C σ (ordGo ops C ops.size σ (List.range ops.size) []) (rsX M call n ops ans C env L σ) env L
mutual
def beqB:AV->AV->Bool
 | .any,.any=>true
 | .bool a,.bool b=>a==b
 | .int k n,.int j m=>decide (k=j)&&n==m
 | .str a,.str b=>a==b
 | .flt a,.flt b=>a==b
 | .agg a,.agg b=>beqBL a b
 | .tup a,.tup b=>beqBL a b
 | .vec f es a,.vec g fs b=>f==g&&(es==fs&&beqBL a b)
 | .eptr es a i j,.eptr fs b k l=>es==fs&&(beqBL a b&&(i==k&&j==l))
 | .ptr r v i j,.ptr s u k l=>r==s&&(v==u&&(i==k&&j==l))
 | .row r v,.row s u=>r==s&&v==u
 | .ref r v i j,.ref s u k l=>r==s&&(v==u&&(i==k&&j==l))
 | .nilp,.nilp=>true
 | .vnil,.vnil=>true
 | .nilf,.nilf=>true
 | .nilm,.nilm=>true
 | .mapr r,.mapr s=>r==s
 | _,_=>false
def beqBL:List AV->List AV->Bool
 | [],[]=>true
 | a::l,b::m=>beqB a b&&beqBL l m
 | _,_=>false
end
mutual
theorem beqB_eq:∀ (a b:AV),beqB a b=true->a=b
 | .any,b,h=>by cases b <;> simp [beqB] at h;rfl
 | .bool a,b,h=>by cases b <;> simp [beqB] at h;rw [h]
 | .int k n,b,h=>by cases b <;> simp [beqB] at h;rw [h.1,h.2]
 | .str a,b,h=>by cases b <;> simp [beqB] at h;rw [h]
 | .flt a,b,h=>by cases b <;> simp [beqB] at h;rw [h]
 | .agg a,b,h=>by cases b <;> simp [beqB] at h;rw [beqBL_eq a _ h]
 | .tup a,b,h=>by cases b <;> simp [beqB] at h;rw [beqBL_eq a _ h]
 | .vec f es a,b,h=>by cases b <;> simp [beqB] at h;rw [h.1,h.2.1,beqBL_eq a _ h.2.2]
 | .eptr es a i j,b,h=>by cases b <;> simp [beqB] at h;rw [h.1,beqBL_eq a _ h.2.1,h.2.2.1,h.2.2.2]
 | .ptr r v i j,b,h=>by cases b <;> simp [beqB] at h;rw [h.1,h.2.1,h.2.2.1,h.2.2.2]
 | .row r v,b,h=>by cases b <;> simp [beqB] at h;rw [h.1,h.2]
 | .ref r v i j,b,h=>by cases b <;> simp [beqB] at h;rw [h.1,h.2.1,h.2.2.1,h.2.2.2]
 | .nilp,b,h=>by cases b <;> simp [beqB] at h;rfl
 | .vnil,b,h=>by cases b <;> simp [beqB] at h;rfl
 | .nilf,b,h=>by cases b <;> simp [beqB] at h;rfl
 | .nilm,b,h=>by cases b <;> simp [beqB] at h;rfl
 | .mapr r,b,h=>by cases b <;> simp [beqB] at h;rw [h]
 | .func ..,b,h=>by cases b <;> simp [beqB] at h
theorem beqBL_eq:∀ (a b:List AV),beqBL a b=true->a=b
 | [],b,h=>by cases b <;> simp [beqBL] at h;rfl
 | a::l,b,h=>by
  cases b with
  | nil=>simp [beqBL] at h
  | cons b m=>simp [beqBL] at h;rw [beqB_eq a b h.1,beqBL_eq l m h.2]
end
def ZdO:Vars->Vars->Bool
 | [],[]=>true
 | (t,a)::l,(u,b)::m=>Nat.beq t u&&(beqB a b&&ZdO l m)
 | _,_=>false
def ZbC:Heap->Heap->Bool
 | [],[]=>true
 | a::l,b::m=>beqBL a.elems b.elems&&(Nat.beq a.es b.es&&(Nat.beq a.ver b.ver&&(a.frozen==b.frozen&&(a.clean==b.clean&&ZbC l m))))
 | _,_=>false
theorem ZgT:∀ (a b:Vars),ZdO a b=true->a=b
 | [],b,h=>by cases b <;> simp [ZdO] at h;rfl
 | (t,a)::l,b,h=>by
  match b,h with
  | [],h=>simp [ZdO] at h
  | (u,b)::m,h =>
   simp only [ZdO,Bool.and_eq_true,Nat.beq_eq] at h
   rw [h.1,beqB_eq a b h.2.1,ZgT l m h.2.2]
theorem Zdy:∀ (a b:Heap),ZbC a b=true->a=b
 | [],b,h=>by cases b <;> simp [ZbC] at h;rfl
 | a::l,b,h=>by
  match b,h with
  | [],h=>simp [ZbC] at h
  | b::m,h =>
   simp only [ZbC,Bool.and_eq_true,Nat.beq_eq,beq_iff_eq] at h
   obtain ⟨h1,h2,h3,h4,h5,h6⟩:=h
   rw [Zdy l m h6]
   obtain ⟨ae,a2,a3,a4,a5⟩:=a
   obtain ⟨be,b2,b3,b4,b5⟩:=b
   simp only at h1 h2 h3 h4 h5
   rw [beqBL_eq _ _ h1,h2,h3,h4,h5]
def anyX (M:Mach) (call:Zaw) (n:Nat) (ops:Array Oper) (ans:Nat->Option Ans) (keep:List Nat) (env:Vars) (L:Heap) (C:List Nat):Option (Vars × Heap):=
 match ordX M call n ops ans keep C env L C with
 | some (e,K,_,_,_)=>bif Zft C&&(perms C).all (fun σ=>match ordX M call n ops ans keep C env L σ with
   | some (e',K',asm,[],_)=>(asm.all fun b=>b)&&(ZdO e' e&&ZbC K' K)
   | _=>false) then some (e,K) else none
 | none=>none
theorem good_snd {M:Mach} (hm:(M.P ()).follows .mixedOrders=true) {call:Zaw} (hc:AnsOk M call) {cs:List CF} (h:∀ c ∈ cs,Zf5 M.inl call c):∀ c ∈ cs,c.cond=true->ZbO M c:=by
 intro c hcm _
 unfold ZbO
 cases hown:c.own with
 | true =>
  refine OwnQ.snd (Zbm hm (c:=.own c.f c.args c.L) ?_)
  rcases h c hcm with ⟨_,h2,o,h3,h4⟩ | ⟨h2,L1,h3⟩ | ⟨h2,_⟩
  ·rw [h4];exact (hc _ _ _ _ _ h3).1 h2
  ·have:=((hc _ _ _ _ _ h3).2 h2).1;simp at this
  ·rw [hown] at h2;simp at h2
 | false =>
  refine PureR.snd (Zbm hm (c:=.pure c.f c.args) ?_)
  rcases h c hcm with ⟨h2,_⟩ | ⟨h2,L1,h3⟩ | ⟨_,h2,h3⟩
  ·rw [hown] at h2;simp at h2
  ·have:=((hc _ _ _ _ _ h3).2 h2).1;simp at this
  ·exact ((hc _ _ _ _ _ h3).2 h2).2
theorem ordRun_good {M:Mach} {call:Zaw} {n:Nat} {ops:Array Oper} {ans:Nat->Option Ans} (hans:∀ i,ans i=none\/ans i=some .keep) {hot:Nat->Nat} {keep C σ l rs:List Nat} {env:Vars} {L:Heap} {e:Vars} {K:Heap} {asm:List Bool} {qs:List Prop} {cs:List CF}
  (h:ordRun M call n ops ans hot keep C σ l rs env L=some (e,K,asm,qs,cs)):∀ c ∈ cs,Zf5 M.inl call c:=by
 unfold ordRun at h
 split at h
 ·rename_i s _ hs
  split at h
  ·simp only [Option.some.injEq,Prod.mk.injEq] at h
   obtain ⟨_,_,_,_,rfl⟩:=h
   exact ZdA hans _ hs (by intro c hc;cases hc)
  ·simp at h
 ·simp at h
theorem ZgV {M:Mach} (hm:(M.P ()).follows .mixedOrders=true) {call:Zaw} (hc:AnsOk M call) {fi:Fi} {id:Nat} {ops:Array Oper} {ans:Nat->Option Ans} (hans:∀ i,ans i=none\/ans i=some .keep) {keep C:List Nat} {env e1:Vars} {L L1:Heap} {k:List Item} {Q:AV->Heap->Prop}
  (h:anyX M call fi.n ops ans keep env L C=some (e1,L1)) (hk:Wp M (.run fi k e1 L1) Q):Wp M (.run fi (.code (.region id ops true)::k) env L) Q:=by
 unfold anyX at h
 split at h
 ·rename_i e K _ _ _ he
  cases hb:(Zft C&&(perms C).all (fun σ=>match ordX M call fi.n ops ans keep C env L σ with
   | some (e',K',asm,[],_)=>(asm.all fun b=>b)&&(ZdO e' e&&ZbC K' K)
   | _=>false)) with
  | false=>rw [hb] at h;simp at h
  | true =>
   rw [hb] at h
   simp only [cond_true,Option.some.injEq,Prod.mk.injEq] at h
   obtain ⟨rfl,rfl⟩:=h
   simp only [Bool.and_eq_true,List.all_eq_true] at hb
   obtain ⟨b1,b2⟩:=hb
   refine .sem (ZaV.after fun S a h5 h6 h7 h8 b k2 cs hbb => ?_)
   obtain ⟨a',w',⟨S',e0,n1,n2,n3,n4,n5,n6⟩,hs⟩:=any_sound hm (id:=id) (fi:=fi) (ops:=ops) (env:=env) (L:=L) (call:=call) (ans:=ans) (keep:=keep) (C:=C)
    (hot:=hotX M call fi.n ops ans C env L) (l:=fun σ=>ordGo ops C ops.size σ (List.range ops.size) []) (rs:=rsX M call fi.n ops ans C env L) (e1:=e) (L1:=K) ((Zbl C).1 b1) (fun σ hσ=>by
      have:=b2 σ hσ
      split at this
      ·rename_i e' K' asm cs' ho
       simp only [Bool.and_eq_true,List.all_eq_true] at this
       obtain ⟨t1,t2,t3⟩:=this
       have:=ZgT _ _ t2;subst this
       have:=Zdy _ _ t3;subst this
       exact ⟨asm,[],cs',ho,t1,by simp,good_snd hm hc (ordRun_good hans ho)⟩
      ·simp at this) h5 h6 h7 h8 b k2 cs hbb
   exact ⟨a',w',⟨S',e,e0,n1,n2,n3.symm ▸ Zbm hm hk,n4,n5,n6⟩,hs⟩
 ·simp at h
def anyXX (M:Mach) (call:Zaw) (n:Nat) (ops:Array Oper) (ans:Nat->Option Ans) (keep:List Nat) (env:Vars) (L:Heap):Option (Vars × Heap):=
 match anyX M call n ops ans keep env L [] with
 | some r=>some r
 | none=>anyX M call n ops ans keep env L (layOps M.P M.inl call n ops ans (List.range ops.size) ⟨lift env,L,[],[],[]⟩)
def toI:AV->Int
 | .int _ n=>n
 | _=>0
def Zfm (M:Mach) (n:Nat) (p0 p1:Tmp) (opsA:Array Oper) (keepA:List Nat) (env:Vars) (run:Vars->Heap->Option (AV × Heap)):List (AV × AV)->Heap->Option Heap
 | [],L=>some L
 | x::xs,L=>match Zat M.P M.inl (fun _ _ _=>none) n opsA (fun _=>none) (fun _=>2) (List.range opsA.size) ⟨lift ((p1,x.2)::(p0,x.1)::env),L,[],[],[]⟩ with
  | some ⟨e,K,[],[],[]⟩=>bif ZbC K L then (match run (Zbt keepA e) L with
   | some (_,L1)=>Zfm M n p0 p1 opsA keepA env run xs L1
   | none=>none) else none
  | _=>none
def isIt:Option FuncId->Nat->Bool
 | some j,it=>Nat.beq it j
 | none,_=>false
theorem isIt_eq {o:Option FuncId} {it:Nat} (h:isIt o it=true):o=some it:=by
 cases o with
 | none=>simp [isIt] at h
 | some j=>simp [isIt] at h;rw [h]
def runZ (M:Mach) (itf:Option FuncId) (fi:Fi) (kp kr:List (Nat × List Nat)) (call:Zaw):Nat->List Item->Vars->Heap->Option (AV × Heap)
 | 0,_,_,_=>none
 | n+1,todo,env,L =>
  match todo with
  | []=>match finish M.P fi env L with
   | some v=>some (v,L)
   | none=>none
  | .inBlock _::k=>runZ M itf fi kp kr call n k env L
  | .inLoop b::k=>runZ M itf fi kp kr call n (.code b :: .inLoop b::k) env L
  | .code c::k =>
   match c with
   | .skip=>runZ M itf fi kp kr call n k env L
   | .seq a b=>runZ M itf fi kp kr call n (.code a :: .code b::k) env L
   | .cond c a b=>match evV env c with
    | .bool t=>runZ M itf fi kp kr call n (.code (bif t then a else b)::k) env L
    | _=>none
   | .block id b=>runZ M itf fi kp kr call n (.code b :: .inBlock id::k) env L
   | .loop b=>runZ M itf fi kp kr call n (.code b :: .inLoop b::k) env L
   | .exit id=>match exitTo id k with
    | some k'=>runZ M itf fi kp kr call n k' env L
    | none=>none
   | .region id ops true=>match anyXX M call fi.n ops (Zdc (ZaE kr id)) (ZaE kp id) env L with
    | some (e,K)=>runZ M itf fi kp kr call n k e K
    | none=>none
   | .region id ops false =>
    match Zat M.P M.inl call fi.n ops (Zdc (ZaE kr id)) (fun _=>2) (List.range ops.size) ⟨lift env,L,[],[],[]⟩ with
    | some s=>match s.asm.all (fun b=>b),s.eqs with
     | true,[]=>runZ M itf fi kp kr call n k (Zbt (ZaE kp id) s.env) s.L
     | _,_=>none
    | none=>none
   | .rangeFunc g ps (.region ida opsA false) body =>
    match evV env g,ps with
    | .func (.func it) [] [.eptr 1 [.vec _ 1 xs] 0 0],⟨[p0,p1]⟩ =>
     bif isIt itf it&&(beqBL xs ((xs.map toI).map (.int .i64))&&(Nat.blt xs.length 4611686018427387904&&(Zc7 opsA&&(Zcg body&&(Nat.blt p0 fi.n&&Nat.blt p1 fi.n))))) then
      match Zfm M fi.n p0 p1 opsA (ZaE kp ida) env (fun e K=>runZ M itf fi kp kr call n [.code body] e K) (bkX (xs.map toI)) L with
      | some L1=>runZ M itf fi kp kr call n k env L1
      | none=>none
     else none
    | _,_=>none
   | .ret=>match finish M.P fi env L with
    | some v=>some (v,L)
    | none=>none
   | _=>none
  | _=>none
theorem ZdX {M:Mach} (hm:(M.P ()).follows .mixedOrders=true) {fi:Fi} {p0 p1:Tmp} {opsA:Array Oper} {keepA:List Nat} {env:Vars} {body:Code} {run:Vars->Heap->Option (AV × Heap)} (hrun:∀ e K v K',run e K=some (v,K')->Ev M (.run fi [.code body] e K) v K') :
  ∀ (xs:List (AV × AV)) (L L2:Heap),Zfm M fi.n p0 p1 opsA keepA env run xs L=some L2->Rounds M fi p0 p1 opsA body env keepA xs L L2
 | [],L,L2,h=>by simp only [Zfm,Option.some.injEq] at h;subst h;exact .nil L
 | x::xs,L,L2,h=>by
  simp only [Zfm] at h
  split at h
  ·rename_i e K hr
   cases hb:ZbC K L with
   | false=>rw [hb] at h;simp at h
   | true =>
    rw [hb] at h
    have:=Zdy _ _ hb;subst this
    simp only [cond_true] at h
    split at h
    ·rename_i v L1 hr2
     exact .cons e hr (Zbm hm (.mono (hrun _ _ _ _ hr2) fun _ _ h=>h.2)) (ZdX hm hrun xs L1 L2 h)
    ·simp at h
  ·simp at h
theorem runZ_sound {M:Mach} (hm:(M.P ()).follows .mixedOrders=true) {itf:Option FuncId} (hI:∀ it,itf=some it->(∀ args w,(callFunc it args).run (M.P ()) w = .ok (.enter it args) w) /\ ∀ (f:Bool) (X:List Int),X.length<4611686018427387904->ZfY M it (.eptr 1 [.vec f 1 (X.map (.int .i64))] 0 0) (bkX X))
  {fi:Fi} {kp kr:List (Nat × List Nat)} {call:Zaw} (hc:AnsOk M call):∀ (n:Nat) {todo:List Item} {env:Vars} {L L':Heap} {v:AV},runZ M itf fi kp kr call n todo env L=some (v,L')->Ev M (.run fi todo env L) v L':=by
 intro n
 induction n with
 | zero=>intro todo env L L' v h;simp [runZ] at h
 | succ n ih =>
  intro todo env L L' v h
  unfold runZ at h
  split at h
  ·split at h
   ·rename_i w hf
    simp only [Option.some.injEq,Prod.mk.injEq] at h
    obtain ⟨rfl,rfl⟩:=h
    exact .done hf ⟨rfl,rfl⟩
   ·simp at h
  ·exact .inBlock (ih h)
  ·exact .inLoop (ih h)
  ·split at h
   ·exact .skip (ih h)
   ·exact .seq (ih h)
   ·split at h
    ·rename_i t ht
     exact .cond t ht (ih h)
    ·simp at h
   ·exact .block (ih h)
   ·exact .loop (ih h)
   ·split at h
    ·rename_i k' hk
     exact .exit hk (ih h)
    ·simp at h
   ·rename_i id ops
    split at h
    ·rename_i e K ha
     unfold anyXX at ha
     split at ha
     ·rename_i r hr
      simp only [Option.some.injEq] at ha;subst ha
      exact ZgV hm hc (Zdv _) hr (ih h)
     ·exact ZgV hm hc (Zdv _) ha (ih h)
    ·simp at h
   ·split at h
    ·rename_i id ops _ s hr
     split at h
     ·rename_i ha he
      have hg:=ZdA (Zdv _) _ hr (by intro c hc;cases hc)
      refine .region call (Zdc (ZaE kr _)) _ _ s (fun h1=>by cases h1) hr (fun b hb => ?_) (fun p hp => ?_) (fun c hcm _ ho => ?_) (fun c hcm _ ho => ?_) (ih h)
      ·exact (List.all_eq_true.1 ha) b hb
      ·rw [he] at hp;cases hp
      ·rcases hg c hcm with ⟨_,h2,o,h3,h4⟩ | ⟨h2,L1,h3⟩ | ⟨h2,_⟩
       ·rw [h4];exact (hc _ _ _ _ _ h3).1 h2
       ·have:=((hc _ _ _ _ _ h3).2 h2).1;simp at this
       ·rw [ho] at h2;simp at h2
      ·rcases hg c hcm with ⟨h2,_⟩ | ⟨h2,L1,h3⟩ | ⟨_,h2,h3⟩
       ·rw [ho] at h2;simp at h2
       ·have:=((hc _ _ _ _ _ h3).2 h2).1;simp at this
       ·exact ((hc _ _ _ _ _ h3).2 h2).2
     ·simp at h
    ·simp at h
   ·rename_i g ps ida opsA body
    split at h
    ·rename_i it f xs p0 p1 hg
     cases hb:(isIt itf it&&(beqBL xs ((xs.map toI).map (.int .i64))&&(Nat.blt xs.length 4611686018427387904&&(Zc7 opsA&&(Zcg body&&(Nat.blt p0 fi.n&&Nat.blt p1 fi.n)))))) with
     | false=>rw [hb] at h;simp at h
     | true =>
      rw [hb] at h
      simp only [cond_true] at h
      simp only [Bool.and_eq_true,Nat.blt_eq] at hb
      obtain ⟨b1,b2,b3,b4,b5,b6,b7⟩:=hb
      obtain ⟨hit,hI⟩:=hI _ (isIt_eq b1)
      split at h
      ·rename_i L1 hr
       have h2:=hI f (xs.map toI) (by rw [List.length_map];exact b3)
       rw [<- beqBL_eq _ _ b2] at h2
       exact .sem (range_rounds hg hit h2 b4 b5 b6 b7 (ZdX hm (fun e K v K' hrun=>ih hrun) _ _ _ hr) (Zbm hm (ih h)))
      ·simp at h
    ·simp at h
   ·split at h
    ·rename_i w hf
     simp only [Option.some.injEq,Prod.mk.injEq] at h
     obtain ⟨rfl,rfl⟩:=h
     exact .ret hf ⟨rfl,rfl⟩
    ·simp at h
   ·simp at h
  ·simp at h
def trimZ (L L':Heap) (v:AV):Heap:=bif ZaA L.length v (L'.take L.length) then L'.take L.length else L'
theorem trimZ_ok {M:Mach} {f:FuncId} {args:List AV} {L L':Heap} {v:AV} (h:Ev M (.own f args L) v L'):Ev M (.own f args L) v (trimZ L L' v):=by
 unfold trimZ
 cases hk:ZaA L.length v (L'.take L.length) with
 | false=>exact h
 | true =>
  simp only [cond_true]
  refine .drop hk (.mono h fun x K ⟨e1,e2⟩ => ?_)
  subst e1;subst e2
  refine ⟨rfl,?_⟩
  unfold ZaA at hk
  simp only [Bool.and_eq_true,Nat.beq_eq] at hk
  rw [hk.1]
def frzZ (L:Heap) (v:AV) (L':Heap):Option (AV × Heap):=match pureA L' v with
 | some d=>bif (versA L' v).all (fun b=>b)&&((rowsA v).all (fun r=>Nat.ble L.length r)&&((rowsA d).isEmpty&&frzOk L.length (L'.take L.length))) then some (d,L'.take L.length) else none
 | none=>none
theorem frzZ_ok {M:Mach} (hm:(M.P ()).follows .mixedOrders=true) {f:FuncId} {args:List AV} {L L' K:Heap} {v d:AV} (h:Ev M (.own f args L) v L') (hz:frzZ L v L'=some (d,K)):Ev M (.own f args L) d K:=by
 unfold frzZ at hz
 split at hz
 ·rename_i d0 hd
  cases hb:((versA L' v).all (fun b=>b)&&((rowsA v).all (fun r=>Nat.ble L.length r)&&((rowsA d0).isEmpty&&frzOk L.length (L'.take L.length)))) with
  | false=>rw [hb] at hz;simp at hz
  | true =>
   rw [hb] at hz
   simp only [cond_true,Option.some.injEq,Prod.mk.injEq] at hz
   obtain ⟨rfl,rfl⟩:=hz
   simp only [Bool.and_eq_true,List.all_eq_true,List.isEmpty_iff,Nat.ble_eq] at hb
   obtain ⟨b1,b2,b3,b4⟩:=hb
   have hl:(L'.take L.length).length=L.length:=by
    unfold frzOk at b4
    simp only [Bool.and_eq_true,Nat.beq_eq] at b4
    exact b4.1
   exact own_freeze hm b4 b3 (.mono h fun x K ⟨e1,e2⟩=>by
    subst e1;subst e2
    exact ⟨hd,b1,fun r hr=>by rw [hl];exact b2 r hr,by rw [hl]⟩)
 ·simp at hz
def outZ (fz:Bool) (L:Heap) (v:AV) (L':Heap):AV × Option Heap:=
 match (bif fz then frzZ L v L' else none) with
 | some (d,K)=>bif ZbC K L then (d,none) else (d,some K)
 | none=>bif ZbC (trimZ L L' v) L then (v,none) else (v,some (trimZ L L' v))
def ansZ (M:Mach) (fz:Nat->Bool) (K:List (Nat × List AV × AV)) (ex:FuncId->List AV->Heap->Option (AV × Heap)):Zaw:=fun g args L =>
 match M.inl g with
 | true=>match ex g args L with
  | some (v,L')=>some (outZ (fz g) L v L')
  | none=>none
 | false=>ansY M K ex g args L
theorem outZ_ok {M:Mach} (hm:(M.P ()).follows .mixedOrders=true) {fz:Bool} {f:FuncId} {args:List AV} {L L':Heap} {v:AV} (h:Ev M (.own f args L) v L'):Ev M (.own f args L) (outZ fz L v L').1 ((outZ fz L v L').2.getD L):=by
 have one:∀ {w:AV} {K:Heap},Ev M (.own f args L) w K->Ev M (.own f args L) (bif ZbC K L then (w,none) else (w,some K):AV × Option Heap).1 ((bif ZbC K L then (w,none) else (w,some K):AV × Option Heap).2.getD L):=by
  intro w K h1
  cases hb:ZbC K L with
  | true=>rw [Zdy _ _ hb] at h1;exact h1
  | false=>exact h1
 unfold outZ
 split
 ·rename_i d K hz
  cases fz with
  | false=>simp at hz
  | true=>exact one (frzZ_ok hm h hz)
 ·exact one (trimZ_ok h)
theorem ansZ_ok {M:Mach} (hm:(M.P ()).follows .mixedOrders=true) {fz:Nat->Bool} {G:EG} (hK:Zcr M G) {ex:FuncId->List AV->Heap->Option (AV × Heap)} (h:∀ f args L v L',ex f args L=some (v,L')->Ev M (.own f args L) v L'):AnsOk M (ansZ M fz G.known ex):=by
 intro f args L v o hc
 unfold ansZ at hc
 split at hc
 ·rename_i hi
  refine ⟨fun _ => ?_,fun h2=>by rw [hi] at h2;simp at h2⟩
  split at hc
  ·rename_i w L' he
   have h1:=outZ_ok hm (fz:=fz f) (h _ _ _ _ _ he)
   simp only [Option.some.injEq] at hc
   rw [hc] at h1
   exact h1
  ·simp at hc
 ·exact ansY_ok hm hK h f args L v o hc
def fzOf (l:List (Nat × List (Nat × List Nat))) (f:Nat):Bool:=l.any fun e=>Nat.beq e.1 f
def execZ (M:Mach) (itf:Option FuncId) (G:EG):Nat->FuncId->List AV->Heap->Option (AV × Heap)
 | 0=>fun _ _ _=>none
 | n+1=>fun f args L =>
  match (M.P ()).funcs[f]? with
  | some fn=>match fn.body,fn.name == "runtime.NumGoroutine" with
   | some c,false=>runZ M itf ⟨fn.ntmps,fn.results.toList⟩ (ofFn G.keep f) (ofFn G.rows f) (ansZ M (fzOf G.hot) G.known (execZ M itf G n)) 100000 [.code c] (ZaM 0 args) L
   | _,_=>none
  | none=>none
theorem execZ_sound {M:Mach} (hm:(M.P ()).follows .mixedOrders=true) {itf:Option FuncId} (hI:∀ it,itf=some it->(∀ args w,(callFunc it args).run (M.P ()) w = .ok (.enter it args) w) /\ ∀ (f:Bool) (X:List Int),X.length<4611686018427387904->ZfY M it (.eptr 1 [.vec f 1 (X.map (.int .i64))] 0 0) (bkX X))
  {G:EG} (hK:Zcr M G):∀ (n:Nat) (f:FuncId) (args:List AV) (L:Heap) (v:AV) (L':Heap),execZ M itf G n f args L=some (v,L')->Ev M (.own f args L) v L':=by
 intro n
 induction n with
 | zero=>intro f args L v L' h;simp [execZ] at h
 | succ n ih =>
  intro f args L v L' h
  unfold execZ at h
  split at h
  ·rename_i fn hf
   split at h
   ·rename_i c hb hn
    exact .own fn c hf hb hn (runZ_sound hm hI (ansZ_ok hm hK fun f args L v L' h=>ih f args L v L' h) _ h)
   ·simp at h
  ·simp at h
def execP2 (M:Mach) (itf:Option FuncId) (G:EG) (n:Nat) (f:FuncId) (args:List AV):Option AV:=
 match execZ M itf G n f args [] with
 | some (v,L')=>match deepA L' v with
  | some d=>bif (deepV L' v).all (fun b=>b) then some d else none
  | none=>none
 | none=>none
theorem exec_all {M:Mach} (hm:(M.P ()).follows .mixedOrders=true) {itf:Option FuncId} (hI:∀ it,itf=some it->(∀ args w,(callFunc it args).run (M.P ()) w = .ok (.enter it args) w) /\ ∀ (f:Bool) (X:List Int),X.length<4611686018427387904->ZfY M it (.eptr 1 [.vec f 1 (X.map (.int .i64))] 0 0) (bkX X))
  {G:EG} (hK:Zcr M G) (n:Nat) {f:FuncId} {args:List AV} {d:AV} (h:execP2 M itf G n f args=some d):Ev M (.pure f args) d []:=by
 unfold execP2 at h
 split at h
 ·rename_i v L' he
  split at h
  ·rename_i d0 hd
   cases hb:(deepV L' v).all (fun b=>b) with
   | false=>rw [hb] at h;simp at h
   | true =>
    rw [hb] at h
    simp only [cond_true,Option.some.injEq] at h
    subst h
    exact deep_pure hm (.mono (execZ_sound hm hI hK n _ _ _ _ _ he) fun x K ⟨e1,e2⟩=>by subst e1;subst e2;exact deep_of hd ((Zb6 _).2 fun b hbm=>(List.all_eq_true.1 hb) b hbm))
  ·simp at h
 ·simp at h
end Go.Av

namespace Go.Av
open Go.Proofs
def awkT:List (Nat × List (Nat × List Nat)):=[(8,[(0,[]),(1,[1]),(2,[1,2,3]),(3,[1,2,16]),(4,[0]),(5,[1,2,4]),(6,[1,2,4,18]),(7,[1,2,4]),(8,[1,2,4,22]),(9,[0]),(10,[1,2,4,5]),(11,[0])]),
 (9,[(0,[0,3]),(1,[0,3,6]),(2,[0,3,6,12]),(3,[4,5]),(4,[0,7]),(5,[0,7,21]),(6,[7]),(7,[7]),(8,[4,5])]),
 (10,[(0,[0]),(1,[0,20]),(2,[2]),(3,[0,22]),(4,[0,26]),(5,[2]),(6,[0,3,4]),(7,[0,3,54]),(8,[2]),(9,[0]),(10,[0]),(11,[0]),(12,[0,90]),(13,[]),(14,[2])]),
 (13,[(0,[0,2]),(1,[0,2,6]),(2,[2]),(3,[0,2,14]),(4,[2]),(5,[0,2,3]),(6,[2,4]),(7,[2])]),
 (19,[(0,[0]),(1,[0,3]),(2,[0,3,4,5]),(3,[3,4,21]),(4,[3]),(5,[2])]),
 (40,[(0,[0,3]),(1,[0,3,15]),(2,[4]),(3,[0,3,16,17,18]),(4,[0,3,16,17,18,19]),(5,[0,3,5,6,16,17,18]),(6,[0,3,16,17,18,40]),(7,[4]),(8,[0,3,16,17,18]),(9,[0,3,42,43,44]),(10,[0,3,42,43,44,45]),(11,[0,3,8,42,43,44]),(12,[0,3,42,43,44,55]),(13,[4]),(14,[0,3,42,43,44]),(15,[0,3,59]),(16,[4]),(17,[3,60,61,62]),(18,[3,60,61,62,63]),(19,[3,10,60,61,62]),(20,[3,12,60,61,62]),(21,[3,12,60,61,62,76]),(22,[4]),(23,[3,60,61,62]),(24,[4])]),
 (41,[(0,[0]),(1,[0,4]),(2,[2]),(3,[2])]),
 (42,[(0,[0,25]),(1,[0])]),
 (43,[(0,[0]),(1,[2])]),
 (44,[(0,[0,3]),(1,[0,3,6,7]),(2,[0,3,6,7,20]),(3,[4,5]),(4,[0,3,6,23]),(5,[4,5]),(6,[0,3,8,9]),(7,[0,3,8,31]),(8,[4,5]),(9,[0,3,10]),(10,[0,10,11]),(11,[10,11,12]),(12,[10,11,12,37]),(13,[10,11,12]),(14,[10,11,12]),(15,[4,5])]),
 (45,[(0,[0]),(1,[2])]),
 (46,[(0,[2,3,4]),(1,[2,3,4,7]),(2,[3,4]),(3,[4])]),
 (47,[(0,[0]),(1,[0,2,3]),(2,[0,2,18]),(3,[0]),(4,[0]),(5,[0,36]),(6,[0]),(7,[])]),
 (50,[(0,[4,5,6,7,8]),(1,[4,5,6,7,8,23]),(2,[8,9]),(3,[4,5,6,7,8,38,39,40]),(4,[4,5,6,7,8,38,39,40,41]),(5,[4,5,6,7,8,11,38,39,40]),(6,[4,5,6,7,8,38,39,40,46]),(7,[8,9]),(8,[4,5,6,7,8,38,39,40]),(9,[4,5,8,12]),(10,[8,9])]),
 (52,[(0,[0,2]),(1,[0,2,14]),(2,[2,3]),(3,[0,2,4]),(4,[2,4]),(5,[2,3])]),
 (73,[(0,[1]),(1,[15]),(2,[2]),(3,[2])]),
 (74,[(0,[1]),(1,[2])]),
 (75,[(0,[0,3]),(1,[0,3,13]),(2,[4,5]),(3,[0,3,15]),(4,[4,5]),(5,[0,6]),(6,[4,5])]),
 (76,[(0,[1,2,3]),(1,[1,2,3,28]),(2,[6,7]),(3,[1,2,3,8]),(4,[1,2,3,8,9]),(5,[2,3,8,9,10]),(6,[2,3,8,9,10,32]),(7,[2,3,8,9,10]),(8,[2,3,8,9,10,11,12]),(9,[2,3,8,9,10,11,51]),(10,[6,7]),(11,[2,3,8,9,10]),(12,[2,3,8,9,10]),(13,[6,7])]),
 (77,[(0,[1]),(1,[2])]),
 (79,[(0,[2,3]),(1,[2,3,5]),(2,[2,3,5,8]),(3,[2,3,5]),(4,[2,3,5]),(5,[4])]),
 (80,[(0,[2,3,4]),(1,[2,3,4,5,6]),(2,[2,3,4,5,6,27]),(3,[2,3,4,5,6,7]),(4,[2,3,4,5,6,7,41]),(5,[2,3,4,5,6]),(6,[2,3,4,5,6]),(7,[4])]),
 (81,[(0,[0,1,2]),(1,[6])]),
 (82,[(0,[0,1,2,3]),(1,[6])]),
 (83,[(0,[0,1]),(1,[0,1,5]),(2,[5,12]),(3,[5]),(4,[4])]),
 (96,[(0,[3,4,5,6]),(1,[3,4,5,6,8]),(2,[4,6,8,9,10]),(3,[4,6,8,9,10,41]),(4,[6,7]),(5,[4,6,8,9,10,45]),(6,[4,6,8,9,10,11]),(7,[4,6,8,9,10,11,55]),(8,[4,6,8,9,10]),(9,[4,6,8,9,10]),(10,[6,7])]),
 (97,[(0,[0,3]),(1,[0,3,10]),(2,[4]),(3,[0,3,5]),(4,[0,3,5,14,15]),(5,[0,3,5,14,15,16]),(6,[0,3,5,6,14,15]),(7,[0,3,5,6,7,14,15]),(8,[0,3,5,6,7,14,15,21]),(9,[0,3,5,7,14,15]),(10,[0,3,5,7,14,15,59]),(11,[4]),(12,[0,3,5,14,15]),(13,[0,3,5,14,15]),(14,[4])]),
 (98,[(0,[2,3]),(1,[2,3,21]),(2,[4]),(3,[2,3,24]),(4,[4]),(5,[4])]),
 (99,[(0,[1,2]),(1,[1,2,9]),(2,[4]),(3,[1,2,5]),(4,[4])]),
 (112,[(0,[0,1,2,3]),(1,[2,3,6]),(2,[5])])]
end Go.Av

namespace Go.Av
open Go.Proofs
set_option maxRecDepth 1000000 in
theorem nx0:Ev M1 (.pure 96 [.agg [.int .i64 40,.int .i64 50,.int .i64 60],.agg [.int .i64 0,.int .i64 0],.int .i64 539]) (.tup [.agg [.int .i64 40,.int .i64 40],.bool true]) []:=Zbq (G:=⟨awkT,[],[],[]⟩) ZaY 30 (by kernel_rfl)
set_option maxRecDepth 1000000 in
theorem nx1:Ev M1 (.pure 96 [.agg [.int .i64 40,.int .i64 50,.int .i64 60],.agg [.int .i64 40,.int .i64 40],.int .i64 499]) (.tup [.agg [.int .i64 40,.int .i64 0],.bool true]) []:=Zbq (G:=⟨awkT,[],[],[]⟩) ZaY 30 (by kernel_rfl)
set_option maxRecDepth 1000000 in
theorem nx2:Ev M1 (.pure 96 [.agg [.int .i64 40,.int .i64 50,.int .i64 60],.agg [.int .i64 40,.int .i64 0],.int .i64 459]) (.tup [.agg [.int .i64 40,.int .i64 0],.bool true]) []:=Zbq (G:=⟨awkT,[],[],[]⟩) ZaY 30 (by kernel_rfl)
set_option maxRecDepth 1000000 in
theorem nx3:Ev M1 (.pure 96 [.agg [.int .i64 40,.int .i64 50,.int .i64 60],.agg [.int .i64 40,.int .i64 0],.int .i64 419]) (.tup [.agg [.int .i64 40,.int .i64 0],.bool true]) []:=Zbq (G:=⟨awkT,[],[],[]⟩) ZaY 30 (by kernel_rfl)
end Go.Av

namespace Go.Av
open Go.Proofs
set_option maxRecDepth 1000000 in
theorem nx4:Ev M1 (.pure 96 [.agg [.int .i64 40,.int .i64 50,.int .i64 60],.agg [.int .i64 40,.int .i64 0],.int .i64 379]) (.tup [.agg [.int .i64 40,.int .i64 0],.bool true]) []:=Zbq (G:=⟨awkT,[],[],[]⟩) ZaY 30 (by kernel_rfl)
set_option maxRecDepth 1000000 in
theorem nx5:Ev M1 (.pure 96 [.agg [.int .i64 40,.int .i64 50,.int .i64 60],.agg [.int .i64 40,.int .i64 0],.int .i64 339]) (.tup [.agg [.int .i64 40,.int .i64 0],.bool true]) []:=Zbq (G:=⟨awkT,[],[],[]⟩) ZaY 30 (by kernel_rfl)
set_option maxRecDepth 1000000 in
theorem nx6:Ev M1 (.pure 96 [.agg [.int .i64 40,.int .i64 50,.int .i64 60],.agg [.int .i64 40,.int .i64 0],.int .i64 299]) (.tup [.agg [.int .i64 40,.int .i64 0],.bool true]) []:=Zbq (G:=⟨awkT,[],[],[]⟩) ZaY 30 (by kernel_rfl)
set_option maxRecDepth 1000000 in
theorem nx7:Ev M1 (.pure 96 [.agg [.int .i64 40,.int .i64 50,.int .i64 60],.agg [.int .i64 40,.int .i64 0],.int .i64 259]) (.tup [.agg [.int .i64 40,.int .i64 0],.bool true]) []:=Zbq (G:=⟨awkT,[],[],[]⟩) ZaY 30 (by kernel_rfl)
end Go.Av

namespace Go.Av
open Go.Proofs
set_option maxRecDepth 1000000 in
theorem nx8:Ev M1 (.pure 96 [.agg [.int .i64 40,.int .i64 50,.int .i64 60],.agg [.int .i64 40,.int .i64 0],.int .i64 219]) (.tup [.agg [.int .i64 40,.int .i64 0],.bool true]) []:=Zbq (G:=⟨awkT,[],[],[]⟩) ZaY 30 (by kernel_rfl)
set_option maxRecDepth 1000000 in
theorem nx9:Ev M1 (.pure 96 [.agg [.int .i64 40,.int .i64 50,.int .i64 60],.agg [.int .i64 40,.int .i64 0],.int .i64 179]) (.tup [.agg [.int .i64 40,.int .i64 0],.bool true]) []:=Zbq (G:=⟨awkT,[],[],[]⟩) ZaY 30 (by kernel_rfl)
set_option maxRecDepth 1000000 in
theorem nx10:Ev M1 (.pure 96 [.agg [.int .i64 40,.int .i64 50,.int .i64 60],.agg [.int .i64 40,.int .i64 0],.int .i64 139]) (.tup [.agg [.int .i64 40,.int .i64 0],.bool true]) []:=Zbq (G:=⟨awkT,[],[],[]⟩) ZaY 30 (by kernel_rfl)
set_option maxRecDepth 1000000 in
theorem nx11:Ev M1 (.pure 96 [.agg [.int .i64 40,.int .i64 50,.int .i64 60],.agg [.int .i64 40,.int .i64 0],.int .i64 99]) (.tup [.agg [.int .i64 40,.int .i64 0],.bool true]) []:=Zbq (G:=⟨awkT,[],[],[]⟩) ZaY 30 (by kernel_rfl)
end Go.Av

namespace Go.Av
open Go.Proofs
set_option maxRecDepth 1000000 in
theorem nx12:Ev M1 (.pure 96 [.agg [.int .i64 40,.int .i64 50,.int .i64 60],.agg [.int .i64 40,.int .i64 0],.int .i64 59]) (.tup [.agg [.int .i64 40,.int .i64 0],.bool true]) []:=Zbq (G:=⟨awkT,[],[],[]⟩) ZaY 30 (by kernel_rfl)
set_option maxRecDepth 1000000 in
theorem nx13:Ev M1 (.pure 96 [.agg [.int .i64 40,.int .i64 50,.int .i64 60],.agg [.int .i64 40,.int .i64 0],.int .i64 19]) (.tup [.agg [.int .i64 19,.int .i64 (-21)],.bool true]) []:=Zbq (G:=⟨awkT,[],[],[]⟩) ZaY 30 (by kernel_rfl)
end Go.Av

namespace Go.Av
open Go.Proofs
def nxK:List (Nat × List AV × AV):=[(96,[.agg [.int .i64 40,.int .i64 50,.int .i64 60],.agg [.int .i64 0,.int .i64 0],.int .i64 539],.tup [.agg [.int .i64 40,.int .i64 40],.bool true]),
 (96,[.agg [.int .i64 40,.int .i64 50,.int .i64 60],.agg [.int .i64 40,.int .i64 40],.int .i64 499],.tup [.agg [.int .i64 40,.int .i64 0],.bool true]),
 (96,[.agg [.int .i64 40,.int .i64 50,.int .i64 60],.agg [.int .i64 40,.int .i64 0],.int .i64 459],.tup [.agg [.int .i64 40,.int .i64 0],.bool true]),
 (96,[.agg [.int .i64 40,.int .i64 50,.int .i64 60],.agg [.int .i64 40,.int .i64 0],.int .i64 419],.tup [.agg [.int .i64 40,.int .i64 0],.bool true]),
 (96,[.agg [.int .i64 40,.int .i64 50,.int .i64 60],.agg [.int .i64 40,.int .i64 0],.int .i64 379],.tup [.agg [.int .i64 40,.int .i64 0],.bool true]),
 (96,[.agg [.int .i64 40,.int .i64 50,.int .i64 60],.agg [.int .i64 40,.int .i64 0],.int .i64 339],.tup [.agg [.int .i64 40,.int .i64 0],.bool true]),
 (96,[.agg [.int .i64 40,.int .i64 50,.int .i64 60],.agg [.int .i64 40,.int .i64 0],.int .i64 299],.tup [.agg [.int .i64 40,.int .i64 0],.bool true]),
 (96,[.agg [.int .i64 40,.int .i64 50,.int .i64 60],.agg [.int .i64 40,.int .i64 0],.int .i64 259],.tup [.agg [.int .i64 40,.int .i64 0],.bool true]),
 (96,[.agg [.int .i64 40,.int .i64 50,.int .i64 60],.agg [.int .i64 40,.int .i64 0],.int .i64 219],.tup [.agg [.int .i64 40,.int .i64 0],.bool true]),
 (96,[.agg [.int .i64 40,.int .i64 50,.int .i64 60],.agg [.int .i64 40,.int .i64 0],.int .i64 179],.tup [.agg [.int .i64 40,.int .i64 0],.bool true]),
 (96,[.agg [.int .i64 40,.int .i64 50,.int .i64 60],.agg [.int .i64 40,.int .i64 0],.int .i64 139],.tup [.agg [.int .i64 40,.int .i64 0],.bool true]),
 (96,[.agg [.int .i64 40,.int .i64 50,.int .i64 60],.agg [.int .i64 40,.int .i64 0],.int .i64 99],.tup [.agg [.int .i64 40,.int .i64 0],.bool true]),
 (96,[.agg [.int .i64 40,.int .i64 50,.int .i64 60],.agg [.int .i64 40,.int .i64 0],.int .i64 59],.tup [.agg [.int .i64 40,.int .i64 0],.bool true]),
 (96,[.agg [.int .i64 40,.int .i64 50,.int .i64 60],.agg [.int .i64 40,.int .i64 0],.int .i64 19],.tup [.agg [.int .i64 19,.int .i64 (-21)],.bool true])]
theorem nxOk:Zcr M1 ⟨awkT,[],nxK,[]⟩:=by
 intro k hk
 simp only [nxK,List.mem_cons,List.not_mem_nil,or_false] at hk
 rcases hk with rfl | rfl | rfl | rfl | rfl | rfl | rfl | rfl | rfl | rfl | rfl | rfl | rfl | rfl
 ·exact nx0
 ·exact nx1
 ·exact nx2
 ·exact nx3
 ·exact nx4
 ·exact nx5
 ·exact nx6
 ·exact nx7
 ·exact nx8
 ·exact nx9
 ·exact nx10
 ·exact nx11
 ·exact nx12
 ·exact nx13
def awsA:List AV:=[.int .i64 539,.agg [.int .i64 40,.int .i64 50,.int .i64 60]]
def awsD:AV:=.tup [.vec false 1 [.int .i64 40,.int .i64 40,.int .i64 40,.int .i64 40,.int .i64 40,.int .i64 40,.int .i64 40,.int .i64 40,.int .i64 40,.int .i64 40,.int .i64 40,.int .i64 40,.int .i64 40,.int .i64 19],.int .i64 0]
set_option maxRecDepth 1000000 in
theorem steps5:Ev M1 (.pure 44 awsA) awsD []:=Zbq nxOk 30 (by kernel_rfl)
end Go.Av

namespace Go.Av
open Go.Proofs
def mot5:AV:=.agg [.int .i64 0,.int .i64 0,.int .i64 0,.int .i64 500,.int .i64 (-200),.int .i64 0,.int .i64 40000,.int .i64 2,.int .i64 0]
def awkG:EG:=⟨awkT,[],[(51,[mot5],.int .i64 539),(44,awsA,awsD)],[]⟩
theorem awkK:Zcr M1 awkG:=by
 intro k hk
 rcases List.mem_cons.1 hk with rfl | hk
 ·have:=ev51 0 0 0 500 (-200) 0 40000 2 0 ⟨by unfold N.cl;omega,by unfold N.cl;omega,by unfold N.cl;omega⟩
  have e:N.len (500-0) (-200-0) (0-0)=539:=csq_eq ⟨by decide,by decide,.inr (by decide)⟩
  rw [e] at this;exact this
 ·rcases List.mem_cons.1 hk with rfl | hk
  ·exact steps5
  ·exact nomatch hk
set_option maxRecDepth 1000000 in
theorem ev8:Ev M1 (.pure 8 []) (.bool true) []:=exec_all (M:=M1) (by kernel_rfl) (itf:=none) (fun _ h=>nomatch h) awkK 30 (by kernel_rfl)
end Go.Av
