/- PART 6 of the texts of a claim, joined by a program: what each part shows stands at its head. -/
import Derived.Test.YtojapcnhajomcaaPartae6458188b

namespace Go.Av
open Go.Proofs
set_option maxRecDepth 100000
def fi4:Fi:=⟨200,[.tmp 6]⟩
def kp4:List (Nat × List Nat):=[(0,[1,2,3]),(1,[1,2,7,8,9]),(2,[1,2,7,8,35]),(3,[6]),(4,[1,2,7,8,10,11]),(5,[1,2,7,8,10,44]),(6,[6]),(7,[2,7,8,10,45,46]),(8,[2,7,8,10,45,46,47]),(9,[2,7,8,10,45,46]),(10,[2,7,8,10,45,46]),(11,[2,7,8,10,12,13]),(12,[2,7,8,10,12,13]),(13,[2,7,8,12,13,83]),(14,[6]),(15,[2,7,8,11,12,13,14]),(16,[2,7,8,12,13,14,94]),(17,[6]),(18,[2,7,8,12,13,14,15]),(19,[2,8,14,15,126]),(20,[6]),(21,[2,8,14,129,130,131]),(22,[2,8,14,129,130,131,132]),(23,[2,8,14,17,129,130,131]),(24,[2,8,14,17,18,129,130,131]),(25,[2,8,14,129,130,131,179]),(26,[6]),(27,[2,8,14,129,130,131]),(28,[11,14,19]),(29,[14,19,188]),(30,[6]),(31,[6])]
def rbA_at (fx fy fz:Int) (fw:Bool) (W:List Wy) (S A j:Int) (k sf:Int) (Q:AV->Heap->Prop):Prop:=Wp M1 (.run fi4 (atC (cd Try.f4) []) [(0,.agg [.int .i16 fx,.int .i16 fy,.int .i16 fz,.vec fw 4 (W.map Wy.a),.int .i64 S,.int .i64 A,.int .i64 j]),(1,.int .u8 k),(2,.int .u16 sf)] []) Q
def rbT_at (l:List Mo) (S A j sf:Int) (k e:Int) (L:Heap) (Q:AV->Heap->Prop):Prop:=Wp M1 (.run fi4 (atC (cd Try.f4) [1,1,1,1,1,0,1,0,0]) [(2,.int .u16 sf),(7,.vec false 9 (l.map Mo.a)),(8,.eptr 3 [.agg [.int .i64 S,.int .i64 A,.int .i64 j]] 0 0),(10,.ptr 0 0 0 0),(45,.int .u8 k),(46,.int .u8 e)] L) Q
def rbU_at (l:List Mo) (S A j sf:Int) (k e:Int) (L:Heap) (Q:AV->Heap->Prop):Prop:=Wp M1 (.run fi4 (atC (cd Try.f4) [1,1,1,1,1,0,1,0,0,1,1,1]) [(2,.int .u16 sf),(7,.vec false 9 (l.map Mo.a)),(8,.eptr 3 [.agg [.int .i64 S,.int .i64 A,.int .i64 j]] 0 0),(10,.ptr 0 0 0 0),(45,.int .u8 k),(46,.int .u8 e)] L) Q
def rbKA_at (fm:Bool) (l:List Mo) (S A j ix p:Int) (hd br:Bool) (qx qy qz:Int) (sf:Int) (Q:AV->Heap->Prop):Prop:=Wp M1 (.run fi4 (atC (cd Try.f4) [1,1,1,1,1,1,0]) [(2,.int .u16 sf),(7,.vec false 9 (l.map Mo.a)),(8,.eptr 3 [.agg [.int .i64 S,.int .i64 A,.int .i64 j]] 0 0),(10,.ptr 0 0 0 0)] [⟨[.agg [.vec fm 9 (l.map Mo.a),.int .i64 S,.int .i64 A,.int .i64 j,.int .i64 ix,.int .i64 p,.vnil,.int .i64 0,.bool false,.bool hd,.bool br,.vnil,.int .i64 qx,.int .i64 qy,.int .i64 qz]],15,0,false,false⟩]) Q
def rbKB_at (fm:Bool) (l:List Mo) (S A j ix p:Int) (hd br:Bool) (qx qy qz:Int) (P:List Mo) (w:Nat) (sf:Int) (Q:AV->Heap->Prop):Prop:=Wp M1 (.run fi4 (atC (cd Try.f4) [1,1,1,1,1,1,0]) [(2,.int .u16 sf),(7,.vec false 9 (l.map Mo.a)),(8,.eptr 3 [.agg [.int .i64 S,.int .i64 A,.int .i64 j]] 0 0),(10,.ptr 0 0 0 0)] [⟨[.agg [.vec fm 9 (l.map Mo.a),.int .i64 S,.int .i64 A,.int .i64 j,.int .i64 ix,.int .i64 p,.vnil,.int .i64 0,.bool false,.bool hd,.bool br,.row 1 w,.int .i64 qx,.int .i64 qy,.int .i64 qz]],15,0,false,false⟩,⟨P.map Mo.a,9,w,false,true⟩]) Q
def rbKC_at (fm:Bool) (l:List Mo) (S A j ix p k:Int) (bk hd br:Bool) (qx qy qz:Int) (X:List Int) (sf:Int) (Q:AV->Heap->Prop):Prop:=Wp M1 (.run fi4 (atC (cd Try.f4) [1,1,1,1,1,1,0]) [(2,.int .u16 sf),(7,.vec false 9 (l.map Mo.a)),(8,.eptr 3 [.agg [.int .i64 S,.int .i64 A,.int .i64 j]] 0 0),(10,.ptr 0 0 0 0)] [⟨[.agg [.vec fm 9 (l.map Mo.a),.int .i64 S,.int .i64 A,.int .i64 j,.int .i64 ix,.int .i64 p,.vec false 1 (X.map (.int .i64)),.int .i64 k,.bool bk,.bool hd,.bool br,.vnil,.int .i64 qx,.int .i64 qy,.int .i64 qz]],15,0,false,false⟩]) Q
def rbKD_at (fm:Bool) (l:List Mo) (S A j ix p k:Int) (bk hd br:Bool) (qx qy qz:Int) (X:List Int) (P:List Mo) (w:Nat) (sf:Int) (Q:AV->Heap->Prop):Prop:=Wp M1 (.run fi4 (atC (cd Try.f4) [1,1,1,1,1,1,0]) [(2,.int .u16 sf),(7,.vec false 9 (l.map Mo.a)),(8,.eptr 3 [.agg [.int .i64 S,.int .i64 A,.int .i64 j]] 0 0),(10,.ptr 0 0 0 0)] [⟨[.agg [.vec fm 9 (l.map Mo.a),.int .i64 S,.int .i64 A,.int .i64 j,.int .i64 ix,.int .i64 p,.vec false 1 (X.map (.int .i64)),.int .i64 k,.bool bk,.bool hd,.bool br,.row 1 w,.int .i64 qx,.int .i64 qy,.int .i64 qz]],15,0,false,false⟩,⟨P.map Mo.a,9,w,false,true⟩]) Q
def rbBA_at (fm:Bool) (l:List Mo) (S A j ix p:Int) (qx qy qz:Int) (sf ax ay az:Int) (Q:AV->Heap->Prop):Prop:=Wp M1 (.run fi4 (atC (cd Try.f4) [1,1,1,1,1,1,1,1,0,0]) [(2,.int .u16 sf),(7,.vec false 9 (l.map Mo.a)),(8,.eptr 3 [.agg [.int .i64 S,.int .i64 A,.int .i64 j]] 0 0),(10,.ptr 0 0 0 0),(12,.eptr 3 [.agg [.int .i64 ax,.int .i64 ay,.int .i64 az]] 0 0),(13,.int .i64 ix)] [⟨[.agg [.vec fm 9 (l.map Mo.a),.int .i64 S,.int .i64 A,.int .i64 j,.int .i64 ix,.int .i64 p,.vnil,.int .i64 0,.bool false,.bool false,.bool true,.vnil,.int .i64 qx,.int .i64 qy,.int .i64 qz]],15,0,false,false⟩]) Q
def rbBB_at (fm:Bool) (l:List Mo) (S A j ix p:Int) (qx qy qz:Int) (P:List Mo) (w:Nat) (sf ax ay az:Int) (Q:AV->Heap->Prop):Prop:=Wp M1 (.run fi4 (atC (cd Try.f4) [1,1,1,1,1,1,1,1,0,0]) [(2,.int .u16 sf),(7,.vec false 9 (l.map Mo.a)),(8,.eptr 3 [.agg [.int .i64 S,.int .i64 A,.int .i64 j]] 0 0),(10,.ptr 0 0 0 0),(12,.eptr 3 [.agg [.int .i64 ax,.int .i64 ay,.int .i64 az]] 0 0),(13,.int .i64 ix)] [⟨[.agg [.vec fm 9 (l.map Mo.a),.int .i64 S,.int .i64 A,.int .i64 j,.int .i64 ix,.int .i64 p,.vnil,.int .i64 0,.bool false,.bool false,.bool true,.row 1 w,.int .i64 qx,.int .i64 qy,.int .i64 qz]],15,0,false,false⟩,⟨P.map Mo.a,9,w,true,true⟩]) Q
def Zgz (l:List Mo) (S A j sf:Int) (ix ax ay az:Int) (Q:AV->Heap->Prop):Prop:=Wp M1 (.run fi4 (atC (cd Try.f4) [1,1,1,1,1,1,1,1,1,0]) [(2,.int .u16 sf),(7,.vec false 9 (l.map Mo.a)),(8,.eptr 3 [.agg [.int .i64 S,.int .i64 A,.int .i64 j]] 0 0),(12,.eptr 3 [.agg [.int .i64 ax,.int .i64 ay,.int .i64 az]] 0 0),(13,.int .i64 ix)] []) Q
def rbD_at (S A j sf:Int) (R:List Mo) (g:Bool) (G:List Mo) (n i:Int) (Q:AV->Heap->Prop):Prop:=Wp M1 (.run fi4 (atC (cd Try.f4) [1,1,1,1,1,1,1,1,1,1,1,1,1,0,1,0,0]) [(2,.int .u16 sf),(8,.eptr 3 [.agg [.int .i64 S,.int .i64 A,.int .i64 j]] 0 0),(14,.vec false 9 (R.map Mo.a)),(129,.vec g 9 (G.map Mo.a)),(130,.int .i64 n),(131,.int .i64 i)] []) Q
def Zfx (R:List Mo) (S A j:Int) (Q:AV->Heap->Prop):Prop:=Wp M1 (.run fi4 (atC (cd Try.f4) [1,1,1,1,1,1,1,1,1,1,1,1,1,1,0]) [(8,.eptr 3 [.agg [.int .i64 S,.int .i64 A,.int .i64 j]] 0 0),(14,.vec false 9 (R.map Mo.a))] []) Q
def rbEb_at (R:List Mo) (S A j:Int) (Q:AV->Heap->Prop):Prop:=Wp M1 (.run fi4 (atC (cd Try.f4) [1,1,1,1,1,1,1,1,1,1,1,1,1,1,0]) [(8,.eptr 3 [.agg [.int .i64 S,.int .i64 A,.int .i64 j]] 0 0),(14,.vec false 9 (R.map Mo.a))] []) Q
theorem call4 {args:List AV} {d:AV} (h:wc M1 fi4 Try.f4 args d):Ev M1 (.pure 4 args) d []:=pcl _ _ (by kernel_rfl) h
noncomputable abbrev zCxZ1 (S:Int) (A:Int) (j:Int):=ag [vi S,vi A,vi j]
theorem rbA (fx fy fz:Int) (fw:Bool) (W:List Wy) (S A j:Int) (k sf:Int)  (dq:AV) (H :
  (N.okTr fx fy fz W) /\
  ∃ (b1:Bool),
  (Ev M1 (Conf.pure 8 []) (vb b1) []) /\
  ((((¬(b1=true))\/(¬(N.trB W S A j=true)))\/(sf<1000)) -> ∃ (b2:Bool),
   (Ev M1 (Conf.pure 8 []) (vb b2) []) /\
   vb b2=dq) /\
  (¬(((¬(b1=true))\/(¬(N.trB W S A j=true)))\/(sf<1000))->(N.okCk (N.trL fx fy fz W S A j) S A j) /\
   Wp M1 (.run fi4 (atC (cd Try.f4) [1,1,1,1,1,0,1,0,0]) [(2,AV.int IntKind.u16 sf),(7,AV.vec false 9 (List.map Mo.a (N.trL fx fy fz W S A j))),(8,AV.ptr 0 0 0 0),(10,AV.ptr 1 0 0 0),(45,AV.int IntKind.u8 k),(46,AV.int IntKind.u8 0)] [{ elems:=[ag [vi S,vi A,vi j]],es:=3,ver:=0,frozen:=false,clean:=false },{ elems:=[ag [AV.vec false 9 (List.map Mo.a (N.trL fx fy fz W S A j)),vi S,vi A,vi j,vi (N.skI (N.trL fx fy fz W S A j) 0),vi 0,AV.vnil,vi 0,vb false,vb false,vb false,AV.vnil,vi (N.q0x (N.trL fx fy fz W S A j)),vi (N.q0y (N.trL fx fy fz W S A j)),vi (N.q0z (N.trL fx fy fz W S A j))]],es:=15,ver:=0,frozen:=false,clean:=false }]) (Zaj dq))) :
 rbA_at fx fy fz fw W S A j k sf (Zaj dq):=by
 unfold rbA_at
 obtain ⟨k1,b1,k2,H⟩:=H
 refine Zac (G:=Zab kp4 [(1,1,.call (tu [AV.vec false 9 (List.map Mo.a (N.trL fx fy fz W S A j)),(zCxZ1 S A j),vb (N.trB W S A j)]) none),(2,0,.call (vb b1) none)] []) 7 [] ⟨(atC (cd Try.f4) [1,1,0,1]),[(1,AV.int IntKind.u8 k),(2,AV.int IntKind.u16 sf),(7,AV.vec false 9 (List.map Mo.a (N.trL fx fy fz W S A j))),(8,AV.ptr 1 0 0 0),(35,vb (bif bif !b1 then true else !N.trB W S A j then true else decide (sf<1000)))],[⟨[ag [AV.int IntKind.i16 fx,AV.int IntKind.i16 fy,AV.int IntKind.i16 fz,AV.vec fw 4 (List.map Wy.a W),vi S,vi A,vi j]],7,0,false,false⟩,⟨[(zCxZ1 S A j)],3,0,false,false⟩],_,[],_⟩ (by kernel_rfl) (bc rfl (bc rfl b0)) q0 (ce (@ev7 fx fy fz fw W S A j k1) (ce k2 c0)) ?_
 rcases xq H with ⟨d4,H⟩|⟨d4,H⟩
 ·obtain ⟨b2,k5,H⟩:=H
  exact Zap (G:=Zab kp4 [(3,0,.call (vb b2) none)] []) 1000 [true] (asm:=[(bif bif !b1 then true else !N.trB W S A j then true else decide (sf<1000))==true]) (vb b2) (by kernel_rfl) (bc (Zam ((ZaD (ZaD (Zay (Zas _)) (Zay (Zas _))) Zad).2 d4)) b0) q0 (ce k5 c0) H
 ·obtain ⟨k6,H⟩:=H
  exact Zac (G:=Zab kp4 [(4,2,.call (tu [AV.ptr 0 0 0 0,vi 0]) (some [⟨[ag [AV.vec false 9 (List.map Mo.a (N.trL fx fy fz W S A j)),vi S,vi A,vi j,vi (N.skI (N.trL fx fy fz W S A j) 0),vi 0,AV.vnil,vi 0,vb false,vb false,vb false,AV.vnil,vi (N.q0x (N.trL fx fy fz W S A j)),vi (N.q0y (N.trL fx fy fz W S A j)),vi (N.q0z (N.trL fx fy fz W S A j))]],15,0,false,false⟩]))] []) 1000 [false,false] ⟨(atC (cd Try.f4) [1,1,1,1,1,0,1,0,0]),[(2,AV.int IntKind.u16 sf),(7,AV.vec false 9 (List.map Mo.a (N.trL fx fy fz W S A j))),(8,AV.ptr 1 0 0 0),(10,AV.ptr 2 0 0 0),(45,AV.int IntKind.u8 k),(46,AV.int IntKind.u8 0)],[⟨[ag [AV.int IntKind.i16 fx,AV.int IntKind.i16 fy,AV.int IntKind.i16 fz,AV.vec fw 4 (List.map Wy.a W),vi S,vi A,vi j]],7,0,false,false⟩,⟨[(zCxZ1 S A j)],3,0,false,false⟩,⟨[ag [AV.vec false 9 (List.map Mo.a (N.trL fx fy fz W S A j)),vi S,vi A,vi j,vi (N.skI (N.trL fx fy fz W S A j) 0),vi 0,AV.vnil,vi 0,vb false,vb false,vb false,AV.vnil,vi (N.q0x (N.trL fx fy fz W S A j)),vi (N.q0y (N.trL fx fy fz W S A j)),vi (N.q0z (N.trL fx fy fz W S A j))]],15,0,false,false⟩],[(bif bif !b1 then true else !N.trB W S A j then true else decide (sf<1000))==false,true,false==false],[],[⟨true,true,9,[AV.vec false 9 (List.map Mo.a (N.trL fx fy fz W S A j)),(zCxZ1 S A j)],[],tu [AV.ptr 0 0 0 0,vi 0],[⟨[ag [AV.vec false 9 (List.map Mo.a (N.trL fx fy fz W S A j)),vi S,vi A,vi j,vi (N.skI (N.trL fx fy fz W S A j) 0),vi 0,AV.vnil,vi 0,vb false,vb false,vb false,AV.vnil,vi (N.q0x (N.trL fx fy fz W S A j)),vi (N.q0y (N.trL fx fy fz W S A j)),vi (N.q0z (N.trL fx fy fz W S A j))]],15,0,false,false⟩]⟩]⟩ (by kernel_rfl) (bc (Zal (fun h=>d4 ((ZaD (ZaD (Zay (Zas _)) (Zay (Zas _))) Zad).1 h))) (bc rfl (bc rfl b0))) q0 (cc (fun _=>(@evo9 false (N.trL fx fy fz W S A j) S A j k6)) c0) (Zan [1,2] (by kernel_rfl) H)
theorem rbT (l:List Mo) (S A j sf:Int) (k e:Int) (L:Heap)  (dq:AV) (H :
  ((e<k)->Wp M1 (.run fi4 (atC (cd Try.f4) [1,1,1,1,1,0,1,0,0,1,1,0,0]) [(2,AV.int IntKind.u16 sf),(7,AV.vec false 9 (List.map Mo.a l)),(8,AV.eptr 3 [ag [vi S,vi A,vi j]] 0 0),(10,AV.ptr 0 0 0 0),(45,AV.int IntKind.u8 k),(46,AV.int IntKind.u8 e),(47,vb (decide (e<k)))] L) (Zaj dq)) /\
  (¬(e<k)->Wp M1 (.run fi4 (atC (cd Try.f4) [1,1,1,1,1,1,0]) [(2,AV.int IntKind.u16 sf),(7,AV.vec false 9 (List.map Mo.a l)),(8,AV.eptr 3 [ag [vi S,vi A,vi j]] 0 0),(10,AV.ptr 0 0 0 0)] L) (Zaj dq))) :
 rbT_at l S A j sf k e L (Zaj dq):=by
 unfold rbT_at
 rcases xq H with ⟨d2,H⟩|⟨d2,H⟩
 ·exact Zac (G:=Zab kp4 [] []) 7 [true] ⟨(atC (cd Try.f4) [1,1,1,1,1,0,1,0,0,1,1,0,0]),[(2,AV.int IntKind.u16 sf),(7,AV.vec false 9 (List.map Mo.a l)),(8,AV.eptr 3 [ag [vi S,vi A,vi j]] 0 0),(10,AV.ptr 0 0 0 0),(45,AV.int IntKind.u8 k),(46,AV.int IntKind.u8 e),(47,vb (decide (e<k)))],L,_,[],_⟩ (by kernel_rfl) (bc (Zam (Zad.2 d2)) b0) q0 c0 H
 ·exact Zac (G:=Zab kp4 [] []) 6 [false] ⟨(atC (cd Try.f4) [1,1,1,1,1,1,0]),[(2,AV.int IntKind.u16 sf),(7,AV.vec false 9 (List.map Mo.a l)),(8,AV.eptr 3 [ag [vi S,vi A,vi j]] 0 0),(10,AV.ptr 0 0 0 0),(45,AV.int IntKind.u8 k),(46,AV.int IntKind.u8 e),(47,vb (decide (e<k)))],L,_,[],_⟩ (by kernel_rfl) (bc (Zal (fun h=>d2 (Zad.1 h))) b0) q0 c0 (Wp.less [2,7,8,10] H)
theorem rbU (l:List Mo) (S A j sf:Int) (k e:Int) (L:Heap)  (dq:AV) (H :
  (0<=e+1/\e+1<=255) /\
  rbT_at l S A j sf k (e+1) L (Zaj dq)) :
 rbU_at l S A j sf k e L (Zaj dq):=by
 unfold rbU_at
 obtain ⟨k1,H⟩:=H
 have w2:IntKind.u8.wrap (e+1)=e+1:=wU8 k1
 exact Zac (G:=Zab kp4 [] []) 1000 [] ⟨(atC (cd Try.f4) [1,1,1,1,1,0,1,0,0]),[(2,AV.int IntKind.u16 sf),(7,AV.vec false 9 (List.map Mo.a l)),(8,AV.eptr 3 [ag [vi S,vi A,vi j]] 0 0),(10,AV.ptr 0 0 0 0),(45,AV.int IntKind.u8 k),(46,AV.int IntKind.u8 (IntKind.u8.wrap (e+1)))],L,_,[],_⟩ (by kernel_rfl) b0 q0 c0 (by (try rw [w2]);all_goals exact H)
noncomputable abbrev zCxZ2 (l:List Mo) (ix:Int) (p:Int):=ag [vi (N.pox l ix p),vi (N.poy l ix p),vi (N.poz l ix p)]
theorem rbKA (fm:Bool) (l:List Mo) (S A j ix p:Int) (hd br:Bool) (qx qy qz:Int) (sf:Int)  (dq:AV) (H :
  (N.okC l ix p) /\
  Wp M1 (.run fi4 (atC (cd Try.f4) [1,1,1,1,1,1,1,0]) [(2,AV.int IntKind.u16 sf),(7,AV.vec false 9 (List.map Mo.a l)),(8,AV.eptr 3 [ag [vi S,vi A,vi j]] 0 0),(10,AV.ptr 0 0 0 0),(12,AV.ptr 1 0 0 0),(13,vi ix)] [{ elems:=[ag [AV.vec fm 9 (List.map Mo.a l),vi S,vi A,vi j,vi ix,vi p,AV.vnil,vi 0,vb false,vb hd,vb br,AV.vnil,vi qx,vi qy,vi qz]],es:=15,ver:=0,frozen:=false,clean:=false },{ elems:=[ag [vi (N.pox l ix p),vi (N.poy l ix p),vi (N.poz l ix p)]],es:=3,ver:=0,frozen:=false,clean:=false }]) (Zaj dq)) :
 rbKA_at fm l S A j ix p hd br qx qy qz sf (Zaj dq):=by
 unfold rbKA_at
 obtain ⟨k1,H⟩:=H
 exact Zac (G:=Zab kp4 [(11,1,.call ((zCxZ2 l ix p)) none),(11,3,.call (vi ix) none)] []) 2 [] ⟨(atC (cd Try.f4) [1,1,1,1,1,1,1,0]),[(2,AV.int IntKind.u16 sf),(7,AV.vec false 9 (List.map Mo.a l)),(8,AV.eptr 3 [ag [vi S,vi A,vi j]] 0 0),(10,AV.ptr 0 0 0 0),(12,AV.ptr 1 0 0 0),(13,vi ix)],[⟨[ag [AV.vec fm 9 (List.map Mo.a l),vi S,vi A,vi j,vi ix,vi p,AV.vnil,vi 0,vb false,vb hd,vb br,AV.vnil,vi qx,vi qy,vi qz]],15,0,false,false⟩,⟨[(zCxZ2 l ix p)],3,0,false,false⟩],_,[],[⟨true,true,13,[AV.ptr 0 0 0 0],[⟨[ag [AV.vec fm 9 (List.map Mo.a l),vi S,vi A,vi j,vi ix,vi p,AV.vnil,vi 0,vb false,vb hd,vb br,AV.vnil,vi qx,vi qy,vi qz]],15,0,false,false⟩],(zCxZ2 l ix p),[⟨[ag [AV.vec fm 9 (List.map Mo.a l),vi S,vi A,vi j,vi ix,vi p,AV.vnil,vi 0,vb false,vb hd,vb br,AV.vnil,vi qx,vi qy,vi qz]],15,0,false,false⟩]⟩,⟨true,true,14,[AV.ptr 0 0 0 0],[⟨[ag [AV.vec fm 9 (List.map Mo.a l),vi S,vi A,vi j,vi ix,vi p,AV.vnil,vi 0,vb false,vb hd,vb br,AV.vnil,vi qx,vi qy,vi qz]],15,0,false,false⟩],vi ix,[⟨[ag [AV.vec fm 9 (List.map Mo.a l),vi S,vi A,vi j,vi ix,vi p,AV.vnil,vi 0,vb false,vb hd,vb br,AV.vnil,vi qx,vi qy,vi qz]],15,0,false,false⟩]⟩]⟩ (by kernel_rfl) (bc rfl b0) q0 (cc (fun _=>(@ZfS fm l S A j ix p 0 false hd br qx qy qz k1)) (cc (fun _=>(@evo14_a fm l S A j ix p hd br qx qy qz)) c0)) H
noncomputable abbrev zCxZ3 (l:List Mo) (ix:Int) (p:Int):=ag [vi (N.pox l ix p),vi (N.poy l ix p),vi (N.poz l ix p)]
theorem rbKB (fm:Bool) (l:List Mo) (S A j ix p:Int) (hd br:Bool) (qx qy qz:Int) (P:List Mo) (w:Nat) (sf:Int)  (dq:AV) (H :
  (N.okC l ix p) /\
  Wp M1 (.run fi4 (atC (cd Try.f4) [1,1,1,1,1,1,1,0]) [(2,AV.int IntKind.u16 sf),(7,AV.vec false 9 (List.map Mo.a l)),(8,AV.eptr 3 [ag [vi S,vi A,vi j]] 0 0),(10,AV.ptr 0 0 0 0),(12,AV.ptr 1 0 0 0),(13,vi ix)] [{ elems:=[ag [AV.vec fm 9 (List.map Mo.a l),vi S,vi A,vi j,vi ix,vi p,AV.vnil,vi 0,vb false,vb hd,vb br,AV.row 2 w,vi qx,vi qy,vi qz]],es:=15,ver:=0,frozen:=false,clean:=false },{ elems:=[ag [vi (N.pox l ix p),vi (N.poy l ix p),vi (N.poz l ix p)]],es:=3,ver:=0,frozen:=false,clean:=false },{ elems:=List.map Mo.a P,es:=9,ver:=w,frozen:=false,clean:=true }]) (Zaj dq)) :
 rbKB_at fm l S A j ix p hd br qx qy qz P w sf (Zaj dq):=by
 unfold rbKB_at
 obtain ⟨k1,H⟩:=H
 exact Zac (G:=Zab kp4 [(11,1,.call ((zCxZ3 l ix p)) none),(11,3,.call (vi ix) none)] []) 2 [] ⟨(atC (cd Try.f4) [1,1,1,1,1,1,1,0]),[(2,AV.int IntKind.u16 sf),(7,AV.vec false 9 (List.map Mo.a l)),(8,AV.eptr 3 [ag [vi S,vi A,vi j]] 0 0),(10,AV.ptr 0 0 0 0),(12,AV.ptr 2 0 0 0),(13,vi ix)],[⟨[ag [AV.vec fm 9 (List.map Mo.a l),vi S,vi A,vi j,vi ix,vi p,AV.vnil,vi 0,vb false,vb hd,vb br,AV.row 1 w,vi qx,vi qy,vi qz]],15,0,false,false⟩,⟨List.map Mo.a P,9,w,false,true⟩,⟨[(zCxZ3 l ix p)],3,0,false,false⟩],_,[],[⟨true,true,13,[AV.ptr 0 0 0 0],[⟨[ag [AV.vec fm 9 (List.map Mo.a l),vi S,vi A,vi j,vi ix,vi p,AV.vnil,vi 0,vb false,vb hd,vb br,AV.row 1 w,vi qx,vi qy,vi qz]],15,0,false,false⟩,⟨List.map Mo.a P,9,w,false,true⟩],(zCxZ3 l ix p),[⟨[ag [AV.vec fm 9 (List.map Mo.a l),vi S,vi A,vi j,vi ix,vi p,AV.vnil,vi 0,vb false,vb hd,vb br,AV.row 1 w,vi qx,vi qy,vi qz]],15,0,false,false⟩,⟨List.map Mo.a P,9,w,false,true⟩]⟩,⟨true,true,14,[AV.ptr 0 0 0 0],[⟨[ag [AV.vec fm 9 (List.map Mo.a l),vi S,vi A,vi j,vi ix,vi p,AV.vnil,vi 0,vb false,vb hd,vb br,AV.row 1 w,vi qx,vi qy,vi qz]],15,0,false,false⟩,⟨List.map Mo.a P,9,w,false,true⟩],vi ix,[⟨[ag [AV.vec fm 9 (List.map Mo.a l),vi S,vi A,vi j,vi ix,vi p,AV.vnil,vi 0,vb false,vb hd,vb br,AV.row 1 w,vi qx,vi qy,vi qz]],15,0,false,false⟩,⟨List.map Mo.a P,9,w,false,true⟩]⟩]⟩ (by kernel_rfl) (bc rfl b0) q0 (cc (fun _=>(@ZdP fm l S A j ix p 0 false hd br qx qy qz P w false k1)) (cc (fun _=>(@evo14_b fm l S A j ix p hd br qx qy qz P w false)) c0)) (Zan [0,2,1] (by kernel_rfl) H)
noncomputable abbrev zCxZ4 (l:List Mo) (ix:Int) (p:Int):=ag [vi (N.pox l ix p),vi (N.poy l ix p),vi (N.poz l ix p)]
theorem rbKC (fm:Bool) (l:List Mo) (S A j ix p k:Int) (bk hd br:Bool) (qx qy qz:Int) (X:List Int) (sf:Int)  (dq:AV) (H :
  (N.okC l ix p) /\
  Wp M1 (.run fi4 (atC (cd Try.f4) [1,1,1,1,1,1,1,0]) [(2,AV.int IntKind.u16 sf),(7,AV.vec false 9 (List.map Mo.a l)),(8,AV.eptr 3 [ag [vi S,vi A,vi j]] 0 0),(10,AV.ptr 0 0 0 0),(12,AV.ptr 1 0 0 0),(13,vi ix)] [{ elems:=[ag [AV.vec fm 9 (List.map Mo.a l),vi S,vi A,vi j,vi ix,vi p,vf (List.map vi X),vi k,vb bk,vb hd,vb br,AV.vnil,vi qx,vi qy,vi qz]],es:=15,ver:=0,frozen:=false,clean:=false },{ elems:=[ag [vi (N.pox l ix p),vi (N.poy l ix p),vi (N.poz l ix p)]],es:=3,ver:=0,frozen:=false,clean:=false }]) (Zaj dq)) :
 rbKC_at fm l S A j ix p k bk hd br qx qy qz X sf (Zaj dq):=by
 unfold rbKC_at
 obtain ⟨k1,H⟩:=H
 exact Zac (G:=Zab kp4 [(11,1,.call ((zCxZ4 l ix p)) none),(11,3,.call (vi ix) none)] []) 2 [] ⟨(atC (cd Try.f4) [1,1,1,1,1,1,1,0]),[(2,AV.int IntKind.u16 sf),(7,AV.vec false 9 (List.map Mo.a l)),(8,AV.eptr 3 [ag [vi S,vi A,vi j]] 0 0),(10,AV.ptr 0 0 0 0),(12,AV.ptr 1 0 0 0),(13,vi ix)],[⟨[ag [AV.vec fm 9 (List.map Mo.a l),vi S,vi A,vi j,vi ix,vi p,vf (List.map vi X),vi k,vb bk,vb hd,vb br,AV.vnil,vi qx,vi qy,vi qz]],15,0,false,false⟩,⟨[(zCxZ4 l ix p)],3,0,false,false⟩],_,[],[⟨true,true,13,[AV.ptr 0 0 0 0],[⟨[ag [AV.vec fm 9 (List.map Mo.a l),vi S,vi A,vi j,vi ix,vi p,vf (List.map vi X),vi k,vb bk,vb hd,vb br,AV.vnil,vi qx,vi qy,vi qz]],15,0,false,false⟩],(zCxZ4 l ix p),[⟨[ag [AV.vec fm 9 (List.map Mo.a l),vi S,vi A,vi j,vi ix,vi p,vf (List.map vi X),vi k,vb bk,vb hd,vb br,AV.vnil,vi qx,vi qy,vi qz]],15,0,false,false⟩]⟩,⟨true,true,14,[AV.ptr 0 0 0 0],[⟨[ag [AV.vec fm 9 (List.map Mo.a l),vi S,vi A,vi j,vi ix,vi p,vf (List.map vi X),vi k,vb bk,vb hd,vb br,AV.vnil,vi qx,vi qy,vi qz]],15,0,false,false⟩],vi ix,[⟨[ag [AV.vec fm 9 (List.map Mo.a l),vi S,vi A,vi j,vi ix,vi p,vf (List.map vi X),vi k,vb bk,vb hd,vb br,AV.vnil,vi qx,vi qy,vi qz]],15,0,false,false⟩]⟩]⟩ (by kernel_rfl) (bc rfl b0) q0 (cc (fun _=>(@evo13_c fm l S A j ix p k bk hd br qx qy qz X k1)) (cc (fun _=>(@evo14_c fm l S A j ix p k bk hd br qx qy qz X)) c0)) H
noncomputable abbrev zCxZ5 (l:List Mo) (ix:Int) (p:Int):=ag [vi (N.pox l ix p),vi (N.poy l ix p),vi (N.poz l ix p)]
theorem rbKD (fm:Bool) (l:List Mo) (S A j ix p k:Int) (bk hd br:Bool) (qx qy qz:Int) (X:List Int) (P:List Mo) (w:Nat) (sf:Int)  (dq:AV) (H :
  (N.okC l ix p) /\
  Wp M1 (.run fi4 (atC (cd Try.f4) [1,1,1,1,1,1,1,0]) [(2,AV.int IntKind.u16 sf),(7,AV.vec false 9 (List.map Mo.a l)),(8,AV.eptr 3 [ag [vi S,vi A,vi j]] 0 0),(10,AV.ptr 0 0 0 0),(12,AV.ptr 1 0 0 0),(13,vi ix)] [{ elems:=[ag [AV.vec fm 9 (List.map Mo.a l),vi S,vi A,vi j,vi ix,vi p,vf (List.map vi X),vi k,vb bk,vb hd,vb br,AV.row 2 w,vi qx,vi qy,vi qz]],es:=15,ver:=0,frozen:=false,clean:=false },{ elems:=[ag [vi (N.pox l ix p),vi (N.poy l ix p),vi (N.poz l ix p)]],es:=3,ver:=0,frozen:=false,clean:=false },{ elems:=List.map Mo.a P,es:=9,ver:=w,frozen:=false,clean:=true }]) (Zaj dq)) :
 rbKD_at fm l S A j ix p k bk hd br qx qy qz X P w sf (Zaj dq):=by
 unfold rbKD_at
 obtain ⟨k1,H⟩:=H
 exact Zac (G:=Zab kp4 [(11,1,.call ((zCxZ5 l ix p)) none),(11,3,.call (vi ix) none)] []) 2 [] ⟨(atC (cd Try.f4) [1,1,1,1,1,1,1,0]),[(2,AV.int IntKind.u16 sf),(7,AV.vec false 9 (List.map Mo.a l)),(8,AV.eptr 3 [ag [vi S,vi A,vi j]] 0 0),(10,AV.ptr 0 0 0 0),(12,AV.ptr 2 0 0 0),(13,vi ix)],[⟨[ag [AV.vec fm 9 (List.map Mo.a l),vi S,vi A,vi j,vi ix,vi p,vf (List.map vi X),vi k,vb bk,vb hd,vb br,AV.row 1 w,vi qx,vi qy,vi qz]],15,0,false,false⟩,⟨List.map Mo.a P,9,w,false,true⟩,⟨[(zCxZ5 l ix p)],3,0,false,false⟩],_,[],[⟨true,true,13,[AV.ptr 0 0 0 0],[⟨[ag [AV.vec fm 9 (List.map Mo.a l),vi S,vi A,vi j,vi ix,vi p,vf (List.map vi X),vi k,vb bk,vb hd,vb br,AV.row 1 w,vi qx,vi qy,vi qz]],15,0,false,false⟩,⟨List.map Mo.a P,9,w,false,true⟩],(zCxZ5 l ix p),[⟨[ag [AV.vec fm 9 (List.map Mo.a l),vi S,vi A,vi j,vi ix,vi p,vf (List.map vi X),vi k,vb bk,vb hd,vb br,AV.row 1 w,vi qx,vi qy,vi qz]],15,0,false,false⟩,⟨List.map Mo.a P,9,w,false,true⟩]⟩,⟨true,true,14,[AV.ptr 0 0 0 0],[⟨[ag [AV.vec fm 9 (List.map Mo.a l),vi S,vi A,vi j,vi ix,vi p,vf (List.map vi X),vi k,vb bk,vb hd,vb br,AV.row 1 w,vi qx,vi qy,vi qz]],15,0,false,false⟩,⟨List.map Mo.a P,9,w,false,true⟩],vi ix,[⟨[ag [AV.vec fm 9 (List.map Mo.a l),vi S,vi A,vi j,vi ix,vi p,vf (List.map vi X),vi k,vb bk,vb hd,vb br,AV.row 1 w,vi qx,vi qy,vi qz]],15,0,false,false⟩,⟨List.map Mo.a P,9,w,false,true⟩]⟩]⟩ (by kernel_rfl) (bc rfl b0) q0 (cc (fun _=>(@evo13_d fm l S A j ix p k bk hd br qx qy qz X P w false k1)) (cc (fun _=>(@evo14_d fm l S A j ix p k bk hd br qx qy qz X P w false)) c0)) (Zan [0,2,1] (by kernel_rfl) H)
noncomputable abbrev Zf7 (ax:Int) (ay:Int) (az:Int) (l:List Mo):=ag [vi (N.s5P ax ay az l).x,vi (N.s5P ax ay az l).y,vi (N.s5P ax ay az l).z]
noncomputable abbrev zCxZ7 (l:List Mo) (ix:Int) (p:Int) (ax:Int) (ay:Int) (az:Int):=N.pox l ix p==ax&&(N.poy l ix p==ay&&(N.poz l ix p==az&&true))
noncomputable abbrev zCxZ8 (ax:Int) (ay:Int) (az:Int):=ag [vi ax,vi ay,vi az]
noncomputable abbrev zCxZ9 (l:List Mo) (ix:Int) (p:Int) (ax:Int) (ay:Int) (az:Int) (b1:Bool) (n1:Int) (n2:Int) (n3:Int):=bif bif !(zCxZ7 l ix p ax ay az) then true else !b1 then true else !(n1==ax&&(n2==ay&&(n3==az&&true)))
theorem rbBA (fm:Bool) (l:List Mo) (S A j ix p:Int) (qx qy qz:Int) (sf ax ay az:Int)  (dq:AV) (H :
  (N.okOff l ix true false) /\
  (N.okC l ix p) /\
  ∃ (b1:Bool),
  ((¬(¬((N.pox l ix p=ax)/\((N.poy l ix p=ay)/\(N.poz l ix p=az)))))->(Ev M1 (Conf.pure 23 [ag [vi (N.s5P ax ay az l).x,vi (N.s5P ax ay az l).y,vi (N.s5P ax ay az l).z],AV.vec false 9 []]) (vb b1) [])) /\
  ∃ (n1:Int) (n2:Int) (n3:Int),
  ((¬((¬((N.pox l ix p=ax)/\((N.poy l ix p=ay)/\(N.poz l ix p=az))))\/(¬(b1=true))))->(Ev M1 (Conf.pure 21 [ag [vi (N.s5P ax ay az l).x,vi (N.s5P ax ay az l).y,vi (N.s5P ax ay az l).z],AV.vec false 9 []]) (ag [vi n1,vi n2,vi n3]) [])) /\
  ((((¬((N.pox l ix p=ax)/\((N.poy l ix p=ay)/\(N.poz l ix p=az))))\/(¬(b1=true)))\/(¬((n1=ax)/\((n2=ay)/\(n3=az)))))->vb false=dq) /\
  (¬(((¬((N.pox l ix p=ax)/\((N.poy l ix p=ay)/\(N.poz l ix p=az))))\/(¬(b1=true)))\/(¬((n1=ax)/\((n2=ay)/\(n3=az)))))->Zgz l S A j sf ix ax ay az (Zaj dq))) :
 rbBA_at fm l S A j ix p qx qy qz sf ax ay az (Zaj dq):=by
 unfold rbBA_at
 obtain ⟨k1,k2,b1,k6,n1,n2,n3,k10,H⟩:=H
 refine Zac (G:=Zab kp4 [(13,1,.call (vb false) none),(13,4,.call (ag [vi (N.pox l ix p),vi (N.poy l ix p),vi (N.poz l ix p)]) none),(13,11,.call ((Zf7 ax ay az l)) none),(13,13,.call (AV.vec false 9 []) none),(13,14,.call (vb b1) none),(13,20,.call ((Zf7 ax ay az l)) none),(13,22,.call (AV.vec false 9 []) none),(13,23,.call (ag [vi n1,vi n2,vi n3]) none)] [(13,[1022,1013,1004,1001])]) 1 [] ⟨(atC (cd Try.f4) [1,1,1,1,1,1,1,1,0,1]),[(2,AV.int IntKind.u16 sf),(7,AV.vec false 9 (List.map Mo.a l)),(8,AV.eptr 3 [ag [vi S,vi A,vi j]] 0 0),(12,AV.eptr 3 [(zCxZ8 ax ay az)] 0 0),(13,vi ix),(83,vb (zCxZ9 l ix p ax ay az b1 n1 n2 n3))],[⟨[ag [AV.vec fm 9 (List.map Mo.a l),vi S,vi A,vi j,vi ix,vi p,AV.vnil,vi 0,vb false,vb false,vb true,AV.vnil,vi qx,vi qy,vi qz]],15,0,false,false⟩],_,[],[⟨true,true,10,[AV.ptr 0 0 0 0],[⟨[ag [AV.vec fm 9 (List.map Mo.a l),vi S,vi A,vi j,vi ix,vi p,AV.vnil,vi 0,vb false,vb false,vb true,AV.vnil,vi qx,vi qy,vi qz]],15,0,false,false⟩],vb false,[⟨[ag [AV.vec fm 9 (List.map Mo.a l),vi S,vi A,vi j,vi ix,vi p,AV.vnil,vi 0,vb false,vb false,vb true,AV.vnil,vi qx,vi qy,vi qz]],15,0,false,false⟩]⟩,⟨true,true,13,[AV.ptr 0 0 0 0],[⟨[ag [AV.vec fm 9 (List.map Mo.a l),vi S,vi A,vi j,vi ix,vi p,AV.vnil,vi 0,vb false,vb false,vb true,AV.vnil,vi qx,vi qy,vi qz]],15,0,false,false⟩],ag [vi (N.pox l ix p),vi (N.poy l ix p),vi (N.poz l ix p)],[⟨[ag [AV.vec fm 9 (List.map Mo.a l),vi S,vi A,vi j,vi ix,vi p,AV.vnil,vi 0,vb false,vb false,vb true,AV.vnil,vi qx,vi qy,vi qz]],15,0,false,false⟩]⟩,⟨(!(zCxZ7 l ix p ax ay az))==false&&true&&true,false,24,[AV.vec false 9 (List.map Mo.a l),(zCxZ8 ax ay az)],[],(Zf7 ax ay az l),[]⟩,⟨(!(zCxZ7 l ix p ax ay az))==false&&true&&true,true,19,[AV.ptr 0 0 0 0],[⟨[ag [AV.vec fm 9 (List.map Mo.a l),vi S,vi A,vi j,vi ix,vi p,AV.vnil,vi 0,vb false,vb false,vb true,AV.vnil,vi qx,vi qy,vi qz]],15,0,false,false⟩],AV.vec false 9 [],[⟨[ag [AV.vec fm 9 (List.map Mo.a l),vi S,vi A,vi j,vi ix,vi p,AV.vnil,vi 0,vb false,vb false,vb true,AV.vnil,vi qx,vi qy,vi qz]],15,0,false,false⟩]⟩,⟨(!(zCxZ7 l ix p ax ay az))==false&&true&&true,false,23,[(Zf7 ax ay az l),AV.vec false 9 []],[],vb b1,[]⟩,⟨(bif !(zCxZ7 l ix p ax ay az) then true else !b1)==false&&true&&true,false,24,[AV.vec false 9 (List.map Mo.a l),(zCxZ8 ax ay az)],[],(Zf7 ax ay az l),[]⟩,⟨(bif !(zCxZ7 l ix p ax ay az) then true else !b1)==false&&true&&true,true,19,[AV.ptr 0 0 0 0],[⟨[ag [AV.vec fm 9 (List.map Mo.a l),vi S,vi A,vi j,vi ix,vi p,AV.vnil,vi 0,vb false,vb false,vb true,AV.vnil,vi qx,vi qy,vi qz]],15,0,false,false⟩],AV.vec false 9 [],[⟨[ag [AV.vec fm 9 (List.map Mo.a l),vi S,vi A,vi j,vi ix,vi p,AV.vnil,vi 0,vb false,vb false,vb true,AV.vnil,vi qx,vi qy,vi qz]],15,0,false,false⟩]⟩,⟨(bif !(zCxZ7 l ix p ax ay az) then true else !b1)==false&&true&&true,false,21,[(Zf7 ax ay az l),AV.vec false 9 []],[],ag [vi n1,vi n2,vi n3],[]⟩]⟩ (by kernel_rfl) b0 q0 (cc (fun _=>(@evo10_a fm l S A j ix p false true qx qy qz k1)) (cc (fun _=>(@ZfS fm l S A j ix p 0 false false true qx qy qz k2)) (cc (fun hc=>((@ev24 ax ay az false l):Ev M1 (Conf.pure 24 [AV.vec false 9 (List.map Mo.a l),(zCxZ8 ax ay az)]) ((Zf7 ax ay az l)) [])) (cc (fun hc=>((@evo19_a fm l S A j ix p false true qx qy qz k2):Ev M1 (Conf.own 19 [AV.ptr 0 0 0 0] [⟨[ag [AV.vec fm 9 (List.map Mo.a l),vi S,vi A,vi j,vi ix,vi p,AV.vnil,vi 0,vb false,vb false,vb true,AV.vnil,vi qx,vi qy,vi qz]],15,0,false,false⟩]) (AV.vec false 9 []) [⟨[ag [AV.vec fm 9 (List.map Mo.a l),vi S,vi A,vi j,vi ix,vi p,AV.vnil,vi 0,vb false,vb false,vb true,AV.vnil,vi qx,vi qy,vi qz]],15,0,false,false⟩])) (cc (fun hc=>((k6 ((i_at (i_at (i_bf (Zay (Zau i_eq (Zau i_eq (i_at i_eq))))))).1 hc)):Ev M1 (Conf.pure 23 [(Zf7 ax ay az l),AV.vec false 9 []]) (vb b1) [])) (cc (fun hc=>((@ev24 ax ay az false l):Ev M1 (Conf.pure 24 [AV.vec false 9 (List.map Mo.a l),(zCxZ8 ax ay az)]) ((Zf7 ax ay az l)) [])) (cc (fun hc=>((@evo19_a fm l S A j ix p false true qx qy qz k2):Ev M1 (Conf.own 19 [AV.ptr 0 0 0 0] [⟨[ag [AV.vec fm 9 (List.map Mo.a l),vi S,vi A,vi j,vi ix,vi p,AV.vnil,vi 0,vb false,vb false,vb true,AV.vnil,vi qx,vi qy,vi qz]],15,0,false,false⟩]) (AV.vec false 9 []) [⟨[ag [AV.vec fm 9 (List.map Mo.a l),vi S,vi A,vi j,vi ix,vi p,AV.vnil,vi 0,vb false,vb false,vb true,AV.vnil,vi qx,vi qy,vi qz]],15,0,false,false⟩])) (cc (fun hc=>((k10 ((i_at (i_at (i_bf (ZaD (Zay (Zau i_eq (Zau i_eq (i_at i_eq)))) (Zay (Zas _)))))).1 hc)):Ev M1 (Conf.pure 21 [(Zf7 ax ay az l),AV.vec false 9 []]) (ag [vi n1,vi n2,vi n3]) [])) c0)))))))) ?_
 rcases xq H with ⟨d12,H⟩|⟨d12,H⟩
 ·exact Zap (G:=Zab kp4 [] []) 1000 [true] (asm:=[(zCxZ9 l ix p ax ay az b1 n1 n2 n3)==true]) (vb false) (by kernel_rfl) (bc (Zam ((ZaD (ZaD (Zay (Zau i_eq (Zau i_eq (i_at i_eq)))) (Zay (Zas _))) (Zay (Zau i_eq (Zau i_eq (i_at i_eq))))).2 d12)) b0) q0 c0 H
 ·exact Zac (G:=Zab kp4 [] []) 3 [false] ⟨(atC (cd Try.f4) [1,1,1,1,1,1,1,1,1,0]),[(2,AV.int IntKind.u16 sf),(7,AV.vec false 9 (List.map Mo.a l)),(8,AV.eptr 3 [ag [vi S,vi A,vi j]] 0 0),(12,AV.eptr 3 [(zCxZ8 ax ay az)] 0 0),(13,vi ix),(83,vb (zCxZ9 l ix p ax ay az b1 n1 n2 n3))],[⟨[ag [AV.vec fm 9 (List.map Mo.a l),vi S,vi A,vi j,vi ix,vi p,AV.vnil,vi 0,vb false,vb false,vb true,AV.vnil,vi qx,vi qy,vi qz]],15,0,false,false⟩],[(zCxZ9 l ix p ax ay az b1 n1 n2 n3)==false],[],_⟩ (by kernel_rfl) (bc (Zal (fun h=>d12 ((ZaD (ZaD (Zay (Zau i_eq (Zau i_eq (i_at i_eq)))) (Zay (Zas _))) (Zay (Zau i_eq (Zau i_eq (i_at i_eq))))).1 h))) b0) q0 c0 (Wp.less [2,7,8,12,13] (Zan [] (by kernel_rfl) H))
noncomputable abbrev ZdD (ax:Int) (ay:Int) (az:Int) (l:List Mo):=ag [vi (N.s5P ax ay az l).x,vi (N.s5P ax ay az l).y,vi (N.s5P ax ay az l).z]
noncomputable abbrev Zgf (ax:Int) (ay:Int) (az:Int) (l:List Mo) (P:List Mo):=N.enP (N.s5P ax ay az l).x (N.s5P ax ay az l).y (N.s5P ax ay az l).z P
noncomputable abbrev zCxZ10 (l:List Mo) (ix:Int) (p:Int) (ax:Int) (ay:Int) (az:Int) (P:List Mo):=bif bif !(N.pox l ix p==ax&&(N.poy l ix p==ay&&(N.poz l ix p==az&&true))) then true else !N.coB (N.s5P ax ay az l).x (N.s5P ax ay az l).y (N.s5P ax ay az l).z P then true else !((Zgf ax ay az l P).x==ax&&((Zgf ax ay az l P).y==ay&&((Zgf ax ay az l P).z==az&&true)))
noncomputable abbrev Zge (ax:Int) (ay:Int) (az:Int):=ag [vi ax,vi ay,vi az]
noncomputable abbrev zCxZ14 (l:List Mo) (ix:Int) (p:Int) (ax:Int) (ay:Int) (az:Int) (P:List Mo):=bif !(N.pox l ix p==ax&&(N.poy l ix p==ay&&(N.poz l ix p==az&&true))) then true else !N.coB (N.s5P ax ay az l).x (N.s5P ax ay az l).y (N.s5P ax ay az l).z P
noncomputable abbrev zCxZ15 (ax:Int) (ay:Int) (az:Int) (l:List Mo) (P:List Mo):=ag [vi (Zgf ax ay az l P).x,vi (Zgf ax ay az l P).y,vi (Zgf ax ay az l P).z]
theorem rbBB (fm:Bool) (l:List Mo) (S A j ix p:Int) (qx qy qz:Int) (P:List Mo) (w:Nat) (sf ax ay az:Int)  (dq:AV) (H :
  (N.okC l ix p) /\
  ((¬(¬((N.pox l ix p=ax)/\((N.poy l ix p=ay)/\(N.poz l ix p=az)))))->(N.okDn l ix p P)) /\
  ((¬(¬((N.pox l ix p=ax)/\((N.poy l ix p=ay)/\(N.poz l ix p=az)))))->(N.Zdy P)) /\
  ((¬((¬((N.pox l ix p=ax)/\((N.poy l ix p=ay)/\(N.poz l ix p=az))))\/(¬(N.coB (N.s5P ax ay az l).x (N.s5P ax ay az l).y (N.s5P ax ay az l).z P=true))))->(N.okDn l ix p P)) /\
  ((¬((¬((N.pox l ix p=ax)/\((N.poy l ix p=ay)/\(N.poz l ix p=az))))\/(¬(N.coB (N.s5P ax ay az l).x (N.s5P ax ay az l).y (N.s5P ax ay az l).z P=true))))->(N.Zdy P)) /\
  ((((¬((N.pox l ix p=ax)/\((N.poy l ix p=ay)/\(N.poz l ix p=az))))\/(¬(N.coB (N.s5P ax ay az l).x (N.s5P ax ay az l).y (N.s5P ax ay az l).z P=true)))\/(¬(((N.enP (N.s5P ax ay az l).x (N.s5P ax ay az l).y (N.s5P ax ay az l).z P).x=ax)/\(((N.enP (N.s5P ax ay az l).x (N.s5P ax ay az l).y (N.s5P ax ay az l).z P).y=ay)/\((N.enP (N.s5P ax ay az l).x (N.s5P ax ay az l).y (N.s5P ax ay az l).z P).z=az)))))->vb false=dq) /\
  (¬(((¬((N.pox l ix p=ax)/\((N.poy l ix p=ay)/\(N.poz l ix p=az))))\/(¬(N.coB (N.s5P ax ay az l).x (N.s5P ax ay az l).y (N.s5P ax ay az l).z P=true)))\/(¬(((N.enP (N.s5P ax ay az l).x (N.s5P ax ay az l).y (N.s5P ax ay az l).z P).x=ax)/\(((N.enP (N.s5P ax ay az l).x (N.s5P ax ay az l).y (N.s5P ax ay az l).z P).y=ay)/\((N.enP (N.s5P ax ay az l).x (N.s5P ax ay az l).y (N.s5P ax ay az l).z P).z=az)))))->Zgz l S A j sf ix ax ay az (Zaj dq))) :
 rbBB_at fm l S A j ix p qx qy qz P w sf ax ay az (Zaj dq):=by
 unfold rbBB_at
 obtain ⟨k1,k4,k6,k9,k11,H⟩:=H
 refine Zac (G:=Zab kp4 [(13,1,.call (vb false) none),(13,4,.call (ag [vi (N.pox l ix p),vi (N.poy l ix p),vi (N.poz l ix p)]) none),(13,11,.call ((ZdD ax ay az l)) none),(13,13,.call (AV.vec false 9 (List.map Mo.a P)) none),(13,14,.call (vb (N.coB (N.s5P ax ay az l).x (N.s5P ax ay az l).y (N.s5P ax ay az l).z P)) none),(13,20,.call ((ZdD ax ay az l)) none),(13,22,.call (AV.vec false 9 (List.map Mo.a P)) none),(13,23,.call ((zCxZ15 ax ay az l P)) none)] [(13,[1022,1013,1004,1001])]) 1 [] ⟨(atC (cd Try.f4) [1,1,1,1,1,1,1,1,0,1]),[(2,AV.int IntKind.u16 sf),(7,AV.vec false 9 (List.map Mo.a l)),(8,AV.eptr 3 [ag [vi S,vi A,vi j]] 0 0),(12,AV.eptr 3 [(Zge ax ay az)] 0 0),(13,vi ix),(83,vb (zCxZ10 l ix p ax ay az P))],[⟨[ag [AV.vec fm 9 (List.map Mo.a l),vi S,vi A,vi j,vi ix,vi p,AV.vnil,vi 0,vb false,vb false,vb true,AV.row 1 w,vi qx,vi qy,vi qz]],15,0,false,false⟩,⟨List.map Mo.a P,9,w,true,true⟩],_,[],[⟨true,true,10,[AV.ptr 0 0 0 0],[⟨[ag [AV.vec fm 9 (List.map Mo.a l),vi S,vi A,vi j,vi ix,vi p,AV.vnil,vi 0,vb false,vb false,vb true,AV.row 1 w,vi qx,vi qy,vi qz]],15,0,false,false⟩,⟨List.map Mo.a P,9,w,true,true⟩],vb false,[⟨[ag [AV.vec fm 9 (List.map Mo.a l),vi S,vi A,vi j,vi ix,vi p,AV.vnil,vi 0,vb false,vb false,vb true,AV.row 1 w,vi qx,vi qy,vi qz]],15,0,false,false⟩,⟨List.map Mo.a P,9,w,true,true⟩]⟩,⟨true,true,13,[AV.ptr 0 0 0 0],[⟨[ag [AV.vec fm 9 (List.map Mo.a l),vi S,vi A,vi j,vi ix,vi p,AV.vnil,vi 0,vb false,vb false,vb true,AV.row 1 w,vi qx,vi qy,vi qz]],15,0,false,false⟩,⟨List.map Mo.a P,9,w,true,true⟩],ag [vi (N.pox l ix p),vi (N.poy l ix p),vi (N.poz l ix p)],[⟨[ag [AV.vec fm 9 (List.map Mo.a l),vi S,vi A,vi j,vi ix,vi p,AV.vnil,vi 0,vb false,vb false,vb true,AV.row 1 w,vi qx,vi qy,vi qz]],15,0,false,false⟩,⟨List.map Mo.a P,9,w,true,true⟩]⟩,⟨(!(N.pox l ix p==ax&&(N.poy l ix p==ay&&(N.poz l ix p==az&&true))))==false&&true&&true,false,24,[AV.vec false 9 (List.map Mo.a l),(Zge ax ay az)],[],(ZdD ax ay az l),[]⟩,⟨(!(N.pox l ix p==ax&&(N.poy l ix p==ay&&(N.poz l ix p==az&&true))))==false&&true&&true,true,19,[AV.ptr 0 0 0 0],[⟨[ag [AV.vec fm 9 (List.map Mo.a l),vi S,vi A,vi j,vi ix,vi p,AV.vnil,vi 0,vb false,vb false,vb true,AV.row 1 w,vi qx,vi qy,vi qz]],15,0,false,false⟩,⟨List.map Mo.a P,9,w,true,true⟩],AV.vec false 9 (List.map Mo.a P),[⟨[ag [AV.vec fm 9 (List.map Mo.a l),vi S,vi A,vi j,vi ix,vi p,AV.vnil,vi 0,vb false,vb false,vb true,AV.row 1 w,vi qx,vi qy,vi qz]],15,0,false,false⟩,⟨List.map Mo.a P,9,w,true,true⟩]⟩,⟨(!(N.pox l ix p==ax&&(N.poy l ix p==ay&&(N.poz l ix p==az&&true))))==false&&true&&true,false,23,[(ZdD ax ay az l),AV.vec false 9 (List.map Mo.a P)],[],vb (N.coB (N.s5P ax ay az l).x (N.s5P ax ay az l).y (N.s5P ax ay az l).z P),[]⟩,⟨(zCxZ14 l ix p ax ay az P)==false&&true&&true,false,24,[AV.vec false 9 (List.map Mo.a l),(Zge ax ay az)],[],(ZdD ax ay az l),[]⟩,⟨(zCxZ14 l ix p ax ay az P)==false&&true&&true,true,19,[AV.ptr 0 0 0 0],[⟨[ag [AV.vec fm 9 (List.map Mo.a l),vi S,vi A,vi j,vi ix,vi p,AV.vnil,vi 0,vb false,vb false,vb true,AV.row 1 w,vi qx,vi qy,vi qz]],15,0,false,false⟩,⟨List.map Mo.a P,9,w,true,true⟩],AV.vec false 9 (List.map Mo.a P),[⟨[ag [AV.vec fm 9 (List.map Mo.a l),vi S,vi A,vi j,vi ix,vi p,AV.vnil,vi 0,vb false,vb false,vb true,AV.row 1 w,vi qx,vi qy,vi qz]],15,0,false,false⟩,⟨List.map Mo.a P,9,w,true,true⟩]⟩,⟨(zCxZ14 l ix p ax ay az P)==false&&true&&true,false,21,[(ZdD ax ay az l),AV.vec false 9 (List.map Mo.a P)],[],(zCxZ15 ax ay az l P),[]⟩]⟩ (by kernel_rfl) b0 q0 (cc (fun _=>(@evo10_c fm l S A j ix p qx qy qz P w)) (cc (fun _=>(@ZdP fm l S A j ix p 0 false false true qx qy qz P w true k1)) (cc (fun hc=>((@ev24 ax ay az false l):Ev M1 (Conf.pure 24 [AV.vec false 9 (List.map Mo.a l),(Zge ax ay az)]) ((ZdD ax ay az l)) [])) (cc (fun hc=>((@evo19_c fm l S A j ix p false true qx qy qz P w (k4 ((i_at (i_at (i_bf (Zay (Zau i_eq (Zau i_eq (i_at i_eq))))))).1 hc))):Ev M1 (Conf.own 19 [AV.ptr 0 0 0 0] [⟨[ag [AV.vec fm 9 (List.map Mo.a l),vi S,vi A,vi j,vi ix,vi p,AV.vnil,vi 0,vb false,vb false,vb true,AV.row 1 w,vi qx,vi qy,vi qz]],15,0,false,false⟩,⟨List.map Mo.a P,9,w,true,true⟩]) (AV.vec false 9 (List.map Mo.a P)) [⟨[ag [AV.vec fm 9 (List.map Mo.a l),vi S,vi A,vi j,vi ix,vi p,AV.vnil,vi 0,vb false,vb false,vb true,AV.row 1 w,vi qx,vi qy,vi qz]],15,0,false,false⟩,⟨List.map Mo.a P,9,w,true,true⟩])) (cc (fun hc=>((@ev23 ((N.s5P ax ay az l).x) ((N.s5P ax ay az l).y) ((N.s5P ax ay az l).z) false P (k6 ((i_at (i_at (i_bf (Zay (Zau i_eq (Zau i_eq (i_at i_eq))))))).1 hc))):Ev M1 (Conf.pure 23 [(ZdD ax ay az l),AV.vec false 9 (List.map Mo.a P)]) (vb (N.coB (N.s5P ax ay az l).x (N.s5P ax ay az l).y (N.s5P ax ay az l).z P)) [])) (cc (fun hc=>((@ev24 ax ay az false l):Ev M1 (Conf.pure 24 [AV.vec false 9 (List.map Mo.a l),(Zge ax ay az)]) ((ZdD ax ay az l)) [])) (cc (fun hc=>((@evo19_c fm l S A j ix p false true qx qy qz P w (k9 ((i_at (i_at (i_bf (ZaD (Zay (Zau i_eq (Zau i_eq (i_at i_eq)))) (Zay (Zas _)))))).1 hc))):Ev M1 (Conf.own 19 [AV.ptr 0 0 0 0] [⟨[ag [AV.vec fm 9 (List.map Mo.a l),vi S,vi A,vi j,vi ix,vi p,AV.vnil,vi 0,vb false,vb false,vb true,AV.row 1 w,vi qx,vi qy,vi qz]],15,0,false,false⟩,⟨List.map Mo.a P,9,w,true,true⟩]) (AV.vec false 9 (List.map Mo.a P)) [⟨[ag [AV.vec fm 9 (List.map Mo.a l),vi S,vi A,vi j,vi ix,vi p,AV.vnil,vi 0,vb false,vb false,vb true,AV.row 1 w,vi qx,vi qy,vi qz]],15,0,false,false⟩,⟨List.map Mo.a P,9,w,true,true⟩])) (cc (fun hc=>((@ev21 ((N.s5P ax ay az l).x) ((N.s5P ax ay az l).y) ((N.s5P ax ay az l).z) false P (k11 ((i_at (i_at (i_bf (ZaD (Zay (Zau i_eq (Zau i_eq (i_at i_eq)))) (Zay (Zas _)))))).1 hc))):Ev M1 (Conf.pure 21 [(ZdD ax ay az l),AV.vec false 9 (List.map Mo.a P)]) ((zCxZ15 ax ay az l P)) [])) c0)))))))) ?_
 rcases xq H with ⟨d13,H⟩|⟨d13,H⟩
 ·exact Zap (G:=Zab kp4 [] []) 1000 [true] (asm:=[(zCxZ10 l ix p ax ay az P)==true]) (vb false) (by kernel_rfl) (bc (Zam ((ZaD (ZaD (Zay (Zau i_eq (Zau i_eq (i_at i_eq)))) (Zay (Zas _))) (Zay (Zau i_eq (Zau i_eq (i_at i_eq))))).2 d13)) b0) q0 c0 H
 ·exact Zac (G:=Zab kp4 [] []) 3 [false] ⟨(atC (cd Try.f4) [1,1,1,1,1,1,1,1,1,0]),[(2,AV.int IntKind.u16 sf),(7,AV.vec false 9 (List.map Mo.a l)),(8,AV.eptr 3 [ag [vi S,vi A,vi j]] 0 0),(12,AV.eptr 3 [(Zge ax ay az)] 0 0),(13,vi ix),(83,vb (zCxZ10 l ix p ax ay az P))],[⟨[ag [AV.vec fm 9 (List.map Mo.a l),vi S,vi A,vi j,vi ix,vi p,AV.vnil,vi 0,vb false,vb false,vb true,AV.row 1 w,vi qx,vi qy,vi qz]],15,0,false,false⟩,⟨List.map Mo.a P,9,w,true,true⟩],[(zCxZ10 l ix p ax ay az P)==false],[],_⟩ (by kernel_rfl) (bc (Zal (fun h=>d13 ((ZaD (ZaD (Zay (Zau i_eq (Zau i_eq (i_at i_eq)))) (Zay (Zas _))) (Zay (Zau i_eq (Zau i_eq (i_at i_eq))))).1 h))) b0) q0 c0 (Wp.less [2,7,8,12,13] (Zan [] (by kernel_rfl) H))
noncomputable abbrev ZcU (l:List Mo) (ix:Int) (ax:Int) (ay:Int) (az:Int) (sf:Int):=List.drop ((↑(N.rsL l ix ax ay az sf).length:Int)-((↑l.length:Int)-ix)).toNat (List.take (N.rsL l ix ax ay az sf).length (N.rsL l ix ax ay az sf))
noncomputable abbrev Zd0 (l:List Mo) (ix:Int) (ax:Int) (ay:Int) (az:Int) (sf:Int):=(↑(N.rsL l ix ax ay az sf).length:Int)-((↑l.length:Int)-ix)<0
noncomputable abbrev ZdZ (l:List Mo) (ix:Int) (ax:Int) (ay:Int) (az:Int) (sf:Int):=(↑(N.rsL l ix ax ay az sf).length:Int)-((↑l.length:Int)-ix)>4
noncomputable abbrev zCxZ19 (ax:Int) (ay:Int) (az:Int):=ag [vi ax,vi ay,vi az]
noncomputable abbrev zCxZ20 (S:Int) (A:Int) (j:Int):=ag [vi S,vi A,vi j]
theorem rbC (l:List Mo) (S A j sf:Int) (ix ax ay az:Int)  (dq:AV) (H :
  (-9223372036854775808<=sf/\sf<=9223372036854775807) /\
  (l.length<=1000000) /\
  ((¬N.rsE l ix ax ay az sf=0)->vb ((↑(N.rsL l ix ax ay az sf).length:Int)==0)=dq) /\
  (¬(¬N.rsE l ix ax ay az sf=0)->(-9223372036854775808<=(↑l.length:Int)-ix/\(↑l.length:Int)-ix<=9223372036854775807) /\
   (-9223372036854775808<=(↑(N.rsL l ix ax ay az sf).length:Int)-((↑l.length:Int)-ix)/\(↑(N.rsL l ix ax ay az sf).length:Int)-((↑l.length:Int)-ix)<=9223372036854775807) /\
   ((¬(((↑(N.rsL l ix ax ay az sf).length:Int)-((↑l.length:Int)-ix)<0)\/((↑(N.rsL l ix ax ay az sf).length:Int)-((↑l.length:Int)-ix)>4)))->(N.okSm (List.drop ((↑(N.rsL l ix ax ay az sf).length:Int)-((↑l.length:Int)-ix)).toNat (List.take (N.rsL l ix ax ay az sf).length (N.rsL l ix ax ay az sf))) (List.drop ix.toNat (List.take l.length l)))) /\
   ((¬((((↑(N.rsL l ix ax ay az sf).length:Int)-((↑l.length:Int)-ix)<0)\/((↑(N.rsL l ix ax ay az sf).length:Int)-((↑l.length:Int)-ix)>4))\/(¬(N.smM (List.drop ((↑(N.rsL l ix ax ay az sf).length:Int)-((↑l.length:Int)-ix)).toNat (List.take (N.rsL l ix ax ay az sf).length (N.rsL l ix ax ay az sf))) (List.drop ix.toNat (List.take l.length l))=true))))->(N.Zdy (N.rsL l ix ax ay az sf))) /\
   ((¬(((↑(N.rsL l ix ax ay az sf).length:Int)-((↑l.length:Int)-ix)<0)\/((↑(N.rsL l ix ax ay az sf).length:Int)-((↑l.length:Int)-ix)>4)))->(0<=(↑(N.rsL l ix ax ay az sf).length:Int)-((↑l.length:Int)-ix))) /\
   ((¬(((↑(N.rsL l ix ax ay az sf).length:Int)-((↑l.length:Int)-ix)<0)\/((↑(N.rsL l ix ax ay az sf).length:Int)-((↑l.length:Int)-ix)>4)))->(((↑(N.rsL l ix ax ay az sf).length:Int)-((↑l.length:Int)-ix)).toNat<=(N.rsL l ix ax ay az sf).length)) /\
   ((¬(((↑(N.rsL l ix ax ay az sf).length:Int)-((↑l.length:Int)-ix)<0)\/((↑(N.rsL l ix ax ay az sf).length:Int)-((↑l.length:Int)-ix)>4)))->(0<=ix)) /\
   ((¬(((↑(N.rsL l ix ax ay az sf).length:Int)-((↑l.length:Int)-ix)<0)\/((↑(N.rsL l ix ax ay az sf).length:Int)-((↑l.length:Int)-ix)>4)))->(ix.toNat<=l.length)) /\
   ((((((↑(N.rsL l ix ax ay az sf).length:Int)-((↑l.length:Int)-ix)<0)\/((↑(N.rsL l ix ax ay az sf).length:Int)-((↑l.length:Int)-ix)>4))\/(¬(N.smM (List.drop ((↑(N.rsL l ix ax ay az sf).length:Int)-((↑l.length:Int)-ix)).toNat (List.take (N.rsL l ix ax ay az sf).length (N.rsL l ix ax ay az sf))) (List.drop ix.toNat (List.take l.length l))=true)))\/(¬(N.coB ax ay az (N.rsL l ix ax ay az sf)=true)))->vb false=dq) /\
   (¬(((((↑(N.rsL l ix ax ay az sf).length:Int)-((↑l.length:Int)-ix)<0)\/((↑(N.rsL l ix ax ay az sf).length:Int)-((↑l.length:Int)-ix)>4))\/(¬(N.smM (List.drop ((↑(N.rsL l ix ax ay az sf).length:Int)-((↑l.length:Int)-ix)).toNat (List.take (N.rsL l ix ax ay az sf).length (N.rsL l ix ax ay az sf))) (List.drop ix.toNat (List.take l.length l))=true)))\/(¬(N.coB ax ay az (N.rsL l ix ax ay az sf)=true)))->(0<=(↑(N.rsL l ix ax ay az sf).length:Int)-((↑l.length:Int)-ix)) /\
    (0<=((↑(N.rsL l ix ax ay az sf).length:Int)-((↑l.length:Int)-ix)).toNat) /\
    (((↑(N.rsL l ix ax ay az sf).length:Int)-((↑l.length:Int)-ix)).toNat<=(N.rsL l ix ax ay az sf).length) /\
    rbD_at S A j sf (N.rsL l ix ax ay az sf) false (List.drop 0 (List.take ((↑(N.rsL l ix ax ay az sf).length:Int)-((↑l.length:Int)-ix)).toNat (N.rsL l ix ax ay az sf))) ((↑(List.drop 0 (List.take ((↑(N.rsL l ix ax ay az sf).length:Int)-((↑l.length:Int)-ix)).toNat (N.rsL l ix ax ay az sf))).length:Int)) 0 (Zaj dq)))) :
 Zgz l S A j sf ix ax ay az (Zaj dq):=by
 unfold Zgz
 obtain ⟨k1,H⟩:=H
 have w2:wi sf=sf:=wI64 k1
 obtain ⟨k3,H⟩:=H
 refine Zac (G:=Zab kp4 [(15,5,.call (tu [AV.vec false 9 (List.map Mo.a (N.rsL l ix ax ay az sf)),vi (N.rsE l ix ax ay az sf)]) none)] []) 4 [] ⟨(atC (cd Try.f4) [1,1,1,1,1,1,1,1,1,1,0,1]),[(2,AV.int IntKind.u16 sf),(7,AV.vec false 9 (List.map Mo.a l)),(8,AV.eptr 3 [(zCxZ20 S A j)] 0 0),(12,AV.eptr 3 [(zCxZ19 ax ay az)] 0 0),(13,vi ix),(14,AV.vec false 9 (List.map Mo.a (N.rsL l ix ax ay az sf))),(94,vb (N.rsE l ix ax ay az sf != 0))],[],_,[],[pc 25 [AV.vec false 9 (List.map Mo.a l),vi ix,(zCxZ19 ax ay az),vi (wi sf)] (tu [AV.vec false 9 (List.map Mo.a (N.rsL l ix ax ay az sf)),vi (N.rsE l ix ax ay az sf)])]⟩ (by kernel_rfl) b0 q0 (ce (by (try rw [w2]);all_goals exact (@ev25 false l ix ax ay az sf k3)) c0) ?_
 rcases xq H with ⟨d5,H⟩|⟨d5,H⟩
 ·have w6:(List.map Mo.a (N.rsL l ix ax ay az sf)).length=(N.rsL l ix ax ay az sf).length:=List.length_map ..
  exact Zap (G:=Zab kp4 [] []) 1000 [true] (vb ((↑(List.map Mo.a (N.rsL l ix ax ay az sf)).length:Int)==0)) (by kernel_rfl) (bc (Zam (i_ne.2 d5)) b0) q0 c0 (by (try rw [w6]);all_goals exact H)
 ·have w7:(List.map Mo.a (N.rsL l ix ax ay az sf)).length=(N.rsL l ix ax ay az sf).length:=List.length_map ..
  have w8:(List.map Mo.a l).length=l.length:=List.length_map ..
  obtain ⟨k9,H⟩:=H
  have w10:wi ((↑l.length:Int)-ix)=(↑l.length:Int)-ix:=wI64 k9
  obtain ⟨k11,H⟩:=H
  have w12:wi ((↑(N.rsL l ix ax ay az sf).length:Int)-((↑l.length:Int)-ix))=(↑(N.rsL l ix ax ay az sf).length:Int)-((↑l.length:Int)-ix):=wI64 k11
  have w13:List.take (N.rsL l ix ax ay az sf).length (List.map Mo.a (N.rsL l ix ax ay az sf))=List.map Mo.a (List.take (N.rsL l ix ax ay az sf).length (N.rsL l ix ax ay az sf)):=(ZdL rfl)
  have w14:List.drop ((↑(N.rsL l ix ax ay az sf).length:Int)-((↑l.length:Int)-ix)).toNat (List.map Mo.a (List.take (N.rsL l ix ax ay az sf).length (N.rsL l ix ax ay az sf)))=List.map Mo.a (ZcU l ix ax ay az sf):=(ZdM rfl)
  have w15:List.take l.length (List.map Mo.a l)=List.map Mo.a (List.take l.length l):=(ZdL rfl)
  have w16:List.drop ix.toNat (List.map Mo.a (List.take l.length l))=List.map Mo.a (List.drop ix.toNat (List.take l.length l)):=(ZdM rfl)
  have i17:((bif decide (wi ((↑(List.map Mo.a (N.rsL l ix ax ay az sf)).length:Int)-wi ((↑(List.map Mo.a l).length:Int)-ix))<0) then true else decide (wi ((↑(List.map Mo.a (N.rsL l ix ax ay az sf)).length:Int)-wi ((↑(List.map Mo.a l).length:Int)-ix))>4))==false&&true&&true)=true ↔ (¬((Zd0 l ix ax ay az sf)\/(ZdZ l ix ax ay az sf))):=(by (try rw [w7]);(try rw [w8]);(try rw [w10]);(try rw [w12]);all_goals exact (i_at (i_at (i_bf (ZaD Zad Zad)))))
  obtain ⟨k18,H⟩:=H
  have i19:((bif bif decide (wi ((↑(List.map Mo.a (N.rsL l ix ax ay az sf)).length:Int)-wi ((↑(List.map Mo.a l).length:Int)-ix))<0) then true else decide (wi ((↑(List.map Mo.a (N.rsL l ix ax ay az sf)).length:Int)-wi ((↑(List.map Mo.a l).length:Int)-ix))>4) then true else !N.smM (ZcU l ix ax ay az sf) (List.drop ix.toNat (List.take l.length l)))==false&&true&&true)=true ↔ (¬(((Zd0 l ix ax ay az sf)\/(ZdZ l ix ax ay az sf))\/(¬(N.smM (ZcU l ix ax ay az sf) (List.drop ix.toNat (List.take l.length l))=true)))):=(by (try rw [w7]);(try rw [w8]);(try rw [w10]);(try rw [w12]);all_goals exact (i_at (i_at (i_bf (ZaD (ZaD Zad Zad) (Zay (Zas _)))))))
  obtain ⟨k20,H⟩:=H
  have i21:(!((bif decide (wi ((↑(List.map Mo.a (N.rsL l ix ax ay az sf)).length:Int)-wi ((↑(List.map Mo.a l).length:Int)-ix))<0) then true else decide (wi ((↑(List.map Mo.a (N.rsL l ix ax ay az sf)).length:Int)-wi ((↑(List.map Mo.a l).length:Int)-ix))>4))==false&&true)||decide (0<=wi ((↑(List.map Mo.a (N.rsL l ix ax ay az sf)).length:Int)-wi ((↑(List.map Mo.a l).length:Int)-ix))))=true ↔ ((¬((Zd0 l ix ax ay az sf)\/(ZdZ l ix ax ay az sf)))->(0<=(↑(N.rsL l ix ax ay az sf).length:Int)-((↑l.length:Int)-ix))):=(by (try rw [w7]);(try rw [w8]);(try rw [w10]);(try rw [w12]);all_goals exact (Zdf (i_at (i_bf (ZaD Zad Zad))) Zad))
  obtain ⟨k22,H⟩:=H
  have i23:(!((bif decide (wi ((↑(List.map Mo.a (N.rsL l ix ax ay az sf)).length:Int)-wi ((↑(List.map Mo.a l).length:Int)-ix))<0) then true else decide (wi ((↑(List.map Mo.a (N.rsL l ix ax ay az sf)).length:Int)-wi ((↑(List.map Mo.a l).length:Int)-ix))>4))==false&&true)||decide ((wi ((↑(List.map Mo.a (N.rsL l ix ax ay az sf)).length:Int)-wi ((↑(List.map Mo.a l).length:Int)-ix))).toNat<=(List.map Mo.a (N.rsL l ix ax ay az sf)).length))=true ↔ ((¬((Zd0 l ix ax ay az sf)\/(ZdZ l ix ax ay az sf)))->(((↑(N.rsL l ix ax ay az sf).length:Int)-((↑l.length:Int)-ix)).toNat<=(N.rsL l ix ax ay az sf).length)):=(by (try rw [w7]);(try rw [w8]);(try rw [w10]);(try rw [w12]);all_goals exact (Zdf (i_at (i_bf (ZaD Zad Zad))) Zad))
  obtain ⟨k24,H⟩:=H
  have i25:(!((bif decide (wi ((↑(List.map Mo.a (N.rsL l ix ax ay az sf)).length:Int)-wi ((↑(List.map Mo.a l).length:Int)-ix))<0) then true else decide (wi ((↑(List.map Mo.a (N.rsL l ix ax ay az sf)).length:Int)-wi ((↑(List.map Mo.a l).length:Int)-ix))>4))==false&&true)||decide ((List.map Mo.a (N.rsL l ix ax ay az sf)).length<=(List.map Mo.a (N.rsL l ix ax ay az sf)).length))=true ↔ ((¬((Zd0 l ix ax ay az sf)\/(ZdZ l ix ax ay az sf)))->((N.rsL l ix ax ay az sf).length<=(N.rsL l ix ax ay az sf).length)):=(by (try rw [w7]);(try rw [w8]);(try rw [w10]);(try rw [w12]);all_goals exact (Zdf (i_at (i_bf (ZaD Zad Zad))) Zad))
  have i26:(!((bif decide (wi ((↑(List.map Mo.a (N.rsL l ix ax ay az sf)).length:Int)-wi ((↑(List.map Mo.a l).length:Int)-ix))<0) then true else decide (wi ((↑(List.map Mo.a (N.rsL l ix ax ay az sf)).length:Int)-wi ((↑(List.map Mo.a l).length:Int)-ix))>4))==false&&true)||decide (0<=ix))=true ↔ ((¬((Zd0 l ix ax ay az sf)\/(ZdZ l ix ax ay az sf)))->(0<=ix)):=(by (try rw [w7]);(try rw [w8]);(try rw [w10]);(try rw [w12]);all_goals exact (Zdf (i_at (i_bf (ZaD Zad Zad))) Zad))
  obtain ⟨k27,H⟩:=H
  have i28:(!((bif decide (wi ((↑(List.map Mo.a (N.rsL l ix ax ay az sf)).length:Int)-wi ((↑(List.map Mo.a l).length:Int)-ix))<0) then true else decide (wi ((↑(List.map Mo.a (N.rsL l ix ax ay az sf)).length:Int)-wi ((↑(List.map Mo.a l).length:Int)-ix))>4))==false&&true)||decide (ix.toNat<=(List.map Mo.a l).length))=true ↔ ((¬((Zd0 l ix ax ay az sf)\/(ZdZ l ix ax ay az sf)))->(ix.toNat<=l.length)):=(by (try rw [w7]);(try rw [w8]);(try rw [w10]);(try rw [w12]);all_goals exact (Zdf (i_at (i_bf (ZaD Zad Zad))) Zad))
  obtain ⟨k29,H⟩:=H
  have i30:(!((bif decide (wi ((↑(List.map Mo.a (N.rsL l ix ax ay az sf)).length:Int)-wi ((↑(List.map Mo.a l).length:Int)-ix))<0) then true else decide (wi ((↑(List.map Mo.a (N.rsL l ix ax ay az sf)).length:Int)-wi ((↑(List.map Mo.a l).length:Int)-ix))>4))==false&&true)||decide ((List.map Mo.a l).length<=(List.map Mo.a l).length))=true ↔ ((¬((Zd0 l ix ax ay az sf)\/(ZdZ l ix ax ay az sf)))->(l.length<=l.length)):=(by (try rw [w7]);(try rw [w8]);(try rw [w10]);(try rw [w12]);all_goals exact (Zdf (i_at (i_bf (ZaD Zad Zad))) Zad))
  have i31:(bif bif bif decide (wi ((↑(List.map Mo.a (N.rsL l ix ax ay az sf)).length:Int)-wi ((↑(List.map Mo.a l).length:Int)-ix))<0) then true else decide (wi ((↑(List.map Mo.a (N.rsL l ix ax ay az sf)).length:Int)-wi ((↑(List.map Mo.a l).length:Int)-ix))>4) then true else !N.smM (ZcU l ix ax ay az sf) (List.drop ix.toNat (List.take l.length l)) then true else !N.coB ax ay az (N.rsL l ix ax ay az sf))=true ↔ ((((Zd0 l ix ax ay az sf)\/(ZdZ l ix ax ay az sf))\/(¬(N.smM (ZcU l ix ax ay az sf) (List.drop ix.toNat (List.take l.length l))=true)))\/(¬(N.coB ax ay az (N.rsL l ix ax ay az sf)=true))):=(by (try rw [w7]);(try rw [w8]);(try rw [w10]);(try rw [w12]);all_goals exact (ZaD (ZaD (ZaD Zad Zad) (Zay (Zas _))) (Zay (Zas _))))
  refine Zac (G:=Zab kp4 [(19,13,.call (vb (N.smM (ZcU l ix ax ay az sf) (List.drop ix.toNat (List.take l.length l)))) none),(19,19,.call (vb (N.coB ax ay az (N.rsL l ix ax ay az sf))) none)] []) 7 [false] ⟨(atC (cd Try.f4) [1,1,1,1,1,1,1,1,1,1,1,1,0,1]),[(2,AV.int IntKind.u16 sf),(8,AV.eptr 3 [(zCxZ20 S A j)] 0 0),(14,AV.vec false 9 (List.map Mo.a (N.rsL l ix ax ay az sf))),(15,vi (wi ((↑(List.map Mo.a (N.rsL l ix ax ay az sf)).length:Int)-wi ((↑(List.map Mo.a l).length:Int)-ix)))),(126,vb (bif bif bif decide (wi ((↑(List.map Mo.a (N.rsL l ix ax ay az sf)).length:Int)-wi ((↑(List.map Mo.a l).length:Int)-ix))<0) then true else decide (wi ((↑(List.map Mo.a (N.rsL l ix ax ay az sf)).length:Int)-wi ((↑(List.map Mo.a l).length:Int)-ix))>4) then true else !N.smM (ZcU l ix ax ay az sf) (List.drop ix.toNat (List.take l.length l)) then true else !N.coB ax ay az (N.rsL l ix ax ay az sf)))],[],[(N.rsE l ix ax ay az sf != 0)==false,!((bif decide (wi ((↑(List.map Mo.a (N.rsL l ix ax ay az sf)).length:Int)-wi ((↑(List.map Mo.a l).length:Int)-ix))<0) then true else decide (wi ((↑(List.map Mo.a (N.rsL l ix ax ay az sf)).length:Int)-wi ((↑(List.map Mo.a l).length:Int)-ix))>4))==false&&true)||decide (0<=wi ((↑(List.map Mo.a (N.rsL l ix ax ay az sf)).length:Int)-wi ((↑(List.map Mo.a l).length:Int)-ix))),!((bif decide (wi ((↑(List.map Mo.a (N.rsL l ix ax ay az sf)).length:Int)-wi ((↑(List.map Mo.a l).length:Int)-ix))<0) then true else decide (wi ((↑(List.map Mo.a (N.rsL l ix ax ay az sf)).length:Int)-wi ((↑(List.map Mo.a l).length:Int)-ix))>4))==false&&true)||decide ((wi ((↑(List.map Mo.a (N.rsL l ix ax ay az sf)).length:Int)-wi ((↑(List.map Mo.a l).length:Int)-ix))).toNat<=(List.map Mo.a (N.rsL l ix ax ay az sf)).length),!((bif decide (wi ((↑(List.map Mo.a (N.rsL l ix ax ay az sf)).length:Int)-wi ((↑(List.map Mo.a l).length:Int)-ix))<0) then true else decide (wi ((↑(List.map Mo.a (N.rsL l ix ax ay az sf)).length:Int)-wi ((↑(List.map Mo.a l).length:Int)-ix))>4))==false&&true)||decide ((List.map Mo.a (N.rsL l ix ax ay az sf)).length<=(List.map Mo.a (N.rsL l ix ax ay az sf)).length),!((bif decide (wi ((↑(List.map Mo.a (N.rsL l ix ax ay az sf)).length:Int)-wi ((↑(List.map Mo.a l).length:Int)-ix))<0) then true else decide (wi ((↑(List.map Mo.a (N.rsL l ix ax ay az sf)).length:Int)-wi ((↑(List.map Mo.a l).length:Int)-ix))>4))==false&&true)||decide (0<=ix),!((bif decide (wi ((↑(List.map Mo.a (N.rsL l ix ax ay az sf)).length:Int)-wi ((↑(List.map Mo.a l).length:Int)-ix))<0) then true else decide (wi ((↑(List.map Mo.a (N.rsL l ix ax ay az sf)).length:Int)-wi ((↑(List.map Mo.a l).length:Int)-ix))>4))==false&&true)||decide (ix.toNat<=(List.map Mo.a l).length),!((bif decide (wi ((↑(List.map Mo.a (N.rsL l ix ax ay az sf)).length:Int)-wi ((↑(List.map Mo.a l).length:Int)-ix))<0) then true else decide (wi ((↑(List.map Mo.a (N.rsL l ix ax ay az sf)).length:Int)-wi ((↑(List.map Mo.a l).length:Int)-ix))>4))==false&&true)||decide ((List.map Mo.a l).length<=(List.map Mo.a l).length)],[],[⟨(bif decide (wi ((↑(List.map Mo.a (N.rsL l ix ax ay az sf)).length:Int)-wi ((↑(List.map Mo.a l).length:Int)-ix))<0) then true else decide (wi ((↑(List.map Mo.a (N.rsL l ix ax ay az sf)).length:Int)-wi ((↑(List.map Mo.a l).length:Int)-ix))>4))==false&&true&&true,false,17,[AV.vec false 9 (List.drop (wi ((↑(List.map Mo.a (N.rsL l ix ax ay az sf)).length:Int)-wi ((↑(List.map Mo.a l).length:Int)-ix))).toNat (List.take (List.map Mo.a (N.rsL l ix ax ay az sf)).length (List.map Mo.a (N.rsL l ix ax ay az sf)))),AV.vec false 9 (List.drop ix.toNat (List.take (List.map Mo.a l).length (List.map Mo.a l)))],[],vb (N.smM (ZcU l ix ax ay az sf) (List.drop ix.toNat (List.take l.length l))),[]⟩,⟨(bif bif decide (wi ((↑(List.map Mo.a (N.rsL l ix ax ay az sf)).length:Int)-wi ((↑(List.map Mo.a l).length:Int)-ix))<0) then true else decide (wi ((↑(List.map Mo.a (N.rsL l ix ax ay az sf)).length:Int)-wi ((↑(List.map Mo.a l).length:Int)-ix))>4) then true else !N.smM (ZcU l ix ax ay az sf) (List.drop ix.toNat (List.take l.length l)))==false&&true&&true,false,23,[(zCxZ19 ax ay az),AV.vec false 9 (List.map Mo.a (N.rsL l ix ax ay az sf))],[],vb (N.coB ax ay az (N.rsL l ix ax ay az sf)),[]⟩]⟩ (by kernel_rfl) (bc (Zal (fun h=>d5 (i_ne.1 h))) (bc (i21.2 k22) (bc (i23.2 k24) (bc (i25.2 (fun _=>by omega)) (bc (i26.2 k27) (bc (i28.2 k29) (bc (i30.2 (fun _=>by omega)) b0))))))) q0 (cc (fun hc=>((by (try rw [w7]);(try rw [w8]);(try rw [w10]);(try rw [w12]);(try rw [w13]);(try rw [w14]);(try rw [w15]);(try rw [w16]);all_goals exact (@ev17 false false (ZcU l ix ax ay az sf) (List.drop ix.toNat (List.take l.length l)) (k18 (i17.1 hc)))):Ev M1 (Conf.pure 17 [AV.vec false 9 (List.drop (wi ((↑(List.map Mo.a (N.rsL l ix ax ay az sf)).length:Int)-wi ((↑(List.map Mo.a l).length:Int)-ix))).toNat (List.take (List.map Mo.a (N.rsL l ix ax ay az sf)).length (List.map Mo.a (N.rsL l ix ax ay az sf)))),AV.vec false 9 (List.drop ix.toNat (List.take (List.map Mo.a l).length (List.map Mo.a l)))]) (vb (N.smM (ZcU l ix ax ay az sf) (List.drop ix.toNat (List.take l.length l)))) [])) (cc (fun hc=>((@ev23 ax ay az false (N.rsL l ix ax ay az sf) (k20 (i19.1 hc))):Ev M1 (Conf.pure 23 [(zCxZ19 ax ay az),AV.vec false 9 (List.map Mo.a (N.rsL l ix ax ay az sf))]) (vb (N.coB ax ay az (N.rsL l ix ax ay az sf))) [])) c0)) ?_
  rcases xq H with ⟨d32,H⟩|⟨d32,H⟩
  ·exact Zap (G:=Zab kp4 [] []) 1000 [true] (vb false) (by kernel_rfl) (bc (Zam (i31.2 d32)) b0) q0 c0 H
  ·have i33:(decide (0<=wi ((↑(List.map Mo.a (N.rsL l ix ax ay az sf)).length:Int)-wi ((↑(List.map Mo.a l).length:Int)-ix))))=true ↔ (0<=(↑(N.rsL l ix ax ay az sf).length:Int)-((↑l.length:Int)-ix)):=(by (try rw [w7]);(try rw [w8]);(try rw [w10]);(try rw [w12]);all_goals exact Zad)
   obtain ⟨k34,H⟩:=H
   have i35:(decide (0<=(wi ((↑(List.map Mo.a (N.rsL l ix ax ay az sf)).length:Int)-wi ((↑(List.map Mo.a l).length:Int)-ix))).toNat))=true ↔ (0<=((↑(N.rsL l ix ax ay az sf).length:Int)-((↑l.length:Int)-ix)).toNat):=(by (try rw [w7]);(try rw [w8]);(try rw [w10]);(try rw [w12]);all_goals exact Zad)
   obtain ⟨k36,H⟩:=H
   have i37:(decide ((wi ((↑(List.map Mo.a (N.rsL l ix ax ay az sf)).length:Int)-wi ((↑(List.map Mo.a l).length:Int)-ix))).toNat<=(List.map Mo.a (N.rsL l ix ax ay az sf)).length))=true ↔ (((↑(N.rsL l ix ax ay az sf).length:Int)-((↑l.length:Int)-ix)).toNat<=(N.rsL l ix ax ay az sf).length):=(by (try rw [w7]);(try rw [w8]);(try rw [w10]);(try rw [w12]);all_goals exact Zad)
   obtain ⟨k38,H⟩:=H
   have w39:List.take ((↑(N.rsL l ix ax ay az sf).length:Int)-((↑l.length:Int)-ix)).toNat (List.map Mo.a (N.rsL l ix ax ay az sf))=List.map Mo.a (List.take ((↑(N.rsL l ix ax ay az sf).length:Int)-((↑l.length:Int)-ix)).toNat (N.rsL l ix ax ay az sf)):=(ZdL rfl)
   have w40:List.drop 0 (List.map Mo.a (List.take ((↑(N.rsL l ix ax ay az sf).length:Int)-((↑l.length:Int)-ix)).toNat (N.rsL l ix ax ay az sf)))=List.map Mo.a (List.drop 0 (List.take ((↑(N.rsL l ix ax ay az sf).length:Int)-((↑l.length:Int)-ix)).toNat (N.rsL l ix ax ay az sf))):=(ZdM rfl)
   have w41:(List.map Mo.a (List.drop 0 (List.take ((↑(N.rsL l ix ax ay az sf).length:Int)-((↑l.length:Int)-ix)).toNat (N.rsL l ix ax ay az sf)))).length=(List.drop 0 (List.take ((↑(N.rsL l ix ax ay az sf).length:Int)-((↑l.length:Int)-ix)).toNat (N.rsL l ix ax ay az sf))).length:=List.length_map ..
   exact Zac (G:=Zab kp4 [] []) 1000 [false] ⟨(atC (cd Try.f4) [1,1,1,1,1,1,1,1,1,1,1,1,1,0,1,0,0]),[(2,AV.int IntKind.u16 sf),(8,AV.eptr 3 [(zCxZ20 S A j)] 0 0),(14,AV.vec false 9 (List.map Mo.a (N.rsL l ix ax ay az sf))),(129,AV.vec false 9 (List.drop 0 (List.take (wi ((↑(List.map Mo.a (N.rsL l ix ax ay az sf)).length:Int)-wi ((↑(List.map Mo.a l).length:Int)-ix))).toNat (List.map Mo.a (N.rsL l ix ax ay az sf))))),(130,vi (↑(List.drop 0 (List.take (wi ((↑(List.map Mo.a (N.rsL l ix ax ay az sf)).length:Int)-wi ((↑(List.map Mo.a l).length:Int)-ix))).toNat (List.map Mo.a (N.rsL l ix ax ay az sf)))).length:Int)),(131,vi 0)],[],_,[],_⟩ (by kernel_rfl) (bc (Zal (fun h=>d32 (i31.1 h))) (bc (i33.2 k34) (bc (i35.2 k36) (bc (i37.2 k38) b0)))) q0 c0 (by (try rw [w7]);(try rw [w8]);(try rw [w10]);(try rw [w12]);(try rw [w39]);(try rw [w40]);(try rw [w41]);all_goals exact H)
noncomputable abbrev zCxZ21 (G:List Mo) (i:Int):=ag [vi (G.getD i.toNat default).x,vi (G.getD i.toNat default).y,vi (G.getD i.toNat default).z,vi (G.getD i.toNat default).u,vi (G.getD i.toNat default).v,vi (G.getD i.toNat default).w,vi (G.getD i.toNat default).r,vi (G.getD i.toNat default).t,vi (G.getD i.toNat default).b]
noncomputable abbrev zCxZ22 (G:List Mo) (i:Int) (sf:Int):=bif !bif (G.getD i.toNat default).x==(G.getD i.toNat default).u then (G.getD i.toNat default).y==(G.getD i.toNat default).v else false then bif (G.getD i.toNat default).z != wi sf then true else (G.getD i.toNat default).w != wi sf else false
noncomputable abbrev zCxZ23 (S:Int) (A:Int) (j:Int):=ag [vi S,vi A,vi j]
theorem rbD (S A j sf:Int) (R:List Mo) (g:Bool) (G:List Mo) (n i:Int)  (dq:AV) (H :
  ((i<n)->(0<=i) /\
   (i.toNat<G.length) /\
   ((((¬(((G.getD i.toNat default).x=(G.getD i.toNat default).u)/\((G.getD i.toNat default).y=(G.getD i.toNat default).v)))/\((¬(G.getD i.toNat default).z=IntKind.i64.wrap sf)\/(¬(G.getD i.toNat default).w=IntKind.i64.wrap sf)))\/(((G.getD i.toNat default).r=0)/\((G.getD i.toNat default).w<1000)))->vb false=dq) /\
   (¬(((¬(((G.getD i.toNat default).x=(G.getD i.toNat default).u)/\((G.getD i.toNat default).y=(G.getD i.toNat default).v)))/\((¬(G.getD i.toNat default).z=IntKind.i64.wrap sf)\/(¬(G.getD i.toNat default).w=IntKind.i64.wrap sf)))\/(((G.getD i.toNat default).r=0)/\((G.getD i.toNat default).w<1000)))->(-9223372036854775808<=i+1/\i+1<=9223372036854775807) /\
    rbD_at S A j sf R g G n (i+1) (Zaj dq))) /\
  (¬(i<n)->Zfx R S A j (Zaj dq))) :
 rbD_at S A j sf R g G n i (Zaj dq):=by
 unfold rbD_at
 rcases xq H with ⟨d2,H⟩|⟨d2,H⟩
 ·obtain ⟨k4,H⟩:=H
  have w5:(List.map Mo.a G).length=G.length:=List.length_map ..
  have i6:(decide (i.toNat<(List.map Mo.a G).length))=true ↔ (i.toNat<G.length):=(by (try rw [w5]);all_goals exact Zad)
  obtain ⟨k7,H⟩:=H
  refine Zac (G:=Zab kp4 [(23,1,.elem ((zCxZ21 G i)))] []) 13 [true] ⟨(atC (cd Try.f4) [1,1,1,1,1,1,1,1,1,1,1,1,1,0,1,0,0,1,1,0,0,1,1,1]),[(2,AV.int IntKind.u16 sf),(8,AV.eptr 3 [(zCxZ23 S A j)] 0 0),(14,AV.vec false 9 (List.map Mo.a R)),(129,AV.vec g 9 (List.map Mo.a G)),(130,vi n),(131,vi i),(179,vb (bif bif !bif (G.getD i.toNat default).x==(G.getD i.toNat default).u then (G.getD i.toNat default).y==(G.getD i.toNat default).v else false then bif (G.getD i.toNat default).z != wi sf then true else (G.getD i.toNat default).w != wi sf else false then true else bif (G.getD i.toNat default).r==0 then decide ((G.getD i.toNat default).w<1000) else false))],[⟨[(zCxZ21 G i)],9,0,false,false⟩],[(decide (i<n))==true,decide (0<=i),decide (i.toNat<(List.map Mo.a G).length),true,true,true,!(((G.getD i.toNat default).x==(G.getD i.toNat default).u)==true&&true)||true,!(((G.getD i.toNat default).x==(G.getD i.toNat default).u)==true&&true)||true,!((!bif (G.getD i.toNat default).x==(G.getD i.toNat default).u then (G.getD i.toNat default).y==(G.getD i.toNat default).v else false)==true&&true)||true,!(((G.getD i.toNat default).z != wi sf)==false&&((!bif (G.getD i.toNat default).x==(G.getD i.toNat default).u then (G.getD i.toNat default).y==(G.getD i.toNat default).v else false)==true&&true))||true,!((zCxZ22 G i sf)==false&&true)||true,!(((G.getD i.toNat default).r==0)==true&&((zCxZ22 G i sf)==false&&true))||true],[((List.map Mo.a G).get?Internal i.toNat=some ((zCxZ21 G i)))],_⟩ (by kernel_rfl) (bc (Zam (Zad.2 d2)) (bc (Zad.2 k4) (bc (i6.2 k7) (bc rfl (bc rfl (bc rfl (bc (Bool.or_true _) (bc (Bool.or_true _) (bc (Bool.or_true _) (bc (Bool.or_true _) (bc (Bool.or_true _) (bc (Bool.or_true _) b0)))))))))))) (qc (Zaz k7) q0) c0 ?_
  rcases xq H with ⟨d9,H⟩|⟨d9,H⟩
  ·exact Zap (G:=Zab kp4 [] []) 1000 [true] (vb false) (by kernel_rfl) (bc (Zam ((ZaD (Za9 (Zay (Za9 i_eq i_eq)) (ZaD i_ne i_ne)) (Za9 i_eq Zad)).2 d9)) b0) q0 c0 H
  ·obtain ⟨k10,H⟩:=H
   have w11:wi (i+1)=i+1:=wI64 k10
   exact Zac (G:=Zab kp4 [] []) 1000 [false] ⟨(atC (cd Try.f4) [1,1,1,1,1,1,1,1,1,1,1,1,1,0,1,0,0]),[(2,AV.int IntKind.u16 sf),(8,AV.eptr 3 [(zCxZ23 S A j)] 0 0),(14,AV.vec false 9 (List.map Mo.a R)),(129,AV.vec g 9 (List.map Mo.a G)),(130,vi n),(131,vi (wi (i+1)))],[⟨[(zCxZ21 G i)],9,0,false,false⟩],_,[],_⟩ (by kernel_rfl) (bc (Zal (fun h=>d9 ((ZaD (Za9 (Zay (Za9 i_eq i_eq)) (ZaD i_ne i_ne)) (Za9 i_eq Zad)).1 h))) b0) q0 c0 (by (try rw [w11]);all_goals exact Zan [] (by kernel_rfl) H)
 ·exact Zac (G:=Zab kp4 [] []) 6 [false] ⟨(atC (cd Try.f4) [1,1,1,1,1,1,1,1,1,1,1,1,1,1,0]),[(2,AV.int IntKind.u16 sf),(8,AV.eptr 3 [(zCxZ23 S A j)] 0 0),(14,AV.vec false 9 (List.map Mo.a R)),(129,AV.vec g 9 (List.map Mo.a G)),(130,vi n),(131,vi i),(132,vb (decide (i<n)))],[],_,[],_⟩ (by kernel_rfl) (bc (Zal (fun h=>d2 (Zad.1 h))) b0) q0 c0 (Wp.less [8,14] H)
theorem rbEa (R:List Mo) (S A j:Int) (iy py rx ry rz:Int) (dq:AV) (H :
  (N.okCk R S A j) /\
  (Ev M1 (Conf.own 16 [AV.ptr 0 0 0 0,vi (↑(List.map Mo.a R).length:Int)] [{ elems:=[ag [AV.vec false 9 (List.map Mo.a R),vi S,vi A,vi j,vi (N.skI R 0),vi 0,AV.vnil,vi 0,vb false,vb false,vb false,AV.vnil,vi (N.q0x R),vi (N.q0y R),vi (N.q0z R)]],es:=15,ver:=0,frozen:=false,clean:=false }]) (vb true) [{ elems:=[ag [AV.vec false 9 (List.map Mo.a R),vi S,vi A,vi j,vi iy,vi py,AV.vnil,vi 0,vb false,vb false,vb false,AV.vnil,vi rx,vi ry,vi rz]],es:=15,ver:=0,frozen:=false,clean:=false }]) /\
  (N.okC R iy py) /\
  (N.Zdy R) /\
  ∃ (b1:Bool),
  (Ev M1 (Conf.pure 17 [AV.vec false 9 [],AV.vec false 9 (List.map Mo.a (N.lng R))]) (vb b1) []) /\
  vb b1=dq) :
 Zfx R S A j (Zaj dq):=by
 unfold Zfx
 obtain ⟨k1,k2,k3,k4,b1,k5,H⟩:=H
 exact Zap (G:=Zab kp4 [(28,2,.call (tu [AV.ptr 0 0 0 0,vi 0]) (some [⟨[ag [AV.vec false 9 (List.map Mo.a R),vi S,vi A,vi j,vi (N.skI R 0),vi 0,AV.vnil,vi 0,vb false,vb false,vb false,AV.vnil,vi (N.q0x R),vi (N.q0y R),vi (N.q0z R)]],15,0,false,false⟩])),(31,3,(.call (.bool true) (some [⟨[.agg [.vec false 9 (R.map Mo.a),.int .i64 S,.int .i64 A,.int .i64 j,.int .i64 iy,.int .i64 py,.vnil,.int .i64 0,.bool false,.bool false,.bool false,.vnil,.int .i64 rx,.int .i64 ry,.int .i64 rz]],15,0,false,false⟩]):Ans)),(31,6,.call (AV.vec false 9 []) none),(31,8,.call (AV.vec false 9 (List.map Mo.a (N.lng R))) none),(31,9,.call (vb b1) none)] []) 1000 [false] (calls:=[⟨true,true,9,[AV.vec false 9 (List.map Mo.a R),ag [vi S,vi A,vi j]],[],tu [AV.ptr 0 0 0 0,vi 0],[⟨[ag [AV.vec false 9 (List.map Mo.a R),vi S,vi A,vi j,vi (N.skI R 0),vi 0,AV.vnil,vi 0,vb false,vb false,vb false,AV.vnil,vi (N.q0x R),vi (N.q0y R),vi (N.q0z R)]],15,0,false,false⟩]⟩,⟨true,true,16,[AV.ptr 0 0 0 0,vi (↑(List.map Mo.a R).length:Int)],[⟨[ag [AV.vec false 9 (List.map Mo.a R),vi S,vi A,vi j,vi (N.skI R 0),vi 0,AV.vnil,vi 0,vb false,vb false,vb false,AV.vnil,vi (N.q0x R),vi (N.q0y R),vi (N.q0z R)]],15,0,false,false⟩],vb true,[⟨[ag [AV.vec false 9 (List.map Mo.a R),vi S,vi A,vi j,vi iy,vi py,AV.vnil,vi 0,vb false,vb false,vb false,AV.vnil,vi rx,vi ry,vi rz]],15,0,false,false⟩]⟩,⟨true,true,19,[AV.ptr 0 0 0 0],[⟨[ag [AV.vec false 9 (List.map Mo.a R),vi S,vi A,vi j,vi iy,vi py,AV.vnil,vi 0,vb false,vb false,vb false,AV.vnil,vi rx,vi ry,vi rz]],15,0,false,false⟩],AV.vec false 9 [],[⟨[ag [AV.vec false 9 (List.map Mo.a R),vi S,vi A,vi j,vi iy,vi py,AV.vnil,vi 0,vb false,vb false,vb false,AV.vnil,vi rx,vi ry,vi rz]],15,0,false,false⟩]⟩,⟨true,false,20,[AV.vec false 9 (List.map Mo.a R)],[],AV.vec false 9 (List.map Mo.a (N.lng R)),[]⟩,⟨true,false,17,[AV.vec false 9 [],AV.vec false 9 (List.map Mo.a (N.lng R))],[],vb b1,[]⟩]) (vb b1) (by kernel_rfl) (bc rfl b0) q0 (cc (fun _=>(@evo9 false R S A j k1)) (cc (fun _=>k2) (cc (fun _=>(@evo19_a false R S A j iy py false false rx ry rz k3)) (cc (fun _=>(@ev20 false R k4)) (cc (fun _=>k5) c0))))) H
theorem rbEb (R:List Mo) (S A j:Int) (iy py rx ry rz:Int) (P:List Mo) (wy:Nat) (dq:AV) (H :
  (N.okCk R S A j) /\
  (Ev M1 (Conf.own 16 [AV.ptr 0 0 0 0,vi (↑(List.map Mo.a R).length:Int)] [{ elems:=[ag [AV.vec false 9 (List.map Mo.a R),vi S,vi A,vi j,vi (N.skI R 0),vi 0,AV.vnil,vi 0,vb false,vb false,vb false,AV.vnil,vi (N.q0x R),vi (N.q0y R),vi (N.q0z R)]],es:=15,ver:=0,frozen:=false,clean:=false }]) (vb true) [{ elems:=[ag [AV.vec false 9 (List.map Mo.a R),vi S,vi A,vi j,vi iy,vi py,AV.vnil,vi 0,vb false,vb false,vb false,AV.row 1 wy,vi rx,vi ry,vi rz]],es:=15,ver:=0,frozen:=false,clean:=false },{ elems:=List.map Mo.a P,es:=9,ver:=wy,frozen:=false,clean:=true }]) /\
  (N.okDn R iy py P) /\
  (N.Zdy R) /\
  (N.okSm P (N.lng R)) /\
  vb (N.smM P (N.lng R))=dq) :
 rbEb_at R S A j (Zaj dq):=by
 unfold rbEb_at
 obtain ⟨k1,k2,k3,k4,k5,H⟩:=H
 exact Zap (G:=Zab kp4 [(28,2,.call (tu [AV.ptr 0 0 0 0,vi 0]) (some [⟨[ag [AV.vec false 9 (List.map Mo.a R),vi S,vi A,vi j,vi (N.skI R 0),vi 0,AV.vnil,vi 0,vb false,vb false,vb false,AV.vnil,vi (N.q0x R),vi (N.q0y R),vi (N.q0z R)]],15,0,false,false⟩])),(31,3,(.call (.bool true) (some [⟨[.agg [.vec false 9 (R.map Mo.a),.int .i64 S,.int .i64 A,.int .i64 j,.int .i64 iy,.int .i64 py,.vnil,.int .i64 0,.bool false,.bool false,.bool false,.row 1 wy,.int .i64 rx,.int .i64 ry,.int .i64 rz]],15,0,false,false⟩,⟨P.map Mo.a,9,wy,false,true⟩]):Ans)),(31,6,.call (AV.vec false 9 (List.map Mo.a P)) (some [⟨[ag [AV.vec false 9 (List.map Mo.a R),vi S,vi A,vi j,vi iy,vi py,AV.vnil,vi 0,vb false,vb false,vb false,AV.row 1 wy,vi rx,vi ry,vi rz]],15,0,false,false⟩,⟨List.map Mo.a P,9,wy,true,true⟩])),(31,8,.call (AV.vec false 9 (List.map Mo.a (N.lng R))) none),(31,9,.call (vb (N.smM P (N.lng R))) none)] []) 1000 [false] (calls:=[⟨true,true,9,[AV.vec false 9 (List.map Mo.a R),ag [vi S,vi A,vi j]],[],tu [AV.ptr 0 0 0 0,vi 0],[⟨[ag [AV.vec false 9 (List.map Mo.a R),vi S,vi A,vi j,vi (N.skI R 0),vi 0,AV.vnil,vi 0,vb false,vb false,vb false,AV.vnil,vi (N.q0x R),vi (N.q0y R),vi (N.q0z R)]],15,0,false,false⟩]⟩,⟨true,true,16,[AV.ptr 0 0 0 0,vi (↑(List.map Mo.a R).length:Int)],[⟨[ag [AV.vec false 9 (List.map Mo.a R),vi S,vi A,vi j,vi (N.skI R 0),vi 0,AV.vnil,vi 0,vb false,vb false,vb false,AV.vnil,vi (N.q0x R),vi (N.q0y R),vi (N.q0z R)]],15,0,false,false⟩],vb true,[⟨[ag [AV.vec false 9 (List.map Mo.a R),vi S,vi A,vi j,vi iy,vi py,AV.vnil,vi 0,vb false,vb false,vb false,AV.row 1 wy,vi rx,vi ry,vi rz]],15,0,false,false⟩,⟨List.map Mo.a P,9,wy,false,true⟩]⟩,⟨true,true,19,[AV.ptr 0 0 0 0],[⟨[ag [AV.vec false 9 (List.map Mo.a R),vi S,vi A,vi j,vi iy,vi py,AV.vnil,vi 0,vb false,vb false,vb false,AV.row 1 wy,vi rx,vi ry,vi rz]],15,0,false,false⟩,⟨List.map Mo.a P,9,wy,false,true⟩],AV.vec false 9 (List.map Mo.a P),[⟨[ag [AV.vec false 9 (List.map Mo.a R),vi S,vi A,vi j,vi iy,vi py,AV.vnil,vi 0,vb false,vb false,vb false,AV.row 1 wy,vi rx,vi ry,vi rz]],15,0,false,false⟩,⟨List.map Mo.a P,9,wy,true,true⟩]⟩,⟨true,false,20,[AV.vec false 9 (List.map Mo.a R)],[],AV.vec false 9 (List.map Mo.a (N.lng R)),[]⟩,⟨true,false,17,[AV.vec false 9 (List.map Mo.a P),AV.vec false 9 (List.map Mo.a (N.lng R))],[],vb (N.smM P (N.lng R)),[]⟩]) (vb (N.smM P (N.lng R))) (by kernel_rfl) (bc rfl b0) q0 (cc (fun _=>(@evo9 false R S A j k1)) (cc (fun _=>k2) (cc (fun _=>(@evo19_b false R S A j iy py false false rx ry rz P wy k3)) (cc (fun _=>(@ev20 false R k4)) (cc (fun _=>(@ev17 false false P (N.lng R) k5)) c0))))) H
end Go.Av

namespace Go.Av
open Go.RowKit
mutual
def meltA (L:Heap) (fs:List Nat):AV->AV
 | .row r v=>bif fs.contains r then (match L[r]? with
  | some row=>bif row.clean then .vec false row.es row.elems else .row r v
  | none => .row r v) else .row r v
 | .agg cs => .agg (meltL L fs cs)
 | .tup cs => .tup (meltL L fs cs)
 | .any => .any | .bool b => .bool b | .int k n => .int k n | .str s => .str s | .flt b => .flt b | .nilp => .nilp | .vnil => .vnil | .nilf => .nilf | .nilm => .nilm
 | .ptr r v i j => .ptr r v i j | .eptr es xs i j => .eptr es xs i j | .vec f es xs => .vec f es xs | .ref r v lo len => .ref r v lo len | .func fn a b => .func fn a b | .mapr r => .mapr r
def meltL (L:Heap) (fs:List Nat):List AV->List AV
 | []=>[]
 | c::r=>meltA L fs c::meltL L fs r
end
mutual
def meltT (L:Heap) (fs:List Nat):AV->List Bool
 | .row r v=>bif fs.contains r then (match L[r]? with
  | some row=>[row.ver==v]
  | none=>[]) else []
 | .agg cs=>meltTL L fs cs
 | .tup cs=>meltTL L fs cs
 | _=>[]
def meltTL (L:Heap) (fs:List Nat):List AV->List Bool
 | []=>[]
 | c::r=>meltT L fs c++meltTL L fs r
end
end Go.Av

namespace Go.Av
open Go.RowKit
def purV (L:Heap) (ts:List Nat) (env:Vars):Vars:=env.map fun e=>(e.1,bif ts.contains e.1 then (pureA L e.2).getD .any else e.2)
def purB (L:Heap) (ts rs:List Nat) (env:Vars):Bool:=env.all fun e=>bif ts.contains e.1 then (pureA L e.2).isSome&&((versA L e.2).all id&&(rowsA e.2).all rs.contains) else true
theorem purV_get {L:Heap} {ts rs:List Nat}:∀ {env:Vars},purB L ts rs env=true -> ∀ t,(purV L ts env).get t=env.get t\/(pureA L (env.get t)=some ((purV L ts env).get t)/\(∀ b ∈ versA L (env.get t),b=true) /\ ∀ r ∈ rowsA (env.get t),r ∈ rs)
 | [],_,_ => .inl rfl
 | e::env,h,t=>by
  obtain ⟨k,v⟩:=e
  unfold purB at h
  rw [List.all_cons,Bool.and_eq_true] at h
  have ih:=purV_get (env:=env) h.2 t
  unfold purV at ih ⊢
  simp only [List.map_cons,Vars.get]
  cases hk:k==t with
  | false=>exact ih
  | true =>
   simp only [cond_true]
   cases hc:ts.contains k with
   | false=>exact .inl rfl
   | true =>
    have h1:=h.1
    simp only [hc,cond_true,Bool.and_eq_true,List.all_eq_true,List.contains_iff_mem,id_eq] at h1
    obtain ⟨d,hd⟩:=Option.isSome_iff_exists.1 h1.1
    right
    rw [hd]
    exact ⟨rfl,h1.2.1,h1.2.2⟩
theorem Zdm {M:Mach} (hm:(M.P ()).follows .mixedOrders=true) {fi:Fi} {k:List Item} {env env':Vars} {L L':Heap} {Q:AV->Heap->Prop} (ts rs:List Nat) (hb:purB L ts rs env=true) (he:purV L ts env=env') (hl:ZaT rs L=L')
  (h:Wp M (.run fi k env' L') Q):Wp M (.run fi k env L) Q:=by
 refine .sem fun S b a cs fn h1 h2 h3 h4 h5 h6 h7 h8 => ?_
 subst h6;subst he;subst hl
 have fr:=Zcd rs h5
 have hV:VRel ⟨S.base,S.acc,ZaT rs S.L,S.β,S.w⟩ (purV S.L ts env) a.tmps:=by
  intro t
  rcases purV_get hb t with e | ⟨e1,e2,e3⟩
  ·rw [e];exact (h7 t).mono fr.2
  ·refine .data _ _ (pure_rel (S':=⟨S.base,S.acc,ZaT rs S.L,S.β,S.w⟩) h5 rfl (fun b off hi hb=>(fr.2.imm b off hi hb).1) _ (h7 t) e1 e2 fun r hr => ?_)
   exact Zco h5 rs r (e3 r hr)
 obtain ⟨a',todo',Ds,w',β',v,L1,q1,q2,q3,q4,q5,q6,q7,q8,q9⟩:=(Zbe hm (c:=.run fi k _ _) h:ZaU M fi k _ _ Q) ⟨S.base,S.acc,ZaT rs S.L,S.β,S.w⟩ b a cs fn h1 h2 h3 h4 fr.1 rfl hV h8
 exact ⟨a',todo',Ds,w',β',v,L1,q1,q2,q3,q4,q5,q6,q7,q8,fr.2.trans q9⟩
end Go.Av

namespace Go.Av
open Go.Proofs
noncomputable def r9O:Array Oper:=match atC (cd Try.f4) [1,1,1,1,1,0,1,0,0,1,1,0,0] with
 | .code (.region _ ops _)::_=>ops
 | _ => #[]
theorem r9C:atC (cd Try.f4) [1,1,1,1,1,0,1,0,0,1,1,0,0] = .code (.region 9 r9O false) :: .inBlock 1::atC (cd Try.f4) [1,1,1,1,1,0,1,0,0,1,1,1]:=by kernel_rfl
noncomputable def r12O:Array Oper:=match atC (cd Try.f4) [1,1,1,1,1,1,1,0] with
 | .code (.region _ ops _)::_=>ops
 | _ => #[]
theorem r12C:atC (cd Try.f4) [1,1,1,1,1,1,1,0] = .code (.region 12 r12O false)::atC (cd Try.f4) [1,1,1,1,1,1,1,1]:=by kernel_rfl
theorem r9R:List.range r9O.size=[0]++1::[]:=by kernel_rfl
theorem r12R:List.range r12O.size=[0]++1::[]:=by kernel_rfl
section
variable (l:List Mo) (S A j sf k e ax ay az ix:Int) (L:Heap) (v:AV)
def rE:Vars:=[(2,.int .u16 sf),(7,.vec false 9 (l.map Mo.a)),(8,.eptr 3 [.agg [.int .i64 S,.int .i64 A,.int .i64 j]] 0 0),(10,.ptr 0 0 0 0)]
def rE2:Vars:=rE l S A j sf++[(45,.int .u8 k),(46,.int .u8 e)]
def rE3:Vars:=rE l S A j sf++[(12,.eptr 3 [.agg [.int .i64 ax,.int .i64 ay,.int .i64 az]] 0 0),(13,.int .i64 ix)]
theorem r9V:runW M1 fi4.n r9O cNo [0] [2,7,8,10,45,46,48] (rE2 l S A j sf k e) L=some (rE2 l S A j sf k e++[(48,.ptr 0 0 0 0)],L,[],[]):=by kernel_rfl
theorem r9K:ZdU r9O 1 (rE2 l S A j sf k e++[(48,.ptr 0 0 0 0)])=some (49,10,[.ptr 0 0 0 0]):=by kernel_rfl
theorem r9W:runW M1 fi4.n r9O cNo [] [2,7,8,10,45,46] ((49,v)::(rE2 l S A j sf k e++[(48,.ptr 0 0 0 0)])) L=some (rE2 l S A j sf k e,L,[],[]):=by kernel_rfl
theorem r12V:runW M1 fi4.n r12O cNo [0] [2,7,8,10,12,13,55] (rE3 l S A j sf ax ay az ix) L=some (rE3 l S A j sf ax ay az ix++[(55,.ptr 0 0 0 0)],L,[],[]):=by kernel_rfl
theorem r12K:ZdU r12O 1 (rE3 l S A j sf ax ay az ix++[(55,.ptr 0 0 0 0)])=some (56,22,[.ptr 0 0 0 0]):=by kernel_rfl
theorem r12W:runW M1 fi4.n r12O cNo [] [2,7,8,10,12,13] ((56,v)::(rE3 l S A j sf ax ay az ix++[(55,.ptr 0 0 0 0)])) L=some (rE3 l S A j sf ax ay az ix,L,[],[]):=by kernel_rfl
end
section
variable {l:List Mo} {B S A j sf:Int} {fm:Bool}
theorem rs_ticks (ht:N.okT l) (hg:N.good l S A j) (hB:B<=1000000000) {k:Int} {d:AV} (hk:k<=255)
  (hK:∀ s f,Iv l B s->s.br=false->N.PC l s->(f=none->s.P=[])->Wp M1 (.run fi4 (atC (cd Try.f4) [1,1,1,1,1,1,0]) (rE l S A j sf) (N.hq fm l S A j s f)) (Zaj d)) :
  ∀ (n:Nat) (e:Int) (s:Cs) (f:Option Nat),0<=e->k-e<=n->Iv l B s->s.br=false->N.PC l s->(f=none->s.P=[])->rbT_at l S A j sf k e (N.hq fm l S A j s f) (Zaj d):=by
 intro n
 induction n with
 | zero =>
  intro e s f h0 he hs hb hp hfP
  exact rbT _ _ _ _ _ _ _ _ _ ⟨fun y=>absurd y (by omega),fun _=>hK s f hs hb hp hfP⟩
 | succ n ih =>
  intro e s f h0 he hs hb hp hfP
  by_cases hlt:e<k
  ·refine rbT _ _ _ _ _ _ _ _ _ ⟨fun _ => .less [2,7,8,10,45,46] ?_,fun y=>absurd hlt y⟩
   rw [r9C]
   refine wp_text hm1 _ r9R (.run _ _ (r9V _ _ _ _ _ _ _ _) cB0 cP0 (.call hm1 (r9K _ _ _ _ _ _ _) (by decide) (tick_ex ht.1 hg hB hs hfP) fun v L2 ⟨e1,e2⟩ => ?_))
   subst e1;subst e2
   refine .last _ _ (r9W _ _ _ _ _ _ _ _ _) cB0 cP0 (.inBlock ?_)
   have q:Iv l B (N.Zbt l S A j s).1/\(N.Zbt l S A j s).1.br=s.br:=by
    by_cases h1:(s.br=true\/s.ix=l.length)\/s.X=none/\s.hd=true
    ·rw [tick_no h1];exact ⟨hs,rfl⟩
    ·obtain ⟨_,k2,_,_,k5⟩:=tick_ok ht hg hs (fun y=>h1 (.inl y)) fun hX hh=>h1 (.inr ⟨hX,hh⟩)
     exact ⟨k2,k5⟩
   exact rbU _ _ _ _ _ _ _ _ _ ⟨by omega,ih (e+1) _ _ (by omega) (by omega) q.1 (q.2.trans hb) (tick_pc hs hp) (tickF_P ht.1 hg hs hfP)⟩
  ·exact rbT _ _ _ _ _ _ _ _ _ ⟨fun y=>absurd y hlt,fun _=>hK s f hs hb hp hfP⟩
theorem rs_at (hl:N.okL l) {s:Cs} {f:Option Nat} {d:AV} (hs:Iv l B s)
  (h:Wp M1 (.run fi4 (atC (cd Try.f4) [1,1,1,1,1,1,1,0]) (rE3 l S A j sf (N.pox l s.ix s.p) (N.poy l s.ix s.p) (N.poz l s.ix s.p) s.ix) (N.hq fm l S A j s f)) (Zaj d)):Wp M1 (.run fi4 (atC (cd Try.f4) [1,1,1,1,1,1,0]) (rE l S A j sf) (N.hq fm l S A j s f)) (Zaj d):=by
 have hC:=iv_C hl hs
 obtain ⟨ix,p,X,k,bk,hd,br,P,q⟩:=s
 cases X with
 | none =>
  obtain ⟨hk0,hb0,_⟩:=hs.rest rfl
  simp only at hk0 hb0
  subst hk0;subst hb0
  cases f with
  | none=>exact rbKA fm l S A j ix p hd br q.x q.y q.z sf _ ⟨hC,Zdm hm1 [12] [1] (by kernel_rfl) rfl rfl (Zan [0] (by kernel_rfl) h)⟩
  | some w=>exact rbKB fm l S A j ix p hd br q.x q.y q.z P w sf _ ⟨hC,Zdm hm1 [12] [1] (by kernel_rfl) rfl rfl (Zan [0,2] (by kernel_rfl) h)⟩
 | some X =>
  cases f with
  | none=>exact rbKC fm l S A j ix p k bk hd br q.x q.y q.z X sf _ ⟨hC,Zdm hm1 [12] [1] (by kernel_rfl) rfl rfl (Zan [0] (by kernel_rfl) h)⟩
  | some w=>exact rbKD fm l S A j ix p k bk hd br q.x q.y q.z X P w sf _ ⟨hC,Zdm hm1 [12] [1] (by kernel_rfl) rfl rfl (Zan [0,2] (by kernel_rfl) h)⟩
theorem rx_narrow3 {s:Cs} {L:Heap} {k:List Item} {d:AV} {ax ay az ix:Int} (hX:s.X=none) (h:RX fm l S A j s L) (hk:∀ f:Option Nat,(f=none->s.P=[])->Wp M1 (.run fi4 k (rE3 l S A j sf ax ay az ix) (N.hq fm l S A j s f)) (Zaj d)):Wp M1 (.run fi4 k (rE3 l S A j sf ax ay az ix) L) (Zaj d):=by
 obtain ⟨ix,p,X,kk,bk,hd,br,P,q⟩:=s
 simp only at hX
 subst hX
 cases h with
 | nil hP=>exact hk none fun _=>hP
 | row w=>exact hk (some w) fun y=>nomatch y
 | nilx x hP=>exact Zan [0] (by kernel_rfl) (hk none fun _=>hP)
 | rowx x w=>exact Zan [0,2] (by kernel_rfl) (hk (some w) fun y=>nomatch y)
 | roww x w=>exact Zan [0,1] (by kernel_rfl) (hk (some w) fun y=>nomatch y)
theorem s5_q0 {ix p:Int}:N.s5P (N.pox l ix p) (N.poy l ix p) (N.poz l ix p) l=N.q0 l:=by
 unfold N.s5P N.q0
 by_cases h:(l.length:Int)=0
 ·rw [if_pos h,if_neg (by omega)]
  unfold N.pox N.poy N.poz N.po
  rw [if_pos h]
 ·rw [if_neg h,if_pos (by omega)]
theorem rs_broken {s:Cs} {f:Option Nat} {d:AV} {p0:Int} (hC:N.okC l s.ix s.p) (hP:s.P.length<=1000000000) (hk:s.k=0/\s.bk=false/\s.X=none) (hb:s.br=true) (hh:s.hd=false) (hp:N.PC l s) (hq:s.q=N.po l s.ix s.p) (hfP:f=none->s.P=[]) (h0:s.p=p0)
  (h:Zgz l S A j sf s.ix (N.pox l s.ix p0) (N.poy l s.ix p0) (N.poz l s.ix p0) (Zaj d)):Wp M1 (.run fi4 (atC (cd Try.f4) [1,1,1,1,1,1,1,1,0,0]) (rE3 l S A j sf (N.pox l s.ix p0) (N.poy l s.ix p0) (N.poz l s.ix p0) s.ix) (N.hq fm l S A j s f)) (Zaj d):=by
 subst h0
 obtain ⟨h1,h2⟩:=hp
 have hen:N.enP (N.s5P (N.pox l s.ix s.p) (N.poy l s.ix s.p) (N.poz l s.ix s.p) l).x (N.s5P (N.pox l s.ix s.p) (N.poy l s.ix s.p) (N.poz l s.ix s.p) l).y (N.s5P (N.pox l s.ix s.p) (N.poy l s.ix s.p) (N.poz l s.ix s.p) l).z s.P=N.po l s.ix s.p:=by
  rw [s5_q0,en_enP]
  show N.en (N.q0 l) s.P=_
  rw [h2,hq]
 have hco:N.coB (N.s5P (N.pox l s.ix s.p) (N.poy l s.ix s.p) (N.poz l s.ix s.p) l).x (N.s5P (N.pox l s.ix s.p) (N.poy l s.ix s.p) (N.poz l s.ix s.p) l).y (N.s5P (N.pox l s.ix s.p) (N.poy l s.ix s.p) (N.poz l s.ix s.p) l).z s.P=true:=by
  rw [s5_q0]
  exact coB_iff.2 (ch_conn h1)
 obtain ⟨ix,p,X,k,bk,hd,br,P,q⟩:=s
 simp only at hC hP hk hb hh hq hfP h hen hco
 obtain ⟨e1,e2,e3⟩:=hk
 subst e1;subst e2;subst e3;subst hb;subst hh
 have hx:(N.enP (N.s5P (N.pox l ix p) (N.poy l ix p) (N.poz l ix p) l).x (N.s5P (N.pox l ix p) (N.poy l ix p) (N.poz l ix p) l).y (N.s5P (N.pox l ix p) (N.poy l ix p) (N.poz l ix p) l).z P).x=N.pox l ix p/\(N.enP (N.s5P (N.pox l ix p) (N.poy l ix p) (N.poz l ix p) l).x (N.s5P (N.pox l ix p) (N.poy l ix p) (N.poz l ix p) l).y (N.s5P (N.pox l ix p) (N.poy l ix p) (N.poz l ix p) l).z P).y=N.poy l ix p/\(N.enP (N.s5P (N.pox l ix p) (N.poy l ix p) (N.poz l ix p) l).x (N.s5P (N.pox l ix p) (N.poy l ix p) (N.poz l ix p) l).y (N.s5P (N.pox l ix p) (N.poy l ix p) (N.poz l ix p) l).z P).z=N.poz l ix p:=by
  rw [hen];exact ⟨rfl,rfl,rfl⟩
 cases f with
 | none =>
  have hP0:=hfP rfl
  subst hP0
  have hfew:N.Zdy ([]:List Mo):=by unfold N.Zdy;simp
  refine rbBA fm l S A j ix p q.x q.y q.z sf (N.pox l ix p) (N.poy l ix p) (N.poz l ix p) _ ⟨.inl (.inl rfl),hC,_,fun _=>ev23 _ _ _ false [] hfew,_,_,_,fun _=>ev21 _ _ _ false [] hfew,fun y => ?_,fun _=>h⟩
  rcases y with (y | y) | y
  ·exact absurd ⟨rfl,rfl,rfl⟩ y
  ·exact absurd hco y
  ·exact absurd hx y
 | some w =>
  refine Zdm hm1 [] [1] (by kernel_rfl) rfl rfl (rbBB fm l S A j ix p q.x q.y q.z P w sf (N.pox l ix p) (N.poy l ix p) (N.poz l ix p) _ ⟨hC,fun _=>⟨hC,hP⟩,fun _=>hP,fun _=>⟨hC,hP⟩,fun _=>hP,fun y => ?_,fun _=>h⟩)
  rcases y with (y | y) | y
  ·exact absurd ⟨rfl,rfl,rfl⟩ y
  ·exact absurd hco y
  ·exact absurd hx y
end
theorem rs_end {R:List Mo} {S A j:Int} (hb:N.big S A j) (hck:N.okCk R S A j) (hr:N.rts R) (hT:N.TB R<=20000) (h10:R.length<=1000):Zfx R S A j (Zaj (.bool true)):=by
 obtain ⟨⟨ht,hn⟩,_,hg,_⟩:=hck
 have hD:N.D R 0 0<=400000*R.length:=by
  unfold N.D
  rw [Int.toNat_zero,List.drop_zero]
  have:=sum_le (l:=R) (c:=400000) fun i hi=>(ZbQ (ht.1.2 i hi)).2.2
  omega
 obtain ⟨n1,n2⟩:=new_ok (B:=900000000) ht (by omega)
 obtain ⟨j1,j2⟩:=new_J2 (l:=R)
 obtain ⟨s',f',⟨⟨hI,hb',hh',hJ⟩,hix,hf',_⟩,hev⟩:=finish_ex (B:=900000000) false ht.1 hg (by omega) (J:=fun s=>Iv R 900000000 s/\s.br=false/\s.hd=false/\N.J2 R s) (m:=N.m2 R) (fun s ⟨h1,h2,h3,h4⟩=>⟨h1,m2_nn h1,fun hlt=>by
   obtain ⟨k1,k2,k3,k4,k5⟩:=tick_ok ht hg h1 (by rintro (y | y);rw [h2] at y;cases y;omega) (fun _ y=>by rw [h3] at y;cases y)
   obtain ⟨q1,q2⟩:=tick_J2 ht hb hr h1 h2 h3 h4 hlt
   exact ⟨k1,⟨k2,k5.trans h2,k4.trans h3,q1⟩,q2⟩⟩) (s:=N.newS R) (f:=none) ⟨n1,rfl,rfl,j1⟩ (by omega) (fun _=>rfl)
 obtain ⟨hp0,hX'⟩:=hI.fin hix
 obtain ⟨hk',hbk',_⟩:=hI.rest hX'
 have hW:s'.P=N.lng R:=by rw [hJ.1,hix,Int.toNat_natCast,List.take_length]
 have hC:=iv_C ht.1 hI
 have hlg:=lng_len R
 have hfR:N.Zdy R:=by unfold N.Zdy;omega
 have hPl:s'.P.length<=1000000000:=by rw [hW];omega
 obtain ⟨ix',p',X',k',bk',hd',br',P',q'⟩:=s'
 simp only at hX' hk' hbk' hb' hh' hW hC hPl hf'
 subst hX';subst hk';subst hbk';subst hb';subst hh'
 have elen:(R.map Mo.a).length=R.length:=List.length_map ..
 rw [<- elen] at hev
 cases f' with
 | none =>
  have hP':=hf' rfl
  subst hP'
  refine rbEa R S A j ix' p' q'.x q'.y q'.z _ ⟨⟨⟨ht,hn⟩,hb.1,hg,fun i hi=>(hr i hi).1.1⟩,hev,hC,hfR,_,ev17 false false [] (N.lng R) ⟨by simp,by omega⟩,congrArg AV.bool ?_⟩
  unfold N.smM
  exact decide_eq_true hW
 | some w =>
  refine rbEb R S A j ix' p' q'.x q'.y q'.z P' w _ ⟨⟨⟨ht,hn⟩,hb.1,hg,fun i hi=>(hr i hi).1.1⟩,hev,⟨hC,hPl⟩,hfR,⟨hPl,by omega⟩,congrArg AV.bool ?_⟩
  unfold N.smM
  exact decide_eq_true hW
theorem rbD_loop {R G:List Mo} {S A j sf:Int} {g:Bool} (hs:0<=sf/\sf<=65535) (hG:∀ m ∈ G,N.frt sf m) (hn:G.length<=4) (hE:Zfx R S A j (Zaj (.bool true))):∀ (k:Nat) (i:Int),0<=i->G.length-i=k->rbD_at S A j sf R g G G.length i (Zaj (.bool true)):=by
 intro k
 induction k with
 | zero =>
  intro i h0 hi
  exact rbD _ _ _ _ _ _ _ _ _ _ ⟨fun y=>absurd y (by omega),fun _=>hE⟩
 | succ k ih =>
  intro i h0 hi
  refine rbD _ _ _ _ _ _ _ _ _ _ ⟨fun _=>⟨h0,by omega,fun y => ?_,fun _=>⟨by omega,ih (i+1) (by omega) (by omega)⟩⟩,fun y=>absurd (by omega) y⟩
  exfalso
  obtain ⟨h1,h2⟩:=hG (G.getD i.toNat default) (ZfL (by omega))
  rw [wI64 (by omega)] at y
  rcases y with ⟨y1,y2⟩ | y
  ·rcases h1 with h1 | h1
   ·exact y1 h1
   ·rcases y2 with y2 | y2
    ·exact y2 h1.1
    ·exact y2 h1.2
  ·exact h2 y
section
variable {l:List Mo} {S A j sf ix x y z:Int}
theorem rs_check (ht:TrOk l) (hb:N.big S A j) (hi:0<=ix/\ix<=l.length) (hs:1000<=sf/\sf<=65535) (hp:N.cd 36400 ⟨x,y,z⟩):Zgz l S A j sf ix x y z (Zaj (.bool true)):=by
 have hn:=ht.n
 refine rbC l S A j sf ix x y z _ ⟨by omega,by omega,fun hE => ?_,fun hE => ?_⟩
 ·have e:N.rsL l ix x y z sf=[]:=by unfold N.rsL;rw [if_neg hE]
  rw [e];rfl
 ·have hE:=Classical.not_not.1 hE
  obtain ⟨⟨hck,hrt⟩,hT⟩:=rs_ck ht hi hs hp hE hb
  obtain ⟨hF,_⟩:=rsF_all ht hi hs hp hE
  have hch:=rs_ch ht.t.2 hi hE
  have hln:=rsF_len l ix x y z sf
  have hsp:=Zd6 hE
  have hend:=rs_end hb hck hrt hT (by rw [hsp,List.length_append,List.length_drop];omega)
  generalize N.rsL l ix x y z sf=R at *
  generalize N.rsF l ix x y z sf=F at *
  subst hsp
  have hlen:(F++l.drop ix.toNat).length=F.length+(l.length-ix.toNat):=by rw [List.length_append,List.length_drop]
  have hfr:((F++l.drop ix.toNat).length:Int)-((l.length:Int)-ix)=F.length:=by omega
  have hfew:N.Zdy (F++l.drop ix.toNat):=by unfold N.Zdy;omega
  have hsm:N.smM (List.drop F.length (F++l.drop ix.toNat)) (l.drop ix.toNat)=true:=by
   unfold N.smM
   exact decide_eq_true (List.drop_left ..)
  have hco:N.coB x y z (F++l.drop ix.toNat)=true:=coB_iff.2 (ch_conn hch)
  have hG:List.drop 0 (List.take F.length (F++l.drop ix.toNat))=F:=by rw [List.drop_zero];exact List.take_left ..
  rw [hfr,Int.toNat_natCast,List.take_length,List.take_length,hG]
  refine ⟨by omega,by omega,fun _=>⟨by rw [List.length_drop];omega,by rw [List.length_drop];omega⟩,fun _=>hfew,fun _=>by omega,fun _=>by omega,fun _=>hi.1,fun _=>by omega,fun y => ?_,fun _=>⟨by omega,by omega,by omega,rbD_loop (by omega) (fun m hm=>(hF m hm).1) hln hend F.length 0 (Int.le_refl _) (by omega)⟩⟩
  rcases y with ((y | y) | y) | y
  ·omega
  ·omega
  ·exact absurd hsm y
  ·exact absurd hco y
end
theorem restart_law (ha:Ev M1 (.pure 8 []) (.bool true) []) (fx fy fz:Int) (fw:Bool) (W:List Wy) (S A j:Int) (k sf:Int) (hW:N.okTr fx fy fz W) (hk:0<=k/\k<=255) (hs:0<=sf/\sf<=65535) :
  Ev M1 (.pure 4 [.agg [.int .i16 fx,.int .i16 fy,.int .i16 fz,.vec fw 4 (W.map Wy.a),.int .i64 S,.int .i64 A,.int .i64 j],.int .u8 k,.int .u16 sf]) (.bool true) []:=by
 refine call4 (rbA fx fy fz fw W S A j k sf _ ⟨hW,true,ha,fun _=>⟨true,ha,rfl⟩,fun h => ?_⟩)
 have hb:N.trB W S A j=true:=Classical.byContradiction fun y=>h (.inl (.inr y))
 have hsf:1000<=sf:=Int.not_lt.1 fun y=>h (.inr y)
 obtain ⟨_,hbig⟩:=trB_iff.1 hb
 have hok:=trL_ok hW hb
 have hD:=tr_D hok
 have hg:=rts_good hbig hok.r
 obtain ⟨n1,n2⟩:=new_ok (B:=7200) hok.t hD
 refine ⟨rts_ck hbig hok.t (by have:=hok.n;omega) hok.r,?_⟩
 generalize N.trL fx fy fz W S A j=l at *
 have hT:rbT_at l S A j sf k 0 (N.hq false l S A j (N.newS l) none) (Zaj (.bool true)):=by
  refine rs_ticks hok.t hg (B:=7200) (by omega) hk.2 (fun s f hs hbr hp hfP=>rs_at hok.t.1 hs ?_) k.toNat 0 _ none (Int.le_refl _) (by omega) n1 rfl new_pc fun _=>rfl
  have hcd:N.cd 36400 ⟨N.pox l s.ix s.p,N.poy l s.ix s.p,N.poz l s.ix s.p⟩:=po_cd hok hs
  have hC:N.okC l s.ix s.p:=iv_C hok.t.1 hs
  have hbn:¬s.br=true:=by rw [hbr];decide
  have hfew:=hs.few
  have hD0:=iv_D hs
  rw [r12C]
  refine wp_text hm1 _ r12R (.run _ _ (r12V _ _ _ _ _ _ _ _ _ _) cB0 cP0 (.call hm1 (r12K _ _ _ _ _ _ _ _ _) (by decide) (break_wp hok.t.1 (by omega) hs (RM_hq hfP)) fun v L2 ⟨e1,hR⟩ => ?_))
  subst e1
  refine .last _ _ (r12W _ _ _ _ _ _ _ _ _ _ _) cB0 cP0 ?_
  obtain ⟨b1,b2⟩:=bk_pc hs hbn hp
  rw [Zgc hbn] at hR b1 b2
  refine rx_narrow3 rfl hR fun f hfP => .seq (.seq ?_)
  have hPl:(N.stP l s.ix s.p s.q.x s.q.y s.q.z s.P).length<=1000000000:=by
   unfold N.stP
   split at hfew <;> split <;> (try rw [List.length_append,List.length_singleton]) <;> omega
  exact rs_broken (s:={ s with X:=none,k:=0,bk:=false,hd:=false,br:=true,P:=N.stP l s.ix s.p s.q.x s.q.y s.q.z s.P,q:=N.po l s.ix s.p }) hC hPl ⟨rfl,rfl,rfl⟩ rfl rfl b1 b2 hfP rfl (rs_check hok hbig hs.ixr ⟨hsf,by omega⟩ hcd)
 exact Zdm hm1 [8] [0] (by kernel_rfl) rfl rfl (Zan [1] (by kernel_rfl) hT)
end Go.Av

namespace Go.Av
open Go.RowKit
def Zey (x:Nat):List Nat->List (List Nat)
 | []=>[[x]]
 | y::l=>(x::y::l)::(Zey x l).map (y :: ·)
def perms:List Nat->List (List Nat)
 | []=>[[]]
 | x::l=>(perms l).flatMap (Zey x)
theorem ZfI {x:Nat}:∀ (s t:List Nat),s++x::t ∈ Zey x (s++t)
 | [],[]=>by simp [Zey]
 | [],y::t=>by simp [Zey]
 | y::s,t=>by
  simp only [List.cons_append,Zey]
  exact List.mem_cons_of_mem _ (List.mem_map.2 ⟨_,ZfI s t,rfl⟩)
theorem perms_mem:∀ (l:List Nat) {σ:List Nat},σ.Perm l->σ ∈ perms l
 | [],σ,h=>by rw [List.Perm.eq_nil h];simp [perms]
 | x::l,σ,h=>by
  obtain ⟨s,t,rfl⟩:=List.append_of_mem (h.mem_iff.2 (List.mem_cons_self ..))
  have:(s++t).Perm l:=List.Perm.cons_inv ((List.perm_middle (a:=x) (l₁:=s) (l₂:=t)).symm.trans h)
  exact List.mem_flatMap.2 ⟨_,perms_mem l this,ZfI s t⟩
def Ahead (l:List Nat) (i j:Nat):Prop:=Zar l i<Zar l j
structure OrdOk (ops:Array Oper) (C σ:List Nat) (hot:Nat->Nat) (l:List Nat):Prop where
 edge:∀ (j:Nat) (o:Oper),ops[j]? = some o -> ∀ e ∈ o.after,Region.binds .any e=true->e.on<j/\¬Ahead l j e.on
 swap:∀ i j a b,Ahead l i j->ops[i]? = some a->ops[j]? = some b->(i ∈ C/\j ∈ C/\Zar σ i<Zar σ j)\/Zcb hot ops i j a b=true\/ZeT ops i ops.size j=true
section
variable {M:Mach} {call:Zax} {n:Nat} {ops:Array Oper} {ans:Nat->Option Ans} {Q:Exit->Act->World->Prop}
def Alts (M:Mach) (call:Zax) (n:Nat) (ops:Array Oper) (ans:Nat->Option Ans) (Q:Exit->Act->World->Prop) (C:List Nat) (hot:List Nat->Nat->Nat) (l:List Nat->List Nat) (fuel:Nat) (listed:Array Bool) (s:RS) (S:St) (a:Act) (π:List Nat):Prop:=
 ∀ σ:List Nat,σ.Perm C->π <+: σ -> ∃ rest f,Left M call n ops ans (hot σ) (Ahead (l σ)) listed rest s f/\rest.length<=fuel /\
  (∀ b ∈ f.asm,b=true)/\(∀ q ∈ f.eqs,q)/\(∀ c ∈ f.calls,c.cond=true->ZbL M c) /\
  (∀ S' a',HeapOk S'->Ext S S'->S'.L=f.L->TRel S' f.env a'.tmps->a'.tmps.size=a.tmps.size->a'.defers=a.defers->Q .normal a' S'.w)
theorem draw_any {C:List Nat} {hot:List Nat->Nat->Nat} {l:List Nat->List Nat} (hnd:C.Nodup) (hok:∀ σ:List Nat,σ.Perm C->OrdOk ops C σ (hot σ) (l σ)) :
  ∀ (fuel:Nat) (listed:Array Bool) (s:RS) (S:St) (a:Act) (π:List Nat),(∃ σ:List Nat,σ.Perm C/\π <+: σ)->(∀ c ∈ C,c ∈ π ↔ listed.getD c false=true)->Alts M call n ops ans Q C hot l fuel listed s S a π ->
  HeapOk S->S.L=s.L->TRel S s.env a.tmps->n<=a.tmps.size->wpAny (M.P ()) .any ops Q fuel listed a S.w:=by
 intro fuel
 induction fuel with
 | zero =>
  intro listed s S a π ⟨σ,p1,p2⟩ hC hA hS hL hT hn
  obtain ⟨rest,f,hl,hlen,_,_,_,hK⟩:=hA σ p1 p2
  have:rest=[]:=List.length_eq_zero_iff.1 (Nat.le_zero.1 hlen)
  subst this
  have h:=hl.run
  simp only [Zav,Option.some.injEq] at h;subst h
  refine ⟨?_,hK S a hS (Ext.refl S) hL hT rfl rfl⟩
  apply List.eq_nil_iff_forall_not_mem.2
  intro j hj
  obtain ⟨h1,o,h2,_⟩:=mem_ready.1 hj
  have:=(hl.mem j).2 ⟨(Array.getElem?_eq_some_iff.1 h2).1,h1⟩
  cases this
 | succ fuel ih =>
  intro listed s S a π ⟨σ0,p1,p2⟩ hC hA hS hL hT hn
  refine ⟨fun hnil => ?_,fun j hj => ?_⟩
  ·obtain ⟨rest,f,hl,hlen,_,_,_,hK⟩:=hA σ0 p1 p2
   have:=hl.none (hok σ0 p1).edge hnil
   subst this
   have h:=hl.run
   simp only [Zav,Option.some.injEq] at h;subst h
   exact hK S a hS (Ext.refl S) hL hT rfl rfl
  ·obtain ⟨j1,oj0,j2,_⟩:=mem_ready.1 hj
   have hjs:j<ops.size:=(Array.getElem?_eq_some_iff.1 j2).1
   have hsz:listed.size=ops.size:=by
    obtain ⟨rest,f,hl,_⟩:=hA σ0 p1 p2
    exact hl.size
   obtain ⟨π',hπ',hpre,hex,hCj⟩:∃ π':List Nat,(j ∈ C->π'=π++[j])/\(∀ σ:List Nat,π' <+: σ->π <+: σ)/\(∃ σ:List Nat,σ.Perm C/\π' <+: σ)/\(∀ c ∈ C,c ∈ π' ↔ (listed.setIfInBounds j true).getD c false=true):=by
    by_cases hjC:j ∈ C
    ·refine ⟨π++[j],fun _=>rfl,fun σ h=>(List.prefix_append π [j]).trans h,?_,fun c hc => ?_⟩
     ·obtain ⟨τ,rfl⟩:=p2
      have hjn:j ∉ π:=fun h=>by
       have:=(hC j hjC).1 h
       rw [ZcA (by omega) false true] at this
       rw [j1] at this;cases this
      have hjt:j ∈ τ:=by
       rcases List.mem_append.1 (p1.mem_iff.2 hjC) with h | h
       ·exact absurd h hjn
       ·exact h
      refine ⟨π++[j]++τ.erase j,?_,List.prefix_append _ _⟩
      rw [List.append_assoc]
      exact ((List.perm_cons_erase hjt).symm.append_left π).trans p1
     ·by_cases e:j=c
      ·subst e
       simp [show j<listed.size by omega]
      ·rw [getD_set_ne false e,<- hC c hc]
       simp only [List.mem_append,List.mem_singleton]
       exact ⟨fun h=>h.resolve_right fun h=>e h.symm,.inl⟩
    ·refine ⟨π,fun h=>absurd h hjC,fun σ h=>h,⟨σ0,p1,p2⟩,fun c hc => ?_⟩
     rw [getD_set_ne false (fun e:j=c=>hjC (by rw [e];exact hc)),<- hC c hc]
   have pick:∀ σ:List Nat,σ.Perm C->π' <+: σ -> ∃ oj s1 f f' rest',ops[j]? = some oj/\Zbk M.P M.inl call n ops (ans j) (hot σ j) oj s=some s1/\Left M call n ops ans (hot σ) (Ahead (l σ)) (listed.setIfInBounds j true) rest' s1 f'/\RSEq f f'/\rest'.length<=fuel /\
     (∀ b ∈ f.asm,b=true)/\(∀ q ∈ f.eqs,q)/\(∀ c ∈ f.calls,c.cond=true->ZbL M c) /\
     (∀ S' a',HeapOk S'->Ext S S'->S'.L=f.L->TRel S' f.env a'.tmps->a'.tmps.size=a.tmps.size->a'.defers=a.defers->Q .normal a' S'.w):=by
    intro σ q1 q2
    obtain ⟨rest,f,hl,hlen,f1,f2,f3,f4⟩:=hA σ q1 (hpre σ q2)
    have hl2:Left M call n ops ans (hot σ) (fun i k=>Ahead (l σ) i k/\listed.getD i true=false) listed rest s f:=
     ⟨hl.size,hl.pw.imp_of_mem fun {x y} hx _ h=>⟨h,((hl.mem x).1 hx).2⟩,hl.mem,hl.closed,hl.run⟩
    obtain ⟨oj,s1,f',rest',g1,g2,g3,g4,g5⟩:=hl2.pick (fun i h=>Nat.lt_irrefl _ h.1) hj fun i a b h hi hb=>by
     rcases (hok σ q1).swap i j a b h.1 hi hb with ⟨c1,c2,c3⟩ | h
     ·exfalso
      rw [hπ' c2] at q2
      obtain ⟨τ,rfl⟩:=q2
      have hnd2:(π++[j]++τ).Nodup:=q1.nodup_iff.2 hnd
      have e1:Zar (π++[j]++τ) j=π.length:=ZcJ hnd2 (by simp)
      rw [e1] at c3
      have e2:=Zbz (q1.mem_iff.2 c1)
      rw [List.append_assoc,List.getElem?_append_left (by rw [List.append_assoc] at c3;exact c3)] at e2
      have:=(hC i c1).1 (List.mem_of_getElem? e2)
      rw [ZcA (by rw [hsz];exact (Array.getElem?_eq_some_iff.1 hi).1) false true,h.2] at this
      cases this
     ·exact h
    exact ⟨oj,s1,f,f',rest',g1,g2,⟨g3.size,g3.pw.imp fun h=>h.1,g3.mem,g3.closed,g3.run⟩,g4,by omega,f1,f2,f3,f4⟩
   obtain ⟨σ1,r1,r2⟩:=hex
   obtain ⟨oj,s1,f,f',rest',hoj,h2,hl',k2,_,f1,f2,f3,_⟩:=pick σ1 r1 r2
   obtain ⟨env,L,x,y,z,he,_⟩:=ZaW _ hl'.run
   have hA':∀ b ∈ f'.asm,b=true:=fun b hb=>f1 b ((k2.a b).2 hb)
   have hQ':∀ b ∈ f'.eqs,b:=fun b hb=>f2 b ((k2.q b).2 hb)
   have hC':∀ c ∈ f'.calls,c.cond=true->ZbL M c:=fun b hb=>f3 b ((k2.k b).2 hb)
   refine Zcl hS hL hT hn hoj h2 (fun b hb=>hA' b (by rw [he];simp [hb])) (fun b hb=>hQ' b (by rw [he];simp [hb])) (fun b hb=>hC' b (by rw [he];simp [hb])) fun S' a' m1 m2 m3 m4 m5 m6 => ?_
   refine ih _ s1 S' a' π' ⟨σ1,r1,r2⟩ hCj (fun σ q1 q2 => ?_) m1 m3 m4 (by rw [m5];exact hn)
   obtain ⟨oj2,s2,g,g',rest2,hoj2,h22,hl2',kk2,hlen2,g1,g2,g3,g4⟩:=pick σ q1 q2
   rw [hoj] at hoj2;cases hoj2
   have:=runOp_hot h2 h22
   subst this
   exact ⟨rest2,g',hl2',hlen2,fun b hb=>g1 b ((kk2.a b).2 hb),fun b hb=>g2 b ((kk2.q b).2 hb),fun b hb=>g3 b ((kk2.k b).2 hb),
    fun S'' a'' q1 q2 q3 q4 q5 q6=>g4 S'' a'' q1 (m2.trans q2) (q3.trans kk2.L.symm) (q4.congr fun t=>(kk2.get t).symm) (q5.trans m5) (q6.trans m6)⟩
end
def ordOk (ops:Array Oper) (C σ:List Nat) (hot:Nat->Nat) (l:List Nat):Bool:=
 (ZfC l&&(((List.range ops.size).all fun i=>l.contains i)&&l.all fun i=>Nat.blt i ops.size)) &&
 ((List.range ops.size).all fun j=>match ops[j]? with
  | some o=>o.after.toList.all fun e => !Region.binds .any e||(Nat.blt e.on j&&Nat.ble (Zar l e.on) (Zar l j))
  | none=>true) &&
 ((List.range ops.size).all fun j=>(List.range ops.size).all fun i => !Nat.blt (Zar l i) (Zar l j)||((C.contains i&&(C.contains j&&Nat.blt (Zar σ i) (Zar σ j))) ||
  match ops[i]?,ops[j]? with
  | some a,some b=>Zcb hot ops i j a b||ZeT ops i ops.size j
  | _,_=>true))
theorem ZgD {ops:Array Oper} {C σ:List Nat} {hot:Nat->Nat} {l:List Nat} (h:ordOk ops C σ hot l=true):OrdOk ops C σ hot l/\l.Nodup/\(∀ i,i ∈ l ↔ i<ops.size):=by
 unfold ordOk at h
 simp only [Bool.and_eq_true,List.all_eq_true,List.mem_range,List.contains_iff_mem,Nat.blt_eq] at h
 obtain ⟨⟨⟨h1,h2,h3⟩,h4⟩,h5⟩:=h
 have hnd:=(Zbl l).1 h1
 refine ⟨⟨fun j o ho e he hb => ?_,fun i j a b hij hi hj => ?_⟩,hnd,fun i=>⟨h3 i,fun hi => ?_⟩⟩
 ·have:=h4 j (Array.getElem?_eq_some_iff.1 ho).1
  rw [ho] at this
  have:=List.all_eq_true.1 this e (by simpa using he)
  rw [hb] at this
  simp only [Bool.not_true,Bool.false_or,Bool.and_eq_true,Nat.blt_eq,Nat.ble_eq] at this
  exact ⟨this.1,Nat.not_lt.2 this.2⟩
 ·have:=h5 j (Array.getElem?_eq_some_iff.1 hj).1 i (Array.getElem?_eq_some_iff.1 hi).1
  rw [hi,hj] at this
  simp only [Bool.or_eq_true,Bool.not_eq_true',Bool.and_eq_true,List.contains_iff_mem,Nat.blt_eq] at this
  rcases this with h | h | h
  ·have:=Nat.blt_eq.mpr hij
   rw [this] at h;cases h
  ·exact .inl ⟨h.1,h.2.1,h.2.2⟩
  ·exact .inr h
 ·exact h2 i hi
def ordRun (M:Mach) (call:Zax) (n:Nat) (ops:Array Oper) (ans:Nat->Option Ans) (hot:Nat->Nat) (keep C σ l rs:List Nat) (env:Vars) (L:Heap):Option (Vars × Heap × List Bool × List Prop × List CF):=
 match ordOk ops C σ hot l,Zav M.P M.inl call n ops ans hot l ⟨lift env,L,[],[],[]⟩ with
 | true,some s=>match Zbn s.L rs (Zbq keep s.env),Nat.beq rs.length s.L.length&&(List.range L.length).all fun i=>(match rs[i]? with | some r=>Nat.beq r i | none=>false) with
  | some (e,K),true=>some (e,K,s.asm,s.eqs,s.calls)
  | _,_=>none
 | _,_=>none
theorem any_sound {M:Mach} (hm:(M.P ()).follows .mixedOrders=true) {fi:Fi} {id:Nat} {ops:Array Oper} {env:Vars} {L:Heap} {call:Zax} {ans:Nat->Option Ans} {keep C:List Nat} {hot:List Nat->Nat->Nat} {l rs:List Nat->List Nat} {e1:Vars} {L1:Heap} (hnd:C.Nodup)
  (h:∀ σ ∈ perms C,∃ asl qs cl,ordRun M call fi.n ops ans (hot σ) keep C σ (l σ) (rs σ) env L=some (e1,L1,asl,qs,cl)/\(∀ b ∈ asl,b=true)/\(∀ q ∈ qs,q)/\(∀ c ∈ cl,c.cond=true->ZbL M c))
  {S:St} {a:Act} (h5:HeapOk S) (h6:S.L=L) (h7:VRel S env a.tmps) (h8:fi.n<=a.tmps.size) :
  RegR (M.P ()) id ops true (fun a' w' => ∃ S':St,S'.w=w'/\HeapOk S'/\Ext S S'/\S'.L=L1/\VRel S' e1 a'.tmps/\a'.tmps.size=a.tmps.size/\a'.defers=a.defers) a S.w:=by
 refine regR_any hm ?_
 obtain ⟨n1,n2⟩:=Zca h5 (w':={ S.w with drawn:=S.w.drawn+1 }) ⟨rfl,rfl,rfl,Nat.le_refl _,fun _ _=>rfl⟩ (fun _ _=>rfl)
 have key:∀ σ:List Nat,σ.Perm C -> ∃ s asl qs cl,ordOk ops C σ (hot σ) (l σ)=true/\Zav M.P M.inl call fi.n ops ans (hot σ) (l σ) ⟨lift env,L,[],[],[]⟩=some s/\Zbn s.L (rs σ) (Zbq keep s.env)=some (e1,L1) /\
   (∀ r,r<L.length->(rs σ)[r]? = some r)/\(∀ b ∈ s.asm,b=true)/\(∀ q ∈ s.eqs,q)/\(∀ c ∈ s.calls,c.cond=true->ZbL M c)/\asl=s.asm/\qs=s.eqs/\cl=s.calls:=by
  intro σ hσ
  obtain ⟨asl,qs,cl,hr,h1,h2,h3⟩:=h σ (perms_mem C hσ)
  unfold ordRun at hr
  split at hr
  ·rename_i s ho hs
   split at hr
   ·rename_i e K hn hall
    simp only [Option.some.injEq,Prod.mk.injEq] at hr
    obtain ⟨rfl,rfl,rfl,rfl,rfl⟩:=hr
    simp only [Bool.and_eq_true,List.all_eq_true,List.mem_range] at hall
    refine ⟨s,_,_,_,ho,hs,hn,fun r hr => ?_,h1,h2,h3,rfl,rfl,rfl⟩
    have:=hall.2 r hr
    cases h:(rs σ)[r]? with
    | none=>rw [h] at this;simp at this
    | some q=>rw [h] at this;simp only [Nat.beq_eq] at this;rw [this]
   ·simp at hr
  ·simp at hr
 refine draw_any (call:=call) (ans:=ans) (C:=C) (hot:=hot) (l:=l) hnd (fun σ hσ => ?_) ops.size (Array.replicate ops.size false) ⟨lift env,L,[],[],[]⟩ ⟨S.base,S.acc,S.L,S.β,{ S.w with drawn:=S.w.drawn+1 }⟩ a [] ⟨C,.refl _,List.nil_prefix⟩ (fun c hc => ?_) (fun σ hσ _ => ?_) n1 h6 ((Zcm h7).mono n2) h8
 ·obtain ⟨s,_,_,_,ho,_⟩:=key σ hσ
  exact (ZgD ho).1
 ·constructor
  ·intro h;cases h
  ·intro h
   by_cases hlt:c<ops.size <;> simp [hlt] at h
 ·obtain ⟨s,_,_,_,ho,hs,hn,hid,a1,a2,a3,_⟩:=key σ hσ
  obtain ⟨_,hndl,hmem⟩:=ZgD ho
  refine ⟨l σ,s,⟨by simp,?_,fun i => ?_,fun j o _ hj => ?_,hs⟩,?_,a1,a2,a3,fun S' a' k1 k2 k3 k4 k5 k6 => ?_⟩
  ·refine List.pairwise_iff_getElem.2 fun i j hi hj hij => ?_
   show Zar _ _<Zar _ _
   rw [ZcJ hndl (List.getElem?_eq_getElem hi),ZcJ hndl (List.getElem?_eq_getElem hj)]
   exact hij
  ·rw [hmem]
   constructor
   ·intro h;exact ⟨h,by simp [h]⟩
   ·intro h;exact h.1
  ·by_cases hlt:j<ops.size <;> simp [hlt] at hj
  ·have hp:(l σ).Perm (List.range ops.size):=(List.perm_ext_iff_of_nodup hndl List.nodup_range).2 fun i=>by rw [hmem,List.mem_range]
   rw [hp.length_eq];simp
  ·unfold Zbn at hn
   split at hn
   ·rename_i rows hrows
    split at hn
    ·rename_i hc
     simp only [Option.some.injEq,Prod.mk.injEq] at hn
     obtain ⟨rfl,rfl⟩:=hn
     simp only [Bool.and_eq_true,List.all_eq_true,List.contains_iff_mem] at hc
     obtain ⟨hnd',ha,hcl⟩:=hc
     have hnd':=(Zbl (rs σ)).1 hnd'
     rw [<- k3] at hrows
     obtain ⟨p1,p2,p3⟩:=perm_ok k1 n1 k2 hrows hnd' hcl (fun r hr=>hid r (by rw [<- h6];exact hr))
     refine ⟨⟨S'.base,S'.acc,rows.map (Zak (Zar (rs σ))),subβ S'.β (rs σ),S'.w⟩,rfl,p1,n2.trans p2,rfl,fun t => ?_,k5,k6⟩
     rw [get_renV]
     exact p3 _ _ (ZbH k4 keep t) fun r hr=>ha r (rows_get hr)
    ·simp at hn
   ·simp at hn
end Go.Av

namespace Go.Av
structure EG where
 keep:List (Nat × List (Nat × List Nat))
 hot:List (Nat × List (Nat × List Nat))
 known:List (Nat × List AV × AV):=[]
 rows:List (Nat × List (Nat × List Nat)):=[]
mutual
def beqA:AV->AV->Bool
 | .bool a,.bool b=>a==b
 | .int k n,.int j m=>decide (k=j)&&n==m
 | .str a,.str b=>a==b
 | .flt a,.flt b=>a==b
 | .agg a,.agg b=>beqAL a b
 | .tup a,.tup b=>beqAL a b
 | .vec f es a,.vec g fs b=>f==g&&(es==fs&&beqAL a b)
 | .nilp,.nilp=>true
 | .vnil,.vnil=>true
 | _,_=>false
def beqAL:List AV->List AV->Bool
 | [],[]=>true
 | a::l,b::m=>beqA a b&&beqAL l m
 | _,_=>false
end
mutual
theorem beqA_eq:∀ (a b:AV),beqA a b=true->a=b
 | .bool a,b,h=>by cases b <;> simp [beqA] at h;rw [h]
 | .int k n,b,h=>by cases b <;> simp [beqA] at h;rw [h.1,h.2]
 | .str a,b,h=>by cases b <;> simp [beqA] at h;rw [h]
 | .flt a,b,h=>by cases b <;> simp [beqA] at h;rw [h]
 | .agg a,b,h=>by cases b <;> simp [beqA] at h;rw [beqAL_eq a _ h]
 | .tup a,b,h=>by cases b <;> simp [beqA] at h;rw [beqAL_eq a _ h]
 | .vec f es a,b,h=>by cases b <;> simp [beqA] at h;rw [h.1,h.2.1,beqAL_eq a _ h.2.2]
 | .nilp,b,h=>by cases b <;> simp [beqA] at h;rfl
 | .vnil,b,h=>by cases b <;> simp [beqA] at h;rfl
 | .any,b,h=>by cases b <;> simp [beqA] at h
 | .ptr ..,b,h=>by cases b <;> simp [beqA] at h
 | .eptr ..,b,h=>by cases b <;> simp [beqA] at h
 | .row ..,b,h=>by cases b <;> simp [beqA] at h
 | .ref ..,b,h=>by cases b <;> simp [beqA] at h
 | .func ..,b,h=>by cases b <;> simp [beqA] at h
 | .nilf,b,h=>by cases b <;> simp [beqA] at h
 | .mapr ..,b,h=>by cases b <;> simp [beqA] at h
 | .nilm,b,h=>by cases b <;> simp [beqA] at h
theorem beqAL_eq:∀ (a b:List AV),beqAL a b=true->a=b
 | [],b,h=>by cases b <;> simp [beqAL] at h;rfl
 | a::l,b,h=>by
  cases b with
  | nil=>simp [beqAL] at h
  | cons b m=>simp [beqAL] at h;rw [beqA_eq a b h.1,beqAL_eq l m h.2]
end
def Zew (f:Nat) (args:List AV):List (Nat × List AV × AV)->Option AV
 | []=>none
 | (g,bs,v)::l=>bif Nat.beq f g&&beqAL args bs then some v else Zew f args l
theorem known_in {f:Nat} {args:List AV} {v:AV}:∀ {l:List (Nat × List AV × AV)},Zew f args l=some v->(f,args,v) ∈ l
 | [],h=>by simp [Zew] at h
 | (g,bs,u)::l,h=>by
  unfold Zew at h
  cases hb:(Nat.beq f g&&beqAL args bs) with
  | true =>
   rw [hb] at h
   simp only [cond_true,Option.some.injEq] at h
   simp only [Bool.and_eq_true,Nat.beq_eq] at hb
   rw [h,hb.1,beqAL_eq _ _ hb.2];exact .head _
  | false=>rw [hb] at h;exact .tail _ (known_in h)
def ofFn:List (Nat × List (Nat × List Nat))->Nat->List (Nat × List Nat)
 | [],_=>[]
 | (f,l)::t,g=>bif Nat.beq f g then l else ofFn t g
def Zde (l:List Nat) (i:Nat):Option Ans:=bif l.contains i then some .keep else none
def runX (M:Mach) (fi:Fi) (kp ht kr:List (Nat × List Nat)) (call:Zax):Nat->List Item->Vars->Heap->Option (AV × Heap)
 | 0,_,_,_=>none
 | n+1,todo,env,L =>
  match todo with
  | []=>match finish M.P fi env L with
   | some v=>some (v,L)
   | none=>none
  | .inBlock _::k=>runX M fi kp ht kr call n k env L
  | .inLoop b::k=>runX M fi kp ht kr call n (.code b :: .inLoop b::k) env L
  | .code c::k =>
   match c with
   | .skip=>runX M fi kp ht kr call n k env L
   | .seq a b=>runX M fi kp ht kr call n (.code a :: .code b::k) env L
   | .cond c a b=>match evV env c with
    | .bool t=>runX M fi kp ht kr call n (.code (bif t then a else b)::k) env L
    | _=>none
   | .block id b=>runX M fi kp ht kr call n (.code b :: .inBlock id::k) env L
   | .loop b=>runX M fi kp ht kr call n (.code b :: .inLoop b::k) env L
   | .exit id=>match exitTo id k with
    | some k'=>runX M fi kp ht kr call n k' env L
    | none=>none
   | .region id ops draw =>
    match (bif draw then ZgR (hotOf ops (ZaG ht id)) ops else true) with
    | false=>none
    | true =>
     match Zav M.P M.inl call fi.n ops (Zde (ZaG kr id)) (bif draw then hotOf ops (ZaG ht id) else fun _=>2) (List.range ops.size) ⟨lift env,L,[],[],[]⟩ with
     | some s=>match s.asm.all (fun b=>b),s.eqs with
      | true,[]=>runX M fi kp ht kr call n k (Zbq (ZaG kp id) s.env) s.L
      | _,_=>none
     | none=>none
   | .ret=>match finish M.P fi env L with
    | some v=>some (v,L)
    | none=>none
   | _=>none
  | _=>none
def ansX (M:Mach) (K:List (Nat × List AV × AV)) (ex:FuncId->List AV->Heap->Option (AV × Heap)):Zax:=fun g args L =>
 match M.inl g with
 | true=>match ex g args L with
  | some (v,L')=>some (v,some L')
  | none=>none
 | false=>match Zew g args K with
  | some d=>some (d,none)
  | none=>match ex g args [] with
   | some (v,L')=>match pureA L' v with
    | some d=>bif (versA L' v).all (fun b=>b)&&d.clean then some (d,none) else none
    | none=>none
   | none=>none
def execX (M:Mach) (G:EG):Nat->FuncId->List AV->Heap->Option (AV × Heap)
 | 0=>fun _ _ _=>none
 | n+1=>fun f args L =>
  match (M.P ()).funcs[f]? with
  | some fn=>match fn.body,fn.name == "runtime.NumGoroutine" with
   | some c,false=>runX M ⟨fn.ntmps,fn.results.toList⟩ (ofFn G.keep f) (ofFn G.hot f) (ofFn G.rows f) (ansX M G.known (execX M G n)) 100000 [.code c] (ZaN 0 args) L
   | _,_=>none
  | none=>none
def Zgd (inl:FuncId->Bool) (call:Zax) (c:CF):Prop:=
 (c.own=true/\inl c.f=true /\ ∃ o,call c.f c.args c.L=some (c.v,o)/\c.L'=o.getD c.L) \/
 (inl c.f=false /\ ∃ L1,call c.f c.args []=some (c.v,some L1)) \/
 (c.own=false/\inl c.f=false/\call c.f c.args []=some (c.v,none))
section
variable {P:Unit->Program}
theorem Zbm {x:Option AV} {r:SR} (h:ZbE x=some r):r.calls=[]:=by
 unfold ZbE at h;split at h
 ·simp only [Option.some.injEq] at h;subst h;rfl
 ·simp at h
theorem convS_no {src dst:TypeId} {x:AV} {r:SR} (h:convS P src dst x=some r):r.calls=[]:=by
 unfold convS at h
 repeat' split at h
 all_goals first | (simp only [Option.some.injEq] at h;subst h;rfl) | simp at h
theorem intBin_no {op:BinOp} {k:IntKind} {x y:Int} {r:SR} (h:ZgJ op k x y=some r):r.calls=[]:=by
 unfold ZgJ at h
 split at h <;> first | (simp only [Option.some.injEq] at h;subst h;rfl) | (simp at h)
theorem strBin_no {op:BinOp} {x y:List UInt8} {r:SR} (h:Zgq op x y=some r):r.calls=[]:=by
 unfold Zgq at h
 split at h <;> first | (simp only [Option.some.injEq] at h;subst h;rfl) | (simp at h)
theorem binA_no {op:BinOp} {T:TypeId} {x y:AV} {r:SR} (h:binA P op T x y=some r):r.calls=[]:=by
 unfold binA at h
 split at h
 ·simp only [Option.some.injEq] at h;subst h;rfl
 ·simp only [Option.some.injEq] at h;subst h;rfl
 ·split at h
  ·exact intBin_no h
  ·simp at h
 ·exact strBin_no h
 ·split at h
  ·exact Zbm h
  ·simp at h
 ·split at h
  ·exact Zbm h
  ·simp at h
 ·simp at h
theorem boxA_no {L:Heap} {x:AV} {r:SR} (h:boxA L x=some r):r.calls=[]:=by
 unfold boxA at h;split at h
 ·simp only [Option.some.injEq] at h;subst h;rfl
 ·simp at h
theorem loadA_no {el:Option AV} {L:Heap} {T:TypeId} {p:AV} {r:SR} (h:loadA P el L T p=some r):r.calls=[]:=by
 unfold loadA at h
 repeat' split at h
 all_goals first | (simp only [Option.some.injEq] at h;subst h;rfl) | (simp at h)
theorem storeA_no {el:Option AV} {L:Heap} {T:TypeId} {p v:AV} {r:SR} (h:Zgr P el L T p v=some r):r.calls=[]:=by
 unfold Zgr at h
 repeat' split at h
 all_goals first | (simp only [Option.some.injEq] at h;subst h;rfl) | (simp at h)
theorem Zgb {keep:Bool} {L:Heap} {T:TypeId} {len:Nat} {parts:List (Nat × AV)} {r:SR} (h:Zbd P keep L T len parts=some r):r.calls=[]:=by
 unfold Zbd at h
 cases keep <;> simp only [cond_true,cond_false] at h <;> (repeat' split at h) <;> first | (simp only [Option.some.injEq] at h;subst h;rfl) | (simp at h)
theorem indexAddrA_no {L:Heap} {T:TypeId} {x i:AV} {r:SR} (h:ZbG P L T x i=some r):r.calls=[]:=by
 unfold ZbG at h
 repeat' split at h
 all_goals first | (simp only [Option.some.injEq] at h;subst h;rfl) | (simp at h)
theorem indexA_no {T:TypeId} {x i:AV} {r:SR} (h:ZgK P T x i=some r):r.calls=[]:=by
 unfold ZgK at h
 repeat' split at h
 all_goals first | (simp only [Option.some.injEq] at h;subst h;rfl) | (simp at h)
theorem sliceA_no {L:Heap} {T:TypeId} {x:AV} {lo hi mx:Option AV} {r:SR} (h:Zgt P L T x lo hi mx=some r):r.calls=[]:=by
 unfold Zgt at h
 repeat' split at h
 all_goals first | (simp only [Option.some.injEq] at h;subst h;rfl) | (simp at h)
theorem ZgW {L:Heap} {T:TypeId} {s x:AV} {r:SR} (h:Zcr P L T s x=some r):r.calls=[]:=by
 unfold Zcr at h
 repeat' split at h
 all_goals first | (simp only [Option.some.injEq] at h;subst h;rfl) | (simp at h)
theorem clearA_no {L:Heap} {T:TypeId} {d:AV} {r:SR} (h:clearA P L T d=some r):r.calls=[]:=by
 unfold clearA at h
 repeat' split at h
 all_goals first | (simp only [Option.some.injEq] at h;subst h;rfl) | (simp at h)
theorem lenA_no {L:Heap} {T:TypeId} {x:AV} {r:SR} (h:lenA P L T x=some r):r.calls=[]:=by
 unfold lenA at h
 repeat' split at h
 all_goals first | (simp only [Option.some.injEq] at h;subst h;rfl) | (simp at h)
theorem makeSliceA_no {L:Heap} {T:TypeId} {a b:AV} {r:SR} (h:Zb8 P L T a b=some r):r.calls=[]:=by
 unfold Zb8 at h
 repeat' split at h
 all_goals first | (simp only [Option.some.injEq] at h;subst h;rfl) | (simp at h)
theorem sliceArrA_no {L:Heap} {n:Nat} {e:TypeId} {x:AV} {r:SR} (h:Zbw P L n e x=some r):r.calls=[]:=by
 unfold Zbw at h
 repeat' split at h
 all_goals first | (simp only [Option.some.injEq] at h;subst h;rfl) | (simp at h)
theorem appendZ_no {L:Heap} {T:TypeId} {s x:AV} {r:SR} (h:ZdX P L T s x=some r):r.calls=[]:=by
 unfold ZdX at h
 repeat' split at h
 all_goals first | (simp only [Option.some.injEq] at h;subst h;rfl) | (simp at h)
theorem makeMapA_no {L:Heap} {T:TypeId} {r:SR} (h:Zei P L T=some r):r.calls=[]:=by
 unfold Zei at h
 repeat' split at h
 all_goals first | (simp only [Option.some.injEq] at h;subst h;rfl) | (simp at h)
theorem lookupA_no {el:Option AV} {L:Heap} {T:TypeId} {m k:AV} {ok:Bool} {r:SR} (h:ZfG P el L T m k ok=some r):r.calls=[]:=by
 unfold ZfG at h
 repeat' split at h
 all_goals first | (simp only [Option.some.injEq] at h;subst h;rfl) | (simp at h)
theorem mapUpdateA_no {L:Heap} {T:TypeId} {m k v:AV} {r:SR} (h:Zcz P L T m k v=some r):r.calls=[]:=by
 unfold Zcz at h
 repeat' split at h
 all_goals first | (simp only [Option.some.injEq] at h;subst h;rfl) | (simp at h)
theorem mapEntryA_no {el:Option AV} {L:Heap} {T:TypeId} {m k:AV} {r:SR} (h:Zdc P el L T m k=some r):r.calls=[]:=by
 unfold Zdc at h
 repeat' split at h
 all_goals first | (simp only [Option.some.injEq] at h;subst h;rfl) | (simp at h)
theorem Zga {L:Heap} {m i v:AV} {r:SR} (h:Zcf L m i v=some r):r.calls=[]:=by
 unfold Zcf at h
 repeat' split at h
 all_goals first | (simp only [Option.some.injEq] at h;subst h;rfl) | (simp at h)
theorem callF_good {inl:FuncId->Bool} {call:Zax} {L:Heap} {g:FuncId} {args:List AV} {r:SR} (h:ZeF inl call L g args=some r):∀ c ∈ r.calls,Zgd inl call c:=by
 unfold ZeF at h
 cases hi:inl g with
 | true =>
  rw [hi] at h
  simp only [cond_true] at h
  split at h
  ·rename_i rs args' Lc hin
   split at h
   ·rename_i v o hc
    split at h
    ·simp only [Option.some.injEq] at h
     subst h
     intro c hm
     simp only [List.mem_singleton] at hm
     subst hm
     exact .inl ⟨rfl,hi,o,hc,rfl⟩
    ·simp at h
   ·simp at h
  ·simp at h
 | false =>
  rw [hi] at h
  simp only [cond_false] at h
  split at h
  ·rename_i ds hds
   split at h
   ·rename_i d hc
    split at h
    ·split at h
     all_goals
      simp only [Option.some.injEq] at h
      subst h
      intro c hm
      simp only [List.mem_singleton] at hm
      subst hm
      exact .inr (.inr ⟨rfl,hi,hc⟩)
    ·simp at h
   ·rename_i v L1 hc
    split at h
    ·split at h
     ·split at h
      ·simp only [Option.some.injEq] at h
       subst h
       intro c hm
       simp only [List.mem_singleton] at hm
       subst hm
       exact .inr (.inl ⟨hi,L1,hc⟩)
      ·simp at h
     ·simp at h
    ·simp at h
   ·simp at h
  ·simp at h
theorem ZaK {inl:FuncId->Bool} {call:Zax} {r:SR} (h:r.calls=[]):∀ c ∈ r.calls,Zgd inl call c:=by
 rw [h];intro c hc;cases hc
theorem callA_good {inl:FuncId->Bool} {call:Zax} {ρ:Operand->AV} {L:Heap} {c:Call} {r:SR} (h:Zbu P inl call ρ L c=some r):∀ c ∈ r.calls,Zgd inl call c:=by
 unfold Zbu at h
 split at h
 ·apply ZaK
  split at h
  ·split at h
   ·exact ZgW h
   ·exact ZgW h
   ·exact appendZ_no h
   ·simp at h
  ·exact clearA_no h
  ·exact lenA_no h
  ·exact Zbm h
  ·exact Zbm h
  ·exact Zbm h
  ·simp at h
 ·split at h
  ·exact callF_good h
  ·simp at h
 ·simp at h
theorem stepA_good {inl:FuncId->Bool} {call:Zax} {ρ:Za4->Operand->AV} {L:Heap} {o:Oper} {r:SR} {an:Option Ans} (han:an=none\/an=some .keep) (h:ZaY P inl call an ρ L o=some r):∀ c ∈ r.calls,Zgd inl call c:=by
 unfold ZaY at h
 simp only at h
 split at h
 ·simp only [Option.some.injEq] at h;subst h;exact ZaK rfl
 ·simp only [Option.some.injEq] at h;subst h;exact ZaK rfl
 ·split at h
  ·exact ZaK (Zbm h)
  ·exact ZaK (Zbm h)
 ·split at h
  ·exact ZaK (boxA_no h)
  ·simp at h
 ·exact ZaK (boxA_no h)
 ·exact ZaK (Zbm h)
 ·exact ZaK (Zgb h)
 ·exact ZaK (loadA_no h)
 ·exact ZaK (storeA_no h)
 ·split at h
  ·simp only [Option.some.injEq] at h;subst h;exact ZaK rfl
  ·simp only [Option.some.injEq] at h;subst h;exact ZaK rfl
  ·simp at h
 ·exact ZaK (binA_no h)
 ·exact ZaK (Zbm h)
 ·exact ZaK (convS_no h)
 ·simp only [Option.some.injEq] at h;subst h;exact ZaK rfl
 ·exact ZaK (makeSliceA_no h)
 ·split at h
  ·split at h
   ·exact ZaK (sliceArrA_no h)
   ·simp at h
  ·exact ZaK (sliceA_no h)
 ·exact ZaK (Zbm h)
 ·exact ZaK (Zbm h)
 ·exact ZaK (indexAddrA_no h)
 ·exact ZaK (indexA_no h)
 ·split at h
  ·exact ZaK (makeMapA_no h)
  ·simp at h
 ·exact ZaK (lookupA_no h)
 ·exact ZaK (mapUpdateA_no h)
 ·exact ZaK (mapEntryA_no h)
 ·exact ZaK (Zga h)
 ·split at h
  ·exact ZaK (Zbm h)
  ·simp at h
 ·rcases han with rfl | rfl <;> exact callA_good h
 ·simp at h
theorem runOp_good {inl:FuncId->Bool} {call:Zax} {n:Nat} {ops:Array Oper} {hot:Nat} {o:Oper} {s s':RS} {an:Option Ans} (han:an=none\/an=some .keep) (h:Zbk P inl call n ops an hot o s=some s') (hs:∀ c ∈ s.calls,Zgd inl call c) :
  ∀ c ∈ s'.calls,Zgd inl call c:=by
 unfold Zbk at h
 split at h
 ·simp at h
 ·split at h
  ·simp only [Option.some.injEq] at h;subst h;exact hs
  ·simp at h
 ·split at h
  ·split at h
   ·simp at h
   ·split at h
    ·simp only [Option.some.injEq] at h;subst h;exact hs
    ·simp at h
  ·rename_i r hr
   have hg:=stepA_good han hr
   split at h
   ·simp at h
   ·split at h
    ·simp at h
    ·split at h
     ·simp only [Option.some.injEq] at h;subst h
      intro c hc
      rcases List.mem_append.1 hc with hc | hc
      ·exact hs c hc
      ·exact hg c hc
     ·simp only [Option.some.injEq] at h;subst h
      intro c hc
      rcases List.mem_append.1 hc with hc | hc
      ·exact hs c hc
      ·obtain ⟨c0,h1,rfl⟩:=List.mem_map.1 hc
       exact hg c0 h1
theorem Zdx (l:List Nat) (i:Nat):Zde l i=none\/Zde l i=some .keep:=by
 unfold Zde
 cases l.contains i with
 | true=>exact .inr rfl
 | false=>exact .inl rfl
theorem ZdG {inl:FuncId->Bool} {call:Zax} {n:Nat} {ops:Array Oper} {hot:Nat->Nat} {ans:Nat->Option Ans} (hans:∀ i,ans i=none\/ans i=some .keep):∀ (l:List Nat) {s s':RS},Zav P inl call n ops ans hot l s=some s'->(∀ c ∈ s.calls,Zgd inl call c) ->
  ∀ c ∈ s'.calls,Zgd inl call c:=by
 intro l
 induction l with
 | nil=>intro s s' h hs;simp only [Zav,Option.some.injEq] at h;subst h;exact hs
 | cons i rest ih =>
  intro s s' h hs
  simp only [Zav] at h
  split at h
  ·exact ih h hs
  ·split at h
   ·rename_i s1 h1
    exact ih h (runOp_good (hans _) h1 hs)
   ·simp at h
end
def AnsOk (M:Mach) (call:Zax):Prop:=∀ f args L v o,call f args L=some (v,o) ->
 (M.inl f=true->Ev M (.own f args L) v (o.getD L))/\(M.inl f=false->o=none/\Ev M (.pure f args) v [])
theorem runX_sound {M:Mach} {fi:Fi} {kp ht kr:List (Nat × List Nat)} {call:Zax} (hc:AnsOk M call):∀ (n:Nat) {todo:List Item} {env:Vars} {L L':Heap} {v:AV},runX M fi kp ht kr call n todo env L=some (v,L') ->
  Ev M (.run fi todo env L) v L':=by
 intro n
 induction n with
 | zero=>intro todo env L L' v h;simp [runX] at h
 | succ n ih =>
  intro todo env L L' v h
  unfold runX at h
  split at h
  ·split at h
   ·rename_i w hf
    simp only [Option.some.injEq,Prod.mk.injEq] at h
    obtain ⟨rfl,rfl⟩:=h
    exact .done hf ⟨rfl,rfl⟩
   ·simp at h
  ·exact .inBlock (ih h)
  ·exact .inLoop (ih h)
  ·split at h
   ·exact .skip (ih h)
   ·exact .seq (ih h)
   ·split at h
    ·rename_i t ht
     exact .cond t ht (ih h)
    ·simp at h
   ·exact .block (ih h)
   ·exact .loop (ih h)
   ·split at h
    ·rename_i k' hk
     exact .exit hk (ih h)
    ·simp at h
   ·split at h
    ·simp at h
    ·rename_i id ops draw _ hd
     split at h
     ·rename_i s hr
      split at h
      ·rename_i ha he
       have hg:=ZdG (Zdx _) _ hr (by intro c hc;cases hc)
       refine .region call (Zde (ZaG kr id)) _ _ s (fun h1 => ?_) hr (fun b hb => ?_) (fun p hp => ?_) (fun c hcm _ ho => ?_) (fun c hcm _ ho => ?_) (ih h)
       ·subst h1;exact hd
       ·exact (List.all_eq_true.1 ha) b hb
       ·rw [he] at hp;cases hp
       ·rcases hg c hcm with ⟨_,h2,o,h3,h4⟩ | ⟨h2,L1,h3⟩ | ⟨h2,_⟩
        ·rw [h4];exact (hc _ _ _ _ _ h3).1 h2
        ·have:=((hc _ _ _ _ _ h3).2 h2).1;simp at this
        ·rw [ho] at h2;simp at h2
       ·rcases hg c hcm with ⟨h2,_⟩ | ⟨h2,L1,h3⟩ | ⟨_,h2,h3⟩
        ·rw [ho] at h2;simp at h2
        ·have:=((hc _ _ _ _ _ h3).2 h2).1;simp at this
        ·exact ((hc _ _ _ _ _ h3).2 h2).2
      ·simp at h
     ·simp at h
   ·split at h
    ·rename_i w hf
     simp only [Option.some.injEq,Prod.mk.injEq] at h
     obtain ⟨rfl,rfl⟩:=h
     exact .ret hf ⟨rfl,rfl⟩
    ·simp at h
   ·simp at h
  ·simp at h
def Zcs (M:Mach) (G:EG):Prop:=∀ k ∈ G.known,Ev M (.pure k.1 k.2.1) k.2.2 []
theorem ZaZ {M:Mach} {a b c:List (Nat × List (Nat × List Nat))}:Zcs M ⟨a,b,[],c⟩:=fun _ hk=>nomatch hk
theorem ansX_ok {M:Mach} {G:EG} (hK:Zcs M G) {ex:FuncId->List AV->Heap->Option (AV × Heap)} (h:∀ f args L v L',ex f args L=some (v,L')->Ev M (.own f args L) v L'):AnsOk M (ansX M G.known ex):=by
 intro f args L v o hc
 unfold ansX at hc
 split at hc
 ·rename_i hi
  refine ⟨fun _ => ?_,fun h2=>by rw [hi] at h2;simp at h2⟩
  split at hc
  ·rename_i w L' he
   simp only [Option.some.injEq,Prod.mk.injEq] at hc
   obtain ⟨rfl,rfl⟩:=hc
   exact h _ _ _ _ _ he
  ·simp at hc
 ·rename_i hi
  refine ⟨fun h2=>by rw [hi] at h2;simp at h2,fun _ => ?_⟩
  split at hc
  ·rename_i d hd
   simp only [Option.some.injEq,Prod.mk.injEq] at hc
   obtain ⟨rfl,rfl⟩:=hc
   exact ⟨rfl,hK _ (known_in hd)⟩
  split at hc
  ·rename_i w L' he
   split at hc
   ·rename_i d hd
    cases hb:((versA L' w).all (fun b=>b)&&d.clean) with
    | false=>rw [hb] at hc;simp at hc
    | true =>
     rw [hb] at hc
     simp only [cond_true,Option.some.injEq,Prod.mk.injEq] at hc
     obtain ⟨rfl,rfl⟩:=hc
     simp only [Bool.and_eq_true,List.all_eq_true] at hb
     exact ⟨rfl,.pure (.mono (h _ _ _ _ _ he) fun x K ⟨e1,e2⟩=>by subst e1;subst e2;exact ⟨d,d,hd,hb.1,hb.2,.refl d,rfl,rfl⟩)⟩
   ·simp at hc
  ·simp at hc
theorem execX_sound {M:Mach} {G:EG} (hK:Zcs M G):∀ (n:Nat) (f:FuncId) (args:List AV) (L:Heap) (v:AV) (L':Heap),execX M G n f args L=some (v,L')->Ev M (.own f args L) v L':=by
 intro n
 induction n with
 | zero=>intro f args L v L' h;simp [execX] at h
 | succ n ih =>
  intro f args L v L' h
  unfold execX at h
  split at h
  ·rename_i fn hf
   split at h
   ·rename_i c hb hn
    exact .own fn c hf hb hn (runX_sound (ansX_ok hK fun f args L v L' h=>ih f args L v L' h) _ h)
   ·simp at h
  ·simp at h
def execP (M:Mach) (G:EG) (n:Nat) (f:FuncId) (args:List AV):Option AV:=
 match execX M G n f args [] with
 | some (v,L')=>match pureA L' v with
  | some d=>bif (versA L' v).all (fun b=>b)&&d.clean then some d else none
  | none=>none
 | none=>none
theorem Zbo {M:Mach} {G:EG} (hK:Zcs M G) (n:Nat) {f:FuncId} {args:List AV} {d:AV} (h:execP M G n f args=some d):Ev M (.pure f args) d []:=by
 unfold execP at h
 split at h
 ·rename_i v L' he
  split at h
  ·rename_i d0 hd
   cases hb:((versA L' v).all (fun b=>b)&&d0.clean) with
   | false=>rw [hb] at h;simp at h
   | true =>
    rw [hb] at h
    simp only [cond_true,Option.some.injEq] at h
    subst h
    simp only [Bool.and_eq_true,List.all_eq_true] at hb
    exact .pure (.mono (execX_sound hK n _ _ _ _ _ he) fun x K ⟨e1,e2⟩=>by subst e1;subst e2;exact ⟨d0,d0,hd,hb.1,hb.2,.refl d0,rfl,rfl⟩)
  ·simp at h
 ·simp at h
end Go.Av

namespace Go.Av
open Go.RowKit
mutual
def deepA (L:Heap):AV->Option AV
 | .row r _=>match L[r]? with
  | some row=>bif row.clean then some (.vec false row.es row.elems) else match pureL L row.elems with
   | some ys=>some (.vec false row.es ys)
   | none=>none
  | none=>none
 | .agg cs=>match deepL L cs with
  | some ds=>some (.agg ds)
  | none=>none
 | .tup cs=>match deepL L cs with
  | some ds=>some (.tup ds)
  | none=>none
 | a=>pureA L a
def deepL (L:Heap):List AV->Option (List AV)
 | []=>some []
 | c::r=>match deepA L c,deepL L r with
  | some d,some ds=>some (d::ds)
  | _,_=>none
end
mutual
def deepV (L:Heap):AV->List Bool
 | .row r v=>Zb1 L r v::(match L[r]? with
  | some row=>bif row.clean then [] else versL L row.elems
  | none=>[])
 | .agg cs=>deepVL L cs
 | .tup cs=>deepVL L cs
 | a=>versA L a
def deepVL (L:Heap):List AV->List Bool
 | []=>[]
 | c::r=>deepV L c++deepVL L r
end
theorem deep_get {L:Heap}:∀ {l ds:List AV},pureL L l=some ds->ds.length=l.length /\ ∀ (i:Nat) d,ds[i]? = some d -> ∃ c,l[i]? = some c/\pureA L c=some d
 | [],ds,h=>by simp only [pureL,Option.some.injEq] at h;subst h;exact ⟨rfl,by simp⟩
 | c::l,ds,h=>by
  simp only [pureL] at h
  split at h
  ·rename_i d ds' hd hds
   simp only [Option.some.injEq] at h;subst h
   obtain ⟨h1,h2⟩:=deep_get hds
   refine ⟨by simp [h1],fun i x hx => ?_⟩
   cases i with
   | zero=>simp at hx;subst hx;exact ⟨c,rfl,hd⟩
   | succ i=>obtain ⟨y,q1,q2⟩:=h2 i x (by simpa using hx);exact ⟨y,by simpa using q1,q2⟩
  ·simp at h
theorem ZgS {L:Heap} {c d:AV} (h:pureA L c=some d) (hp:c.plain=true):d.plain=true:=by
 cases c with
 | any=>simp [AV.plain] at hp
 | agg cs=>simp [AV.plain] at hp
 | tup cs=>simp [AV.plain] at hp
 | row r v =>
  simp only [pureA] at h
  repeat' split at h
  all_goals first | (simp only [Option.some.injEq] at h;subst h;rfl) | (simp at h)
 | ref r v lo len =>
  simp only [pureA] at h
  repeat' split at h
  all_goals first | (simp only [Option.some.injEq] at h;subst h;rfl) | (simp at h)
 | ptr r v i j =>
  simp only [pureA] at h
  repeat' split at h
  all_goals first | (simp only [Option.some.injEq] at h;subst h;rfl) | (simp at h)
 | func fn a b =>
  simp only [pureA] at h
  repeat' split at h
  all_goals first | (simp only [Option.some.injEq] at h;subst h;rfl) | (simp at h)
 | mapr r=>simp [pureA] at h
 | _=>simp only [pureA,Option.some.injEq] at h;subst h;rfl
theorem cells_one {c:AV} (hp:c.plain=true):c.cells=[c]:=by
 cases c <;> first | rfl | (simp [AV.plain] at hp)
theorem Zff {L:Heap}:∀ {l:List AV} {i:Nat} {c:AV} {b:Bool},l[i]? = some c->b ∈ versA L c->b ∈ versL L l
 | [],i,c,b,h,_=>by simp at h
 | x::l,i,c,b,h,hb=>by
  simp only [versL,List.mem_append]
  cases i with
  | zero=>simp at h;subst h;exact .inl hb
  | succ i=>exact .inr (Zff (by simpa using h) hb)
theorem ZeC {L:Heap} {x y:AV} (h:pureA L x=some y) (hp:x.cells.all AV.plain=true) :
  y.cells.length=x.cells.length/\y.cells.all AV.plain=true /\ ∀ (k:Nat) c,y.cells[k]? = some c -> ∃ c0,x.cells[k]? = some c0/\pureA L c0=some c /\ ∀ b ∈ versA L c0,b ∈ versA L x:=by
 have single:x.plain=true->y.cells.length=x.cells.length/\y.cells.all AV.plain=true /\ ∀ (k:Nat) c,y.cells[k]? = some c -> ∃ c0,x.cells[k]? = some c0/\pureA L c0=some c /\ ∀ b ∈ versA L c0,b ∈ versA L x:=by
  intro hx
  have hy:=ZgS h hx
  rw [cells_one hx,cells_one hy]
  refine ⟨rfl,by simp [hy],fun k c hk => ?_⟩
  cases k with
  | zero=>simp at hk;subst hk;exact ⟨x,rfl,h,fun b hb=>hb⟩
  | succ k=>simp at hk
 cases x with
 | agg cs =>
  simp only [pureA] at h
  split at h
  ·rename_i ds hd
   simp only [Option.some.injEq] at h;subst h
   obtain ⟨h1,h2⟩:=deep_get hd
   simp only [AV.cells] at hp ⊢
   refine ⟨h1,List.all_eq_true.2 fun d hdm => ?_,fun k c hk => ?_⟩
   ·obtain ⟨i,hi⟩:=List.getElem?_of_mem hdm
    obtain ⟨c,q1,q2⟩:=h2 i d hi
    exact ZgS q2 (List.all_eq_true.1 hp c (List.mem_of_getElem? q1))
   ·obtain ⟨c0,q1,q2⟩:=h2 k c hk
    exact ⟨c0,q1,q2,fun b hb=>by simp only [versA];exact Zff q1 hb⟩
  ·simp at h
 | any=>simp [pureA] at h
 | tup cs=>simp [AV.cells,AV.plain] at hp
 | _=>exact single (by simpa [AV.cells] using hp)
theorem row_deep {S S':St} (hS:HeapOk S) (hw:S'.w=S.w) (hi:∀ b off,Imm S b off->b<S.w.heap.size->Imm S' b off) {r:Nat} {row:Row} {info:BI} (hr:S.L[r]? = some row) (hb:S.β[r]? = some info) (hmp:info.mp=false)
  (hh:∀ rs,ZeJ S S' rs) {ys:List AV} (hy:pureL S.L row.elems=some ys) (hv:∀ b ∈ versL S.L row.elems,b=true) (cap:Nat) (hc:row.elems.length<=cap) :
  DRel S' (.vec false row.es ys) (.slice (some ⟨info.blk,info.off,none⟩) row.elems.length cap):=by
 have hes:=(hS.cells r row info hr hb hmp).1
 obtain ⟨hlen,hget⟩:=deep_get hy
 have:=DRel.vec (S:=S') false row.es ys info.blk info.off cap
  (fun i y hyi=>by
   obtain ⟨x,q1,q2⟩:=hget i y hyi
   obtain ⟨o1,o2⟩:=hS.elems r row hr i x q1
   obtain ⟨p1,p2,_⟩:=ZeC q2 o2
   exact ⟨p1.trans o1,p2⟩) (by simp) (by rw [hlen];exact hc)
  (fun i y k c hyi hk=>by
   obtain ⟨x,q1,q2⟩:=hget i y hyi
   obtain ⟨o1,o2⟩:=hS.elems r row hr i x q1
   obtain ⟨p1,p2,_⟩:=ZeC q2 o2
   have hk2:k<info.es:=by rw [hes,<- o1,<- p1];exact Zah hk
   obtain ⟨cv,h3⟩:=Zd9 hS hr hb hmp q1 hk2
   rw [hes] at h3
   refine ⟨⟨cv,by rw [hw];exact h3⟩,hh [r] r (by simp) row info hr hb _ (by omega) ?_⟩
   have:=ZbY (Zah q1) (Nat.le_refl row.elems.length) hk2
   rw [hes] at this ⊢
   omega)
  (fun i y k c cv hyi hk hcv=>by
   obtain ⟨x,q1,q2⟩:=hget i y hyi
   obtain ⟨o1,o2⟩:=hS.elems r row hr i x q1
   obtain ⟨p1,p2,p3⟩:=ZeC q2 o2
   obtain ⟨c0,z1,z2,z3⟩:=p3 k c hk
   rw [hw,<- hes] at hcv
   exact pure_rel hS hw hi c0 (hS.rel r row info i x k c0 cv hr hb q1 z1 hcv) z2 (fun b hb=>hv b (Zff q1 (z3 b hb))) (hh _))
 rw [hlen] at this
 exact this
mutual
theorem deep_rel {S S':St} (hS:HeapOk S) (hw:S'.w=S.w) (hi:∀ b off,Imm S b off->b<S.w.heap.size->Imm S' b off) (hh:∀ rs,ZeJ S S' rs):∀ (a:AV) {d:AV} {v:Value},Rel S a v->deepA S.L a=some d ->
  (∀ b ∈ deepV S.L a,b=true)->DRel S' d v
 | .any,_,_,hr,h,hv=>pure_rel hS hw hi _ hr h hv (hh _)
 | .bool b,_,_,hr,h,hv=>pure_rel hS hw hi _ hr h hv (hh _)
 | .int k n,_,_,hr,h,hv=>pure_rel hS hw hi _ hr h hv (hh _)
 | .str s,_,_,hr,h,hv=>pure_rel hS hw hi _ hr h hv (hh _)
 | .flt s,_,_,hr,h,hv=>pure_rel hS hw hi _ hr h hv (hh _)
 | .nilp,_,_,hr,h,hv=>pure_rel hS hw hi _ hr h hv (hh _)
 | .nilf,_,_,hr,h,hv=>pure_rel hS hw hi _ hr h hv (hh _)
 | .nilm,_,_,hr,h,hv=>pure_rel hS hw hi _ hr h hv (hh _)
 | .mapr _,_,_,hr,h,hv=>pure_rel hS hw hi _ hr h hv (hh _)
 | .vnil,_,_,hr,h,hv=>pure_rel hS hw hi _ hr h hv (hh _)
 | .vec f es xs,_,_,hr,h,hv=>pure_rel hS hw hi _ hr h hv (hh _)
 | .eptr es xs i j,_,_,hr,h,hv=>pure_rel hS hw hi _ hr h hv (hh _)
 | .func fn a b,_,_,hr,h,hv=>pure_rel hS hw hi _ hr h hv (hh _)
 | .ptr r ver i j,_,_,hr,h,hv=>pure_rel hS hw hi _ hr h hv (hh _)
 | .ref r ver lo len,_,_,hr,h,hv=>pure_rel hS hw hi _ hr h hv (hh _)
 | .agg cs,_,_,hr,h,hv=>by
  simp only [deepA] at h
  split at h
  ·rename_i ds hd
   simp only [Option.some.injEq] at h;subst h
   obtain ⟨vs,rfl,l1,r1⟩:=ZbT hr
   obtain ⟨l2,r2⟩:=deep_relL hS hw hi hh cs ⟨l1,r1⟩ hd (by simpa [deepV] using hv)
   exact .agg ds vs l2 r2
  ·simp at h
 | .tup cs,_,_,hr,h,hv=>by
  simp only [deepA] at h
  split at h
  ·rename_i ds hd
   simp only [Option.some.injEq] at h;subst h
   obtain ⟨vs,rfl,l1,r1⟩:=rel_tup hr
   obtain ⟨l2,r2⟩:=deep_relL hS hw hi hh cs ⟨l1,r1⟩ hd (by simpa [deepV] using hv)
   exact .tup ds vs l2 r2
  ·simp at h
 | .row r ver,_,_,hr,h,hv=>by
  simp only [deepA] at h
  split at h
  ·rename_i row hrow
   cases hcl:row.clean with
   | true =>
    rw [hcl] at h
    exact pure_rel hS hw hi (.row r ver) hr (by simpa [pureA,hrow,hcl] using h) (fun b hb=>hv b (by simp only [versA,List.mem_singleton] at hb;simp [deepV,hb])) (hh _)
   | false =>
    rw [hcl] at h
    simp only [cond_false] at h
    split at h
    ·rename_i ys hys
     simp only [Option.some.injEq] at h;subst h
     obtain ⟨row',info,a1,a2,a3,hmp⟩:=Zc3 hr
     rw [hrow] at a1
     simp only [Option.some.injEq] at a1;subst a1
     have hver:row.ver=ver:=by
      have:=hv (Zb1 S.L r ver) (by simp [deepV])
      simpa [Zb1,hrow] using this
     rw [a3 hver]
     exact row_deep hS hw hi hrow a2 hmp hh hys (fun b hb=>hv b (by simp [deepV,hrow,hcl,hb])) info.cap (hS.cells r row info hrow a2 hmp).2.1
    ·simp at h
  ·simp at h
theorem deep_relL {S S':St} (hS:HeapOk S) (hw:S'.w=S.w) (hi:∀ b off,Imm S b off->b<S.w.heap.size->Imm S' b off) (hh:∀ rs,ZeJ S S' rs):∀ (l:List AV) {ds:List AV} {vs:List Value},RelL S l vs->deepL S.L l=some ds ->
  (∀ b ∈ deepVL S.L l,b=true)->ds.length=vs.length /\ ∀ (i:Nat) c v,ds[i]? = some c->vs[i]? = some v->DRel S' c v
 | [],_,vs,hr,h,_=>by
  simp only [deepL,Option.some.injEq] at h;subst h
  exact ⟨by simpa using hr.1,by simp⟩
 | c::l,_,[],hr,h,_=>by have:=hr.1;simp at this
 | c::l,_,u::vs,hr,h,hv=>by
  simp only [deepL] at h
  split at h
  ·rename_i d ds hd hds
   simp only [Option.some.injEq] at h;subst h
   have h1:=deep_rel hS hw hi hh c hr.head hd (fun b hb=>hv b (by simp [deepVL,hb]))
   obtain ⟨l2,r2⟩:=deep_relL hS hw hi hh l hr.tail hds (fun b hb=>hv b (by simp [deepVL,hb]))
   refine ⟨by simp [l2],fun i a b ha hb => ?_⟩
   cases i with
   | zero=>simp at ha hb;subst ha;subst hb;exact h1
   | succ i=>exact r2 i a b (by simpa using ha) (by simpa using hb)
  ·simp at h
end
def DeepQ (d:AV):AV->Heap->Prop:=fun v L => ∃ d0,deepA L v=some d0/\allB (deepV L v)/\Weak d0 d
theorem deep_of {L:Heap} {v d:AV} (h1:deepA L v=some d) (h2:allB (deepV L v)):DeepQ d v L:=⟨d,h1,h2,.refl _⟩
theorem deep_pure {M:Mach} (hm:(M.P ()).follows .mixedOrders=true) {f:FuncId} {args:List AV} {d:AV} (h:Wp M (.own f args []) (DeepQ d)):Ev M (.pure f args) d []:=by
 refine .sem ?_
 have h':OwnQ M f args [] (DeepQ d):=Zbe hm h
 intro base acc w cargs hb hac hr
 have hS:HeapOk ⟨base,acc,[],[],w⟩:=⟨hb,rfl,by simp,by simp,by simp,by simp,by simp,by simp,by simp,by simp,fun b off h=>hac b off (Nat.le_trans hb h)⟩
 obtain ⟨k1,k2⟩:=h' ⟨base,acc,[],[],w⟩ cargs hS rfl hr
 refine ⟨k1,Calls.mono k2 fun e w' he => ?_⟩
 cases e with
 | returned cv =>
  obtain ⟨v,L',β',⟨d0,hd,hv,hwk⟩,m1,m2,m3⟩:=he
  exact ⟨d,⟨rfl,rfl⟩,m2.below,ZeW hwk (deep_rel (S:=⟨base,acc,L',β',w'⟩) (S':=⟨base,acc,[],[],w'⟩) m1 rfl (fun b off hi _=>⟨hi.1,by simp⟩)
   (fun rs r hr row info q1 q2 off _ _=>⟨m1.acq r info off q2,by simp⟩) v m3 hd ((Zb5 _).1 hv))⟩
 | panicked c=>exact he.elim
 | outgrown=>exact he.elim
def ansY (M:Mach) (K:List (Nat × List AV × AV)) (ex:FuncId->List AV->Heap->Option (AV × Heap)):Zax:=fun g args L =>
 match M.inl g with
 | true=>match ex g args L with
  | some (v,L')=>some (v,some L')
  | none=>none
 | false=>match Zew g args K with
  | some d=>some (d,none)
  | none=>match ex g args [] with
   | some (v,L')=>match deepA L' v with
    | some d=>bif (deepV L' v).all (fun b=>b) then some (d,none) else none
    | none=>none
   | none=>none
theorem ansY_ok {M:Mach} (hm:(M.P ()).follows .mixedOrders=true) {G:EG} (hK:Zcs M G) {ex:FuncId->List AV->Heap->Option (AV × Heap)} (h:∀ f args L v L',ex f args L=some (v,L')->Ev M (.own f args L) v L'):AnsOk M (ansY M G.known ex):=by
 intro f args L v o hc
 unfold ansY at hc
 split at hc
 ·rename_i hi
  refine ⟨fun _ => ?_,fun h2=>by rw [hi] at h2;simp at h2⟩
  split at hc
  ·rename_i w L' he
   simp only [Option.some.injEq,Prod.mk.injEq] at hc
   obtain ⟨rfl,rfl⟩:=hc
   exact h _ _ _ _ _ he
  ·simp at hc
 ·rename_i hi
  refine ⟨fun h2=>by rw [hi] at h2;simp at h2,fun _ => ?_⟩
  split at hc
  ·rename_i d hd
   simp only [Option.some.injEq,Prod.mk.injEq] at hc
   obtain ⟨rfl,rfl⟩:=hc
   exact ⟨rfl,hK _ (known_in hd)⟩
  split at hc
  ·rename_i w L' he
   split at hc
   ·rename_i d hd
    cases hb:(deepV L' w).all (fun b=>b) with
    | false=>rw [hb] at hc;simp at hc
    | true =>
     rw [hb] at hc
     simp only [cond_true,Option.some.injEq,Prod.mk.injEq] at hc
     obtain ⟨rfl,rfl⟩:=hc
     exact ⟨rfl,deep_pure hm (.mono (h _ _ _ _ _ he) fun x K ⟨e1,e2⟩=>by subst e1;subst e2;exact deep_of hd ((Zb5 _).2 fun b hbm=>(List.all_eq_true.1 hb) b hbm))⟩
   ·simp at hc
  ·simp at hc
end Go.Av

namespace Go.Av
open Go.RowKit
def tryHot (P:Unit->Program) (inl:FuncId->Bool) (call:Zax) (n:Nat) (ops:Array Oper) (an:Option Ans) (i:Nat) (o:Oper) (s:RS):List (List Nat)->Option (List Nat × RS)
 | []=>none
 | c::cs=>match Zbk P inl call n ops an (hotOf ops c i) o s with
  | some s'=>some (c,s')
  | none=>tryHot P inl call n ops an i o s cs
def hotCands (ρ:Operand->AV) (L:Heap) (i:Nat) (o:Oper):List (List Nat):=
 (match Zfw ρ o with
  | some [r]=>[[i+1000*(r+2)]]
  | some []=>[[i+502000]]
  | _=>[])++(match Zb9 ρ L o with
  | some [r]=>[[i+1000*(r+2)],[i,i+1000*(r+2)]]
  | _=>[])++[[],[i+1000],[i]]
def autoHot (P:Unit->Program) (inl:FuncId->Bool) (call:Zax) (n:Nat) (ops:Array Oper) (ans:Nat->Option Ans):List Nat->RS->List Nat
 | [],_=>[]
 | i::rest,s=>match ops[i]? with
  | none=>autoHot P inl call n ops ans rest s
  | some o=>match tryHot P inl call n ops (ans i) i o s (hotCands (ev s.env []) s.L i o) with
   | some (c,s')=>c++autoHot P inl call n ops ans rest s'
   | none=>[]
def layOps (P:Unit->Program) (inl:FuncId->Bool) (call:Zax) (n:Nat) (ops:Array Oper) (ans:Nat->Option Ans):List Nat->RS->List Nat
 | [],_=>[]
 | i::rest,s=>match ops[i]? with
  | none=>layOps P inl call n ops ans rest s
  | some o=>match Zbk P inl call n ops (ans i) 2 o s with
   | some s'=>bif Nat.blt s.L.length s'.L.length then i::layOps P inl call n ops ans rest s' else layOps P inl call n ops ans rest s'
   | none=>[]
def readyO (ops:Array Oper) (done:List Nat) (i:Nat):Bool:=match ops[i]? with
 | some o=>o.after.toList.all fun e => !Region.binds .any e||done.contains e.on
 | none=>true
def ordGo (ops:Array Oper) (C:List Nat):Nat->List Nat->List Nat->List Nat->List Nat
 | 0,_,_,_=>[]
 | n+1,σ,rest,done=>match rest.find? (fun i=>readyO ops done i&&(!C.contains i||(match σ with
   | c::_=>Nat.beq c i
   | []=>false))) with
  | some i=>i::ordGo ops C n (bif C.contains i then σ.tail else σ) (rest.erase i) (i::done)
  | none=>[]
def hotX (M:Mach) (call:Zax) (n:Nat) (ops:Array Oper) (ans:Nat->Option Ans) (C:List Nat) (env:Vars) (L:Heap) (σ:List Nat):Nat->Nat:=
 hotOf ops (autoHot M.P M.inl call n ops ans (ordGo ops C ops.size σ (List.range ops.size) []) ⟨lift env,L,[],[],[]⟩)
def rsX (M:Mach) (call:Zax) (n:Nat) (ops:Array Oper) (ans:Nat->Option Ans) (C:List Nat) (env:Vars) (L:Heap) (σ:List Nat):List Nat:=
 List.range L.length++(match C with
  | []=>(match Zav M.P M.inl call n ops ans (hotX M call n ops ans C env L σ) (ordGo ops C ops.size σ (List.range ops.size) []) ⟨lift env,L,[],[],[]⟩ with
   | some s=>List.range' L.length (s.L.length-L.length)
   | none=>[])
  | _=>C.map fun c=>L.length+Zar σ c)
def ordX (M:Mach) (call:Zax) (n:Nat) (ops:Array Oper) (ans:Nat->Option Ans) (keep C:List Nat) (env:Vars) (L:Heap) (σ:List Nat):Option (Vars × Heap × List Bool × List Prop × List CF):=
 ordRun M call n ops ans (hotX M call n ops ans C env L σ) keep C σ (ordGo ops C ops.size σ (List.range ops.size) []) (rsX M call n ops ans C env L σ) env L
mutual
def beqB:AV->AV->Bool
 | .any,.any=>true
 | .bool a,.bool b=>a==b
 | .int k n,.int j m=>decide (k=j)&&n==m
 | .str a,.str b=>a==b
 | .flt a,.flt b=>a==b
 | .agg a,.agg b=>beqBL a b
 | .tup a,.tup b=>beqBL a b
 | .vec f es a,.vec g fs b=>f==g&&(es==fs&&beqBL a b)
 | .eptr es a i j,.eptr fs b k l=>es==fs&&(beqBL a b&&(i==k&&j==l))
 | .ptr r v i j,.ptr s u k l=>r==s&&(v==u&&(i==k&&j==l))
 | .row r v,.row s u=>r==s&&v==u
 | .ref r v i j,.ref s u k l=>r==s&&(v==u&&(i==k&&j==l))
 | .nilp,.nilp=>true
 | .vnil,.vnil=>true
 | .nilf,.nilf=>true
 | .nilm,.nilm=>true
 | .mapr r,.mapr s=>r==s
 | _,_=>false
def beqBL:List AV->List AV->Bool
 | [],[]=>true
 | a::l,b::m=>beqB a b&&beqBL l m
 | _,_=>false
end
mutual
theorem beqB_eq:∀ (a b:AV),beqB a b=true->a=b
 | .any,b,h=>by cases b <;> simp [beqB] at h;rfl
 | .bool a,b,h=>by cases b <;> simp [beqB] at h;rw [h]
 | .int k n,b,h=>by cases b <;> simp [beqB] at h;rw [h.1,h.2]
 | .str a,b,h=>by cases b <;> simp [beqB] at h;rw [h]
 | .flt a,b,h=>by cases b <;> simp [beqB] at h;rw [h]
 | .agg a,b,h=>by cases b <;> simp [beqB] at h;rw [beqBL_eq a _ h]
 | .tup a,b,h=>by cases b <;> simp [beqB] at h;rw [beqBL_eq a _ h]
 | .vec f es a,b,h=>by cases b <;> simp [beqB] at h;rw [h.1,h.2.1,beqBL_eq a _ h.2.2]
 | .eptr es a i j,b,h=>by cases b <;> simp [beqB] at h;rw [h.1,beqBL_eq a _ h.2.1,h.2.2.1,h.2.2.2]
 | .ptr r v i j,b,h=>by cases b <;> simp [beqB] at h;rw [h.1,h.2.1,h.2.2.1,h.2.2.2]
 | .row r v,b,h=>by cases b <;> simp [beqB] at h;rw [h.1,h.2]
 | .ref r v i j,b,h=>by cases b <;> simp [beqB] at h;rw [h.1,h.2.1,h.2.2.1,h.2.2.2]
 | .nilp,b,h=>by cases b <;> simp [beqB] at h;rfl
 | .vnil,b,h=>by cases b <;> simp [beqB] at h;rfl
 | .nilf,b,h=>by cases b <;> simp [beqB] at h;rfl
 | .nilm,b,h=>by cases b <;> simp [beqB] at h;rfl
 | .mapr r,b,h=>by cases b <;> simp [beqB] at h;rw [h]
 | .func ..,b,h=>by cases b <;> simp [beqB] at h
theorem beqBL_eq:∀ (a b:List AV),beqBL a b=true->a=b
 | [],b,h=>by cases b <;> simp [beqBL] at h;rfl
 | a::l,b,h=>by
  cases b with
  | nil=>simp [beqBL] at h
  | cons b m=>simp [beqBL] at h;rw [beqB_eq a b h.1,beqBL_eq l m h.2]
end
def ZdV:Vars->Vars->Bool
 | [],[]=>true
 | (t,a)::l,(u,b)::m=>Nat.beq t u&&(beqB a b&&ZdV l m)
 | _,_=>false
def ZbB:Heap->Heap->Bool
 | [],[]=>true
 | a::l,b::m=>beqBL a.elems b.elems&&(Nat.beq a.es b.es&&(Nat.beq a.ver b.ver&&(a.frozen==b.frozen&&(a.clean==b.clean&&ZbB l m))))
 | _,_=>false
theorem ZgV:∀ (a b:Vars),ZdV a b=true->a=b
 | [],b,h=>by cases b <;> simp [ZdV] at h;rfl
 | (t,a)::l,b,h=>by
  match b,h with
  | [],h=>simp [ZdV] at h
  | (u,b)::m,h =>
   simp only [ZdV,Bool.and_eq_true,Nat.beq_eq] at h
   rw [h.1,beqB_eq a b h.2.1,ZgV l m h.2.2]
theorem ZdB:∀ (a b:Heap),ZbB a b=true->a=b
 | [],b,h=>by cases b <;> simp [ZbB] at h;rfl
 | a::l,b,h=>by
  match b,h with
  | [],h=>simp [ZbB] at h
  | b::m,h =>
   simp only [ZbB,Bool.and_eq_true,Nat.beq_eq,beq_iff_eq] at h
   obtain ⟨h1,h2,h3,h4,h5,h6⟩:=h
   rw [ZdB l m h6]
   obtain ⟨ae,a2,a3,a4,a5⟩:=a
   obtain ⟨be,b2,b3,b4,b5⟩:=b
   simp only at h1 h2 h3 h4 h5
   rw [beqBL_eq _ _ h1,h2,h3,h4,h5]
def anyX (M:Mach) (call:Zax) (n:Nat) (ops:Array Oper) (ans:Nat->Option Ans) (keep:List Nat) (env:Vars) (L:Heap) (C:List Nat):Option (Vars × Heap):=
 match ordX M call n ops ans keep C env L C with
 | some (e,K,_,_,_)=>bif ZfC C&&(perms C).all (fun σ=>match ordX M call n ops ans keep C env L σ with
   | some (e',K',asm,[],_)=>(asm.all fun b=>b)&&(ZdV e' e&&ZbB K' K)
   | _=>false) then some (e,K) else none
 | none=>none
theorem good_snd {M:Mach} (hm:(M.P ()).follows .mixedOrders=true) {call:Zax} (hc:AnsOk M call) {cs:List CF} (h:∀ c ∈ cs,Zgd M.inl call c):∀ c ∈ cs,c.cond=true->ZbL M c:=by
 intro c hcm _
 unfold ZbL
 cases hown:c.own with
 | true =>
  refine OwnQ.snd (Zbe hm (c:=.own c.f c.args c.L) ?_)
  rcases h c hcm with ⟨_,h2,o,h3,h4⟩ | ⟨h2,L1,h3⟩ | ⟨h2,_⟩
  ·rw [h4];exact (hc _ _ _ _ _ h3).1 h2
  ·have:=((hc _ _ _ _ _ h3).2 h2).1;simp at this
  ·rw [hown] at h2;simp at h2
 | false =>
  refine PureR.snd (Zbe hm (c:=.pure c.f c.args) ?_)
  rcases h c hcm with ⟨h2,_⟩ | ⟨h2,L1,h3⟩ | ⟨_,h2,h3⟩
  ·rw [hown] at h2;simp at h2
  ·have:=((hc _ _ _ _ _ h3).2 h2).1;simp at this
  ·exact ((hc _ _ _ _ _ h3).2 h2).2
theorem ordRun_good {M:Mach} {call:Zax} {n:Nat} {ops:Array Oper} {ans:Nat->Option Ans} (hans:∀ i,ans i=none\/ans i=some .keep) {hot:Nat->Nat} {keep C σ l rs:List Nat} {env:Vars} {L:Heap} {e:Vars} {K:Heap} {asm:List Bool} {qs:List Prop} {cs:List CF}
  (h:ordRun M call n ops ans hot keep C σ l rs env L=some (e,K,asm,qs,cs)):∀ c ∈ cs,Zgd M.inl call c:=by
 unfold ordRun at h
 split at h
 ·rename_i s _ hs
  split at h
  ·simp only [Option.some.injEq,Prod.mk.injEq] at h
   obtain ⟨_,_,_,_,rfl⟩:=h
   exact ZdG hans _ hs (by intro c hc;cases hc)
  ·simp at h
 ·simp at h
theorem ZgX {M:Mach} (hm:(M.P ()).follows .mixedOrders=true) {call:Zax} (hc:AnsOk M call) {fi:Fi} {id:Nat} {ops:Array Oper} {ans:Nat->Option Ans} (hans:∀ i,ans i=none\/ans i=some .keep) {keep C:List Nat} {env e1:Vars} {L L1:Heap} {k:List Item} {Q:AV->Heap->Prop}
  (h:anyX M call fi.n ops ans keep env L C=some (e1,L1)) (hk:Wp M (.run fi k e1 L1) Q):Wp M (.run fi (.code (.region id ops true)::k) env L) Q:=by
 unfold anyX at h
 split at h
 ·rename_i e K _ _ _ he
  cases hb:(ZfC C&&(perms C).all (fun σ=>match ordX M call fi.n ops ans keep C env L σ with
   | some (e',K',asm,[],_)=>(asm.all fun b=>b)&&(ZdV e' e&&ZbB K' K)
   | _=>false)) with
  | false=>rw [hb] at h;simp at h
  | true =>
   rw [hb] at h
   simp only [cond_true,Option.some.injEq,Prod.mk.injEq] at h
   obtain ⟨rfl,rfl⟩:=h
   simp only [Bool.and_eq_true,List.all_eq_true] at hb
   obtain ⟨b1,b2⟩:=hb
   refine .sem (ZaU.after fun S a h5 h6 h7 h8 b k2 cs hbb => ?_)
   obtain ⟨a',w',⟨S',e0,n1,n2,n3,n4,n5,n6⟩,hs⟩:=any_sound hm (id:=id) (fi:=fi) (ops:=ops) (env:=env) (L:=L) (call:=call) (ans:=ans) (keep:=keep) (C:=C)
    (hot:=hotX M call fi.n ops ans C env L) (l:=fun σ=>ordGo ops C ops.size σ (List.range ops.size) []) (rs:=rsX M call fi.n ops ans C env L) (e1:=e) (L1:=K) ((Zbl C).1 b1) (fun σ hσ=>by
      have:=b2 σ hσ
      split at this
      ·rename_i e' K' asm cs' ho
       simp only [Bool.and_eq_true,List.all_eq_true] at this
       obtain ⟨t1,t2,t3⟩:=this
       have:=ZgV _ _ t2;subst this
       have:=ZdB _ _ t3;subst this
       exact ⟨asm,[],cs',ho,t1,by simp,good_snd hm hc (ordRun_good hans ho)⟩
      ·simp at this) h5 h6 h7 h8 b k2 cs hbb
   exact ⟨a',w',⟨S',e,e0,n1,n2,n3.symm ▸ Zbe hm hk,n4,n5,n6⟩,hs⟩
 ·simp at h
def anyXX (M:Mach) (call:Zax) (n:Nat) (ops:Array Oper) (ans:Nat->Option Ans) (keep:List Nat) (env:Vars) (L:Heap):Option (Vars × Heap):=
 match anyX M call n ops ans keep env L [] with
 | some r=>some r
 | none=>anyX M call n ops ans keep env L (layOps M.P M.inl call n ops ans (List.range ops.size) ⟨lift env,L,[],[],[]⟩)
def toI:AV->Int
 | .int _ n=>n
 | _=>0
def Zft (M:Mach) (n:Nat) (p0 p1:Tmp) (opsA:Array Oper) (keepA:List Nat) (env:Vars) (run:Vars->Heap->Option (AV × Heap)):List (AV × AV)->Heap->Option Heap
 | [],L=>some L
 | x::xs,L=>match Zav M.P M.inl (fun _ _ _=>none) n opsA (fun _=>none) (fun _=>2) (List.range opsA.size) ⟨lift ((p1,x.2)::(p0,x.1)::env),L,[],[],[]⟩ with
  | some ⟨e,K,[],[],[]⟩=>bif ZbB K L then (match run (Zbq keepA e) L with
   | some (_,L1)=>Zft M n p0 p1 opsA keepA env run xs L1
   | none=>none) else none
  | _=>none
def isIt:Option FuncId->Nat->Bool
 | some j,it=>Nat.beq it j
 | none,_=>false
theorem isIt_eq {o:Option FuncId} {it:Nat} (h:isIt o it=true):o=some it:=by
 cases o with
 | none=>simp [isIt] at h
 | some j=>simp [isIt] at h;rw [h]
def runZ (M:Mach) (itf:Option FuncId) (fi:Fi) (kp kr:List (Nat × List Nat)) (call:Zax):Nat->List Item->Vars->Heap->Option (AV × Heap)
 | 0,_,_,_=>none
 | n+1,todo,env,L =>
  match todo with
  | []=>match finish M.P fi env L with
   | some v=>some (v,L)
   | none=>none
  | .inBlock _::k=>runZ M itf fi kp kr call n k env L
  | .inLoop b::k=>runZ M itf fi kp kr call n (.code b :: .inLoop b::k) env L
  | .code c::k =>
   match c with
   | .skip=>runZ M itf fi kp kr call n k env L
   | .seq a b=>runZ M itf fi kp kr call n (.code a :: .code b::k) env L
   | .cond c a b=>match evV env c with
    | .bool t=>runZ M itf fi kp kr call n (.code (bif t then a else b)::k) env L
    | _=>none
   | .block id b=>runZ M itf fi kp kr call n (.code b :: .inBlock id::k) env L
   | .loop b=>runZ M itf fi kp kr call n (.code b :: .inLoop b::k) env L
   | .exit id=>match exitTo id k with
    | some k'=>runZ M itf fi kp kr call n k' env L
    | none=>none
   | .region id ops true=>match anyXX M call fi.n ops (Zde (ZaG kr id)) (ZaG kp id) env L with
    | some (e,K)=>runZ M itf fi kp kr call n k e K
    | none=>none
   | .region id ops false =>
    match Zav M.P M.inl call fi.n ops (Zde (ZaG kr id)) (fun _=>2) (List.range ops.size) ⟨lift env,L,[],[],[]⟩ with
    | some s=>match s.asm.all (fun b=>b),s.eqs with
     | true,[]=>runZ M itf fi kp kr call n k (Zbq (ZaG kp id) s.env) s.L
     | _,_=>none
    | none=>none
   | .rangeFunc g ps (.region ida opsA false) body =>
    match evV env g,ps with
    | .func (.func it) [] [.eptr 1 [.vec _ 1 xs] 0 0],⟨[p0,p1]⟩ =>
     bif isIt itf it&&(beqBL xs ((xs.map toI).map (.int .i64))&&(Nat.blt xs.length 4611686018427387904&&(Zc8 opsA&&(Zch body&&(Nat.blt p0 fi.n&&Nat.blt p1 fi.n))))) then
      match Zft M fi.n p0 p1 opsA (ZaG kp ida) env (fun e K=>runZ M itf fi kp kr call n [.code body] e K) (bkX (xs.map toI)) L with
      | some L1=>runZ M itf fi kp kr call n k env L1
      | none=>none
     else none
    | _,_=>none
   | .ret=>match finish M.P fi env L with
    | some v=>some (v,L)
    | none=>none
   | _=>none
  | _=>none
theorem Zea {M:Mach} (hm:(M.P ()).follows .mixedOrders=true) {fi:Fi} {p0 p1:Tmp} {opsA:Array Oper} {keepA:List Nat} {env:Vars} {body:Code} {run:Vars->Heap->Option (AV × Heap)} (hrun:∀ e K v K',run e K=some (v,K')->Ev M (.run fi [.code body] e K) v K') :
  ∀ (xs:List (AV × AV)) (L L2:Heap),Zft M fi.n p0 p1 opsA keepA env run xs L=some L2->Rounds M fi p0 p1 opsA body env keepA xs L L2
 | [],L,L2,h=>by simp only [Zft,Option.some.injEq] at h;subst h;exact .nil L
 | x::xs,L,L2,h=>by
  simp only [Zft] at h
  split at h
  ·rename_i e K hr
   cases hb:ZbB K L with
   | false=>rw [hb] at h;simp at h
   | true =>
    rw [hb] at h
    have:=ZdB _ _ hb;subst this
    simp only [cond_true] at h
    split at h
    ·rename_i v L1 hr2
     exact .cons e hr (Zbe hm (.mono (hrun _ _ _ _ hr2) fun _ _ h=>h.2)) (Zea hm hrun xs L1 L2 h)
    ·simp at h
  ·simp at h
theorem runZ_sound {M:Mach} (hm:(M.P ()).follows .mixedOrders=true) {itf:Option FuncId} (hI:∀ it,itf=some it->(∀ args w,(callFunc it args).run (M.P ()) w = .ok (.enter it args) w) /\ ∀ (f:Bool) (X:List Int),X.length<4611686018427387904->Zf4 M it (.eptr 1 [.vec f 1 (X.map (.int .i64))] 0 0) (bkX X))
  {fi:Fi} {kp kr:List (Nat × List Nat)} {call:Zax} (hc:AnsOk M call):∀ (n:Nat) {todo:List Item} {env:Vars} {L L':Heap} {v:AV},runZ M itf fi kp kr call n todo env L=some (v,L')->Ev M (.run fi todo env L) v L':=by
 intro n
 induction n with
 | zero=>intro todo env L L' v h;simp [runZ] at h
 | succ n ih =>
  intro todo env L L' v h
  unfold runZ at h
  split at h
  ·split at h
   ·rename_i w hf
    simp only [Option.some.injEq,Prod.mk.injEq] at h
    obtain ⟨rfl,rfl⟩:=h
    exact .done hf ⟨rfl,rfl⟩
   ·simp at h
  ·exact .inBlock (ih h)
  ·exact .inLoop (ih h)
  ·split at h
   ·exact .skip (ih h)
   ·exact .seq (ih h)
   ·split at h
    ·rename_i t ht
     exact .cond t ht (ih h)
    ·simp at h
   ·exact .block (ih h)
   ·exact .loop (ih h)
   ·split at h
    ·rename_i k' hk
     exact .exit hk (ih h)
    ·simp at h
   ·rename_i id ops
    split at h
    ·rename_i e K ha
     unfold anyXX at ha
     split at ha
     ·rename_i r hr
      simp only [Option.some.injEq] at ha;subst ha
      exact ZgX hm hc (Zdx _) hr (ih h)
     ·exact ZgX hm hc (Zdx _) ha (ih h)
    ·simp at h
   ·split at h
    ·rename_i id ops _ s hr
     split at h
     ·rename_i ha he
      have hg:=ZdG (Zdx _) _ hr (by intro c hc;cases hc)
      refine .region call (Zde (ZaG kr _)) _ _ s (fun h1=>by cases h1) hr (fun b hb => ?_) (fun p hp => ?_) (fun c hcm _ ho => ?_) (fun c hcm _ ho => ?_) (ih h)
      ·exact (List.all_eq_true.1 ha) b hb
      ·rw [he] at hp;cases hp
      ·rcases hg c hcm with ⟨_,h2,o,h3,h4⟩ | ⟨h2,L1,h3⟩ | ⟨h2,_⟩
       ·rw [h4];exact (hc _ _ _ _ _ h3).1 h2
       ·have:=((hc _ _ _ _ _ h3).2 h2).1;simp at this
       ·rw [ho] at h2;simp at h2
      ·rcases hg c hcm with ⟨h2,_⟩ | ⟨h2,L1,h3⟩ | ⟨_,h2,h3⟩
       ·rw [ho] at h2;simp at h2
       ·have:=((hc _ _ _ _ _ h3).2 h2).1;simp at this
       ·exact ((hc _ _ _ _ _ h3).2 h2).2
     ·simp at h
    ·simp at h
   ·rename_i g ps ida opsA body
    split at h
    ·rename_i it f xs p0 p1 hg
     cases hb:(isIt itf it&&(beqBL xs ((xs.map toI).map (.int .i64))&&(Nat.blt xs.length 4611686018427387904&&(Zc8 opsA&&(Zch body&&(Nat.blt p0 fi.n&&Nat.blt p1 fi.n)))))) with
     | false=>rw [hb] at h;simp at h
     | true =>
      rw [hb] at h
      simp only [cond_true] at h
      simp only [Bool.and_eq_true,Nat.blt_eq] at hb
      obtain ⟨b1,b2,b3,b4,b5,b6,b7⟩:=hb
      obtain ⟨hit,hI⟩:=hI _ (isIt_eq b1)
      split at h
      ·rename_i L1 hr
       have h2:=hI f (xs.map toI) (by rw [List.length_map];exact b3)
       rw [<- beqBL_eq _ _ b2] at h2
       exact .sem (range_rounds hg hit h2 b4 b5 b6 b7 (Zea hm (fun e K v K' hrun=>ih hrun) _ _ _ hr) (Zbe hm (ih h)))
      ·simp at h
    ·simp at h
   ·split at h
    ·rename_i w hf
     simp only [Option.some.injEq,Prod.mk.injEq] at h
     obtain ⟨rfl,rfl⟩:=h
     exact .ret hf ⟨rfl,rfl⟩
    ·simp at h
   ·simp at h
  ·simp at h
def trimZ (L L':Heap) (v:AV):Heap:=bif ZaB L.length v (L'.take L.length) then L'.take L.length else L'
theorem trimZ_ok {M:Mach} {f:FuncId} {args:List AV} {L L':Heap} {v:AV} (h:Ev M (.own f args L) v L'):Ev M (.own f args L) v (trimZ L L' v):=by
 unfold trimZ
 cases hk:ZaB L.length v (L'.take L.length) with
 | false=>exact h
 | true =>
  simp only [cond_true]
  refine .drop hk (.mono h fun x K ⟨e1,e2⟩ => ?_)
  subst e1;subst e2
  refine ⟨rfl,?_⟩
  unfold ZaB at hk
  simp only [Bool.and_eq_true,Nat.beq_eq] at hk
  rw [hk.1]
def frzZ (L:Heap) (v:AV) (L':Heap):Option (AV × Heap):=match pureA L' v with
 | some d=>bif (versA L' v).all (fun b=>b)&&((rowsA v).all (fun r=>Nat.ble L.length r)&&((rowsA d).isEmpty&&frzOk L.length (L'.take L.length))) then some (d,L'.take L.length) else none
 | none=>none
theorem frzZ_ok {M:Mach} (hm:(M.P ()).follows .mixedOrders=true) {f:FuncId} {args:List AV} {L L' K:Heap} {v d:AV} (h:Ev M (.own f args L) v L') (hz:frzZ L v L'=some (d,K)):Ev M (.own f args L) d K:=by
 unfold frzZ at hz
 split at hz
 ·rename_i d0 hd
  cases hb:((versA L' v).all (fun b=>b)&&((rowsA v).all (fun r=>Nat.ble L.length r)&&((rowsA d0).isEmpty&&frzOk L.length (L'.take L.length)))) with
  | false=>rw [hb] at hz;simp at hz
  | true =>
   rw [hb] at hz
   simp only [cond_true,Option.some.injEq,Prod.mk.injEq] at hz
   obtain ⟨rfl,rfl⟩:=hz
   simp only [Bool.and_eq_true,List.all_eq_true,List.isEmpty_iff,Nat.ble_eq] at hb
   obtain ⟨b1,b2,b3,b4⟩:=hb
   have hl:(L'.take L.length).length=L.length:=by
    unfold frzOk at b4
    simp only [Bool.and_eq_true,Nat.beq_eq] at b4
    exact b4.1
   exact own_freeze hm b4 b3 (.mono h fun x K ⟨e1,e2⟩=>by
    subst e1;subst e2
    exact ⟨hd,b1,fun r hr=>by rw [hl];exact b2 r hr,by rw [hl]⟩)
 ·simp at hz
def outZ (fz:Bool) (L:Heap) (v:AV) (L':Heap):AV × Option Heap:=
 match (bif fz then frzZ L v L' else none) with
 | some (d,K)=>bif ZbB K L then (d,none) else (d,some K)
 | none=>bif ZbB (trimZ L L' v) L then (v,none) else (v,some (trimZ L L' v))
def ansZ (M:Mach) (fz:Nat->Bool) (K:List (Nat × List AV × AV)) (ex:FuncId->List AV->Heap->Option (AV × Heap)):Zax:=fun g args L =>
 match M.inl g with
 | true=>match ex g args L with
  | some (v,L')=>some (outZ (fz g) L v L')
  | none=>none
 | false=>ansY M K ex g args L
theorem outZ_ok {M:Mach} (hm:(M.P ()).follows .mixedOrders=true) {fz:Bool} {f:FuncId} {args:List AV} {L L':Heap} {v:AV} (h:Ev M (.own f args L) v L'):Ev M (.own f args L) (outZ fz L v L').1 ((outZ fz L v L').2.getD L):=by
 have one:∀ {w:AV} {K:Heap},Ev M (.own f args L) w K->Ev M (.own f args L) (bif ZbB K L then (w,none) else (w,some K):AV × Option Heap).1 ((bif ZbB K L then (w,none) else (w,some K):AV × Option Heap).2.getD L):=by
  intro w K h1
  cases hb:ZbB K L with
  | true=>rw [ZdB _ _ hb] at h1;exact h1
  | false=>exact h1
 unfold outZ
 split
 ·rename_i d K hz
  cases fz with
  | false=>simp at hz
  | true=>exact one (frzZ_ok hm h hz)
 ·exact one (trimZ_ok h)
theorem ansZ_ok {M:Mach} (hm:(M.P ()).follows .mixedOrders=true) {fz:Nat->Bool} {G:EG} (hK:Zcs M G) {ex:FuncId->List AV->Heap->Option (AV × Heap)} (h:∀ f args L v L',ex f args L=some (v,L')->Ev M (.own f args L) v L'):AnsOk M (ansZ M fz G.known ex):=by
 intro f args L v o hc
 unfold ansZ at hc
 split at hc
 ·rename_i hi
  refine ⟨fun _ => ?_,fun h2=>by rw [hi] at h2;simp at h2⟩
  split at hc
  ·rename_i w L' he
   have h1:=outZ_ok hm (fz:=fz f) (h _ _ _ _ _ he)
   simp only [Option.some.injEq] at hc
   rw [hc] at h1
   exact h1
  ·simp at hc
 ·exact ansY_ok hm hK h f args L v o hc
def fzOf (l:List (Nat × List (Nat × List Nat))) (f:Nat):Bool:=l.any fun e=>Nat.beq e.1 f
def execZ (M:Mach) (itf:Option FuncId) (G:EG):Nat->FuncId->List AV->Heap->Option (AV × Heap)
 | 0=>fun _ _ _=>none
 | n+1=>fun f args L =>
  match (M.P ()).funcs[f]? with
  | some fn=>match fn.body,fn.name == "runtime.NumGoroutine" with
   | some c,false=>runZ M itf ⟨fn.ntmps,fn.results.toList⟩ (ofFn G.keep f) (ofFn G.rows f) (ansZ M (fzOf G.hot) G.known (execZ M itf G n)) 100000 [.code c] (ZaN 0 args) L
   | _,_=>none
  | none=>none
theorem execZ_sound {M:Mach} (hm:(M.P ()).follows .mixedOrders=true) {itf:Option FuncId} (hI:∀ it,itf=some it->(∀ args w,(callFunc it args).run (M.P ()) w = .ok (.enter it args) w) /\ ∀ (f:Bool) (X:List Int),X.length<4611686018427387904->Zf4 M it (.eptr 1 [.vec f 1 (X.map (.int .i64))] 0 0) (bkX X))
  {G:EG} (hK:Zcs M G):∀ (n:Nat) (f:FuncId) (args:List AV) (L:Heap) (v:AV) (L':Heap),execZ M itf G n f args L=some (v,L')->Ev M (.own f args L) v L':=by
 intro n
 induction n with
 | zero=>intro f args L v L' h;simp [execZ] at h
 | succ n ih =>
  intro f args L v L' h
  unfold execZ at h
  split at h
  ·rename_i fn hf
   split at h
   ·rename_i c hb hn
    exact .own fn c hf hb hn (runZ_sound hm hI (ansZ_ok hm hK fun f args L v L' h=>ih f args L v L' h) _ h)
   ·simp at h
  ·simp at h
def execP2 (M:Mach) (itf:Option FuncId) (G:EG) (n:Nat) (f:FuncId) (args:List AV):Option AV:=
 match execZ M itf G n f args [] with
 | some (v,L')=>match deepA L' v with
  | some d=>bif (deepV L' v).all (fun b=>b) then some d else none
  | none=>none
 | none=>none
theorem exec_all {M:Mach} (hm:(M.P ()).follows .mixedOrders=true) {itf:Option FuncId} (hI:∀ it,itf=some it->(∀ args w,(callFunc it args).run (M.P ()) w = .ok (.enter it args) w) /\ ∀ (f:Bool) (X:List Int),X.length<4611686018427387904->Zf4 M it (.eptr 1 [.vec f 1 (X.map (.int .i64))] 0 0) (bkX X))
  {G:EG} (hK:Zcs M G) (n:Nat) {f:FuncId} {args:List AV} {d:AV} (h:execP2 M itf G n f args=some d):Ev M (.pure f args) d []:=by
 unfold execP2 at h
 split at h
 ·rename_i v L' he
  split at h
  ·rename_i d0 hd
   cases hb:(deepV L' v).all (fun b=>b) with
   | false=>rw [hb] at h;simp at h
   | true =>
    rw [hb] at h
    simp only [cond_true,Option.some.injEq] at h
    subst h
    exact deep_pure hm (.mono (execZ_sound hm hI hK n _ _ _ _ _ he) fun x K ⟨e1,e2⟩=>by subst e1;subst e2;exact deep_of hd ((Zb5 _).2 fun b hbm=>(List.all_eq_true.1 hb) b hbm))
  ·simp at h
 ·simp at h
end Go.Av

namespace Go.Av
open Go.Proofs
def awkT:List (Nat × List (Nat × List Nat)):=[(8,[(0,[]),(1,[1]),(2,[1,2,3]),(3,[1,2,16]),(4,[0]),(5,[1,2,4]),(6,[1,2,4,18]),(7,[1,2,4]),(8,[1,2,4,22]),(9,[0]),(10,[1,2,4,5]),(11,[0])]),
 (9,[(0,[0,3]),(1,[0,3,6]),(2,[0,3,6,12]),(3,[4,5]),(4,[0,7]),(5,[0,7,21]),(6,[7]),(7,[7]),(8,[4,5])]),
 (10,[(0,[0]),(1,[0,20]),(2,[2]),(3,[0,22]),(4,[0,26]),(5,[2]),(6,[0,3,4]),(7,[0,3,54]),(8,[2]),(9,[0]),(10,[0]),(11,[0]),(12,[0,90]),(13,[]),(14,[2])]),
 (13,[(0,[0,2]),(1,[0,2,6]),(2,[2]),(3,[0,2,14]),(4,[2]),(5,[0,2,3]),(6,[2,4]),(7,[2])]),
 (19,[(0,[0]),(1,[0,3]),(2,[0,3,4,5]),(3,[3,4,21]),(4,[3]),(5,[2])]),
 (40,[(0,[0,3]),(1,[0,3,15]),(2,[4]),(3,[0,3,16,17,18]),(4,[0,3,16,17,18,19]),(5,[0,3,5,6,16,17,18]),(6,[0,3,16,17,18,40]),(7,[4]),(8,[0,3,16,17,18]),(9,[0,3,42,43,44]),(10,[0,3,42,43,44,45]),(11,[0,3,8,42,43,44]),(12,[0,3,42,43,44,55]),(13,[4]),(14,[0,3,42,43,44]),(15,[0,3,59]),(16,[4]),(17,[3,60,61,62]),(18,[3,60,61,62,63]),(19,[3,10,60,61,62]),(20,[3,12,60,61,62]),(21,[3,12,60,61,62,76]),(22,[4]),(23,[3,60,61,62]),(24,[4])]),
 (41,[(0,[0]),(1,[0,4]),(2,[2]),(3,[2])]),
 (42,[(0,[0,25]),(1,[0])]),
 (43,[(0,[0]),(1,[2])]),
 (44,[(0,[0,3]),(1,[0,3,6,7]),(2,[0,3,6,7,20]),(3,[4,5]),(4,[0,3,6,23]),(5,[4,5]),(6,[0,3,8,9]),(7,[0,3,8,31]),(8,[4,5]),(9,[0,3,10]),(10,[0,10,11]),(11,[10,11,12]),(12,[10,11,12,37]),(13,[10,11,12]),(14,[10,11,12]),(15,[4,5])]),
 (45,[(0,[0]),(1,[2])]),
 (46,[(0,[2,3,4]),(1,[2,3,4,7]),(2,[3,4]),(3,[4])]),
 (47,[(0,[0]),(1,[0,2,3]),(2,[0,2,18]),(3,[0]),(4,[0]),(5,[0,36]),(6,[0]),(7,[])]),
 (50,[(0,[4,5,6,7,8]),(1,[4,5,6,7,8,23]),(2,[8,9]),(3,[4,5,6,7,8,38,39,40]),(4,[4,5,6,7,8,38,39,40,41]),(5,[4,5,6,7,8,11,38,39,40]),(6,[4,5,6,7,8,38,39,40,46]),(7,[8,9]),(8,[4,5,6,7,8,38,39,40]),(9,[4,5,8,12]),(10,[8,9])]),
 (52,[(0,[0,2]),(1,[0,2,14]),(2,[2,3]),(3,[0,2,4]),(4,[2,4]),(5,[2,3])]),
 (73,[(0,[1]),(1,[15]),(2,[2]),(3,[2])]),
 (74,[(0,[1]),(1,[2])]),
 (75,[(0,[0,3]),(1,[0,3,13]),(2,[4,5]),(3,[0,3,15]),(4,[4,5]),(5,[0,6]),(6,[4,5])]),
 (76,[(0,[1,2,3]),(1,[1,2,3,28]),(2,[6,7]),(3,[1,2,3,8]),(4,[1,2,3,8,9]),(5,[2,3,8,9,10]),(6,[2,3,8,9,10,32]),(7,[2,3,8,9,10]),(8,[2,3,8,9,10,11,12]),(9,[2,3,8,9,10,11,51]),(10,[6,7]),(11,[2,3,8,9,10]),(12,[2,3,8,9,10]),(13,[6,7])]),
 (77,[(0,[1]),(1,[2])]),
 (79,[(0,[2,3]),(1,[2,3,5]),(2,[2,3,5,8]),(3,[2,3,5]),(4,[2,3,5]),(5,[4])]),
 (80,[(0,[2,3,4]),(1,[2,3,4,5,6]),(2,[2,3,4,5,6,27]),(3,[2,3,4,5,6,7]),(4,[2,3,4,5,6,7,41]),(5,[2,3,4,5,6]),(6,[2,3,4,5,6]),(7,[4])]),
 (81,[(0,[0,1,2]),(1,[6])]),
 (82,[(0,[0,1,2,3]),(1,[6])]),
 (83,[(0,[0,1]),(1,[0,1,5]),(2,[5,12]),(3,[5]),(4,[4])]),
 (96,[(0,[3,4,5,6]),(1,[3,4,5,6,8]),(2,[4,6,8,9,10]),(3,[4,6,8,9,10,41]),(4,[6,7]),(5,[4,6,8,9,10,45]),(6,[4,6,8,9,10,11]),(7,[4,6,8,9,10,11,55]),(8,[4,6,8,9,10]),(9,[4,6,8,9,10]),(10,[6,7])]),
 (97,[(0,[0,3]),(1,[0,3,10]),(2,[4]),(3,[0,3,5]),(4,[0,3,5,14,15]),(5,[0,3,5,14,15,16]),(6,[0,3,5,6,14,15]),(7,[0,3,5,6,7,14,15]),(8,[0,3,5,6,7,14,15,21]),(9,[0,3,5,7,14,15]),(10,[0,3,5,7,14,15,59]),(11,[4]),(12,[0,3,5,14,15]),(13,[0,3,5,14,15]),(14,[4])]),
 (98,[(0,[2,3]),(1,[2,3,21]),(2,[4]),(3,[2,3,24]),(4,[4]),(5,[4])]),
 (99,[(0,[1,2]),(1,[1,2,9]),(2,[4]),(3,[1,2,5]),(4,[4])]),
 (112,[(0,[0,1,2,3]),(1,[2,3,6]),(2,[5])])]
end Go.Av

namespace Go.Av
open Go.Proofs
set_option maxRecDepth 1000000 in
theorem nx0:Ev M1 (.pure 96 [.agg [.int .i64 40,.int .i64 50,.int .i64 60],.agg [.int .i64 0,.int .i64 0],.int .i64 539]) (.tup [.agg [.int .i64 40,.int .i64 40],.bool true]) []:=Zbo (G:=⟨awkT,[],[],[]⟩) ZaZ 30 (by kernel_rfl)
set_option maxRecDepth 1000000 in
theorem nx1:Ev M1 (.pure 96 [.agg [.int .i64 40,.int .i64 50,.int .i64 60],.agg [.int .i64 40,.int .i64 40],.int .i64 499]) (.tup [.agg [.int .i64 40,.int .i64 0],.bool true]) []:=Zbo (G:=⟨awkT,[],[],[]⟩) ZaZ 30 (by kernel_rfl)
set_option maxRecDepth 1000000 in
theorem nx2:Ev M1 (.pure 96 [.agg [.int .i64 40,.int .i64 50,.int .i64 60],.agg [.int .i64 40,.int .i64 0],.int .i64 459]) (.tup [.agg [.int .i64 40,.int .i64 0],.bool true]) []:=Zbo (G:=⟨awkT,[],[],[]⟩) ZaZ 30 (by kernel_rfl)
set_option maxRecDepth 1000000 in
theorem nx3:Ev M1 (.pure 96 [.agg [.int .i64 40,.int .i64 50,.int .i64 60],.agg [.int .i64 40,.int .i64 0],.int .i64 419]) (.tup [.agg [.int .i64 40,.int .i64 0],.bool true]) []:=Zbo (G:=⟨awkT,[],[],[]⟩) ZaZ 30 (by kernel_rfl)
end Go.Av

namespace Go.Av
open Go.Proofs
set_option maxRecDepth 1000000 in
theorem nx4:Ev M1 (.pure 96 [.agg [.int .i64 40,.int .i64 50,.int .i64 60],.agg [.int .i64 40,.int .i64 0],.int .i64 379]) (.tup [.agg [.int .i64 40,.int .i64 0],.bool true]) []:=Zbo (G:=⟨awkT,[],[],[]⟩) ZaZ 30 (by kernel_rfl)
set_option maxRecDepth 1000000 in
theorem nx5:Ev M1 (.pure 96 [.agg [.int .i64 40,.int .i64 50,.int .i64 60],.agg [.int .i64 40,.int .i64 0],.int .i64 339]) (.tup [.agg [.int .i64 40,.int .i64 0],.bool true]) []:=Zbo (G:=⟨awkT,[],[],[]⟩) ZaZ 30 (by kernel_rfl)
set_option maxRecDepth 1000000 in
theorem nx6:Ev M1 (.pure 96 [.agg [.int .i64 40,.int .i64 50,.int .i64 60],.agg [.int .i64 40,.int .i64 0],.int .i64 299]) (.tup [.agg [.int .i64 40,.int .i64 0],.bool true]) []:=Zbo (G:=⟨awkT,[],[],[]⟩) ZaZ 30 (by kernel_rfl)
set_option maxRecDepth 1000000 in
theorem nx7:Ev M1 (.pure 96 [.agg [.int .i64 40,.int .i64 50,.int .i64 60],.agg [.int .i64 40,.int .i64 0],.int .i64 259]) (.tup [.agg [.int .i64 40,.int .i64 0],.bool true]) []:=Zbo (G:=⟨awkT,[],[],[]⟩) ZaZ 30 (by kernel_rfl)
end Go.Av

namespace Go.Av
open Go.Proofs
set_option maxRecDepth 1000000 in
theorem nx8:Ev M1 (.pure 96 [.agg [.int .i64 40,.int .i64 50,.int .i64 60],.agg [.int .i64 40,.int .i64 0],.int .i64 219]) (.tup [.agg [.int .i64 40,.int .i64 0],.bool true]) []:=Zbo (G:=⟨awkT,[],[],[]⟩) ZaZ 30 (by kernel_rfl)
set_option maxRecDepth 1000000 in
theorem nx9:Ev M1 (.pure 96 [.agg [.int .i64 40,.int .i64 50,.int .i64 60],.agg [.int .i64 40,.int .i64 0],.int .i64 179]) (.tup [.agg [.int .i64 40,.int .i64 0],.bool true]) []:=Zbo (G:=⟨awkT,[],[],[]⟩) ZaZ 30 (by kernel_rfl)
set_option maxRecDepth 1000000 in
theorem nx10:Ev M1 (.pure 96 [.agg [.int .i64 40,.int .i64 50,.int .i64 60],.agg [.int .i64 40,.int .i64 0],.int .i64 139]) (.tup [.agg [.int .i64 40,.int .i64 0],.bool true]) []:=Zbo (G:=⟨awkT,[],[],[]⟩) ZaZ 30 (by kernel_rfl)
set_option maxRecDepth 1000000 in
theorem nx11:Ev M1 (.pure 96 [.agg [.int .i64 40,.int .i64 50,.int .i64 60],.agg [.int .i64 40,.int .i64 0],.int .i64 99]) (.tup [.agg [.int .i64 40,.int .i64 0],.bool true]) []:=Zbo (G:=⟨awkT,[],[],[]⟩) ZaZ 30 (by kernel_rfl)
end Go.Av

namespace Go.Av
open Go.Proofs
set_option maxRecDepth 1000000 in
theorem nx12:Ev M1 (.pure 96 [.agg [.int .i64 40,.int .i64 50,.int .i64 60],.agg [.int .i64 40,.int .i64 0],.int .i64 59]) (.tup [.agg [.int .i64 40,.int .i64 0],.bool true]) []:=Zbo (G:=⟨awkT,[],[],[]⟩) ZaZ 30 (by kernel_rfl)
set_option maxRecDepth 1000000 in
theorem nx13:Ev M1 (.pure 96 [.agg [.int .i64 40,.int .i64 50,.int .i64 60],.agg [.int .i64 40,.int .i64 0],.int .i64 19]) (.tup [.agg [.int .i64 19,.int .i64 (-21)],.bool true]) []:=Zbo (G:=⟨awkT,[],[],[]⟩) ZaZ 30 (by kernel_rfl)
end Go.Av

namespace Go.Av
open Go.Proofs
def nxK:List (Nat × List AV × AV):=[(96,[.agg [.int .i64 40,.int .i64 50,.int .i64 60],.agg [.int .i64 0,.int .i64 0],.int .i64 539],.tup [.agg [.int .i64 40,.int .i64 40],.bool true]),
 (96,[.agg [.int .i64 40,.int .i64 50,.int .i64 60],.agg [.int .i64 40,.int .i64 40],.int .i64 499],.tup [.agg [.int .i64 40,.int .i64 0],.bool true]),
 (96,[.agg [.int .i64 40,.int .i64 50,.int .i64 60],.agg [.int .i64 40,.int .i64 0],.int .i64 459],.tup [.agg [.int .i64 40,.int .i64 0],.bool true]),
 (96,[.agg [.int .i64 40,.int .i64 50,.int .i64 60],.agg [.int .i64 40,.int .i64 0],.int .i64 419],.tup [.agg [.int .i64 40,.int .i64 0],.bool true]),
 (96,[.agg [.int .i64 40,.int .i64 50,.int .i64 60],.agg [.int .i64 40,.int .i64 0],.int .i64 379],.tup [.agg [.int .i64 40,.int .i64 0],.bool true]),
 (96,[.agg [.int .i64 40,.int .i64 50,.int .i64 60],.agg [.int .i64 40,.int .i64 0],.int .i64 339],.tup [.agg [.int .i64 40,.int .i64 0],.bool true]),
 (96,[.agg [.int .i64 40,.int .i64 50,.int .i64 60],.agg [.int .i64 40,.int .i64 0],.int .i64 299],.tup [.agg [.int .i64 40,.int .i64 0],.bool true]),
 (96,[.agg [.int .i64 40,.int .i64 50,.int .i64 60],.agg [.int .i64 40,.int .i64 0],.int .i64 259],.tup [.agg [.int .i64 40,.int .i64 0],.bool true]),
 (96,[.agg [.int .i64 40,.int .i64 50,.int .i64 60],.agg [.int .i64 40,.int .i64 0],.int .i64 219],.tup [.agg [.int .i64 40,.int .i64 0],.bool true]),
 (96,[.agg [.int .i64 40,.int .i64 50,.int .i64 60],.agg [.int .i64 40,.int .i64 0],.int .i64 179],.tup [.agg [.int .i64 40,.int .i64 0],.bool true]),
 (96,[.agg [.int .i64 40,.int .i64 50,.int .i64 60],.agg [.int .i64 40,.int .i64 0],.int .i64 139],.tup [.agg [.int .i64 40,.int .i64 0],.bool true]),
 (96,[.agg [.int .i64 40,.int .i64 50,.int .i64 60],.agg [.int .i64 40,.int .i64 0],.int .i64 99],.tup [.agg [.int .i64 40,.int .i64 0],.bool true]),
 (96,[.agg [.int .i64 40,.int .i64 50,.int .i64 60],.agg [.int .i64 40,.int .i64 0],.int .i64 59],.tup [.agg [.int .i64 40,.int .i64 0],.bool true]),
 (96,[.agg [.int .i64 40,.int .i64 50,.int .i64 60],.agg [.int .i64 40,.int .i64 0],.int .i64 19],.tup [.agg [.int .i64 19,.int .i64 (-21)],.bool true])]
theorem nxOk:Zcs M1 ⟨awkT,[],nxK,[]⟩:=by
 intro k hk
 simp only [nxK,List.mem_cons,List.not_mem_nil,or_false] at hk
 rcases hk with rfl | rfl | rfl | rfl | rfl | rfl | rfl | rfl | rfl | rfl | rfl | rfl | rfl | rfl
 ·exact nx0
 ·exact nx1
 ·exact nx2
 ·exact nx3
 ·exact nx4
 ·exact nx5
 ·exact nx6
 ·exact nx7
 ·exact nx8
 ·exact nx9
 ·exact nx10
 ·exact nx11
 ·exact nx12
 ·exact nx13
def awsA:List AV:=[.int .i64 539,.agg [.int .i64 40,.int .i64 50,.int .i64 60]]
def awsD:AV:=.tup [.vec false 1 [.int .i64 40,.int .i64 40,.int .i64 40,.int .i64 40,.int .i64 40,.int .i64 40,.int .i64 40,.int .i64 40,.int .i64 40,.int .i64 40,.int .i64 40,.int .i64 40,.int .i64 40,.int .i64 19],.int .i64 0]
set_option maxRecDepth 1000000 in
theorem steps5:Ev M1 (.pure 44 awsA) awsD []:=Zbo nxOk 30 (by kernel_rfl)
end Go.Av

namespace Go.Av
open Go.Proofs
def mot5:AV:=.agg [.int .i64 0,.int .i64 0,.int .i64 0,.int .i64 500,.int .i64 (-200),.int .i64 0,.int .i64 40000,.int .i64 2,.int .i64 0]
def awkG:EG:=⟨awkT,[],[(51,[mot5],.int .i64 539),(44,awsA,awsD)],[]⟩
theorem awkK:Zcs M1 awkG:=by
 intro k hk
 rcases List.mem_cons.1 hk with rfl | hk
 ·have:=ev51 0 0 0 500 (-200) 0 40000 2 0 ⟨by unfold N.cl;omega,by unfold N.cl;omega,by unfold N.cl;omega⟩
  have e:N.len (500-0) (-200-0) (0-0)=539:=csq_eq ⟨by decide,by decide,.inr (by decide)⟩
  rw [e] at this;exact this
 ·rcases List.mem_cons.1 hk with rfl | hk
  ·exact steps5
  ·exact nomatch hk
set_option maxRecDepth 1000000 in
theorem ev8:Ev M1 (.pure 8 []) (.bool true) []:=exec_all (M:=M1) (by kernel_rfl) (itf:=none) (fun _ h=>nomatch h) awkK 30 (by kernel_rfl)
end Go.Av
