/- PART 6 of the texts of a claim, joined by a program: what each part shows stands at its head. -/
import Derived.Test.YtcekollfgmfdjaaPart91417a9a5a

namespace Go.Av
open Go.Proofs
set_option maxRecDepth 100000
def fi53:Fi:=⟨45,[]⟩
def kp53:List (Nat × List Nat):=[(0,[0,1,2,6]),(1,[0,1,2,6,15]),(2,[0,1,2]),(3,[0,1,2,29]),(4,[])]
def fi58:Fi:=⟨30,[.cell 6 96]⟩
def kp58:List (Nat × List Nat):=[(0,[2,3,4,6]),(1,[2,3,4,6,7]),(2,[2,3,4,6,7,11]),(3,[2,3,4,6,7]),(4,[2,3,4,6,7,18]),(5,[2,3,4,6]),(6,[2,3,4,6,24]),(7,[3,6]),(8,[6])]
def qDe0_at (px py pz z pl:Int) (Q:AV->Heap->Prop):Prop:=Wp M1 (.run fi53 (atC (cd Try.f53) []) [(0,.ptr 0 0 0 0),(1,.int .i64 z),(2,.int .i64 pl)] [⟨[.agg [.int .i64 px,.int .i64 py,.int .i64 pz,.vnil]],4,0,false,false⟩]) Q
def qDe1_at (ms:List Mv) (v:Nat) (px py pz z pl:Int) (Q:AV->Heap->Prop):Prop:=Wp M1 (.run fi53 (atC (cd Try.f53) []) [(0,.ptr 0 0 0 0),(1,.int .i64 z),(2,.int .i64 pl)] [⟨[.agg [.int .i64 px,.int .i64 py,.int .i64 pz,.row 1 v]],4,0,false,false⟩,⟨ms.map Mv.a,7,v,false,true⟩]) Q
def qRd0_at (px py pz x y z pl:Int) (Q:AV->Heap->Prop):Prop:=Wp M1 (.run fi58 (atC (cd Try.f58) []) [(0,.agg [.int .i64 px,.int .i64 py,.int .i64 pz,.vnil]),(1,.agg [.int .i64 x,.int .i64 y,.int .i64 z]),(2,.int .i64 pl)] []) Q
def qRd1_at (ms:List Mv) (v:Nat) (px py pz x y z pl:Int) (Q:AV->Heap->Prop):Prop:=Wp M1 (.run fi58 (atC (cd Try.f58) []) [(0,.agg [.int .i64 px,.int .i64 py,.int .i64 pz,.row 0 v]),(1,.agg [.int .i64 x,.int .i64 y,.int .i64 z]),(2,.int .i64 pl)] [⟨ms.map Mv.a,7,v,false,true⟩]) Q
theorem owncall53 {args:List AV} {L:Heap} {Q:AV->Heap->Prop} (h:Wp M1 (.run fi53 [.code (cd Try.f53)] (ZaX 0 args) L) Q):Wp M1 (.own 53 args L) Q:=
 Zdf Try.f53 fi53 (by kernel_rfl) (by kernel_rfl) (by kernel_rfl) (by kernel_rfl) h
theorem keepcall53 {args:List AV} {L:Heap} {v:AV} {K:Heap} (hk:ZbN L.length v K=true) (h:Wp M1 (.run fi53 [.code (cd Try.f53)] (ZaX 0 args) L) (Zbo v K)):Ev M1 (.own 53 args L) v K:=
 ZcA Try.f53 fi53 (by kernel_rfl) (by kernel_rfl) (by kernel_rfl) (by kernel_rfl) hk h
theorem owncall58 {args:List AV} {L:Heap} {Q:AV->Heap->Prop} (h:Wp M1 (.run fi58 [.code (cd Try.f58)] (ZaX 0 args) L) Q):Wp M1 (.own 58 args L) Q:=
 Zdf Try.f58 fi58 (by kernel_rfl) (by kernel_rfl) (by kernel_rfl) (by kernel_rfl) h
theorem keepcall58 {args:List AV} {L:Heap} {v:AV} {K:Heap} (hk:ZbN L.length v K=true) (h:Wp M1 (.run fi58 [.code (cd Try.f58)] (ZaX 0 args) L) (Zbo v K)):Ev M1 (.own 58 args L) v K:=
 ZcA Try.f58 fi58 (by kernel_rfl) (by kernel_rfl) (by kernel_rfl) (by kernel_rfl) hk h
noncomputable abbrev ZdD (px:Int) (py:Int) (pz:Int):=ag [vi px,vi py,vi pz,AV.vnil]
noncomputable abbrev zNqV2 (px:Int) (py:Int) (z:Int) (pl:Int):=ag [vi (O.mkv px py z pl).kind,vi (O.mkv px py z pl).x,vi (O.mkv px py z pl).y,vi (O.mkv px py z pl).z,vi (O.mkv px py z pl).cx,vi (O.mkv px py z pl).cy,vi (O.mkv px py z pl).rate]
noncomputable abbrev Zez (px:Int) (py:Int) (z:Int):=ag [vi px,vi py,vi z]
noncomputable abbrev zNqV4 (px:Int) (py:Int) (z:Int):=ag [vi px,vi py,vi (if z>1000 then z else 1000),AV.row 1 0]
noncomputable abbrev zNqV5 (z:Int) (pz:Int):=bif decide (z<1000) then decide (z<pz) else false
noncomputable abbrev zNqV6 (px:Int) (py:Int) (z:Int) (pl:Int):=ag [vi px,vi py,vi z,AV.row 1 (0+(O.tol px py z px py (if z>1000 then z else 1000) pl).length)]
noncomputable abbrev zNqV7 (z:Int):=bif decide (z<1000) then decide (z<if z>1000 then z else 1000) else false
noncomputable abbrev zNqV8 (px:Int) (py:Int) (z:Int):=ag [vi px,vi py,vi z,AV.row 3 0]
noncomputable abbrev zNqV9 (px:Int) (py:Int) (z:Int) (pz:Int):=O.tol px py (if z>1000 then z else 1000) px py pz 0
noncomputable abbrev zNqV10 (px:Int) (py:Int) (z:Int) (pz:Int) (pl:Int):=O.tol px py (if z>1000 then z else 1000) px py pz 0++O.tol px py z px py (if z>1000 then z else 1000) pl
theorem qDe0 (px py pz z pl:Int)  (Q:AV->Heap->Prop) (H :
    ((pz > if z > 1000 then z else 1000) -> ((O.sam px py (if z > 1000 then z else 1000) px py pz) -> (((z < 1000) /\ (z < pz)) -> ((O.sam px py z px py pz) -> Q (tu []) [{ elems:=[ag [vi px,vi py,vi pz,AV.vnil]],es:=4,ver:=0,frozen:=false,clean:=false }]) /\
          (¬(O.sam px py z px py pz)->Q (tu []) [{ elems:=[ag [vi px,vi py,vi z,AV.row 1 0]],es:=4,ver:=0,frozen:=false,clean:=false },{ elems:=List.map Mv.a (O.tol px py z px py pz pl),es:=7,ver:=0,frozen:=false,clean:=true }])) /\
        (¬((z<1000)/\(z<pz))->Q (tu []) [{ elems:=[ag [vi px,vi py,vi pz,AV.vnil]],es:=4,ver:=0,frozen:=false,clean:=false }])) /\
      (¬(O.sam px py (if z > 1000 then z else 1000) px py pz) -> (((z < 1000) /\ (z < if z > 1000 then z else 1000)) -> ((O.tol px py (if z > 1000 then z else 1000) px py pz 0).length <= 100000) /\
          Q (tu []) [{ elems:=[ag [vi px,vi py,vi z,AV.row 1 (0+(O.tol px py z px py (if z>1000 then z else 1000) pl).length)]],es:=4,ver:=0,frozen:=false,clean:=false },{ elems:=List.map Mv.a (O.tol px py (if z>1000 then z else 1000) px py pz 0++O.tol px py z px py (if z>1000 then z else 1000) pl),es:=7,ver:=0+(O.tol px py z px py (if z>1000 then z else 1000) pl).length,frozen:=false,clean:=true }]) /\
        (¬((z<1000)/\(z<if z>1000 then z else 1000))->Q (tu []) [{ elems:=[ag [vi px,vi py,vi (if z>1000 then z else 1000),AV.row 1 0]],es:=4,ver:=0,frozen:=false,clean:=false },{ elems:=List.map Mv.a (O.tol px py (if z>1000 then z else 1000) px py pz 0),es:=7,ver:=0,frozen:=false,clean:=true }]))) /\
    (¬(pz > if z > 1000 then z else 1000) -> (((z < 1000) /\ (z < pz)) -> ((O.sam px py z px py pz) -> Q (tu []) [{ elems:=[ag [vi px,vi py,vi pz,AV.vnil]],es:=4,ver:=0,frozen:=false,clean:=false }]) /\
        (¬(O.sam px py z px py pz)->Q (tu []) [{ elems:=[ag [vi px,vi py,vi z,AV.row 1 0]],es:=4,ver:=0,frozen:=false,clean:=false },{ elems:=List.map Mv.a (O.tol px py z px py pz pl),es:=7,ver:=0,frozen:=false,clean:=true }])) /\
      (¬((z<1000)/\(z<pz))->Q (tu []) [{ elems:=[ag [vi px,vi py,vi pz,AV.vnil]],es:=4,ver:=0,frozen:=false,clean:=false }]))) :
  qDe0_at px py pz z pl Q:=by
  unfold qDe0_at
  rcases xm (pz>if z>1000 then z else 1000) with d2 | d2
  · have H:=H.1 d2
    rcases xm (O.sam px py (if z>1000 then z else 1000) px py pz) with d3 | d3
    · have H:=H.1 d3
      refine Zae (G:=Zad kp53 [(2,2,.call (tu []) none)] []) 9 [true] ⟨(atC (cd Try.f53) [1,1]),[(0,AV.ptr 0 0 0 0),(1,vi z),(2,vi pl),(29,vb (zNqV5 z pz))],[⟨[(ZdD px py pz)],4,0,false,false⟩],[true,(decide (pz>if z>1000 then z else 1000))==true,!(decide (z<1000)==true&&true)||true],[],[⟨true,true,51,[AV.ptr 0 0 0 0,vi (if z>1000 then z else 1000)],[⟨[(ZdD px py pz)],4,0,false,false⟩],tu [],[⟨[(ZdD px py pz)],4,0,false,false⟩]⟩]⟩ (by kernel_rfl) (bc rfl (bc (Zak (Zab.2 d2)) (bc (Bool.or_true _) b0))) q0 (cc (fun _=>(@evo51_y px py pz (if z>1000 then z else 1000) d3)) c0) ?_
      rcases xm ((z<1000)/\(z<pz)) with d5 | d5
      · have H:=H.1 d5
        rcases xm (O.sam px py z px py pz) with d6 | d6
        · have H:=H.1 d6
          exact ZaQ (G:=Zad kp53 [(4,14,.call (tu []) (some [⟨[(ZdD px py pz)],4,0,false,false⟩,⟨[(Zez px py z)],3,0,false,false⟩]))] [(4,[14])]) 1000 [true] (env':=[]) (L':=[⟨[(ZdD px py pz)],4,0,false,false⟩]) (asm:=[(zNqV5 z pz)==true,true,true]) (eqs:=[]) (calls:=[⟨true,true,66,[AV.ptr 0 0 0 0,(Zez px py z),vi pl],[⟨[(ZdD px py pz)],4,0,false,false⟩],tu [],[⟨[(ZdD px py pz)],4,0,false,false⟩,⟨[(Zez px py z)],3,0,false,false⟩]⟩]) (tu []) (by kernel_rfl) (by kernel_rfl) (Zaa (Zak ((ZaD Zab Zab).2 d5)) (Zaa rfl (Zaa rfl Zaj))) Zan (Zap (fun _=>(@evo66_y px py pz px py z pl d6)) Zao) H
        · have H:=H.2 d6
          exact ZaQ (G:=Zad kp53 [(4,14,.call (tu []) (some [⟨[(zNqV8 px py z)],4,0,false,false⟩,⟨[(Zez px py z)],3,0,false,false⟩,⟨[(zNqV2 px py z pl)],7,0,false,false⟩,⟨List.map Mv.a (O.tol px py z px py pz pl),7,0,false,true⟩]))] [(4,[14])]) 1000 [true] (env':=[]) (L':=[⟨[ag [vi px,vi py,vi z,AV.row 1 0]],4,0,false,false⟩,⟨List.map Mv.a (O.tol px py z px py pz pl),7,0,false,true⟩]) (asm:=[(zNqV5 z pz)==true,true,true]) (eqs:=[]) (calls:=[⟨true,true,66,[AV.ptr 0 0 0 0,(Zez px py z),vi pl],[⟨[(ZdD px py pz)],4,0,false,false⟩],tu [],[⟨[(zNqV8 px py z)],4,0,false,false⟩,⟨[(Zez px py z)],3,0,false,false⟩,⟨[(zNqV2 px py z pl)],7,0,false,false⟩,⟨List.map Mv.a (O.tol px py z px py pz pl),7,0,false,true⟩]⟩]) (tu []) (by kernel_rfl) (by kernel_rfl) (Zaa (Zak ((ZaD Zab Zab).2 d5)) (Zaa rfl (Zaa rfl Zaj))) Zan (Zap (fun _=>(@evo66_n px py pz px py z pl d6)) Zao) H
      · have H:=H.2 d5
        exact ZaQ (G:=Zad kp53 [] []) 1000 [false] (env':=[(0,AV.ptr 0 0 0 0),(1,vi z),(2,vi pl),(29,vb (zNqV5 z pz))]) (L':=[⟨[(ZdD px py pz)],4,0,false,false⟩]) (asm:=[(zNqV5 z pz)==false]) (eqs:=[]) (calls:=[]) (tu []) (by kernel_rfl) (by kernel_rfl) (Zaa (Zah (fun h=>d5 ((ZaD Zab Zab).1 h))) Zaj) Zan Zao H
    · have H:=H.2 d3
      refine Zae (G:=Zad kp53 [(2,2,.call (tu []) (some [⟨[(zNqV4 px py z)],4,0,false,false⟩,⟨List.map Mv.a (zNqV9 px py z pz),7,0,false,true⟩]))] []) 9 [true] ⟨(atC (cd Try.f53) [1,1]),[(0,AV.ptr 0 0 0 0),(1,vi z),(2,vi pl),(29,vb (zNqV7 z))],[⟨[(zNqV4 px py z)],4,0,false,false⟩,⟨List.map Mv.a (zNqV9 px py z pz),7,0,false,true⟩],[true,(decide (pz>if z>1000 then z else 1000))==true,!(decide (z<1000)==true&&true)||true],[],[⟨true,true,51,[AV.ptr 0 0 0 0,vi (if z>1000 then z else 1000)],[⟨[(ZdD px py pz)],4,0,false,false⟩],tu [],[⟨[(zNqV4 px py z)],4,0,false,false⟩,⟨List.map Mv.a (zNqV9 px py z pz),7,0,false,true⟩]⟩]⟩ (by kernel_rfl) (bc rfl (bc (Zak (Zab.2 d2)) (bc (Bool.or_true _) b0))) q0 (cc (fun _=>(@evo51_n px py pz (if z>1000 then z else 1000) d3)) c0) ?_
      rcases xm ((z<1000)/\(z<if z>1000 then z else 1000)) with d8 | d8
      · have H:=H.1 d8
        obtain ⟨k9,H⟩:=H
        exact ZaQ (G:=Zad kp53 [(4,14,.call (tu []) (some [⟨[(zNqV6 px py z pl)],4,0,false,false⟩,⟨List.map Mv.a (zNqV10 px py z pz pl),7,0+(O.tol px py z px py (if z>1000 then z else 1000) pl).length,false,true⟩]))] [(4,[14])]) 1000 [true] (env':=[]) (L':=[⟨[(zNqV6 px py z pl)],4,0,false,false⟩,⟨List.map Mv.a (zNqV10 px py z pz pl),7,0+(O.tol px py z px py (if z>1000 then z else 1000) pl).length,false,true⟩]) (asm:=[(zNqV7 z)==true,true,true]) (eqs:=[]) (calls:=[⟨true,true,66,[AV.ptr 0 0 0 0,(Zez px py z),vi pl],[⟨[(zNqV4 px py z)],4,0,false,false⟩,⟨List.map Mv.a (zNqV9 px py z pz),7,0,false,true⟩],tu [],[⟨[(zNqV6 px py z pl)],4,0,false,false⟩,⟨List.map Mv.a (zNqV10 px py z pz pl),7,0+(O.tol px py z px py (if z>1000 then z else 1000) pl).length,false,true⟩]⟩]) (tu []) (by kernel_rfl) (by kernel_rfl) (Zaa (Zak ((ZaD Zab Zab).2 d8)) (Zaa rfl (Zaa rfl Zaj))) Zan (Zap (fun _=>(@evo66 (zNqV9 px py z pz) 0 px py (if z>1000 then z else 1000) px py z pl k9)) Zao) H
      · have H:=H.2 d8
        exact ZaQ (G:=Zad kp53 [] []) 1000 [false] (env':=[(0,AV.ptr 0 0 0 0),(1,vi z),(2,vi pl),(29,vb (zNqV7 z))]) (L':=[⟨[(zNqV4 px py z)],4,0,false,false⟩,⟨List.map Mv.a (zNqV9 px py z pz),7,0,false,true⟩]) (asm:=[(zNqV7 z)==false]) (eqs:=[]) (calls:=[]) (tu []) (by kernel_rfl) (by kernel_rfl) (Zaa (Zah (fun h=>d8 ((ZaD Zab Zab).1 h))) Zaj) Zan Zao H
  · have H:=H.2 d2
    rcases xm ((z<1000)/\(z<pz)) with d11 | d11
    · have H:=H.1 d11
      rcases xm (O.sam px py z px py pz) with d12 | d12
      · have H:=H.1 d12
        exact ZaQ (G:=Zad kp53 [(4,14,.call (tu []) (some [⟨[(ZdD px py pz)],4,0,false,false⟩,⟨[(Zez px py z)],3,0,false,false⟩]))] [(4,[14])]) 1000 [false,true] (env':=[]) (L':=[⟨[(ZdD px py pz)],4,0,false,false⟩]) (asm:=[true,(decide (pz>if z>1000 then z else 1000))==false,!(decide (z<1000)==true&&true)||true,(zNqV5 z pz)==true,true,true]) (eqs:=[]) (calls:=[⟨true,true,66,[AV.ptr 0 0 0 0,(Zez px py z),vi pl],[⟨[(ZdD px py pz)],4,0,false,false⟩],tu [],[⟨[(ZdD px py pz)],4,0,false,false⟩,⟨[(Zez px py z)],3,0,false,false⟩]⟩]) (tu []) (by kernel_rfl) (by kernel_rfl) (Zaa rfl (Zaa (Zah (fun h=>d2 (Zab.1 h))) (Zaa (Bool.or_true _) (Zaa (Zak ((ZaD Zab Zab).2 d11)) (Zaa rfl (Zaa rfl Zaj)))))) Zan (Zap (fun _=>(@evo66_y px py pz px py z pl d12)) Zao) H
      · have H:=H.2 d12
        exact ZaQ (G:=Zad kp53 [(4,14,.call (tu []) (some [⟨[(zNqV8 px py z)],4,0,false,false⟩,⟨[(Zez px py z)],3,0,false,false⟩,⟨[(zNqV2 px py z pl)],7,0,false,false⟩,⟨List.map Mv.a (O.tol px py z px py pz pl),7,0,false,true⟩]))] [(4,[14])]) 1000 [false,true] (env':=[]) (L':=[⟨[ag [vi px,vi py,vi z,AV.row 1 0]],4,0,false,false⟩,⟨List.map Mv.a (O.tol px py z px py pz pl),7,0,false,true⟩]) (asm:=[true,(decide (pz>if z>1000 then z else 1000))==false,!(decide (z<1000)==true&&true)||true,(zNqV5 z pz)==true,true,true]) (eqs:=[]) (calls:=[⟨true,true,66,[AV.ptr 0 0 0 0,(Zez px py z),vi pl],[⟨[(ZdD px py pz)],4,0,false,false⟩],tu [],[⟨[(zNqV8 px py z)],4,0,false,false⟩,⟨[(Zez px py z)],3,0,false,false⟩,⟨[(zNqV2 px py z pl)],7,0,false,false⟩,⟨List.map Mv.a (O.tol px py z px py pz pl),7,0,false,true⟩]⟩]) (tu []) (by kernel_rfl) (by kernel_rfl) (Zaa rfl (Zaa (Zah (fun h=>d2 (Zab.1 h))) (Zaa (Bool.or_true _) (Zaa (Zak ((ZaD Zab Zab).2 d11)) (Zaa rfl (Zaa rfl Zaj)))))) Zan (Zap (fun _=>(@evo66_n px py pz px py z pl d12)) Zao) H
    · have H:=H.2 d11
      exact ZaQ (G:=Zad kp53 [] []) 1000 [false,false] (env':=[(0,AV.ptr 0 0 0 0),(1,vi z),(2,vi pl),(29,vb (zNqV5 z pz))]) (L':=[⟨[(ZdD px py pz)],4,0,false,false⟩]) (asm:=[true,(decide (pz>if z>1000 then z else 1000))==false,!(decide (z<1000)==true&&true)||true,(zNqV5 z pz)==false]) (eqs:=[]) (calls:=[]) (tu []) (by kernel_rfl) (by kernel_rfl) (Zaa rfl (Zaa (Zah (fun h=>d2 (Zab.1 h))) (Zaa (Bool.or_true _) (Zaa (Zah (fun h=>d11 ((ZaD Zab Zab).1 h))) Zaj)))) Zan Zao H
noncomputable abbrev Zc2 (px:Int) (py:Int) (z:Int) (pz:Int):=O.tol px py (if z>1000 then z else 1000) px py pz 0
noncomputable abbrev zNqV11 (px:Int) (py:Int) (z:Int) (v:Nat) (pz:Int):=ag [vi px,vi py,vi (if z>1000 then z else 1000),AV.row 1 (v+(Zc2 px py z pz).length)]
noncomputable abbrev zNqV13 (px:Int) (py:Int) (z:Int) (v:Nat) (pz:Int) (pl:Int):=ag [vi px,vi py,vi z,AV.row 1 (v+(Zc2 px py z pz).length+(O.tol px py z px py (if z>1000 then z else 1000) pl).length)]
noncomputable abbrev zNqV14 (z:Int):=bif decide (z<1000) then decide (z<if z>1000 then z else 1000) else false
noncomputable abbrev zNqV15 (px:Int) (py:Int) (z:Int) (v:Nat) (pz:Int) (pl:Int):=ag [vi px,vi py,vi z,AV.row 1 (v+(O.tol px py z px py pz pl).length)]
noncomputable abbrev zNqV16 (px:Int) (py:Int) (pz:Int) (v:Nat):=ag [vi px,vi py,vi pz,AV.row 1 v]
theorem qDe1 (ms:List Mv) (v:Nat) (px py pz z pl:Int)  (dv:AV) (dK:Heap) (_:ZbN 2 dv dK=true) (H :
  ((pz>if z>1000 then z else 1000)->(ms.length<=100000) /\
   (((z<1000)/\(z<if z>1000 then z else 1000))->((ms++O.tol px py (if z>1000 then z else 1000) px py pz 0).length<=100000) /\
    (Zbo dv dK) (tu []) [{ elems:=[ag [vi px,vi py,vi z,AV.row 1 (v+(O.tol px py (if z>1000 then z else 1000) px py pz 0).length+(O.tol px py z px py (if z>1000 then z else 1000) pl).length)]],es:=4,ver:=0,frozen:=false,clean:=false },{ elems:=List.map Mv.a (ms++O.tol px py (if z>1000 then z else 1000) px py pz 0++O.tol px py z px py (if z>1000 then z else 1000) pl),es:=7,ver:=v+(O.tol px py (if z>1000 then z else 1000) px py pz 0).length+(O.tol px py z px py (if z>1000 then z else 1000) pl).length,frozen:=false,clean:=true }]) /\
   (¬((z<1000)/\(z<if z>1000 then z else 1000))->(Zbo dv dK) (tu []) [{ elems:=[ag [vi px,vi py,vi (if z>1000 then z else 1000),AV.row 1 (v+(O.tol px py (if z>1000 then z else 1000) px py pz 0).length)]],es:=4,ver:=0,frozen:=false,clean:=false },{ elems:=List.map Mv.a (ms++O.tol px py (if z>1000 then z else 1000) px py pz 0),es:=7,ver:=v+(O.tol px py (if z>1000 then z else 1000) px py pz 0).length,frozen:=false,clean:=true }])) /\
  (¬(pz>if z>1000 then z else 1000)->(((z<1000)/\(z<pz))->(ms.length<=100000) /\
    (Zbo dv dK) (tu []) [{ elems:=[ag [vi px,vi py,vi z,AV.row 1 (v+(O.tol px py z px py pz pl).length)]],es:=4,ver:=0,frozen:=false,clean:=false },{ elems:=List.map Mv.a (ms++O.tol px py z px py pz pl),es:=7,ver:=v+(O.tol px py z px py pz pl).length,frozen:=false,clean:=true }]) /\
   (¬((z<1000)/\(z<pz))->(Zbo dv dK) (tu []) [{ elems:=[ag [vi px,vi py,vi pz,AV.row 1 v]],es:=4,ver:=0,frozen:=false,clean:=false },{ elems:=List.map Mv.a ms,es:=7,ver:=v,frozen:=false,clean:=true }]))) :
 qDe1_at ms v px py pz z pl (Zbo dv dK):=by
 unfold qDe1_at
 rcases xq H with ⟨d2,H⟩|⟨d2,H⟩
 ·obtain ⟨k3,H⟩:=H
  refine Zae (G:=Zad kp53 [(2,2,.call (tu []) (some [⟨[(zNqV11 px py z v pz)],4,0,false,false⟩,⟨List.map Mv.a (ms++O.tol px py (if z>1000 then z else 1000) px py pz 0),7,v+(Zc2 px py z pz).length,false,true⟩]))] []) 9 [true] ⟨(atC (cd Try.f53) [1,1]),[(0,AV.ptr 0 0 0 0),(1,vi z),(2,vi pl),(29,vb (zNqV14 z))],[⟨[(zNqV11 px py z v pz)],4,0,false,false⟩,⟨List.map Mv.a (ms++O.tol px py (if z>1000 then z else 1000) px py pz 0),7,v+(Zc2 px py z pz).length,false,true⟩],[true,(decide (pz>if z>1000 then z else 1000))==true,!(decide (z<1000)==true&&true)||true],[],[⟨true,true,51,[AV.ptr 0 0 0 0,vi (if z>1000 then z else 1000)],[⟨[(zNqV16 px py pz v)],4,0,false,false⟩,⟨List.map Mv.a ms,7,v,false,true⟩],tu [],[⟨[(zNqV11 px py z v pz)],4,0,false,false⟩,⟨List.map Mv.a (ms++O.tol px py (if z>1000 then z else 1000) px py pz 0),7,v+(Zc2 px py z pz).length,false,true⟩]⟩]⟩ (by kernel_rfl) (bc rfl (bc (Zak (Zab.2 d2)) (bc (Bool.or_true _) b0))) q0 (cc (fun _=>(@evo51 ms v px py pz (if z>1000 then z else 1000) k3)) c0) ?_
  rcases xq H with ⟨d5,H⟩|⟨d5,H⟩
  ·obtain ⟨k6,H⟩:=H
   exact ZaQ (G:=Zad kp53 [(4,14,.call (tu []) (some [⟨[(zNqV13 px py z v pz pl)],4,0,false,false⟩,⟨List.map Mv.a (ms++O.tol px py (if z>1000 then z else 1000) px py pz 0++O.tol px py z px py (if z>1000 then z else 1000) pl),7,v+(Zc2 px py z pz).length+(O.tol px py z px py (if z>1000 then z else 1000) pl).length,false,true⟩]))] [(4,[14])]) 1000 [true] (env':=[]) (L':=[⟨[(zNqV13 px py z v pz pl)],4,0,false,false⟩,⟨List.map Mv.a (ms++O.tol px py (if z>1000 then z else 1000) px py pz 0++O.tol px py z px py (if z>1000 then z else 1000) pl),7,v+(Zc2 px py z pz).length+(O.tol px py z px py (if z>1000 then z else 1000) pl).length,false,true⟩]) (asm:=[(zNqV14 z)==true,true,true]) (eqs:=[]) (calls:=[⟨true,true,66,[AV.ptr 0 0 0 0,ag [vi px,vi py,vi z],vi pl],[⟨[(zNqV11 px py z v pz)],4,0,false,false⟩,⟨List.map Mv.a (ms++O.tol px py (if z>1000 then z else 1000) px py pz 0),7,v+(Zc2 px py z pz).length,false,true⟩],tu [],[⟨[(zNqV13 px py z v pz pl)],4,0,false,false⟩,⟨List.map Mv.a (ms++O.tol px py (if z>1000 then z else 1000) px py pz 0++O.tol px py z px py (if z>1000 then z else 1000) pl),7,v+(Zc2 px py z pz).length+(O.tol px py z px py (if z>1000 then z else 1000) pl).length,false,true⟩]⟩]) (tu []) (by kernel_rfl) (by kernel_rfl) (Zaa (Zak ((ZaD Zab Zab).2 d5)) (Zaa rfl (Zaa rfl Zaj))) Zan (Zap (fun _=>(@evo66 (ms++O.tol px py (if z>1000 then z else 1000) px py pz 0) (v+(Zc2 px py z pz).length) px py (if z>1000 then z else 1000) px py z pl k6)) Zao) H
  ·exact ZaQ (G:=Zad kp53 [] []) 1000 [false] (env':=[(0,AV.ptr 0 0 0 0),(1,vi z),(2,vi pl),(29,vb (zNqV14 z))]) (L':=[⟨[(zNqV11 px py z v pz)],4,0,false,false⟩,⟨List.map Mv.a (ms++O.tol px py (if z>1000 then z else 1000) px py pz 0),7,v+(Zc2 px py z pz).length,false,true⟩]) (asm:=[(zNqV14 z)==false]) (eqs:=[]) (calls:=[]) (tu []) (by kernel_rfl) (by kernel_rfl) (Zaa (Zah (fun h=>d5 ((ZaD Zab Zab).1 h))) Zaj) Zan Zao H
 ·rcases xq H with ⟨d8,H⟩|⟨d8,H⟩
  ·obtain ⟨k9,H⟩:=H
   exact ZaQ (G:=Zad kp53 [(4,14,.call (tu []) (some [⟨[(zNqV15 px py z v pz pl)],4,0,false,false⟩,⟨List.map Mv.a (ms++O.tol px py z px py pz pl),7,v+(O.tol px py z px py pz pl).length,false,true⟩]))] [(4,[14])]) 1000 [false,true] (env':=[]) (L':=[⟨[(zNqV15 px py z v pz pl)],4,0,false,false⟩,⟨List.map Mv.a (ms++O.tol px py z px py pz pl),7,v+(O.tol px py z px py pz pl).length,false,true⟩]) (asm:=[true,(decide (pz>if z>1000 then z else 1000))==false,!(decide (z<1000)==true&&true)||true,(bif decide (z<1000) then decide (z<pz) else false)==true,true,true]) (eqs:=[]) (calls:=[⟨true,true,66,[AV.ptr 0 0 0 0,ag [vi px,vi py,vi z],vi pl],[⟨[(zNqV16 px py pz v)],4,0,false,false⟩,⟨List.map Mv.a ms,7,v,false,true⟩],tu [],[⟨[(zNqV15 px py z v pz pl)],4,0,false,false⟩,⟨List.map Mv.a (ms++O.tol px py z px py pz pl),7,v+(O.tol px py z px py pz pl).length,false,true⟩]⟩]) (tu []) (by kernel_rfl) (by kernel_rfl) (Zaa rfl (Zaa (Zah (fun h=>d2 (Zab.1 h))) (Zaa (Bool.or_true _) (Zaa (Zak ((ZaD Zab Zab).2 d8)) (Zaa rfl (Zaa rfl Zaj)))))) Zan (Zap (fun _=>(@evo66 ms v px py pz px py z pl k9)) Zao) H
  ·exact ZaQ (G:=Zad kp53 [] []) 1000 [false,false] (env':=[(0,AV.ptr 0 0 0 0),(1,vi z),(2,vi pl),(29,vb (bif decide (z<1000) then decide (z<pz) else false))]) (L':=[⟨[(zNqV16 px py pz v)],4,0,false,false⟩,⟨List.map Mv.a ms,7,v,false,true⟩]) (asm:=[true,(decide (pz>if z>1000 then z else 1000))==false,!(decide (z<1000)==true&&true)||true,(bif decide (z<1000) then decide (z<pz) else false)==false]) (eqs:=[]) (calls:=[]) (tu []) (by kernel_rfl) (by kernel_rfl) (Zaa rfl (Zaa (Zah (fun h=>d2 (Zab.1 h))) (Zaa (Bool.or_true _) (Zaa (Zah (fun h=>d8 ((ZaD Zab Zab).1 h))) Zaj)))) Zan Zao H
noncomputable abbrev Zaz (px:Int) (py:Int) (pz:Int):=ag [vi px,vi py,vi pz,AV.vnil]
noncomputable abbrev Za6 (x:Int) (y:Int) (z:Int):=ag [vi x,vi y,vi z]
noncomputable abbrev Zcy (x:Int) (y:Int):=ag [vi x,vi y,vi 1000]
noncomputable abbrev ZcZ (x:Int) (y:Int) (z:Int):=ag [vi x,vi y,vi z,AV.row 3 0]
noncomputable abbrev ZdW (x:Int) (y:Int) (z:Int):=ag [vi x,vi y,vi z,AV.row 4 0]
noncomputable abbrev zNqV22 (x:Int) (y:Int):=ag [vi x,vi y,vi 1000,AV.row 3 0]
noncomputable abbrev zNqV23 (x:Int) (y:Int) (z:Int) (pl:Int):=ag [vi x,vi y,vi z,AV.row 4 (0+(O.adl x y z x y 1000 pl).length)]
theorem qRd0 (px py pz x y z pl:Int)  (Q:AV->Heap->Prop) (H :
    ((z < 1000) -> ((pz > 1000) -> ((O.sam x y 1000 px py pz) -> ((O.sam x y z px py pz) -> Q (ag [vi px,vi py,vi pz,AV.vnil]) [{ elems:=[ag [vi px,vi py,vi pz,AV.vnil]],es:=4,ver:=0,frozen:=false,clean:=false },{ elems:=[ag [vi x,vi y,vi z]],es:=3,ver:=0,frozen:=false,clean:=false },{ elems:=[ag [vi px,vi py,vi pz,AV.vnil]],es:=4,ver:=0,frozen:=false,clean:=false },{ elems:=[ag [vi x,vi y,vi 1000]],es:=3,ver:=0,frozen:=false,clean:=false }]) /\
          (¬(O.sam x y z px py pz)->Q (ag [vi x,vi y,vi z,AV.row 4 0]) [{ elems:=[ag [vi x,vi y,vi z,AV.row 4 0]],es:=4,ver:=0,frozen:=false,clean:=false },{ elems:=[ag [vi x,vi y,vi z]],es:=3,ver:=0,frozen:=false,clean:=false },{ elems:=[ag [vi x,vi y,vi z,AV.row 4 0]],es:=4,ver:=0,frozen:=false,clean:=false },{ elems:=[ag [vi x,vi y,vi 1000]],es:=3,ver:=0,frozen:=false,clean:=false },{ elems:=List.map Mv.a (O.adl x y z px py pz pl),es:=7,ver:=0,frozen:=false,clean:=true }])) /\
        (¬(O.sam x y 1000 px py pz)->((O.adl x y 1000 px py pz 0).length<=100000) /\
          Q (ag [vi x,vi y,vi z,AV.row 4 (0+(O.adl x y z x y 1000 pl).length)]) [{ elems:=[ag [vi x,vi y,vi z,AV.row 4 (0+(O.adl x y z x y 1000 pl).length)]],es:=4,ver:=0,frozen:=false,clean:=false },{ elems:=[ag [vi x,vi y,vi z]],es:=3,ver:=0,frozen:=false,clean:=false },{ elems:=[ag [vi x,vi y,vi z,AV.row 4 (0+(O.adl x y z x y 1000 pl).length)]],es:=4,ver:=0,frozen:=false,clean:=false },{ elems:=[ag [vi x,vi y,vi 1000]],es:=3,ver:=0,frozen:=false,clean:=false },{ elems:=List.map Mv.a (O.adl x y 1000 px py pz 0++O.adl x y z x y 1000 pl),es:=7,ver:=0+(O.adl x y z x y 1000 pl).length,frozen:=false,clean:=true }])) /\
      (¬(pz>1000)->((O.sam x y z px py pz)->Q (ag [vi px,vi py,vi pz,AV.vnil]) [{ elems:=[ag [vi px,vi py,vi pz,AV.vnil]],es:=4,ver:=0,frozen:=false,clean:=false },{ elems:=[ag [vi x,vi y,vi z]],es:=3,ver:=0,frozen:=false,clean:=false },{ elems:=[ag [vi px,vi py,vi pz,AV.vnil]],es:=4,ver:=0,frozen:=false,clean:=false },{ elems:=[ag [vi x,vi y,vi 1000]],es:=3,ver:=0,frozen:=false,clean:=false }]) /\
        (¬(O.sam x y z px py pz)->Q (ag [vi x,vi y,vi z,AV.row 4 0]) [{ elems:=[ag [vi x,vi y,vi z,AV.row 4 0]],es:=4,ver:=0,frozen:=false,clean:=false },{ elems:=[ag [vi x,vi y,vi z]],es:=3,ver:=0,frozen:=false,clean:=false },{ elems:=[ag [vi x,vi y,vi z,AV.row 4 0]],es:=4,ver:=0,frozen:=false,clean:=false },{ elems:=[ag [vi x,vi y,vi 1000]],es:=3,ver:=0,frozen:=false,clean:=false },{ elems:=List.map Mv.a (O.adl x y z px py pz pl),es:=7,ver:=0,frozen:=false,clean:=true }]))) /\
    (¬(z < 1000) -> ((pz > z) -> ((O.sam x y z px py pz) -> Q (ag [vi px,vi py,vi pz,AV.vnil]) [{ elems:=[ag [vi px,vi py,vi pz,AV.vnil]],es:=4,ver:=0,frozen:=false,clean:=false },{ elems:=[ag [vi x,vi y,vi z]],es:=3,ver:=0,frozen:=false,clean:=false },{ elems:=[ag [vi px,vi py,vi pz,AV.vnil]],es:=4,ver:=0,frozen:=false,clean:=false },{ elems:=[ag [vi x,vi y,vi z]],es:=3,ver:=0,frozen:=false,clean:=false }]) /\
        (¬(O.sam x y z px py pz)->Q (ag [vi x,vi y,vi z,AV.row 4 0]) [{ elems:=[ag [vi x,vi y,vi z,AV.row 4 0]],es:=4,ver:=0,frozen:=false,clean:=false },{ elems:=[ag [vi x,vi y,vi z]],es:=3,ver:=0,frozen:=false,clean:=false },{ elems:=[ag [vi x,vi y,vi z,AV.row 4 0]],es:=4,ver:=0,frozen:=false,clean:=false },{ elems:=[ag [vi x,vi y,vi z]],es:=3,ver:=0,frozen:=false,clean:=false },{ elems:=List.map Mv.a (O.adl x y z px py pz 0),es:=7,ver:=0,frozen:=false,clean:=true }])) /\
      (¬(pz>z)->Q (ag [vi px,vi py,vi pz,AV.vnil]) [{ elems:=[ag [vi px,vi py,vi pz,AV.vnil]],es:=4,ver:=0,frozen:=false,clean:=false },{ elems:=[ag [vi x,vi y,vi z]],es:=3,ver:=0,frozen:=false,clean:=false },{ elems:=[ag [vi px,vi py,vi pz,AV.vnil]],es:=4,ver:=0,frozen:=false,clean:=false },{ elems:=[ag [vi x,vi y,vi z]],es:=3,ver:=0,frozen:=false,clean:=false }]))) :
  qRd0_at px py pz x y z pl Q:=by
  unfold qRd0_at
  rcases xm (z<1000) with d2 | d2
  · have H:=H.1 d2
    rcases xm (pz>1000) with d4 | d4
    · have H:=H.1 d4
      rcases xm (O.sam x y 1000 px py pz) with d5 | d5
      · have H:=H.1 d5
        rcases xm (O.sam x y z px py pz) with d7 | d7
        · have H:=H.1 d7
          exact Zax (G:=Zad kp58 [(5,2,.call ((Zaz px py pz)) (some [⟨[(Zaz px py pz)],4,0,false,false⟩,⟨[(Zcy x y)],3,0,false,false⟩,⟨[(Zaz px py pz)],4,0,false,false⟩])),(7,3,.call ((Zaz px py pz)) (some [⟨[(Zaz px py pz)],4,0,false,false⟩,⟨[(Za6 x y z)],3,0,false,false⟩,⟨[(Zaz px py pz)],4,0,false,false⟩]))] []) 1000 [true,true,true] (k:=((atC (cd Try.f58) [1,1,1,1,1,1])).tail) (env':=[(6,AV.ptr 2 0 0 0)]) (L':=[⟨[(Zaz px py pz)],4,0,false,false⟩,⟨[(Za6 x y z)],3,0,false,false⟩,⟨[(Zaz px py pz)],4,0,false,false⟩,⟨[(Zcy x y)],3,0,false,false⟩]) (asm:=[true,true,true,(decide (z<1000))==true,0==0,true,true,(decide (pz>1000))==true,true,true,true,true,(decide (z<1000))==true,true,true,true,true,true]) (eqs:=[]) (calls:=[⟨true,true,57,[(Zaz px py pz),(Zcy x y),vi 0],[],(Zaz px py pz),[⟨[(Zaz px py pz)],4,0,false,false⟩,⟨[(Zcy x y)],3,0,false,false⟩,⟨[(Zaz px py pz)],4,0,false,false⟩]⟩,⟨true,true,57,[(Zaz px py pz),(Za6 x y z),vi pl],[],(Zaz px py pz),[⟨[(Zaz px py pz)],4,0,false,false⟩,⟨[(Za6 x y z)],3,0,false,false⟩,⟨[(Zaz px py pz)],4,0,false,false⟩]⟩]) ((Zaz px py pz)) (by kernel_rfl) (by kernel_rfl) (Zaa rfl (Zaa rfl (Zaa rfl (Zaa (Zak (Zab.2 d2)) (Zaa (beq_self_eq_true _) (Zaa rfl (Zaa rfl (Zaa (Zak (Zab.2 d4)) (Zaa rfl (Zaa rfl (Zaa rfl (Zaa rfl (Zaa (Zak (Zab.2 d2)) (Zaa rfl (Zaa rfl (Zaa rfl (Zaa rfl (Zaa rfl Zaj)))))))))))))))))) Zan (Zap (fun _=>(@ZdS px py pz x y 1000 0 d5)) (Zap (fun _=>(@ZdS px py pz x y z pl d7)) Zao)) H
        · have H:=H.2 d7
          exact Zax (G:=Zad kp58 [(5,2,.call ((Zaz px py pz)) (some [⟨[(Zaz px py pz)],4,0,false,false⟩,⟨[(Zcy x y)],3,0,false,false⟩,⟨[(Zaz px py pz)],4,0,false,false⟩])),(7,3,.call ((ZcZ x y z)) (some [⟨[(Zaz px py pz)],4,0,false,false⟩,⟨[(Za6 x y z)],3,0,false,false⟩,⟨[(ZcZ x y z)],4,0,false,false⟩,⟨List.map Mv.a (O.adl x y z px py pz pl),7,0,false,true⟩]))] []) 1000 [true,true,true] (k:=((atC (cd Try.f58) [1,1,1,1,1,1])).tail) (env':=[(6,AV.ptr 2 0 0 0)]) (L':=[⟨[(ZdW x y z)],4,0,false,false⟩,⟨[(Za6 x y z)],3,0,false,false⟩,⟨[(ZdW x y z)],4,0,false,false⟩,⟨[(Zcy x y)],3,0,false,false⟩,⟨List.map Mv.a (O.adl x y z px py pz pl),7,0,false,true⟩]) (asm:=[true,true,true,(decide (z<1000))==true,0==0,true,true,(decide (pz>1000))==true,true,true,true,true,(decide (z<1000))==true,true,true,true,true,true]) (eqs:=[]) (calls:=[⟨true,true,57,[(Zaz px py pz),(Zcy x y),vi 0],[],(Zaz px py pz),[⟨[(Zaz px py pz)],4,0,false,false⟩,⟨[(Zcy x y)],3,0,false,false⟩,⟨[(Zaz px py pz)],4,0,false,false⟩]⟩,⟨true,true,57,[(Zaz px py pz),(Za6 x y z),vi pl],[],(ZcZ x y z),[⟨[(Zaz px py pz)],4,0,false,false⟩,⟨[(Za6 x y z)],3,0,false,false⟩,⟨[(ZcZ x y z)],4,0,false,false⟩,⟨List.map Mv.a (O.adl x y z px py pz pl),7,0,false,true⟩]⟩]) ((ZdW x y z)) (by kernel_rfl) (by kernel_rfl) (Zaa rfl (Zaa rfl (Zaa rfl (Zaa (Zak (Zab.2 d2)) (Zaa (beq_self_eq_true _) (Zaa rfl (Zaa rfl (Zaa (Zak (Zab.2 d4)) (Zaa rfl (Zaa rfl (Zaa rfl (Zaa rfl (Zaa (Zak (Zab.2 d2)) (Zaa rfl (Zaa rfl (Zaa rfl (Zaa rfl (Zaa rfl Zaj)))))))))))))))))) Zan (Zap (fun _=>(@ZdS px py pz x y 1000 0 d5)) (Zap (fun _=>(@ZeQ px py pz x y z pl d7)) Zao)) H
      · have H:=H.2 d5
        obtain ⟨k9,H⟩:=H
        exact Zax (G:=Zad kp58 [(5,2,.call ((zNqV22 x y)) (some [⟨[(Zaz px py pz)],4,0,false,false⟩,⟨[(Zcy x y)],3,0,false,false⟩,⟨[(zNqV22 x y)],4,0,false,false⟩,⟨List.map Mv.a (O.adl x y 1000 px py pz 0),7,0,false,true⟩])),(7,3,.call (ag [vi x,vi y,vi z,AV.row 0 (0+(O.adl x y z x y 1000 pl).length)]) (some [⟨List.map Mv.a (O.adl x y 1000 px py pz 0++O.adl x y z x y 1000 pl),7,0+(O.adl x y z x y 1000 pl).length,false,true⟩]))] []) 1000 [true,true,true] (k:=((atC (cd Try.f58) [1,1,1,1,1,1])).tail) (env':=[(6,AV.ptr 2 0 0 0)]) (L':=[⟨[(zNqV23 x y z pl)],4,0,false,false⟩,⟨[(Za6 x y z)],3,0,false,false⟩,⟨[(zNqV23 x y z pl)],4,0,false,false⟩,⟨[(Zcy x y)],3,0,false,false⟩,⟨List.map Mv.a (O.adl x y 1000 px py pz 0++O.adl x y z x y 1000 pl),7,0+(O.adl x y z x y 1000 pl).length,false,true⟩]) (asm:=[true,true,true,(decide (z<1000))==true,0==0,true,true,(decide (pz>1000))==true,true,true,true,true,(decide (z<1000))==true,true,true,true,true,true]) (eqs:=[]) (calls:=[⟨true,true,57,[(Zaz px py pz),(Zcy x y),vi 0],[],(zNqV22 x y),[⟨[(Zaz px py pz)],4,0,false,false⟩,⟨[(Zcy x y)],3,0,false,false⟩,⟨[(zNqV22 x y)],4,0,false,false⟩,⟨List.map Mv.a (O.adl x y 1000 px py pz 0),7,0,false,true⟩]⟩,⟨true,true,57,[ag [vi x,vi y,vi 1000,AV.row 0 0],(Za6 x y z),vi pl],[⟨List.map Mv.a (O.adl x y 1000 px py pz 0),7,0,false,true⟩],ag [vi x,vi y,vi z,AV.row 0 (0+(O.adl x y z x y 1000 pl).length)],[⟨List.map Mv.a (O.adl x y 1000 px py pz 0++O.adl x y z x y 1000 pl),7,0+(O.adl x y z x y 1000 pl).length,false,true⟩]⟩]) ((zNqV23 x y z pl)) (by kernel_rfl) (by kernel_rfl) (Zaa rfl (Zaa rfl (Zaa rfl (Zaa (Zak (Zab.2 d2)) (Zaa (beq_self_eq_true _) (Zaa rfl (Zaa rfl (Zaa (Zak (Zab.2 d4)) (Zaa rfl (Zaa rfl (Zaa rfl (Zaa rfl (Zaa (Zak (Zab.2 d2)) (Zaa rfl (Zaa rfl (Zaa rfl (Zaa rfl (Zaa rfl Zaj)))))))))))))))))) Zan (Zap (fun _=>(@ZeQ px py pz x y 1000 0 d5)) (Zap (fun _=>(@evo57 (O.adl x y 1000 px py pz 0) 0 x y 1000 x y z pl k9)) Zao)) H
    · have H:=H.2 d4
      rcases xm (O.sam x y z px py pz) with d11 | d11
      · have H:=H.1 d11
        exact Zax (G:=Zad kp58 [(7,3,.call ((Zaz px py pz)) (some [⟨[(Zaz px py pz)],4,0,false,false⟩,⟨[(Za6 x y z)],3,0,false,false⟩,⟨[(Zaz px py pz)],4,0,false,false⟩]))] []) 1000 [true,false,true] (k:=((atC (cd Try.f58) [1,1,1,1,1,1])).tail) (env':=[(6,AV.ptr 2 0 0 0)]) (L':=[⟨[(Zaz px py pz)],4,0,false,false⟩,⟨[(Za6 x y z)],3,0,false,false⟩,⟨[(Zaz px py pz)],4,0,false,false⟩,⟨[(Zcy x y)],3,0,false,false⟩]) (asm:=[true,true,true,(decide (z<1000))==true,0==0,true,true,(decide (pz>1000))==false,true,(decide (z<1000))==true,true,true,true,true,true]) (eqs:=[]) (calls:=[⟨true,true,57,[(Zaz px py pz),(Za6 x y z),vi pl],[],(Zaz px py pz),[⟨[(Zaz px py pz)],4,0,false,false⟩,⟨[(Za6 x y z)],3,0,false,false⟩,⟨[(Zaz px py pz)],4,0,false,false⟩]⟩]) ((Zaz px py pz)) (by kernel_rfl) (by kernel_rfl) (Zaa rfl (Zaa rfl (Zaa rfl (Zaa (Zak (Zab.2 d2)) (Zaa (beq_self_eq_true _) (Zaa rfl (Zaa rfl (Zaa (Zah (fun h=>d4 (Zab.1 h))) (Zaa rfl (Zaa (Zak (Zab.2 d2)) (Zaa rfl (Zaa rfl (Zaa rfl (Zaa rfl (Zaa rfl Zaj))))))))))))))) Zan (Zap (fun _=>(@ZdS px py pz x y z pl d11)) Zao) H
      · have H:=H.2 d11
        exact Zax (G:=Zad kp58 [(7,3,.call ((ZcZ x y z)) (some [⟨[(Zaz px py pz)],4,0,false,false⟩,⟨[(Za6 x y z)],3,0,false,false⟩,⟨[(ZcZ x y z)],4,0,false,false⟩,⟨List.map Mv.a (O.adl x y z px py pz pl),7,0,false,true⟩]))] []) 1000 [true,false,true] (k:=((atC (cd Try.f58) [1,1,1,1,1,1])).tail) (env':=[(6,AV.ptr 2 0 0 0)]) (L':=[⟨[(ZdW x y z)],4,0,false,false⟩,⟨[(Za6 x y z)],3,0,false,false⟩,⟨[(ZdW x y z)],4,0,false,false⟩,⟨[(Zcy x y)],3,0,false,false⟩,⟨List.map Mv.a (O.adl x y z px py pz pl),7,0,false,true⟩]) (asm:=[true,true,true,(decide (z<1000))==true,0==0,true,true,(decide (pz>1000))==false,true,(decide (z<1000))==true,true,true,true,true,true]) (eqs:=[]) (calls:=[⟨true,true,57,[(Zaz px py pz),(Za6 x y z),vi pl],[],(ZcZ x y z),[⟨[(Zaz px py pz)],4,0,false,false⟩,⟨[(Za6 x y z)],3,0,false,false⟩,⟨[(ZcZ x y z)],4,0,false,false⟩,⟨List.map Mv.a (O.adl x y z px py pz pl),7,0,false,true⟩]⟩]) ((ZdW x y z)) (by kernel_rfl) (by kernel_rfl) (Zaa rfl (Zaa rfl (Zaa rfl (Zaa (Zak (Zab.2 d2)) (Zaa (beq_self_eq_true _) (Zaa rfl (Zaa rfl (Zaa (Zah (fun h=>d4 (Zab.1 h))) (Zaa rfl (Zaa (Zak (Zab.2 d2)) (Zaa rfl (Zaa rfl (Zaa rfl (Zaa rfl (Zaa rfl Zaj))))))))))))))) Zan (Zap (fun _=>(@ZeQ px py pz x y z pl d11)) Zao) H
  · have H:=H.2 d2
    rcases xm (pz>z) with d13 | d13
    · have H:=H.1 d13
      rcases xm (O.sam x y z px py pz) with d14 | d14
      · have H:=H.1 d14
        exact Zax (G:=Zad kp58 [(5,2,.call ((Zaz px py pz)) (some [⟨[(Zaz px py pz)],4,0,false,false⟩,⟨[(Za6 x y z)],3,0,false,false⟩,⟨[(Zaz px py pz)],4,0,false,false⟩]))] []) 1000 [false,true,false] (k:=((atC (cd Try.f58) [1,1,1,1,1,1])).tail) (env':=[(6,AV.ptr 2 0 0 0)]) (L':=[⟨[(Zaz px py pz)],4,0,false,false⟩,⟨[(Za6 x y z)],3,0,false,false⟩,⟨[(Zaz px py pz)],4,0,false,false⟩,⟨[(Za6 x y z)],3,0,false,false⟩]) (asm:=[true,true,true,(decide (z<1000))==false,true,true,(decide (pz>z))==true,true,true,true,true,(decide (z<1000))==false,true,true]) (eqs:=[]) (calls:=[⟨true,true,57,[(Zaz px py pz),(Za6 x y z),vi 0],[],(Zaz px py pz),[⟨[(Zaz px py pz)],4,0,false,false⟩,⟨[(Za6 x y z)],3,0,false,false⟩,⟨[(Zaz px py pz)],4,0,false,false⟩]⟩]) ((Zaz px py pz)) (by kernel_rfl) (by kernel_rfl) (Zaa rfl (Zaa rfl (Zaa rfl (Zaa (Zah (fun h=>d2 (Zab.1 h))) (Zaa rfl (Zaa rfl (Zaa (Zak (Zab.2 d13)) (Zaa rfl (Zaa rfl (Zaa rfl (Zaa rfl (Zaa (Zah (fun h=>d2 (Zab.1 h))) (Zaa rfl (Zaa rfl Zaj)))))))))))))) Zan (Zap (fun _=>(@ZdS px py pz x y z 0 d14)) Zao) H
      · have H:=H.2 d14
        exact Zax (G:=Zad kp58 [(5,2,.call ((ZcZ x y z)) (some [⟨[(Zaz px py pz)],4,0,false,false⟩,⟨[(Za6 x y z)],3,0,false,false⟩,⟨[(ZcZ x y z)],4,0,false,false⟩,⟨List.map Mv.a (O.adl x y z px py pz 0),7,0,false,true⟩]))] []) 1000 [false,true,false] (k:=((atC (cd Try.f58) [1,1,1,1,1,1])).tail) (env':=[(6,AV.ptr 2 0 0 0)]) (L':=[⟨[(ZdW x y z)],4,0,false,false⟩,⟨[(Za6 x y z)],3,0,false,false⟩,⟨[(ZdW x y z)],4,0,false,false⟩,⟨[(Za6 x y z)],3,0,false,false⟩,⟨List.map Mv.a (O.adl x y z px py pz 0),7,0,false,true⟩]) (asm:=[true,true,true,(decide (z<1000))==false,true,true,(decide (pz>z))==true,true,true,true,true,(decide (z<1000))==false,true,true]) (eqs:=[]) (calls:=[⟨true,true,57,[(Zaz px py pz),(Za6 x y z),vi 0],[],(ZcZ x y z),[⟨[(Zaz px py pz)],4,0,false,false⟩,⟨[(Za6 x y z)],3,0,false,false⟩,⟨[(ZcZ x y z)],4,0,false,false⟩,⟨List.map Mv.a (O.adl x y z px py pz 0),7,0,false,true⟩]⟩]) ((ZdW x y z)) (by kernel_rfl) (by kernel_rfl) (Zaa rfl (Zaa rfl (Zaa rfl (Zaa (Zah (fun h=>d2 (Zab.1 h))) (Zaa rfl (Zaa rfl (Zaa (Zak (Zab.2 d13)) (Zaa rfl (Zaa rfl (Zaa rfl (Zaa rfl (Zaa (Zah (fun h=>d2 (Zab.1 h))) (Zaa rfl (Zaa rfl Zaj)))))))))))))) Zan (Zap (fun _=>(@ZeQ px py pz x y z 0 d14)) Zao) H
    · have H:=H.2 d13
      exact Zax (G:=Zad kp58 [] []) 1000 [false,false,false] (k:=((atC (cd Try.f58) [1,1,1,1,1,1])).tail) (env':=[(6,AV.ptr 2 0 0 0)]) (L':=[⟨[(Zaz px py pz)],4,0,false,false⟩,⟨[(Za6 x y z)],3,0,false,false⟩,⟨[(Zaz px py pz)],4,0,false,false⟩,⟨[(Za6 x y z)],3,0,false,false⟩]) (asm:=[true,true,true,(decide (z<1000))==false,true,true,(decide (pz>z))==false,true,(decide (z<1000))==false,true,true]) (eqs:=[]) (calls:=[]) ((Zaz px py pz)) (by kernel_rfl) (by kernel_rfl) (Zaa rfl (Zaa rfl (Zaa rfl (Zaa (Zah (fun h=>d2 (Zab.1 h))) (Zaa rfl (Zaa rfl (Zaa (Zah (fun h=>d13 (Zab.1 h))) (Zaa rfl (Zaa (Zah (fun h=>d2 (Zab.1 h))) (Zaa rfl (Zaa rfl Zaj))))))))))) Zan Zao H
noncomputable abbrev ZdV (x:Int) (y:Int) (z:Int):=ag [vi x,vi y,vi z]
noncomputable abbrev zNqV25 (x:Int) (y:Int) (z:Int) (v:Nat) (px:Int) (py:Int) (pz:Int) (pl:Int):=ag [vi x,vi y,vi z,AV.row 0 (v+(O.adl x y 1000 px py pz 0).length+(O.adl x y z x y 1000 pl).length)]
noncomputable abbrev zNqV26 (x:Int) (y:Int) (z:Int) (v:Nat) (px:Int) (py:Int) (pz:Int):=ag [vi x,vi y,vi z,AV.row 0 (v+(O.adl x y z px py pz 0).length)]
noncomputable abbrev ZgF (px:Int) (py:Int) (pz:Int) (v:Nat):=ag [vi px,vi py,vi pz,AV.row 0 v]
noncomputable abbrev zNqV28 (x:Int) (y:Int) (z:Int) (v:Nat) (px:Int) (py:Int) (pz:Int) (pl:Int):=ag [vi x,vi y,vi z,AV.row 0 (v+(O.adl x y z px py pz pl).length)]
noncomputable abbrev zNqV29 (x:Int) (y:Int) (v:Nat) (px:Int) (py:Int) (pz:Int):=ag [vi x,vi y,vi 1000,AV.row 0 (v+(O.adl x y 1000 px py pz 0).length)]
noncomputable abbrev zNqV30 (x:Int) (y:Int):=ag [vi x,vi y,vi 1000]
theorem qRd1 (ms:List Mv) (v:Nat) (px py pz x y z pl:Int)  (dv:AV) (dK:Heap) (_:ZbN 1 dv dK=true) (H :
  ((z<1000)->((pz>1000)->(ms.length<=100000) /\
    ((ms++O.adl x y 1000 px py pz 0).length<=100000) /\
    (Zbo dv dK) (ag [vi x,vi y,vi z,AV.row 0 (v+(O.adl x y 1000 px py pz 0).length+(O.adl x y z x y 1000 pl).length)]) [{ elems:=List.map Mv.a (ms++O.adl x y 1000 px py pz 0++O.adl x y z x y 1000 pl),es:=7,ver:=v+(O.adl x y 1000 px py pz 0).length+(O.adl x y z x y 1000 pl).length,frozen:=false,clean:=true },{ elems:=[ag [vi x,vi y,vi z,AV.row 0 (v+(O.adl x y 1000 px py pz 0).length+(O.adl x y z x y 1000 pl).length)]],es:=4,ver:=0,frozen:=false,clean:=false },{ elems:=[ag [vi x,vi y,vi z]],es:=3,ver:=0,frozen:=false,clean:=false },{ elems:=[ag [vi x,vi y,vi z,AV.row 0 (v+(O.adl x y 1000 px py pz 0).length+(O.adl x y z x y 1000 pl).length)]],es:=4,ver:=0,frozen:=false,clean:=false },{ elems:=[ag [vi x,vi y,vi 1000]],es:=3,ver:=0,frozen:=false,clean:=false }]) /\
   (¬(pz>1000)->(ms.length<=100000) /\
    (Zbo dv dK) (ag [vi x,vi y,vi z,AV.row 0 (v+(O.adl x y z px py pz pl).length)]) [{ elems:=List.map Mv.a (ms++O.adl x y z px py pz pl),es:=7,ver:=v+(O.adl x y z px py pz pl).length,frozen:=false,clean:=true },{ elems:=[ag [vi x,vi y,vi z,AV.row 0 (v+(O.adl x y z px py pz pl).length)]],es:=4,ver:=0,frozen:=false,clean:=false },{ elems:=[ag [vi x,vi y,vi z]],es:=3,ver:=0,frozen:=false,clean:=false },{ elems:=[ag [vi x,vi y,vi z,AV.row 0 (v+(O.adl x y z px py pz pl).length)]],es:=4,ver:=0,frozen:=false,clean:=false },{ elems:=[ag [vi x,vi y,vi 1000]],es:=3,ver:=0,frozen:=false,clean:=false }])) /\
  (¬(z<1000)->((pz>z)->(ms.length<=100000) /\
    (Zbo dv dK) (ag [vi x,vi y,vi z,AV.row 0 (v+(O.adl x y z px py pz 0).length)]) [{ elems:=List.map Mv.a (ms++O.adl x y z px py pz 0),es:=7,ver:=v+(O.adl x y z px py pz 0).length,frozen:=false,clean:=true },{ elems:=[ag [vi x,vi y,vi z,AV.row 0 (v+(O.adl x y z px py pz 0).length)]],es:=4,ver:=0,frozen:=false,clean:=false },{ elems:=[ag [vi x,vi y,vi z]],es:=3,ver:=0,frozen:=false,clean:=false },{ elems:=[ag [vi x,vi y,vi z,AV.row 0 (v+(O.adl x y z px py pz 0).length)]],es:=4,ver:=0,frozen:=false,clean:=false },{ elems:=[ag [vi x,vi y,vi z]],es:=3,ver:=0,frozen:=false,clean:=false }]) /\
   (¬(pz>z)->(Zbo dv dK) (ag [vi px,vi py,vi pz,AV.row 0 v]) [{ elems:=List.map Mv.a ms,es:=7,ver:=v,frozen:=false,clean:=true },{ elems:=[ag [vi px,vi py,vi pz,AV.row 0 v]],es:=4,ver:=0,frozen:=false,clean:=false },{ elems:=[ag [vi x,vi y,vi z]],es:=3,ver:=0,frozen:=false,clean:=false },{ elems:=[ag [vi px,vi py,vi pz,AV.row 0 v]],es:=4,ver:=0,frozen:=false,clean:=false },{ elems:=[ag [vi x,vi y,vi z]],es:=3,ver:=0,frozen:=false,clean:=false }]))) :
 qRd1_at ms v px py pz x y z pl (Zbo dv dK):=by
 unfold qRd1_at
 rcases xq H with ⟨d2,H⟩|⟨d2,H⟩
 ·rcases xq H with ⟨d4,H⟩|⟨d4,H⟩
  ·obtain ⟨k5,k7,H⟩:=H
   exact Zax (G:=Zad kp58 [(5,2,.call ((zNqV29 x y v px py pz)) (some [⟨List.map Mv.a (ms++O.adl x y 1000 px py pz 0),7,v+(O.adl x y 1000 px py pz 0).length,false,true⟩])),(7,3,.call ((zNqV25 x y z v px py pz pl)) (some [⟨List.map Mv.a (ms++O.adl x y 1000 px py pz 0++O.adl x y z x y 1000 pl),7,v+(O.adl x y 1000 px py pz 0).length+(O.adl x y z x y 1000 pl).length,false,true⟩]))] []) 1000 [true,true,true] (k:=((atC (cd Try.f58) [1,1,1,1,1,1])).tail) (env':=[(6,AV.ptr 3 0 0 0)]) (L':=[⟨List.map Mv.a (ms++O.adl x y 1000 px py pz 0++O.adl x y z x y 1000 pl),7,v+(O.adl x y 1000 px py pz 0).length+(O.adl x y z x y 1000 pl).length,false,true⟩,⟨[(zNqV25 x y z v px py pz pl)],4,0,false,false⟩,⟨[(ZdV x y z)],3,0,false,false⟩,⟨[(zNqV25 x y z v px py pz pl)],4,0,false,false⟩,⟨[(zNqV30 x y)],3,0,false,false⟩]) (asm:=[true,true,true,(decide (z<1000))==true,0==0,true,true,(decide (pz>1000))==true,true,true,true,true,(decide (z<1000))==true,true,true,true,true,true]) (eqs:=[]) (calls:=[⟨true,true,57,[(ZgF px py pz v),(zNqV30 x y),vi 0],[⟨List.map Mv.a ms,7,v,false,true⟩],(zNqV29 x y v px py pz),[⟨List.map Mv.a (ms++O.adl x y 1000 px py pz 0),7,v+(O.adl x y 1000 px py pz 0).length,false,true⟩]⟩,⟨true,true,57,[(zNqV29 x y v px py pz),(ZdV x y z),vi pl],[⟨List.map Mv.a (ms++O.adl x y 1000 px py pz 0),7,v+(O.adl x y 1000 px py pz 0).length,false,true⟩],(zNqV25 x y z v px py pz pl),[⟨List.map Mv.a (ms++O.adl x y 1000 px py pz 0++O.adl x y z x y 1000 pl),7,v+(O.adl x y 1000 px py pz 0).length+(O.adl x y z x y 1000 pl).length,false,true⟩]⟩]) ((zNqV25 x y z v px py pz pl)) (by kernel_rfl) (by kernel_rfl) (Zaa rfl (Zaa rfl (Zaa rfl (Zaa (Zak (Zab.2 d2)) (Zaa (beq_self_eq_true _) (Zaa rfl (Zaa rfl (Zaa (Zak (Zab.2 d4)) (Zaa rfl (Zaa rfl (Zaa rfl (Zaa rfl (Zaa (Zak (Zab.2 d2)) (Zaa rfl (Zaa rfl (Zaa rfl (Zaa rfl (Zaa rfl Zaj)))))))))))))))))) Zan (Zap (fun _=>(@evo57 ms v px py pz x y 1000 0 k5)) (Zap (fun _=>(@evo57 (ms++O.adl x y 1000 px py pz 0) (v+(O.adl x y 1000 px py pz 0).length) x y 1000 x y z pl k7)) Zao)) H
  ·obtain ⟨k9,H⟩:=H
   exact Zax (G:=Zad kp58 [(7,3,.call ((zNqV28 x y z v px py pz pl)) (some [⟨List.map Mv.a (ms++O.adl x y z px py pz pl),7,v+(O.adl x y z px py pz pl).length,false,true⟩]))] []) 1000 [true,false,true] (k:=((atC (cd Try.f58) [1,1,1,1,1,1])).tail) (env':=[(6,AV.ptr 3 0 0 0)]) (L':=[⟨List.map Mv.a (ms++O.adl x y z px py pz pl),7,v+(O.adl x y z px py pz pl).length,false,true⟩,⟨[(zNqV28 x y z v px py pz pl)],4,0,false,false⟩,⟨[(ZdV x y z)],3,0,false,false⟩,⟨[(zNqV28 x y z v px py pz pl)],4,0,false,false⟩,⟨[(zNqV30 x y)],3,0,false,false⟩]) (asm:=[true,true,true,(decide (z<1000))==true,0==0,true,true,(decide (pz>1000))==false,true,(decide (z<1000))==true,true,true,true,true,true]) (eqs:=[]) (calls:=[⟨true,true,57,[(ZgF px py pz v),(ZdV x y z),vi pl],[⟨List.map Mv.a ms,7,v,false,true⟩],(zNqV28 x y z v px py pz pl),[⟨List.map Mv.a (ms++O.adl x y z px py pz pl),7,v+(O.adl x y z px py pz pl).length,false,true⟩]⟩]) ((zNqV28 x y z v px py pz pl)) (by kernel_rfl) (by kernel_rfl) (Zaa rfl (Zaa rfl (Zaa rfl (Zaa (Zak (Zab.2 d2)) (Zaa (beq_self_eq_true _) (Zaa rfl (Zaa rfl (Zaa (Zah (fun h=>d4 (Zab.1 h))) (Zaa rfl (Zaa (Zak (Zab.2 d2)) (Zaa rfl (Zaa rfl (Zaa rfl (Zaa rfl (Zaa rfl Zaj))))))))))))))) Zan (Zap (fun _=>(@evo57 ms v px py pz x y z pl k9)) Zao) H
 ·rcases xq H with ⟨d11,H⟩|⟨d11,H⟩
  ·obtain ⟨k12,H⟩:=H
   exact Zax (G:=Zad kp58 [(5,2,.call ((zNqV26 x y z v px py pz)) (some [⟨List.map Mv.a (ms++O.adl x y z px py pz 0),7,v+(O.adl x y z px py pz 0).length,false,true⟩]))] []) 1000 [false,true,false] (k:=((atC (cd Try.f58) [1,1,1,1,1,1])).tail) (env':=[(6,AV.ptr 3 0 0 0)]) (L':=[⟨List.map Mv.a (ms++O.adl x y z px py pz 0),7,v+(O.adl x y z px py pz 0).length,false,true⟩,⟨[(zNqV26 x y z v px py pz)],4,0,false,false⟩,⟨[(ZdV x y z)],3,0,false,false⟩,⟨[(zNqV26 x y z v px py pz)],4,0,false,false⟩,⟨[(ZdV x y z)],3,0,false,false⟩]) (asm:=[true,true,true,(decide (z<1000))==false,true,true,(decide (pz>z))==true,true,true,true,true,(decide (z<1000))==false,true,true]) (eqs:=[]) (calls:=[⟨true,true,57,[(ZgF px py pz v),(ZdV x y z),vi 0],[⟨List.map Mv.a ms,7,v,false,true⟩],(zNqV26 x y z v px py pz),[⟨List.map Mv.a (ms++O.adl x y z px py pz 0),7,v+(O.adl x y z px py pz 0).length,false,true⟩]⟩]) ((zNqV26 x y z v px py pz)) (by kernel_rfl) (by kernel_rfl) (Zaa rfl (Zaa rfl (Zaa rfl (Zaa (Zah (fun h=>d2 (Zab.1 h))) (Zaa rfl (Zaa rfl (Zaa (Zak (Zab.2 d11)) (Zaa rfl (Zaa rfl (Zaa rfl (Zaa rfl (Zaa (Zah (fun h=>d2 (Zab.1 h))) (Zaa rfl (Zaa rfl Zaj)))))))))))))) Zan (Zap (fun _=>(@evo57 ms v px py pz x y z 0 k12)) Zao) H
  ·exact Zax (G:=Zad kp58 [] []) 1000 [false,false,false] (k:=((atC (cd Try.f58) [1,1,1,1,1,1])).tail) (env':=[(6,AV.ptr 3 0 0 0)]) (L':=[⟨List.map Mv.a ms,7,v,false,true⟩,⟨[(ZgF px py pz v)],4,0,false,false⟩,⟨[(ZdV x y z)],3,0,false,false⟩,⟨[(ZgF px py pz v)],4,0,false,false⟩,⟨[(ZdV x y z)],3,0,false,false⟩]) (asm:=[true,true,true,(decide (z<1000))==false,true,true,(decide (pz>z))==false,true,(decide (z<1000))==false,true,true]) (eqs:=[]) (calls:=[]) ((ZgF px py pz v)) (by kernel_rfl) (by kernel_rfl) (Zaa rfl (Zaa rfl (Zaa rfl (Zaa (Zah (fun h=>d2 (Zab.1 h))) (Zaa rfl (Zaa rfl (Zaa (Zah (fun h=>d11 (Zab.1 h))) (Zaa rfl (Zaa (Zah (fun h=>d2 (Zab.1 h))) (Zaa rfl (Zaa rfl Zaj))))))))))) Zan Zao H
end Go.Av

namespace Go.Av
open Go.Proofs
theorem evo53_y (px py pz z pl:Int) (c:O.dno z pz) :
  Ev M1 (.own 53 [.ptr 0 0 0 0,.int .i64 z,.int .i64 pl] [⟨[.agg [.int .i64 px,.int .i64 py,.int .i64 pz,.vnil]],4,0,false,false⟩])
   (.tup []) [⟨[.agg [.int .i64 px,.int .i64 py,.int .i64 pz,.vnil]],4,0,false,false⟩]:=
 owncall53 (qDe0 _ _ _ _ _ _ ⟨fun k=>absurd k c.1,fun _=>⟨fun t=>absurd t c.2,fun _=>⟨rfl,rfl⟩⟩⟩)
theorem evo53_n (px py pz z pl:Int) (c:¬O.dno z pz) :
  Ev M1 (.own 53 [.ptr 0 0 0 0,.int .i64 z,.int .i64 pl] [⟨[.agg [.int .i64 px,.int .i64 py,.int .i64 pz,.vnil]],4,0,false,false⟩])
   (.tup []) [⟨[.agg [.int .i64 px,.int .i64 py,.int .i64 (O.dz2 z pz),.row 1 (O.dvn z pl px py pz)]],4,0,false,false⟩,⟨(O.ds1 z px py pz++O.ds2 z pl px py pz).map Mv.a,7,O.dvn z pl px py pz,false,true⟩]:=by
 refine owncall53 (qDe0 _ _ _ _ _ _ ⟨fun k=>⟨fun s => ?_,fun _=>⟨fun t=>⟨?_,?_⟩,fun t => ?_⟩⟩,fun k=>⟨fun t=>⟨fun s => ?_,fun _ => ?_⟩,fun t=>absurd ⟨k,t⟩ c⟩⟩)
 ·have:=s.2.2;have k:pz>O.stp z:=k;have s2:O.stp z=pz:=s.2.2;omega
 ·exact Nat.le_trans (Zb9 ..) (by omega)
 ·obtain ⟨e1,e2,e3,e4⟩:=dsA (pl:=pl) (px:=px) (py:=py) k t
  rw [e1,e2,e3,e4];exact ⟨rfl,rfl⟩
 ·obtain ⟨e1,e2,e3,e4⟩:=dsB (pl:=pl) (px:=px) (py:=py) k t
  rw [e1,e2,e3,e4,List.append_nil];exact ⟨rfl,rfl⟩
 ·have:=s.2.2;omega
 ·obtain ⟨e1,e2,e3,e4⟩:=dsC (pl:=pl) (px:=px) (py:=py) k t
  rw [e1,e2,e3,e4];exact ⟨rfl,rfl⟩
theorem evo53 (ms:List Mv) (v:Nat) (px py pz z pl:Int) (h:ms.length<=90000) :
  Ev M1 (.own 53 [.ptr 0 0 0 0,.int .i64 z,.int .i64 pl] [⟨[.agg [.int .i64 px,.int .i64 py,.int .i64 pz,.row 1 v]],4,0,false,false⟩,⟨ms.map Mv.a,7,v,false,true⟩])
   (.tup []) [⟨[.agg [.int .i64 px,.int .i64 py,.int .i64 (O.dz2 z pz),.row 1 (v+(O.ds1 z px py pz).length+(O.ds2 z pl px py pz).length)]],4,0,false,false⟩,⟨(ms++O.ds1 z px py pz++O.ds2 z pl px py pz).map Mv.a,7,v+(O.ds1 z px py pz).length+(O.ds2 z pl px py pz).length,false,true⟩]:=by
 refine keepcall53 rfl (qDe1 _ _ _ _ _ _ _ _ _ rfl ⟨fun k=>⟨by omega,fun t=>⟨?_,?_⟩,fun t => ?_⟩,fun k=>⟨fun t=>⟨by omega,?_⟩,fun t => ?_⟩⟩)
 ·rw [List.length_append];have:=Zb9 px py (O.stp z) px py pz 0;exact Nat.le_trans (Nat.add_le_add h this) (by omega)
 ·obtain ⟨e1,e2,e3,_⟩:=dsA (pl:=pl) (px:=px) (py:=py) k t
  rw [e1,e2,e3];exact ⟨rfl,rfl⟩
 ·obtain ⟨e1,e2,e3,_⟩:=dsB (pl:=pl) (px:=px) (py:=py) k t
  rw [e1,e2,e3,List.append_nil];exact ⟨rfl,rfl⟩
 ·obtain ⟨e1,e2,e3,_⟩:=dsC (pl:=pl) (px:=px) (py:=py) k t
  rw [e1,e2,e3,List.append_nil];exact ⟨rfl,rfl⟩
 ·obtain ⟨e1,e2,e3,_⟩:=dsD (pl:=pl) (px:=px) (py:=py) k t
  rw [e1,e2,e3,List.append_nil,List.append_nil];exact ⟨rfl,rfl⟩
def O.okRd (x y z px py pz pl:Int):Prop:=x=px/\y=py/\z<=pz/\0<=pl
theorem Zc0 {z:Int} (h:z<1000):O.stp z=1000:=if_neg (by omega)
theorem ZfG {z:Int} (h:¬z<1000):O.stp z=z:=by
 unfold O.stp;split <;> omega
theorem evo58_y (px py pz x y z pl:Int) (h:O.okRd x y z px py pz pl) (c:O.dno z pz) :
  Ev M1 (.own 58 [.agg [.int .i64 px,.int .i64 py,.int .i64 pz,.vnil],.agg [.int .i64 x,.int .i64 y,.int .i64 z],.int .i64 pl] [])
   (.agg [.int .i64 px,.int .i64 py,.int .i64 pz,.vnil]) [⟨[.agg [.int .i64 px,.int .i64 py,.int .i64 pz,.vnil]],4,0,false,false⟩,⟨[.agg [.int .i64 x,.int .i64 y,.int .i64 z]],3,0,false,false⟩,⟨[.agg [.int .i64 px,.int .i64 py,.int .i64 pz,.vnil]],4,0,false,false⟩,⟨[.agg [.int .i64 x,.int .i64 y,.int .i64 (O.stp z)]],3,0,false,false⟩]:=by
 obtain ⟨rfl,rfl,h3,h4⟩:=h
 obtain ⟨c1,c2⟩:=c
 refine owncall58 (qRd0 _ _ _ _ _ _ _ _ ⟨fun k => ?_,fun k => ?_⟩)
 ·rw [Zc0 k] at c1 ⊢
  exact ⟨fun j=>absurd j c1,fun _=>⟨fun _=>⟨rfl,rfl⟩,fun s=>absurd ⟨rfl,rfl,by omega⟩ s⟩⟩
 ·rw [ZfG k] at c1 ⊢
  exact ⟨fun j=>absurd j c1,fun _=>⟨rfl,rfl⟩⟩
theorem evo58_n (px py pz x y z pl:Int) (h:O.okRd x y z px py pz pl) (c:¬O.dno z pz) :
  Ev M1 (.own 58 [.agg [.int .i64 px,.int .i64 py,.int .i64 pz,.vnil],.agg [.int .i64 x,.int .i64 y,.int .i64 z],.int .i64 pl] [])
   (.agg [.int .i64 x,.int .i64 y,.int .i64 z,.row 4 (O.dvn z pl px py pz)]) [⟨[.agg [.int .i64 x,.int .i64 y,.int .i64 z,.row 4 (O.dvn z pl px py pz)]],4,0,false,false⟩,⟨[.agg [.int .i64 x,.int .i64 y,.int .i64 z]],3,0,false,false⟩,⟨[.agg [.int .i64 x,.int .i64 y,.int .i64 z,.row 4 (O.dvn z pl px py pz)]],4,0,false,false⟩,⟨[.agg [.int .i64 x,.int .i64 y,.int .i64 (O.stp z)]],3,0,false,false⟩,⟨(O.ds1 z px py pz++O.ds2 z pl px py pz).map Mv.a,7,O.dvn z pl px py pz,false,true⟩]:=by
 obtain ⟨rfl,rfl,h3,h4⟩:=h
 refine owncall58 (qRd0 _ _ _ _ _ _ _ _ ⟨fun k=>⟨fun j=>⟨fun s => ?_,fun _=>⟨?_,?_⟩⟩,fun j=>⟨fun s => ?_,fun s => ?_⟩⟩,fun k=>⟨fun j=>⟨fun s => ?_,fun _ => ?_⟩,fun j => ?_⟩⟩)
 ·have:=s.2.2;omega
 ·exact Nat.le_trans (adl_len ..) (by omega)
 ·obtain ⟨e1,e2,e3,e4⟩:=dsA (pl:=pl) (px:=x) (py:=y) (by rw [Zc0 k];exact j) (show z<1000/\z<O.stp z from ⟨k,by rw [Zc0 k];exact k⟩)
  rw [Zcu h4,Zcu (Int.le_refl 0),e1,e2,e4,Zc0 k];exact ⟨rfl,rfl⟩
 ·exact absurd ⟨by rw [Zc0 k];exact j,fun t=>by have:=s.2.2;omega⟩ c
 ·have t:z<1000/\z<pz:=⟨k,by
   have:z ≠ pz:=fun x=>s ⟨rfl,rfl,x⟩
   omega⟩
  obtain ⟨e1,e2,e3,e4⟩:=dsC (pl:=pl) (px:=x) (py:=y) (by rw [Zc0 k];exact j) t
  rw [Zcu h4,e1,e2,e4,Zc0 k];exact ⟨rfl,rfl⟩
 ·have:=s.2.2;omega
 ·obtain ⟨e1,e2,e3,e4⟩:=dsB (pl:=pl) (px:=x) (py:=y) (by rw [ZfG k];exact j) (show ¬(z<1000/\z<O.stp z) from fun x=>k x.1)
  rw [Zcu (Int.le_refl 0),e1,e2,e4,ZfG k,List.append_nil];exact ⟨rfl,rfl⟩
 ·exact absurd ⟨by rw [ZfG k];exact j,fun t=>k t.1⟩ c
theorem evo58 (ms:List Mv) (v:Nat) (px py pz x y z pl:Int) (h:ms.length<=90000/\O.okRd x y z px py pz pl) :
  Ev M1 (.own 58 [.agg [.int .i64 px,.int .i64 py,.int .i64 pz,.row 0 v],.agg [.int .i64 x,.int .i64 y,.int .i64 z],.int .i64 pl] [⟨ms.map Mv.a,7,v,false,true⟩])
   (.agg [.int .i64 x,.int .i64 y,.int .i64 z,.row 0 (v+(O.ds1 z px py pz).length+(O.ds2 z pl px py pz).length)]) [⟨(ms++O.ds1 z px py pz++O.ds2 z pl px py pz).map Mv.a,7,v+(O.ds1 z px py pz).length+(O.ds2 z pl px py pz).length,false,true⟩]:=by
 obtain ⟨hn,rfl,rfl,h3,h4⟩:=h
 refine keepcall58 rfl (qRd1 _ _ _ _ _ _ _ _ _ _ _ rfl ⟨fun k=>⟨fun j=>⟨by omega,?_,?_⟩,fun j=>⟨by omega,?_⟩⟩,fun k=>⟨fun j=>⟨by omega,?_⟩,fun j => ?_⟩⟩)
 ·rw [List.length_append];have:=adl_len x y 1000 x y pz 0;omega
 ·obtain ⟨e1,e2,_,_⟩:=dsA (pl:=pl) (px:=x) (py:=y) (by rw [Zc0 k];exact j) (show z<1000/\z<O.stp z from ⟨k,by rw [Zc0 k];exact k⟩)
  rw [Zcu h4,Zcu (Int.le_refl 0),e1,e2,Zc0 k];exact ⟨rfl,rfl⟩
 ·by_cases s:z=pz
  ·obtain ⟨e1,e2,_,_⟩:=dsD (pl:=pl) (px:=x) (py:=y) (by rw [Zc0 k];exact j) (show ¬(z<1000/\z<pz) from fun x=>by omega)
   rw [e1,e2,show O.adl x y z x y pz pl=[] from if_pos ⟨rfl,rfl,s⟩,List.append_nil,List.append_nil];exact ⟨rfl,rfl⟩
  ·obtain ⟨e1,e2,_,_⟩:=dsC (pl:=pl) (px:=x) (py:=y) (by rw [Zc0 k];exact j) (show z<1000/\z<pz from ⟨k,by omega⟩)
   rw [Zcu h4,e1,e2,List.append_nil];exact ⟨rfl,rfl⟩
 ·obtain ⟨e1,e2,_,_⟩:=dsB (pl:=pl) (px:=x) (py:=y) (by rw [ZfG k];exact j) (show ¬(z<1000/\z<O.stp z) from fun x=>k x.1)
  rw [Zcu (Int.le_refl 0),e1,e2,ZfG k,List.append_nil];exact ⟨rfl,rfl⟩
 ·obtain ⟨e1,e2,_,_⟩:=dsD (pl:=pl) (px:=x) (py:=y) (by rw [ZfG k];exact j) (show ¬(z<1000/\z<pz) from fun x=>k x.1)
  have e:pz=z:=by omega
  rw [e1,e2,List.append_nil,List.append_nil,e];exact ⟨rfl,rfl⟩
end Go.Av

namespace Go.Av
open Go.Proofs
set_option maxRecDepth 100000
def fi25:Fi:=⟨102,[.tmp 12,.tmp 13]⟩
def kp25:List (Nat × List Nat):=[(0,[3,4,5,6,7,8]),(1,[3,4,5,6,7,8,14]),(2,[3,4,5,6,7,8,14,23]),(3,[12,13]),(4,[3,4,5,6,7,8,46]),(5,[12,13]),(6,[3,4,5,6,7,8,51]),(7,[12,13]),(8,[3,4,5,6,7,8,67]),(9,[12,13]),(10,[3,5,7,8,15,16]),(11,[3,5,7,8,15,16,81]),(12,[12,13]),(13,[3,5,8,15,17]),(14,[5,8,15,17]),(15,[5,8,17,87,88,89]),(16,[5,8,17,87,88,89,90]),(17,[5,8,17,19,87,88,89]),(18,[5,8,17,87,88,89]),(19,[5,8,17,87,88,89]),(20,[17]),(21,[12,13])]
def qDt_at (f:Bool) (cs:List Bx) (u0 v0 u1 v1 th gp sf:Int) (fx fy fz tx ty tz:Int) (z r pl:Int) (Q:AV->Heap->Prop):Prop:=Wp M1 (.run fi25 (atC (cd Try.f25) []) [(0,.agg [.int .i64 u0,.int .i64 v0,.int .i64 u1,.int .i64 v1,.int .i64 th,.int .i64 gp,.vec f 5 (cs.map Bx.a),.int .i64 sf]),(1,.agg [.int .i64 fx,.int .i64 fy,.int .i64 fz]),(2,.agg [.int .i64 tx,.int .i64 ty,.int .i64 tz]),(3,.int .i64 z),(4,.int .i64 r),(5,.int .i64 pl)] []) Q
def ZfO (tx ty tz pl px py pz:Int) (g:Bool) (ps:List Gp) (n i:Int) (Q:AV->Heap->Prop):Prop:=Wp M1 (.run fi25 (atC (cd Try.f25) [1,1,1,1,1,1,1,1,1,0,1,0,0]) [(5,.int .i64 pl),(8,.ptr 0 0 0 0),(17,.ptr 1 0 0 0),(87,.vec g 2 (ps.map Gp.a)),(88,.int .i64 n),(89,.int .i64 i)] [⟨[.agg [.int .i64 tx,.int .i64 ty,.int .i64 tz]],3,0,false,false⟩,⟨[.agg [.int .i64 px,.int .i64 py,.int .i64 pz,.vnil]],4,0,false,false⟩]) Q
def ZeH (tx ty tz pl px py pz:Int) (g:Bool) (ps:List Gp) (ms:List Mv) (v:Nat) (n i:Int) (Q:AV->Heap->Prop):Prop:=Wp M1 (.run fi25 (atC (cd Try.f25) [1,1,1,1,1,1,1,1,1,0,1,0,0]) [(5,.int .i64 pl),(8,.ptr 0 0 0 0),(17,.ptr 1 0 0 0),(87,.vec g 2 (ps.map Gp.a)),(88,.int .i64 n),(89,.int .i64 i)] [⟨[.agg [.int .i64 tx,.int .i64 ty,.int .i64 tz]],3,0,false,false⟩,⟨[.agg [.int .i64 px,.int .i64 py,.int .i64 pz,.row 2 v]],4,0,false,false⟩,⟨ms.map Mv.a,7,v,false,true⟩]) Q
theorem call25 {args:List AV} {d:AV} (h:wc M1 fi25 Try.f25 args d):Ev M1 (.pure 25 args) d []:=pcl _ _ (by kernel_rfl) h
noncomputable abbrev ZgE (fx:Int) (fy:Int) (fz:Int):=ag [vi fx,vi fy,vi fz]
noncomputable abbrev ZgD (tx:Int) (ty:Int) (tz:Int):=ag [vi tx,vi ty,vi tz]
noncomputable abbrev zNqW18 (fx:Int) (fy:Int) (fz:Int):=ag [vi fx,vi fy,vi fz,AV.vnil]
theorem qDt (f:Bool) (cs:List Bx) (u0 v0 u1 v1 th gp sf:Int) (fx fy fz tx ty tz:Int) (z r pl:Int)  (dq:AV) (H :
  ((¬O.vaE cs u0 v0 u1 v1 th gp sf=0)->Weak (tu [AV.vnil,vi (O.vaE cs u0 v0 u1 v1 th gp sf)]) dq) /\
  (¬(¬O.vaE cs u0 v0 u1 v1 th gp sf=0)->((((((r<0)\/(pl<=0))\/(z<1000))\/(z<fz))\/(z<tz))->Weak (tu [AV.vnil,vi 1]) dq) /\
   (¬(((((r<0)\/(pl<=0))\/(z<1000))\/(z<fz))\/(z<tz))->(O.Zei cs 0) /\
    (((↑(O.blk cs z 0).length:Int)>8)->Weak (tu [AV.vnil,vi 3]) dq) /\
    (¬((↑(O.blk cs z 0).length:Int)>8) -> ∃ (b1:Bool),
     (Ev M1 (Conf.pure 40 [AV.vec true 1 [vi fx,vi fy,vi fz,vi tx,vi ty,vi tz,vi r,vi z]]) (vb b1) []) /\
     ((b1=true)->Weak (tu [AV.vnil,vi 11]) dq) /\
     (¬(b1=true)->(O.Zei cs r) /\
      ((O.blk cs z r).length<=100) /\
      ((¬O.arE (O.blk cs z r) { x:=fx,y:=fy } { x:=tx,y:=ty } = 0)->Weak (tu [AV.vnil,vi (O.arE (O.blk cs z r) { x:=fx,y:=fy } { x:=tx,y:=ty })]) dq) /\
      (¬(¬O.arE (O.blk cs z r) { x:=fx,y:=fy } { x:=tx,y:=ty } = 0)->((O.sam fx fy z fx fy fz)->ZfO tx ty tz pl fx fy fz false (O.arP false (O.blk cs z r) { x:=fx,y:=fy } { x:=tx,y:=ty }) ((↑(O.arP false (O.blk cs z r) { x:=fx,y:=fy } { x:=tx,y:=ty }).length:Int)) 0 (Zaf dq)) /\
       (¬(O.sam fx fy z fx fy fz)->ZeH tx ty tz pl fx fy z false (O.arP false (O.blk cs z r) { x:=fx,y:=fy } { x:=tx,y:=ty }) (O.tol fx fy z fx fy fz 0) 0 ((↑(O.arP false (O.blk cs z r) { x:=fx,y:=fy } { x:=tx,y:=ty }).length:Int)) 0 (Zaf dq)))))))) :
 qDt_at f cs u0 v0 u1 v1 th gp sf fx fy fz tx ty tz z r pl (Zaf dq):=by
 unfold qDt_at
 refine Zae (G:=Zad kp25 [(1,1,.call (vi (O.vaE cs u0 v0 u1 v1 th gp sf)) none)] []) 7 [] ⟨(atC (cd Try.f25) [1,0,1,1]),[(3,vi z),(4,vi r),(5,vi pl),(6,AV.ptr 0 0 0 0),(7,AV.ptr 1 0 0 0),(8,AV.ptr 2 0 0 0),(14,vi (O.vaE cs u0 v0 u1 v1 th gp sf)),(23,vb (O.vaE cs u0 v0 u1 v1 th gp sf != 0))],[⟨[ag [vi u0,vi v0,vi u1,vi v1,vi th,vi gp,AV.vec f 5 (List.map Bx.a cs),vi sf]],8,0,false,false⟩,⟨[(ZgE fx fy fz)],3,0,false,false⟩,⟨[(ZgD tx ty tz)],3,0,false,false⟩],_,[],_⟩ (by kernel_rfl) (bc rfl b0) q0 (ce (@ev49 f cs u0 v0 u1 v1 th gp sf) c0) ?_
 rcases xq H with ⟨d2,H⟩|⟨d2,H⟩
 ·exact Zaq (G:=Zad kp25 [] []) 1000 [true] (tu [AV.vnil,vi (O.vaE cs u0 v0 u1 v1 th gp sf)]) (by kernel_rfl) (bc (Zak (i_ne.2 d2)) b0) q0 c0 H
 ·rcases xq H with ⟨d4,H⟩|⟨d4,H⟩
  ·exact Zaq (G:=Zad kp25 [] []) 1000 [false,true] (asm:=[(O.vaE cs u0 v0 u1 v1 th gp sf != 0)==false,!((bif bif decide (r<0) then true else decide (pl<=0) then true else decide (z<1000))==false&&true)||true,!((bif bif bif decide (r<0) then true else decide (pl<=0) then true else decide (z<1000) then true else decide (z<fz))==false&&true)||true,(bif bif bif bif decide (r<0) then true else decide (pl<=0) then true else decide (z<1000) then true else decide (z<fz) then true else decide (z<tz))==true]) (tu [AV.vnil,vi 1]) (by kernel_rfl) (bc (Zah (fun h=>d2 (i_ne.1 h))) (bc (Bool.or_true _) (bc (Bool.or_true _) (bc (Zak ((ZaC (ZaC (ZaC (ZaC Zab Zab) Zab) Zab) Zab).2 d4)) b0)))) q0 c0 H
  ·obtain ⟨k5,H⟩:=H
   have w6:(List.map Bx.a (O.blk cs z 0)).length=(O.blk cs z 0).length:=List.length_map ..
   have i7:(decide ((↑(List.map Bx.a (O.blk cs z 0)).length:Int)>8))=true ↔ ((↑(O.blk cs z 0).length:Int)>8):=(by (try rw [w6]);all_goals exact Zab)
   refine Zae (G:=Zad kp25 [(6,2,.call (AV.vec false 5 (List.map Bx.a (O.blk cs z 0))) none)] []) 10 [false,false] ⟨(atC (cd Try.f25) [1,1,1,0,1]),[(3,vi z),(4,vi r),(5,vi pl),(6,AV.ptr 0 0 0 0),(7,AV.ptr 1 0 0 0),(8,AV.ptr 2 0 0 0),(51,vb (decide ((↑(List.map Bx.a (O.blk cs z 0)).length:Int)>8)))],[⟨[ag [vi u0,vi v0,vi u1,vi v1,vi th,vi gp,AV.vec f 5 (List.map Bx.a cs),vi sf]],8,0,false,false⟩,⟨[(ZgE fx fy fz)],3,0,false,false⟩,⟨[(ZgD tx ty tz)],3,0,false,false⟩],[(O.vaE cs u0 v0 u1 v1 th gp sf != 0)==false,!((bif bif decide (r<0) then true else decide (pl<=0) then true else decide (z<1000))==false&&true)||true,!((bif bif bif decide (r<0) then true else decide (pl<=0) then true else decide (z<1000) then true else decide (z<fz))==false&&true)||true,(bif bif bif bif decide (r<0) then true else decide (pl<=0) then true else decide (z<1000) then true else decide (z<fz) then true else decide (z<tz))==false,true],[],_⟩ (by kernel_rfl) (bc (Zah (fun h=>d2 (i_ne.1 h))) (bc (Bool.or_true _) (bc (Bool.or_true _) (bc (Zah (fun h=>d4 ((ZaC (ZaC (ZaC (ZaC Zab Zab) Zab) Zab) Zab).1 h))) (bc rfl b0))))) q0 (ce (@ev31 f cs u0 v0 u1 v1 th gp sf z 0 k5) c0) ?_
   rcases xq H with ⟨d8,H⟩|⟨d8,H⟩
   ·exact Zaq (G:=Zad kp25 [] []) 1000 [true] (tu [AV.vnil,vi 3]) (by kernel_rfl) (bc (Zak (i7.2 d8)) b0) q0 c0 H
   ·obtain ⟨b1,k9,H⟩:=H
    refine Zae (G:=Zad kp25 [(8,15,.call (vb b1) none)] []) 5 [false] ⟨(atC (cd Try.f25) [1,1,1,1,0,1]),[(3,vi z),(4,vi r),(5,vi pl),(6,AV.ptr 0 0 0 0),(7,AV.ptr 1 0 0 0),(8,AV.ptr 2 0 0 0),(67,vb b1)],[⟨[ag [vi u0,vi v0,vi u1,vi v1,vi th,vi gp,AV.vec f 5 (List.map Bx.a cs),vi sf]],8,0,false,false⟩,⟨[(ZgE fx fy fz)],3,0,false,false⟩,⟨[(ZgD tx ty tz)],3,0,false,false⟩],_,[],_⟩ (by kernel_rfl) (bc (Zah (fun h=>d8 (i7.1 h))) (bc rfl (bc rfl (bc rfl (bc rfl (bc rfl (bc rfl b0))))))) q0 (ce k9 c0) ?_
    rcases xq H with ⟨d11,H⟩|⟨d11,H⟩
    ·exact Zaq (G:=Zad kp25 [] []) 1000 [true] (asm:=[(b1)==true]) (tu [AV.vnil,vi 11]) (by kernel_rfl) (bc (Zak ((ZaI _).2 d11)) b0) q0 c0 H
    ·obtain ⟨k12,k13,H⟩:=H
     refine Zae (G:=Zad kp25 [(10,3,.call (AV.vec false 5 (List.map Bx.a (O.blk cs z r))) none),(10,5,.call (ag [vi fx,vi fy]) none),(10,7,.call (ag [vi tx,vi ty]) none),(10,8,.call (tu [AV.vec false 2 (List.map Gp.a (O.arP false (O.blk cs z r) { x:=fx,y:=fy } { x:=tx,y:=ty })),vi (O.arE (O.blk cs z r) { x:=fx,y:=fy } { x:=tx,y:=ty })]) none)] []) 7 [false] ⟨(atC (cd Try.f25) [1,1,1,1,1,1,0,1]),[(3,vi z),(5,vi pl),(7,AV.ptr 1 0 0 0),(8,AV.ptr 2 0 0 0),(15,AV.vec false 2 (List.map Gp.a (O.arP false (O.blk cs z r) { x:=fx,y:=fy } { x:=tx,y:=ty }))),(16,vi (O.arE (O.blk cs z r) { x:=fx,y:=fy } { x:=tx,y:=ty })),(81,vb (O.arE (O.blk cs z r) { x:=fx,y:=fy } { x:=tx,y:=ty } != 0))],[⟨[ag [vi u0,vi v0,vi u1,vi v1,vi th,vi gp,AV.vec f 5 (List.map Bx.a cs),vi sf]],8,0,false,false⟩,⟨[(ZgE fx fy fz)],3,0,false,false⟩,⟨[(ZgD tx ty tz)],3,0,false,false⟩],[(b1)==false,true,true,true],[],_⟩ (by kernel_rfl) (bc (Zah (fun h=>d11 ((ZaI _).1 h))) (bc rfl (bc rfl (bc rfl b0)))) q0 (ce (@ev31 f cs u0 v0 u1 v1 th gp sf z r k12) (ce (@ev50 fx fy fz) (ce (@ev50 tx ty tz) (ce (@ev11 false (O.blk cs z r) fx fy tx ty k13) c0)))) ?_
     rcases xq H with ⟨d15,H⟩|⟨d15,H⟩
     ·exact Zaq (G:=Zad kp25 [] []) 1000 [true] (tu [AV.vnil,vi (O.arE (O.blk cs z r) { x:=fx,y:=fy } { x:=tx,y:=ty })]) (by kernel_rfl) (bc (Zak (i_ne.2 d15)) b0) q0 c0 H
     ·rcases xq H with ⟨d16,H⟩|⟨d16,H⟩
      ·have w17:(List.map Gp.a (O.arP false (O.blk cs z r) { x:=fx,y:=fy } { x:=tx,y:=ty })).length=(O.arP false (O.blk cs z r) { x:=fx,y:=fy } { x:=tx,y:=ty }).length:=List.length_map ..
       exact Zae (G:=Zad kp25 [(14,1,.call (tu []) none)] []) 1000 [false] ⟨(atC (cd Try.f25) [1,1,1,1,1,1,1,1,1,0,1,0,0]),[(5,vi pl),(8,AV.ptr 2 0 0 0),(17,AV.ptr 3 0 0 0),(87,AV.vec false 2 (List.map Gp.a (O.arP false (O.blk cs z r) { x:=fx,y:=fy } { x:=tx,y:=ty }))),(88,vi (↑(List.map Gp.a (O.arP false (O.blk cs z r) { x:=fx,y:=fy } { x:=tx,y:=ty })).length:Int)),(89,vi 0)],[⟨[ag [vi u0,vi v0,vi u1,vi v1,vi th,vi gp,AV.vec f 5 (List.map Bx.a cs),vi sf]],8,0,false,false⟩,⟨[(ZgE fx fy fz)],3,0,false,false⟩,⟨[(ZgD tx ty tz)],3,0,false,false⟩,⟨[(zNqW18 fx fy fz)],4,0,false,false⟩],_,[],[⟨true,true,51,[AV.ptr 0 0 0 0,vi z],[⟨[(zNqW18 fx fy fz)],4,0,false,false⟩],tu [],[⟨[(zNqW18 fx fy fz)],4,0,false,false⟩]⟩]⟩ (by kernel_rfl) (bc (Zah (fun h=>d15 (i_ne.1 h))) (bc rfl (bc rfl b0))) q0 (cc (fun _=>(@evo51_y fx fy fz z d16)) c0) (by (try rw [w17]);all_goals exact Zas [2,3] (by kernel_rfl) H)
      ·have w18:(List.map Gp.a (O.arP false (O.blk cs z r) { x:=fx,y:=fy } { x:=tx,y:=ty })).length=(O.arP false (O.blk cs z r) { x:=fx,y:=fy } { x:=tx,y:=ty }).length:=List.length_map ..
       exact Zae (G:=Zad kp25 [(14,1,.call (tu []) (some [⟨[ag [vi fx,vi fy,vi z,AV.row 1 0]],4,0,false,false⟩,⟨List.map Mv.a (O.tol fx fy z fx fy fz 0),7,0,false,true⟩]))] []) 1000 [false] ⟨(atC (cd Try.f25) [1,1,1,1,1,1,1,1,1,0,1,0,0]),[(5,vi pl),(8,AV.ptr 2 0 0 0),(17,AV.ptr 3 0 0 0),(87,AV.vec false 2 (List.map Gp.a (O.arP false (O.blk cs z r) { x:=fx,y:=fy } { x:=tx,y:=ty }))),(88,vi (↑(List.map Gp.a (O.arP false (O.blk cs z r) { x:=fx,y:=fy } { x:=tx,y:=ty })).length:Int)),(89,vi 0)],[⟨[ag [vi u0,vi v0,vi u1,vi v1,vi th,vi gp,AV.vec f 5 (List.map Bx.a cs),vi sf]],8,0,false,false⟩,⟨[(ZgE fx fy fz)],3,0,false,false⟩,⟨[(ZgD tx ty tz)],3,0,false,false⟩,⟨[ag [vi fx,vi fy,vi z,AV.row 4 0]],4,0,false,false⟩,⟨List.map Mv.a (O.tol fx fy z fx fy fz 0),7,0,false,true⟩],_,[],[⟨true,true,51,[AV.ptr 0 0 0 0,vi z],[⟨[(zNqW18 fx fy fz)],4,0,false,false⟩],tu [],[⟨[ag [vi fx,vi fy,vi z,AV.row 1 0]],4,0,false,false⟩,⟨List.map Mv.a (O.tol fx fy z fx fy fz 0),7,0,false,true⟩]⟩]⟩ (by kernel_rfl) (bc (Zah (fun h=>d15 (i_ne.1 h))) (bc rfl (bc rfl b0))) q0 (cc (fun _=>(@evo51_n fx fy fz z d16)) c0) (by (try rw [w18]);all_goals exact Zas [2,3,4] (by kernel_rfl) H)
noncomputable abbrev ZcY (ps:List Gp) (i:Int):=ag [vi (ps.getD i.toNat default).x,vi (ps.getD i.toNat default).y]
noncomputable abbrev ZeW (px:Int) (py:Int) (pz:Int):=ag [vi px,vi py,vi pz,AV.vnil]
theorem qDt0 (tx ty tz pl px py pz:Int) (g:Bool) (ps:List Gp) (n i:Int)  (dq:AV) (H :
  ((i<n)->(0<=i) /\
   (i.toNat<ps.length) /\
   ((O.sam (ps.getD i.toNat default).x (ps.getD i.toNat default).y pz px py pz)->(-9223372036854775808<=i+1/\i+1<=9223372036854775807) /\
    ZfO tx ty tz pl px py pz g ps n (i+1) (Zaf dq)) /\
   (¬(O.sam (ps.getD i.toNat default).x (ps.getD i.toNat default).y pz px py pz)->(-9223372036854775808<=i+1/\i+1<=9223372036854775807) /\
    ZeH tx ty tz pl ((ps.getD i.toNat default).x) ((ps.getD i.toNat default).y) pz g ps (O.tol (ps.getD i.toNat default).x (ps.getD i.toNat default).y pz px py pz 0) 0 n (i+1) (Zaf dq))) /\
  (¬(i<n)->((O.dno tz pz)->Weak (tu [AV.vnil,vi 0]) dq) /\
   (¬(O.dno tz pz)->Weak (tu [AV.vec false 7 (List.map Mv.a (O.ds1 tz px py pz++O.ds2 tz pl px py pz)),vi 0]) dq))) :
 ZfO tx ty tz pl px py pz g ps n i (Zaf dq):=by
 unfold ZfO
 rcases xq H with ⟨d2,H⟩|⟨d2,H⟩
 ·obtain ⟨k4,H⟩:=H
  have w5:(List.map Gp.a ps).length=ps.length:=List.length_map ..
  have i6:(decide (i.toNat<(List.map Gp.a ps).length))=true ↔ (i.toNat<ps.length):=(by (try rw [w5]);all_goals exact Zab)
  obtain ⟨k7,H⟩:=H
  rcases xq H with ⟨d8,H⟩|⟨d8,H⟩
  ·obtain ⟨k9,H⟩:=H
   have w10:wi (i+1)=i+1:=wI64 k9
   exact Zae (G:=Zad kp25 [(17,1,.elem ((ZcY ps i))),(18,1,.call (tu []) (some [⟨[(ZeW px py pz)],4,0,false,false⟩,⟨[(ZcY ps i)],2,0,false,false⟩]))] []) 1000 [true] ⟨(atC (cd Try.f25) [1,1,1,1,1,1,1,1,1,0,1,0,0]),[(5,vi pl),(8,AV.ptr 0 0 0 0),(17,AV.ptr 1 0 0 0),(87,AV.vec g 2 (List.map Gp.a ps)),(88,vi n),(89,vi (wi (i+1)))],[⟨[ag [vi tx,vi ty,vi tz]],3,0,false,false⟩,⟨[(ZeW px py pz)],4,0,false,false⟩,⟨[(ZcY ps i)],2,0,false,false⟩],_,[((List.map Gp.a ps).get?Internal i.toNat=some ((ZcY ps i)))],[⟨true,true,52,[AV.ptr 0 0 0 0,(ZcY ps i)],[⟨[(ZeW px py pz)],4,0,false,false⟩],tu [],[⟨[(ZeW px py pz)],4,0,false,false⟩,⟨[(ZcY ps i)],2,0,false,false⟩]⟩]⟩ (by kernel_rfl) (bc (Zak (Zab.2 d2)) (bc (Zab.2 k4) (bc (i6.2 k7) (bc rfl (bc rfl b0))))) (qc (Zal k7) q0) (cc (fun _=>(@evo52_y px py pz ((ps.getD i.toNat default).x) ((ps.getD i.toNat default).y) d8)) c0) (by (try rw [w10]);all_goals exact Zas [0,1] (by kernel_rfl) H)
  ·obtain ⟨k11,H⟩:=H
   have w12:wi (i+1)=i+1:=wI64 k11
   exact Zae (G:=Zad kp25 [(17,1,.elem ((ZcY ps i))),(18,1,.call (tu []) (some [⟨[ag [vi (ps.getD i.toNat default).x,vi (ps.getD i.toNat default).y,vi pz,AV.row 2 0]],4,0,false,false⟩,⟨[(ZcY ps i)],2,0,false,false⟩,⟨List.map Mv.a (O.tol (ps.getD i.toNat default).x (ps.getD i.toNat default).y pz px py pz 0),7,0,false,true⟩]))] []) 1000 [true] ⟨(atC (cd Try.f25) [1,1,1,1,1,1,1,1,1,0,1,0,0]),[(5,vi pl),(8,AV.ptr 0 0 0 0),(17,AV.ptr 1 0 0 0),(87,AV.vec g 2 (List.map Gp.a ps)),(88,vi n),(89,vi (wi (i+1)))],[⟨[ag [vi tx,vi ty,vi tz]],3,0,false,false⟩,⟨[ag [vi (ps.getD i.toNat default).x,vi (ps.getD i.toNat default).y,vi pz,AV.row 3 0]],4,0,false,false⟩,⟨[(ZcY ps i)],2,0,false,false⟩,⟨List.map Mv.a (O.tol (ps.getD i.toNat default).x (ps.getD i.toNat default).y pz px py pz 0),7,0,false,true⟩],_,[((List.map Gp.a ps).get?Internal i.toNat=some ((ZcY ps i)))],[⟨true,true,52,[AV.ptr 0 0 0 0,(ZcY ps i)],[⟨[(ZeW px py pz)],4,0,false,false⟩],tu [],[⟨[ag [vi (ps.getD i.toNat default).x,vi (ps.getD i.toNat default).y,vi pz,AV.row 2 0]],4,0,false,false⟩,⟨[(ZcY ps i)],2,0,false,false⟩,⟨List.map Mv.a (O.tol (ps.getD i.toNat default).x (ps.getD i.toNat default).y pz px py pz 0),7,0,false,true⟩]⟩]⟩ (by kernel_rfl) (bc (Zak (Zab.2 d2)) (bc (Zab.2 k4) (bc (i6.2 k7) (bc rfl (bc rfl b0))))) (qc (Zal k7) q0) (cc (fun _=>(@evo52_n px py pz ((ps.getD i.toNat default).x) ((ps.getD i.toNat default).y) d8)) c0) (by (try rw [w12]);all_goals exact Zas [0,1,3] (by kernel_rfl) H)
 ·rcases xq H with ⟨d13,H⟩|⟨d13,H⟩
  ·exact Zaq (G:=Zad kp25 [(20,3,.call (tu []) none)] []) 1000 [false] (calls:=[⟨true,true,53,[AV.ptr 0 0 0 0,vi tz,vi pl],[⟨[(ZeW px py pz)],4,0,false,false⟩],tu [],[⟨[(ZeW px py pz)],4,0,false,false⟩]⟩]) (tu [AV.vnil,vi 0]) (by kernel_rfl) (bc (Zah (fun h=>d2 (Zab.1 h))) (bc rfl (bc rfl b0))) q0 (cc (fun _=>(@evo53_y px py pz tz pl d13)) c0) H
  ·exact Zax (G:=Zad kp25 [(20,3,.call (tu []) (some [⟨[ag [vi px,vi py,vi (O.dz2 tz pz),AV.row 1 (O.dvn tz pl px py pz)]],4,0,false,false⟩,⟨List.map Mv.a (O.ds1 tz px py pz++O.ds2 tz pl px py pz),7,O.dvn tz pl px py pz,false,true⟩]))] []) 1000 [false] (k:=((atC (cd Try.f25) [1,1,1,1,1,1,1,1,1,1,1,1])).tail) (env':=[(12,AV.row 2 (O.dvn tz pl px py pz)),(13,vi 0)]) (L':=[⟨[ag [vi tx,vi ty,vi tz]],3,0,false,false⟩,⟨[ag [vi px,vi py,vi (O.dz2 tz pz),AV.row 2 (O.dvn tz pl px py pz)]],4,0,false,false⟩,⟨List.map Mv.a (O.ds1 tz px py pz++O.ds2 tz pl px py pz),7,O.dvn tz pl px py pz,false,true⟩]) (asm:=[(decide (i<n))==false,true,true]) (eqs:=[]) (calls:=[⟨true,true,53,[AV.ptr 0 0 0 0,vi tz,vi pl],[⟨[(ZeW px py pz)],4,0,false,false⟩],tu [],[⟨[ag [vi px,vi py,vi (O.dz2 tz pz),AV.row 1 (O.dvn tz pl px py pz)]],4,0,false,false⟩,⟨List.map Mv.a (O.ds1 tz px py pz++O.ds2 tz pl px py pz),7,O.dvn tz pl px py pz,false,true⟩]⟩]) (tu [AV.row 2 (O.dvn tz pl px py pz),vi 0]) (by kernel_rfl) (by kernel_rfl) (Zaa (Zah (fun h=>d2 (Zab.1 h))) (Zaa rfl (Zaa rfl Zaj))) Zan (Zap (fun _=>(@evo53_n px py pz tz pl d13)) Zao) (Zcb (d:=(tu [AV.vec false 7 (List.map Mv.a (O.ds1 tz px py pz++O.ds2 tz pl px py pz)),vi 0])) (bs:=[O.dvn tz pl px py pz==O.dvn tz pl px py pz]) (by kernel_rfl) (by kernel_rfl) (Zaa (beq_self_eq_true _) Zaj) (by kernel_rfl) H)
noncomputable abbrev zNqW21 (ps:List Gp) (i:Int):=ag [vi (ps.getD i.toNat default).x,vi (ps.getD i.toNat default).y]
noncomputable abbrev ZgC (ps:List Gp) (i:Int) (pz:Int) (px:Int) (py:Int):=O.tol (ps.getD i.toNat default).x (ps.getD i.toNat default).y pz px py pz 0
theorem qDt1 (tx ty tz pl px py pz:Int) (g:Bool) (ps:List Gp) (ms:List Mv) (v:Nat) (n i:Int)  (dq:AV) (H :
  ((i<n)->(0<=i) /\
   (i.toNat<ps.length) /\
   (ms.length<=100000) /\
   (-9223372036854775808<=i+1/\i+1<=9223372036854775807) /\
   ZeH tx ty tz pl ((ps.getD i.toNat default).x) ((ps.getD i.toNat default).y) pz g ps (ms++O.tol (ps.getD i.toNat default).x (ps.getD i.toNat default).y pz px py pz 0) (v+(O.tol (ps.getD i.toNat default).x (ps.getD i.toNat default).y pz px py pz 0).length) n (i+1) (Zaf dq)) /\
  (¬(i<n)->(ms.length<=90000) /\
   Weak (tu [AV.vec false 7 (List.map Mv.a (ms++O.ds1 tz px py pz++O.ds2 tz pl px py pz)),vi 0]) dq)) :
 ZeH tx ty tz pl px py pz g ps ms v n i (Zaf dq):=by
 unfold ZeH
 rcases xq H with ⟨d2,H⟩|⟨d2,H⟩
 ·obtain ⟨k4,H⟩:=H
  have w5:(List.map Gp.a ps).length=ps.length:=List.length_map ..
  have i6:(decide (i.toNat<(List.map Gp.a ps).length))=true ↔ (i.toNat<ps.length):=(by (try rw [w5]);all_goals exact Zab)
  obtain ⟨k7,k8,k9,H⟩:=H
  have w10:wi (i+1)=i+1:=wI64 k9
  exact Zae (G:=Zad kp25 [(17,1,.elem ((zNqW21 ps i))),(18,1,.call (tu []) (some [⟨[ag [vi (ps.getD i.toNat default).x,vi (ps.getD i.toNat default).y,vi pz,AV.row 1 (v+(ZgC ps i pz px py).length)]],4,0,false,false⟩,⟨List.map Mv.a (ms++O.tol (ps.getD i.toNat default).x (ps.getD i.toNat default).y pz px py pz 0),7,v+(ZgC ps i pz px py).length,false,true⟩]))] []) 1000 [true] ⟨(atC (cd Try.f25) [1,1,1,1,1,1,1,1,1,0,1,0,0]),[(5,vi pl),(8,AV.ptr 0 0 0 0),(17,AV.ptr 1 0 0 0),(87,AV.vec g 2 (List.map Gp.a ps)),(88,vi n),(89,vi (wi (i+1)))],[⟨[ag [vi tx,vi ty,vi tz]],3,0,false,false⟩,⟨[ag [vi (ps.getD i.toNat default).x,vi (ps.getD i.toNat default).y,vi pz,AV.row 2 (v+(ZgC ps i pz px py).length)]],4,0,false,false⟩,⟨List.map Mv.a (ms++O.tol (ps.getD i.toNat default).x (ps.getD i.toNat default).y pz px py pz 0),7,v+(ZgC ps i pz px py).length,false,true⟩,⟨[(zNqW21 ps i)],2,0,false,false⟩],_,[((List.map Gp.a ps).get?Internal i.toNat=some ((zNqW21 ps i)))],[⟨true,true,52,[AV.ptr 0 0 0 0,(zNqW21 ps i)],[⟨[ag [vi px,vi py,vi pz,AV.row 1 v]],4,0,false,false⟩,⟨List.map Mv.a ms,7,v,false,true⟩],tu [],[⟨[ag [vi (ps.getD i.toNat default).x,vi (ps.getD i.toNat default).y,vi pz,AV.row 1 (v+(ZgC ps i pz px py).length)]],4,0,false,false⟩,⟨List.map Mv.a (ms++O.tol (ps.getD i.toNat default).x (ps.getD i.toNat default).y pz px py pz 0),7,v+(ZgC ps i pz px py).length,false,true⟩]⟩]⟩ (by kernel_rfl) (bc (Zak (Zab.2 d2)) (bc (Zab.2 k4) (bc (i6.2 k7) (bc rfl (bc rfl b0))))) (qc (Zal k7) q0) (cc (fun _=>(@evo52 ms v px py pz ((ps.getD i.toNat default).x) ((ps.getD i.toNat default).y) k8)) c0) (by (try rw [w10]);all_goals exact Zas [0,1,2] (by kernel_rfl) H)
 ·obtain ⟨k11,H⟩:=H
  exact Zax (G:=Zad kp25 [(20,3,.call (tu []) (some [⟨[ag [vi px,vi py,vi (O.dz2 tz pz),AV.row 1 (v+(O.ds1 tz px py pz).length+(O.ds2 tz pl px py pz).length)]],4,0,false,false⟩,⟨List.map Mv.a (ms++O.ds1 tz px py pz++O.ds2 tz pl px py pz),7,v+(O.ds1 tz px py pz).length+(O.ds2 tz pl px py pz).length,false,true⟩]))] []) 1000 [false] (k:=((atC (cd Try.f25) [1,1,1,1,1,1,1,1,1,1,1,1])).tail) (env':=[(12,AV.row 2 (v+(O.ds1 tz px py pz).length+(O.ds2 tz pl px py pz).length)),(13,vi 0)]) (L':=[⟨[ag [vi tx,vi ty,vi tz]],3,0,false,false⟩,⟨[ag [vi px,vi py,vi (O.dz2 tz pz),AV.row 2 (v+(O.ds1 tz px py pz).length+(O.ds2 tz pl px py pz).length)]],4,0,false,false⟩,⟨List.map Mv.a (ms++O.ds1 tz px py pz++O.ds2 tz pl px py pz),7,v+(O.ds1 tz px py pz).length+(O.ds2 tz pl px py pz).length,false,true⟩]) (asm:=[(decide (i<n))==false,true,true]) (eqs:=[]) (calls:=[⟨true,true,53,[AV.ptr 0 0 0 0,vi tz,vi pl],[⟨[ag [vi px,vi py,vi pz,AV.row 1 v]],4,0,false,false⟩,⟨List.map Mv.a ms,7,v,false,true⟩],tu [],[⟨[ag [vi px,vi py,vi (O.dz2 tz pz),AV.row 1 (v+(O.ds1 tz px py pz).length+(O.ds2 tz pl px py pz).length)]],4,0,false,false⟩,⟨List.map Mv.a (ms++O.ds1 tz px py pz++O.ds2 tz pl px py pz),7,v+(O.ds1 tz px py pz).length+(O.ds2 tz pl px py pz).length,false,true⟩]⟩]) (tu [AV.row 2 (v+(O.ds1 tz px py pz).length+(O.ds2 tz pl px py pz).length),vi 0]) (by kernel_rfl) (by kernel_rfl) (Zaa (Zah (fun h=>d2 (Zab.1 h))) (Zaa rfl (Zaa rfl Zaj))) Zan (Zap (fun _=>(@evo53 ms v px py pz tz pl k11)) Zao) (Zcb (d:=(tu [AV.vec false 7 (List.map Mv.a (ms++O.ds1 tz px py pz++O.ds2 tz pl px py pz)),vi 0])) (bs:=[v+(O.ds1 tz px py pz).length+(O.ds2 tz pl px py pz).length==v+(O.ds1 tz px py pz).length+(O.ds2 tz pl px py pz).length]) (by kernel_rfl) (by kernel_rfl) (Zaa (beq_self_eq_true _) Zaj) (by kernel_rfl) H)
end Go.Av

namespace Go.Av
open Go.Proofs
namespace O
def acr (pz:Int):List Gp->Int->Int->List Mv
 | [],_,_=>[]
 | q::l,px,py=>tol q.x q.y pz px py pz 0++acr pz l q.x q.y
def lst:List Gp->Int->Int->Gp
 | [],px,py=>⟨px,py⟩
 | q::l,_,_=>lst l q.x q.y
def dtT (tz pz pl:Int) (l:List Gp) (px py:Int):List Mv:=acr pz l px py++(ds1 tz (lst l px py).x (lst l px py).y pz++ds2 tz pl (lst l px py).x (lst l px py).y pz)
def dtL (fx fy fz tz z pl:Int) (P:List Gp):List Mv:=tol fx fy z fx fy fz 0++dtT tz z pl P fx fy
def dtC (fz tz z r pl:Int):Prop:=(((r<0\/pl<=0)\/z<1000)\/z<fz)\/z<tz
open Classical in
noncomputable def dtE (cs:List Bx) (u0 v0 u1 v1 th gp sf fx fy fz tx ty tz z r pl:Int):Int:=
 if ¬vaP cs u0 v0 u1 v1 th gp sf then 1 else if dtC fz tz z r pl then 1 else if (blk cs z 0).length>8 then 3 else if fr8 fx fy fz tx ty tz r z then 11 else arE (blk cs z r) ⟨fx,fy⟩ ⟨tx,ty⟩
noncomputable def dtP (cs:List Bx) (u0 v0 u1 v1 th gp sf fx fy fz tx ty tz z r pl:Int):List Mv:=
 if dtE cs u0 v0 u1 v1 th gp sf fx fy fz tx ty tz z r pl=0 then dtL fx fy fz tz z pl (arP false (blk cs z r) ⟨fx,fy⟩ ⟨tx,ty⟩) else []
end O
theorem weak_mn (k:Int):Weak (AV.tup [.vnil,.int .i64 k]) (.tup [.vec false 7 [],.int .i64 k]):=.tup _ _ rfl fun i x y hx hy=>by
 match i with
 | 0=>simp at hx hy;subst hx;subst hy;exact .vnil 7
 | 1=>simp at hx hy;subst hx;subst hy;exact .refl _
 | i+2=>simp at hx
theorem weak_m0 {k:Int} {l:List Mv} (h:l=[]):Weak (AV.tup [.vnil,.int .i64 k]) (.tup [.vec false 7 (l.map Mv.a),.int .i64 k]):=by
 subst h;exact weak_mn k
theorem weak_m1 {k:Int} {l m:List Mv} (h:l=m):Weak (AV.tup [.vec false 7 (l.map Mv.a),.int .i64 k]) (.tup [.vec false 7 (m.map Mv.a),.int .i64 k]):=by
 subst h;exact .refl _
section
variable {cs:List Bx} {u0 v0 u1 v1 th gp sf:Int}
theorem va_okB (h:O.vaP cs u0 v0 u1 v1 th gp sf) {r:Int} (hr:O.cc r):O.Zei cs r:=by
 obtain ⟨_,h2,h3,_,h5,h6⟩:=h
 refine ⟨by omega,fun c hc => ?_,hr⟩
 have a:=(h6 c hc).1
 have b:=(h6 c hc).2.1
 unfold O.wth at b h2 h3
 unfold O.rct at a
 unfold O.ccb O.cc;omega
theorem blk_len (cs:List Bx) (z r:Int):(O.blk cs z r).length<=cs.length:=by
 unfold O.blk;rw [List.length_map];exact List.length_filter_le ..
theorem ZdY:¬O.vaE cs u0 v0 u1 v1 th gp sf=0 ↔ ¬O.vaP cs u0 v0 u1 v1 th gp sf:=by
 constructor
 ·intro h k;exact h (va_y k)
 ·intro h k;rw [va_n h] at k;exact absurd k (by decide)
end
end Go.Av

namespace Go.Av
open Go.Proofs
set_option maxRecDepth 100000
def fi21:Fi:=⟨86,[.tmp 8]⟩
def kp21:List (Nat × List Nat):=[(0,[2,3,4,5]),(1,[2,3,5,9]),(2,[3,5,9,14,15,16]),(3,[3,5,9,14,15,16,17]),(4,[3,5,9,11,14,15,16]),(5,[3,5,9,11,12,14,15,16]),(6,[3,5,9,11,12,14,15,16,35]),(7,[8]),(8,[3,5,9,11,12,14,15,16,35,36]),(9,[3,5,9,11,14,15,16,67]),(10,[8]),(11,[3,5,9,11,12,14,15,16,68]),(12,[3,5,9,11,14,15,16,79]),(13,[8]),(14,[3,5,9,14,15,16]),(15,[3,5,9,14,15,16]),(16,[8])]
def fi26:Fi:=⟨69,[.tmp 12]⟩
def kp26:List (Nat × List Nat):=[(0,[3,4,5,6,7,8]),(1,[3,4,5,6,7,8,13]),(2,[3,4,5,6,7,8,13,17]),(3,[12]),(4,[3,4,6,7,8,40]),(5,[12]),(6,[3,4,6,7,8,45]),(7,[12]),(8,[3,4,6,7,8,59]),(9,[12]),(10,[12])]
def fi28:Fi:=⟨26,[.tmp 4]⟩
def kp28:List (Nat × List Nat):=[(0,[0,1]),(1,[0,1,10]),(2,[4]),(3,[0,1,5]),(4,[0,1,5,14]),(5,[0,1,5]),(6,[0,1,5,25]),(7,[4]),(8,[4])]
def fi29:Fi:=⟨47,[.tmp 10]⟩
def kp29:List (Nat × List Nat):=[(0,[2,3,4,5,6]),(1,[2,3,4,6,11]),(2,[2,3,4,6,11,12]),(3,[2,3,4,6,11,12,25]),(4,[2,3,4,6,11,12]),(5,[2,3,4,6,11,12]),(6,[10])]
def qAx_at (fx fy fz tx ty tz z pl:Int) (g:Bool) (ps:List Gp) (Q:AV->Heap->Prop):Prop:=Wp M1 (.run fi29 (atC (cd Try.f29) []) [(0,.agg [.int .i64 fx,.int .i64 fy,.int .i64 fz]),(1,.agg [.int .i64 tx,.int .i64 ty,.int .i64 tz]),(2,.int .i64 z),(3,.int .i64 pl),(4,.vec g 2 (ps.map Gp.a))] []) Q
def ZfR (tx ty tz px py pz z pl:Int) (g:Bool) (ps:List Gp) (i:Int) (Q:AV->Heap->Prop):Prop:=Wp M1 (.run fi29 (atC (cd Try.f29) [1,1,0,1,0,0]) [(2,.int .i64 z),(3,.int .i64 pl),(4,.vec g 2 (ps.map Gp.a)),(6,.ptr 0 0 0 0),(11,.ptr 1 0 0 0),(12,.int .i64 i)] [⟨[.agg [.int .i64 tx,.int .i64 ty,.int .i64 tz]],3,0,false,false⟩,⟨[.agg [.int .i64 px,.int .i64 py,.int .i64 pz,.vnil]],4,0,false,false⟩]) Q
def ZeK (tx ty tz px py pz z pl:Int) (g:Bool) (ps:List Gp) (ms:List Mv) (v:Nat) (i:Int) (Q:AV->Heap->Prop):Prop:=Wp M1 (.run fi29 (atC (cd Try.f29) [1,1,0,1,0,0]) [(2,.int .i64 z),(3,.int .i64 pl),(4,.vec g 2 (ps.map Gp.a)),(6,.ptr 0 0 0 0),(11,.ptr 1 0 0 0),(12,.int .i64 i)] [⟨[.agg [.int .i64 tx,.int .i64 ty,.int .i64 tz]],3,0,false,false⟩,⟨[.agg [.int .i64 px,.int .i64 py,.int .i64 pz,.row 2 v]],4,0,false,false⟩,⟨ms.map Mv.a,7,v,false,true⟩]) Q
def qBf_at (f:Bool) (cs:List Bx) (u0 v0 u1 v1 th gp sf:Int) (fx fy fz tx ty tz:Int) (z r pl:Int) (Q:AV->Heap->Prop):Prop:=Wp M1 (.run fi26 (atC (cd Try.f26) []) [(0,.agg [.int .i64 u0,.int .i64 v0,.int .i64 u1,.int .i64 v1,.int .i64 th,.int .i64 gp,.vec f 5 (cs.map Bx.a),.int .i64 sf]),(1,.agg [.int .i64 fx,.int .i64 fy,.int .i64 fz]),(2,.agg [.int .i64 tx,.int .i64 ty,.int .i64 tz]),(3,.int .i64 z),(4,.int .i64 r),(5,.int .i64 pl)] []) Q
def qSame_at (f g:Bool) (l m:List Mv) (Q:AV->Heap->Prop):Prop:=Wp M1 (.run fi28 (atC (cd Try.f28) []) [(0,.vec f 7 (l.map Mv.a)),(1,.vec g 7 (m.map Mv.a))] []) Q
def Zdc (f g:Bool) (l m:List Mv) (i:Int) (Q:AV->Heap->Prop):Prop:=Wp M1 (.run fi28 (atC (cd Try.f28) [1,1,0,1,0,0]) [(0,.vec f 7 (l.map Mv.a)),(1,.vec g 7 (m.map Mv.a)),(5,.int .i64 i)] []) Q
def qSf_at (fx fy fz tx ty tz:Int) (g:Bool) (l:List Mv) (le:Int) (Q:AV->Heap->Prop):Prop:=Wp M1 (.run fi21 (atC (cd Try.f21) []) [(0,.agg [.int .i64 fx,.int .i64 fy,.int .i64 fz]),(1,.agg [.int .i64 tx,.int .i64 ty,.int .i64 tz]),(2,.vec g 7 (l.map Mv.a)),(3,.int .i64 le)] []) Q
def ZeE (tx ty tz px py pz:Int) (g:Bool) (l:List Mv) (le n i:Int) (Q:AV->Heap->Prop):Prop:=Wp M1 (.run fi21 (atC (cd Try.f21) [1,1,0,1,0,0]) [(3,.int .i64 le),(5,.ptr 0 0 0 0),(9,.ptr 1 0 0 0),(14,.vec g 7 (l.map Mv.a)),(15,.int .i64 n),(16,.int .i64 i)] [⟨[.agg [.int .i64 tx,.int .i64 ty,.int .i64 tz]],3,0,false,false⟩,⟨[.agg [.int .i64 px,.int .i64 py,.int .i64 pz]],3,0,false,false⟩]) Q
theorem call21 {args:List AV} {d:AV} (h:wc M1 fi21 Try.f21 args d):Ev M1 (.pure 21 args) d []:=pcl _ _ (by kernel_rfl) h
theorem call26 {args:List AV} {d:AV} (h:wc M1 fi26 Try.f26 args d):Ev M1 (.pure 26 args) d []:=pcl _ _ (by kernel_rfl) h
theorem call28 {args:List AV} {d:AV} (h:wc M1 fi28 Try.f28 args d):Ev M1 (.pure 28 args) d []:=pcl _ _ (by kernel_rfl) h
theorem call29 {args:List AV} {d:AV} (h:wc M1 fi29 Try.f29 args d):Ev M1 (.pure 29 args) d []:=pcl _ _ (by kernel_rfl) h
noncomputable abbrev Zfv (fx:Int) (fy:Int) (fz:Int):=ag [vi fx,vi fy,vi fz,AV.vnil]
noncomputable abbrev zNqX2 (fx:Int) (fy:Int) (z:Int):=ag [vi fx,vi fy,vi z]
noncomputable abbrev zNqX3 (fx:Int) (fy:Int) (z:Int):=ag [vi fx,vi fy,vi z,AV.row 3 0]
theorem qAx (fx fy fz tx ty tz z pl:Int) (g:Bool) (ps:List Gp)  (dq:AV) (H :
  ((O.sam fx fy z fx fy fz)->ZfR tx ty tz fx fy fz z pl g ps 0 (Zaf dq)) /\
  (¬(O.sam fx fy z fx fy fz)->ZeK tx ty tz fx fy z z pl g ps (O.adl fx fy z fx fy fz 0) 0 0 (Zaf dq))) :
 qAx_at fx fy fz tx ty tz z pl g ps (Zaf dq):=by
 unfold qAx_at
 rcases xq H with ⟨d1,H⟩|⟨d1,H⟩
 ·exact Zae (G:=Zad kp29 [(1,8,.call ((Zfv fx fy fz)) (some [⟨[(Zfv fx fy fz)],4,0,false,false⟩,⟨[(zNqX2 fx fy z)],3,0,false,false⟩,⟨[(Zfv fx fy fz)],4,0,false,false⟩]))] []) 1000 [] ⟨(atC (cd Try.f29) [1,1,0,1,0,0]),[(2,vi z),(3,vi pl),(4,AV.vec g 2 (List.map Gp.a ps)),(6,AV.ptr 1 0 0 0),(11,AV.ptr 2 0 0 0),(12,vi 0)],[⟨[ag [vi fx,vi fy,vi fz]],3,0,false,false⟩,⟨[ag [vi tx,vi ty,vi tz]],3,0,false,false⟩,⟨[(Zfv fx fy fz)],4,0,false,false⟩],_,[],[⟨true,true,57,[(Zfv fx fy fz),(zNqX2 fx fy z),vi 0],[],(Zfv fx fy fz),[⟨[(Zfv fx fy fz)],4,0,false,false⟩,⟨[(zNqX2 fx fy z)],3,0,false,false⟩,⟨[(Zfv fx fy fz)],4,0,false,false⟩]⟩]⟩ (by kernel_rfl) (bc rfl (bc rfl (bc rfl (bc rfl b0)))) q0 (cc (fun _=>(@ZdS fx fy fz fx fy z 0 d1)) c0) (Zas [1,2] (by kernel_rfl) H)
 ·exact Zae (G:=Zad kp29 [(1,8,.call ((zNqX3 fx fy z)) (some [⟨[(Zfv fx fy fz)],4,0,false,false⟩,⟨[(zNqX2 fx fy z)],3,0,false,false⟩,⟨[(zNqX3 fx fy z)],4,0,false,false⟩,⟨List.map Mv.a (O.adl fx fy z fx fy fz 0),7,0,false,true⟩]))] []) 1000 [] ⟨(atC (cd Try.f29) [1,1,0,1,0,0]),[(2,vi z),(3,vi pl),(4,AV.vec g 2 (List.map Gp.a ps)),(6,AV.ptr 1 0 0 0),(11,AV.ptr 3 0 0 0),(12,vi 0)],[⟨[ag [vi fx,vi fy,vi fz]],3,0,false,false⟩,⟨[ag [vi tx,vi ty,vi tz]],3,0,false,false⟩,⟨List.map Mv.a (O.adl fx fy z fx fy fz 0),7,0,false,true⟩,⟨[ag [vi fx,vi fy,vi z,AV.row 2 0]],4,0,false,false⟩],_,[],[⟨true,true,57,[(Zfv fx fy fz),(zNqX2 fx fy z),vi 0],[],(zNqX3 fx fy z),[⟨[(Zfv fx fy fz)],4,0,false,false⟩,⟨[(zNqX2 fx fy z)],3,0,false,false⟩,⟨[(zNqX3 fx fy z)],4,0,false,false⟩,⟨List.map Mv.a (O.adl fx fy z fx fy fz 0),7,0,false,true⟩]⟩]⟩ (by kernel_rfl) (bc rfl (bc rfl (bc rfl (bc rfl b0)))) q0 (cc (fun _=>(@ZeQ fx fy fz fx fy z 0 d1)) c0) (Zas [1,3,2] (by kernel_rfl) H)
noncomputable abbrev ZcH (px:Int) (py:Int) (pz:Int):=ag [vi px,vi py,vi pz,AV.vnil]
noncomputable abbrev zNqX5 (ps:List Gp) (i:Int):=ag [vi (ps.getD i.toNat default).x,vi (ps.getD i.toNat default).y]
noncomputable abbrev zNqX6 (ps:List Gp) (i:Int) (z:Int):=ag [vi (ps.getD i.toNat default).x,vi (ps.getD i.toNat default).y,vi z]
noncomputable abbrev zNqX7 (tx:Int) (ty:Int) (tz:Int):=ag [vi tx,vi ty,vi tz]
noncomputable abbrev zNqX8 (ps:List Gp) (i:Int) (z:Int):=ag [vi (ps.getD i.toNat default).x,vi (ps.getD i.toNat default).y,vi z,AV.row 3 0]
noncomputable abbrev zNqX9 (tx:Int) (ty:Int) (tz:Int) (pl:Int) (px:Int) (py:Int) (pz:Int):=ag [vi tx,vi ty,vi tz,AV.row 4 (O.dvn tz pl px py pz)]
noncomputable abbrev zNqX10 (tx:Int) (ty:Int) (tz:Int):=ag [vi tx,vi ty,vi (O.stp tz)]
theorem qAx0 (tx ty tz px py pz z pl:Int) (g:Bool) (ps:List Gp) (i:Int)  (dq:AV) (H :
  ((i<(↑ps.length:Int))->((O.sam (ps.getD i.toNat default).x (ps.getD i.toNat default).y z px py pz)->(0<=i) /\
    (i.toNat<ps.length) /\
    (-9223372036854775808<=i+1/\i+1<=9223372036854775807) /\
    ZfR tx ty tz px py pz z pl g ps (i+1) (Zaf dq)) /\
   (¬(O.sam (ps.getD i.toNat default).x (ps.getD i.toNat default).y z px py pz)->(0<=i) /\
    (i.toNat<ps.length) /\
    (-9223372036854775808<=i+1/\i+1<=9223372036854775807) /\
    ZeK tx ty tz ((ps.getD i.toNat default).x) ((ps.getD i.toNat default).y) z z pl g ps (O.adl (ps.getD i.toNat default).x (ps.getD i.toNat default).y z px py pz 0) 0 (i+1) (Zaf dq))) /\
  (¬(i<(↑ps.length:Int))->((O.dno tz pz)->(O.okRd tx ty tz px py pz pl) /\
    Weak (AV.vnil) dq) /\
   (¬(O.dno tz pz)->(O.okRd tx ty tz px py pz pl) /\
    Weak (AV.vec false 7 (List.map Mv.a (O.ds1 tz px py pz++O.ds2 tz pl px py pz))) dq))) :
 ZfR tx ty tz px py pz z pl g ps i (Zaf dq):=by
 unfold ZfR
 have w1:(List.map Gp.a ps).length=ps.length:=List.length_map ..
 have i2:(decide (i<(↑(List.map Gp.a ps).length:Int)))=true ↔ (i<(↑ps.length:Int)):=(by (try rw [w1]);all_goals exact Zab)
 rcases xq H with ⟨d3,H⟩|⟨d3,H⟩
 ·rcases xq H with ⟨d4,H⟩|⟨d4,H⟩
  ·obtain ⟨k6,H⟩:=H
   have i7:(decide (i.toNat<(List.map Gp.a ps).length))=true ↔ (i.toNat<ps.length):=(by (try rw [w1]);all_goals exact Zab)
   obtain ⟨k8,H⟩:=H
   have i10:(decide (i.toNat<(List.map Gp.a ps).length))=true ↔ (i.toNat<ps.length):=(by (try rw [w1]);all_goals exact Zab)
   obtain ⟨k11,H⟩:=H
   have w12:wi (i+1)=i+1:=wI64 k11
   exact Zae (G:=Zad kp29 [(5,5,.elem (zNqX5 ps i)),(5,10,.elem (zNqX5 ps i)),(5,13,.call ((ZcH px py pz)) (some [⟨[(ZcH px py pz)],4,0,false,false⟩,⟨[(zNqX6 ps i z)],3,0,false,false⟩,⟨[(ZcH px py pz)],4,0,false,false⟩]))] [(5,[13])]) 1000 [true] ⟨(atC (cd Try.f29) [1,1,0,1,0,0]),[(2,vi z),(3,vi pl),(4,AV.vec g 2 (List.map Gp.a ps)),(6,AV.ptr 0 0 0 0),(11,AV.ptr 1 0 0 0),(12,vi (wi (i+1)))],[⟨[(zNqX7 tx ty tz)],3,0,false,false⟩,⟨[(ZcH px py pz)],4,0,false,false⟩],_,[((List.map Gp.a ps).get?Internal i.toNat=some (zNqX5 ps i)),((List.map Gp.a ps).get?Internal i.toNat=some (zNqX5 ps i))],[⟨true,true,57,[(ZcH px py pz),(zNqX6 ps i z),vi 0],[],(ZcH px py pz),[⟨[(ZcH px py pz)],4,0,false,false⟩,⟨[(zNqX6 ps i z)],3,0,false,false⟩,⟨[(ZcH px py pz)],4,0,false,false⟩]⟩]⟩ (by kernel_rfl) (bc (Zak (i2.2 d3)) (bc rfl (bc (Zab.2 k6) (bc (i7.2 k8) (bc (Zab.2 k6) (bc (i10.2 k8) (bc rfl b0))))))) (qc (Zal k8) (qc (Zal k8) q0)) (cc (fun _=>(@ZdS px py pz ((ps.getD i.toNat default).x) ((ps.getD i.toNat default).y) z 0 d4)) c0) (by (try rw [w12]);all_goals exact H)
  ·obtain ⟨k14,H⟩:=H
   have i15:(decide (i.toNat<(List.map Gp.a ps).length))=true ↔ (i.toNat<ps.length):=(by (try rw [w1]);all_goals exact Zab)
   obtain ⟨k16,H⟩:=H
   have i18:(decide (i.toNat<(List.map Gp.a ps).length))=true ↔ (i.toNat<ps.length):=(by (try rw [w1]);all_goals exact Zab)
   obtain ⟨k19,H⟩:=H
   have w20:wi (i+1)=i+1:=wI64 k19
   exact Zae (G:=Zad kp29 [(5,5,.elem (zNqX5 ps i)),(5,10,.elem (zNqX5 ps i)),(5,13,.call ((zNqX8 ps i z)) (some [⟨[(ZcH px py pz)],4,0,false,false⟩,⟨[(zNqX6 ps i z)],3,0,false,false⟩,⟨[(zNqX8 ps i z)],4,0,false,false⟩,⟨List.map Mv.a (O.adl (ps.getD i.toNat default).x (ps.getD i.toNat default).y z px py pz 0),7,0,false,true⟩]))] [(5,[13])]) 1000 [true] ⟨(atC (cd Try.f29) [1,1,0,1,0,0]),[(2,vi z),(3,vi pl),(4,AV.vec g 2 (List.map Gp.a ps)),(6,AV.ptr 0 0 0 0),(11,AV.ptr 1 0 0 0),(12,vi (wi (i+1)))],[⟨[(zNqX7 tx ty tz)],3,0,false,false⟩,⟨[ag [vi (ps.getD i.toNat default).x,vi (ps.getD i.toNat default).y,vi z,AV.row 2 0]],4,0,false,false⟩,⟨List.map Mv.a (O.adl (ps.getD i.toNat default).x (ps.getD i.toNat default).y z px py pz 0),7,0,false,true⟩],_,[((List.map Gp.a ps).get?Internal i.toNat=some (zNqX5 ps i)),((List.map Gp.a ps).get?Internal i.toNat=some (zNqX5 ps i))],[⟨true,true,57,[(ZcH px py pz),(zNqX6 ps i z),vi 0],[],(zNqX8 ps i z),[⟨[(ZcH px py pz)],4,0,false,false⟩,⟨[(zNqX6 ps i z)],3,0,false,false⟩,⟨[(zNqX8 ps i z)],4,0,false,false⟩,⟨List.map Mv.a (O.adl (ps.getD i.toNat default).x (ps.getD i.toNat default).y z px py pz 0),7,0,false,true⟩]⟩]⟩ (by kernel_rfl) (bc (Zak (i2.2 d3)) (bc rfl (bc (Zab.2 k14) (bc (i15.2 k16) (bc (Zab.2 k14) (bc (i18.2 k16) (bc rfl b0))))))) (qc (Zal k16) (qc (Zal k16) q0)) (cc (fun _=>(@ZeQ px py pz ((ps.getD i.toNat default).x) ((ps.getD i.toNat default).y) z 0 d4)) c0) (by (try rw [w20]);all_goals exact H)
 ·rcases xq H with ⟨d21,H⟩|⟨d21,H⟩
  ·obtain ⟨k22,H⟩:=H
   exact Zaq (G:=Zad kp29 [(6,3,.call ((ZcH px py pz)) (some [⟨[(ZcH px py pz)],4,0,false,false⟩,⟨[(zNqX7 tx ty tz)],3,0,false,false⟩,⟨[(ZcH px py pz)],4,0,false,false⟩,⟨[(zNqX10 tx ty tz)],3,0,false,false⟩]))] []) 1000 [false] (calls:=[⟨true,true,58,[(ZcH px py pz),(zNqX7 tx ty tz),vi pl],[],(ZcH px py pz),[⟨[(ZcH px py pz)],4,0,false,false⟩,⟨[(zNqX7 tx ty tz)],3,0,false,false⟩,⟨[(ZcH px py pz)],4,0,false,false⟩,⟨[(zNqX10 tx ty tz)],3,0,false,false⟩]⟩]) (AV.vnil) (by kernel_rfl) (bc (Zah (fun h=>d3 (i2.1 h))) (bc rfl (bc rfl b0))) q0 (cc (fun _=>(@evo58_y px py pz tx ty tz pl k22 d21)) c0) H
  ·obtain ⟨k23,H⟩:=H
   exact Zax (G:=Zad kp29 [(6,3,.call ((zNqX9 tx ty tz pl px py pz)) (some [⟨[(zNqX9 tx ty tz pl px py pz)],4,0,false,false⟩,⟨[(zNqX7 tx ty tz)],3,0,false,false⟩,⟨[(zNqX9 tx ty tz pl px py pz)],4,0,false,false⟩,⟨[(zNqX10 tx ty tz)],3,0,false,false⟩,⟨List.map Mv.a (O.ds1 tz px py pz++O.ds2 tz pl px py pz),7,O.dvn tz pl px py pz,false,true⟩]))] []) 1000 [false] (k:=((atC (cd Try.f29) [1,1,1,1])).tail) (env':=[(10,AV.row 2 (O.dvn tz pl px py pz))]) (L':=[⟨[(zNqX7 tx ty tz)],3,0,false,false⟩,⟨[(ZcH px py pz)],4,0,false,false⟩,⟨List.map Mv.a (O.ds1 tz px py pz++O.ds2 tz pl px py pz),7,O.dvn tz pl px py pz,false,true⟩]) (asm:=[(decide (i<(↑(List.map Gp.a ps).length:Int)))==false,true,true]) (eqs:=[]) (calls:=[⟨true,true,58,[(ZcH px py pz),(zNqX7 tx ty tz),vi pl],[],(zNqX9 tx ty tz pl px py pz),[⟨[(zNqX9 tx ty tz pl px py pz)],4,0,false,false⟩,⟨[(zNqX7 tx ty tz)],3,0,false,false⟩,⟨[(zNqX9 tx ty tz pl px py pz)],4,0,false,false⟩,⟨[(zNqX10 tx ty tz)],3,0,false,false⟩,⟨List.map Mv.a (O.ds1 tz px py pz++O.ds2 tz pl px py pz),7,O.dvn tz pl px py pz,false,true⟩]⟩]) (AV.row 2 (O.dvn tz pl px py pz)) (by kernel_rfl) (by kernel_rfl) (Zaa (Zah (fun h=>d3 (i2.1 h))) (Zaa rfl (Zaa rfl Zaj))) Zan (Zap (fun _=>(@evo58_n px py pz tx ty tz pl k23 d21)) Zao) (Zcb (d:=(AV.vec false 7 (List.map Mv.a (O.ds1 tz px py pz++O.ds2 tz pl px py pz)))) (bs:=[O.dvn tz pl px py pz==O.dvn tz pl px py pz]) (by kernel_rfl) (by kernel_rfl) (Zaa (beq_self_eq_true _) Zaj) (by kernel_rfl) H)
noncomputable abbrev zNqX11 (ps:List Gp) (i:Int):=ag [vi (ps.getD i.toNat default).x,vi (ps.getD i.toNat default).y]
noncomputable abbrev ZgB (ps:List Gp) (i:Int) (z:Int) (px:Int) (py:Int) (pz:Int):=O.adl (ps.getD i.toNat default).x (ps.getD i.toNat default).y z px py pz 0
theorem qAx1 (tx ty tz px py pz z pl:Int) (g:Bool) (ps:List Gp) (ms:List Mv) (v:Nat) (i:Int)  (dq:AV) (H :
  ((i<(↑ps.length:Int))->(ms.length<=100000) /\
   (0<=i) /\
   (i.toNat<ps.length) /\
   (-9223372036854775808<=i+1/\i+1<=9223372036854775807) /\
   ZeK tx ty tz ((ps.getD i.toNat default).x) ((ps.getD i.toNat default).y) z z pl g ps (ms++O.adl (ps.getD i.toNat default).x (ps.getD i.toNat default).y z px py pz 0) (v+(O.adl (ps.getD i.toNat default).x (ps.getD i.toNat default).y z px py pz 0).length) (i+1) (Zaf dq)) /\
  (¬(i<(↑ps.length:Int))->(ms.length<=90000/\O.okRd tx ty tz px py pz pl) /\
   Weak (AV.vec false 7 (List.map Mv.a (ms++O.ds1 tz px py pz++O.ds2 tz pl px py pz))) dq)) :
 ZeK tx ty tz px py pz z pl g ps ms v i (Zaf dq):=by
 unfold ZeK
 have w1:(List.map Gp.a ps).length=ps.length:=List.length_map ..
 have i2:(decide (i<(↑(List.map Gp.a ps).length:Int)))=true ↔ (i<(↑ps.length:Int)):=(by (try rw [w1]);all_goals exact Zab)
 rcases xq H with ⟨d3,H⟩|⟨d3,H⟩
 ·obtain ⟨k4,k6,H⟩:=H
  have i7:(decide (i.toNat<(List.map Gp.a ps).length))=true ↔ (i.toNat<ps.length):=(by (try rw [w1]);all_goals exact Zab)
  obtain ⟨k8,H⟩:=H
  have i10:(decide (i.toNat<(List.map Gp.a ps).length))=true ↔ (i.toNat<ps.length):=(by (try rw [w1]);all_goals exact Zab)
  obtain ⟨k11,H⟩:=H
  have w12:wi (i+1)=i+1:=wI64 k11
  exact Zae (G:=Zad kp29 [(5,5,.elem (zNqX11 ps i)),(5,10,.elem (zNqX11 ps i)),(5,13,.call (ag [vi (ps.getD i.toNat default).x,vi (ps.getD i.toNat default).y,vi z,AV.row 0 (v+(ZgB ps i z px py pz).length)]) (some [⟨List.map Mv.a (ms++O.adl (ps.getD i.toNat default).x (ps.getD i.toNat default).y z px py pz 0),7,v+(ZgB ps i z px py pz).length,false,true⟩]))] [(5,[13])]) 1000 [true] ⟨(atC (cd Try.f29) [1,1,0,1,0,0]),[(2,vi z),(3,vi pl),(4,AV.vec g 2 (List.map Gp.a ps)),(6,AV.ptr 0 0 0 0),(11,AV.ptr 1 0 0 0),(12,vi (wi (i+1)))],[⟨[ag [vi tx,vi ty,vi tz]],3,0,false,false⟩,⟨[ag [vi (ps.getD i.toNat default).x,vi (ps.getD i.toNat default).y,vi z,AV.row 2 (v+(ZgB ps i z px py pz).length)]],4,0,false,false⟩,⟨List.map Mv.a (ms++O.adl (ps.getD i.toNat default).x (ps.getD i.toNat default).y z px py pz 0),7,v+(ZgB ps i z px py pz).length,false,true⟩],_,[((List.map Gp.a ps).get?Internal i.toNat=some (zNqX11 ps i)),((List.map Gp.a ps).get?Internal i.toNat=some (zNqX11 ps i))],[⟨true,true,57,[ag [vi px,vi py,vi pz,AV.row 0 v],ag [vi (ps.getD i.toNat default).x,vi (ps.getD i.toNat default).y,vi z],vi 0],[⟨List.map Mv.a ms,7,v,false,true⟩],ag [vi (ps.getD i.toNat default).x,vi (ps.getD i.toNat default).y,vi z,AV.row 0 (v+(ZgB ps i z px py pz).length)],[⟨List.map Mv.a (ms++O.adl (ps.getD i.toNat default).x (ps.getD i.toNat default).y z px py pz 0),7,v+(ZgB ps i z px py pz).length,false,true⟩]⟩]⟩ (by kernel_rfl) (bc (Zak (i2.2 d3)) (bc rfl (bc (Zab.2 k6) (bc (i7.2 k8) (bc (Zab.2 k6) (bc (i10.2 k8) (bc rfl b0))))))) (qc (Zal k8) (qc (Zal k8) q0)) (cc (fun _=>(@evo57 ms v px py pz ((ps.getD i.toNat default).x) ((ps.getD i.toNat default).y) z 0 k4)) c0) (by (try rw [w12]);all_goals exact H)
 ·obtain ⟨k13,H⟩:=H
  exact Zax (G:=Zad kp29 [(6,3,.call (ag [vi tx,vi ty,vi tz,AV.row 0 (v+(O.ds1 tz px py pz).length+(O.ds2 tz pl px py pz).length)]) (some [⟨List.map Mv.a (ms++O.ds1 tz px py pz++O.ds2 tz pl px py pz),7,v+(O.ds1 tz px py pz).length+(O.ds2 tz pl px py pz).length,false,true⟩]))] []) 1000 [false] (k:=((atC (cd Try.f29) [1,1,1,1])).tail) (env':=[(10,AV.row 2 (v+(O.ds1 tz px py pz).length+(O.ds2 tz pl px py pz).length))]) (L':=[⟨[ag [vi tx,vi ty,vi tz]],3,0,false,false⟩,⟨[ag [vi px,vi py,vi pz,AV.row 2 v]],4,0,false,false⟩,⟨List.map Mv.a (ms++O.ds1 tz px py pz++O.ds2 tz pl px py pz),7,v+(O.ds1 tz px py pz).length+(O.ds2 tz pl px py pz).length,false,true⟩]) (asm:=[(decide (i<(↑(List.map Gp.a ps).length:Int)))==false,true,true]) (eqs:=[]) (calls:=[⟨true,true,58,[ag [vi px,vi py,vi pz,AV.row 0 v],ag [vi tx,vi ty,vi tz],vi pl],[⟨List.map Mv.a ms,7,v,false,true⟩],ag [vi tx,vi ty,vi tz,AV.row 0 (v+(O.ds1 tz px py pz).length+(O.ds2 tz pl px py pz).length)],[⟨List.map Mv.a (ms++O.ds1 tz px py pz++O.ds2 tz pl px py pz),7,v+(O.ds1 tz px py pz).length+(O.ds2 tz pl px py pz).length,false,true⟩]⟩]) (AV.row 2 (v+(O.ds1 tz px py pz).length+(O.ds2 tz pl px py pz).length)) (by kernel_rfl) (by kernel_rfl) (Zaa (Zah (fun h=>d3 (i2.1 h))) (Zaa rfl (Zaa rfl Zaj))) Zan (Zap (fun _=>(@evo58 ms v px py pz tx ty tz pl k13)) Zao) (Zcb (d:=(AV.vec false 7 (List.map Mv.a (ms++O.ds1 tz px py pz++O.ds2 tz pl px py pz)))) (bs:=[v+(O.ds1 tz px py pz).length+(O.ds2 tz pl px py pz).length==v+(O.ds1 tz px py pz).length+(O.ds2 tz pl px py pz).length]) (by kernel_rfl) (by kernel_rfl) (Zaa (beq_self_eq_true _) Zaj) (by kernel_rfl) H)
noncomputable abbrev zNqX13 (tx:Int) (ty:Int) (tz:Int):=ag [vi tx,vi ty,vi tz]
noncomputable abbrev zNqX14 (fx:Int) (fy:Int) (fz:Int):=ag [vi fx,vi fy,vi fz]
theorem qBf (f:Bool) (cs:List Bx) (u0 v0 u1 v1 th gp sf:Int) (fx fy fz tx ty tz:Int) (z r pl:Int)  (dq:AV) (H :
  (cs.length<=1000) /\
  ((¬O.vaE cs u0 v0 u1 v1 th gp sf=0)->vi (O.vaE cs u0 v0 u1 v1 th gp sf)=dq) /\
  (¬(¬O.vaE cs u0 v0 u1 v1 th gp sf=0)->((((((r<0)\/(pl<=0))\/(z<1000))\/(z<fz))\/(z<tz))->vi 1=dq) /\
   (¬(((((r<0)\/(pl<=0))\/(z<1000))\/(z<fz))\/(z<tz))->(O.Zei cs 0) /\
    (((↑(O.blk cs z 0).length:Int)>8)->vi 3=dq) /\
    (¬((↑(O.blk cs z 0).length:Int)>8)->(((((O.fr1 fx\/O.fr1 fy\/O.fr1 fz)\/(O.fr1 tx\/O.fr1 ty\/O.fr1 tz))\/(O.fr1 z))\/(r>10000000))->vi 11=dq) /\
     (¬((((O.fr1 fx\/O.fr1 fy\/O.fr1 fz)\/(O.fr1 tx\/O.fr1 ty\/O.fr1 tz))\/(O.fr1 z))\/(r>10000000))->(O.Zei cs r) /\
      ((O.blk cs z r).length<=100) /\
      vi (O.erI (O.blk cs z r) { x:=fx,y:=fy } { x:=tx,y:=ty })=dq))))) :
 qBf_at f cs u0 v0 u1 v1 th gp sf fx fy fz tx ty tz z r pl (Zaf dq):=by
 unfold qBf_at
 obtain ⟨k1,H⟩:=H
 refine Zae (G:=Zad kp26 [(1,1,.call (vi (O.vaE cs u0 v0 u1 v1 th gp sf)) none)] []) 7 [] ⟨(atC (cd Try.f26) [1,0,1,1]),[(3,vi z),(4,vi r),(5,vi pl),(6,AV.ptr 0 0 0 0),(7,AV.ptr 1 0 0 0),(8,AV.ptr 2 0 0 0),(13,vi (O.vaE cs u0 v0 u1 v1 th gp sf)),(17,vb (O.vaE cs u0 v0 u1 v1 th gp sf != 0))],[⟨[ag [vi u0,vi v0,vi u1,vi v1,vi th,vi gp,AV.vec f 5 (List.map Bx.a cs),vi sf]],8,0,false,false⟩,⟨[(zNqX14 fx fy fz)],3,0,false,false⟩,⟨[(zNqX13 tx ty tz)],3,0,false,false⟩],_,[],_⟩ (by kernel_rfl) (bc rfl b0) q0 (ce (@ev48 f cs u0 v0 u1 v1 th gp sf k1) c0) ?_
 rcases xq H with ⟨d3,H⟩|⟨d3,H⟩
 ·exact Zai (G:=Zad kp26 [] []) 1000 [true] (vi (O.vaE cs u0 v0 u1 v1 th gp sf)) (by kernel_rfl) (bc (Zak (i_ne.2 d3)) b0) q0 c0 H
 ·rcases xq H with ⟨d5,H⟩|⟨d5,H⟩
  ·exact Zai (G:=Zad kp26 [] []) 1000 [false,true] (asm:=[(O.vaE cs u0 v0 u1 v1 th gp sf != 0)==false,!((bif bif decide (r<0) then true else decide (pl<=0) then true else decide (z<1000))==false&&true)||true,!((bif bif bif decide (r<0) then true else decide (pl<=0) then true else decide (z<1000) then true else decide (z<fz))==false&&true)||true,(bif bif bif bif decide (r<0) then true else decide (pl<=0) then true else decide (z<1000) then true else decide (z<fz) then true else decide (z<tz))==true]) (vi 1) (by kernel_rfl) (bc (Zah (fun h=>d3 (i_ne.1 h))) (bc (Bool.or_true _) (bc (Bool.or_true _) (bc (Zak ((ZaC (ZaC (ZaC (ZaC Zab Zab) Zab) Zab) Zab).2 d5)) b0)))) q0 c0 H
  ·obtain ⟨k6,H⟩:=H
   have w7:(List.map Bx.a (O.blk cs z 0)).length=(O.blk cs z 0).length:=List.length_map ..
   have i8:(decide ((↑(List.map Bx.a (O.blk cs z 0)).length:Int)>8))=true ↔ ((↑(O.blk cs z 0).length:Int)>8):=(by (try rw [w7]);all_goals exact Zab)
   refine Zae (G:=Zad kp26 [(6,2,.call (AV.vec false 5 (List.map Bx.a (O.blk cs z 0))) none)] []) 10 [false,false] ⟨(atC (cd Try.f26) [1,1,1,0,1]),[(3,vi z),(4,vi r),(6,AV.ptr 0 0 0 0),(7,AV.ptr 1 0 0 0),(8,AV.ptr 2 0 0 0),(45,vb (decide ((↑(List.map Bx.a (O.blk cs z 0)).length:Int)>8)))],[⟨[ag [vi u0,vi v0,vi u1,vi v1,vi th,vi gp,AV.vec f 5 (List.map Bx.a cs),vi sf]],8,0,false,false⟩,⟨[(zNqX14 fx fy fz)],3,0,false,false⟩,⟨[(zNqX13 tx ty tz)],3,0,false,false⟩],[(O.vaE cs u0 v0 u1 v1 th gp sf != 0)==false,!((bif bif decide (r<0) then true else decide (pl<=0) then true else decide (z<1000))==false&&true)||true,!((bif bif bif decide (r<0) then true else decide (pl<=0) then true else decide (z<1000) then true else decide (z<fz))==false&&true)||true,(bif bif bif bif decide (r<0) then true else decide (pl<=0) then true else decide (z<1000) then true else decide (z<fz) then true else decide (z<tz))==false,true],[],_⟩ (by kernel_rfl) (bc (Zah (fun h=>d3 (i_ne.1 h))) (bc (Bool.or_true _) (bc (Bool.or_true _) (bc (Zah (fun h=>d5 ((ZaC (ZaC (ZaC (ZaC Zab Zab) Zab) Zab) Zab).1 h))) (bc rfl b0))))) q0 (ce (@ev27 f cs u0 v0 u1 v1 th gp sf z 0 k6) c0) ?_
   rcases xq H with ⟨d9,H⟩|⟨d9,H⟩
   ·exact Zai (G:=Zad kp26 [] []) 1000 [true] (vi 3) (by kernel_rfl) (bc (Zak (i8.2 d9)) b0) q0 c0 H
   ·refine Zae (G:=Zad kp26 [(8,1,.call (vb (decide (O.fr1 fx\/O.fr1 fy\/O.fr1 fz))) none),(8,4,.call (vb (decide (O.fr1 tx\/O.fr1 ty\/O.fr1 tz))) none),(8,8,.call (vb (decide (O.fr1 z))) none)] []) 5 [false] ⟨(atC (cd Try.f26) [1,1,1,1,0,1]),[(3,vi z),(4,vi r),(6,AV.ptr 0 0 0 0),(7,AV.ptr 1 0 0 0),(8,AV.ptr 2 0 0 0),(59,vb (bif bif bif decide (O.fr1 fx\/O.fr1 fy\/O.fr1 fz) then true else decide (O.fr1 tx\/O.fr1 ty\/O.fr1 tz) then true else decide (O.fr1 z) then true else decide (r>10000000)))],[⟨[ag [vi u0,vi v0,vi u1,vi v1,vi th,vi gp,AV.vec f 5 (List.map Bx.a cs),vi sf]],8,0,false,false⟩,⟨[(zNqX14 fx fy fz)],3,0,false,false⟩,⟨[(zNqX13 tx ty tz)],3,0,false,false⟩],[(decide ((↑(List.map Bx.a (O.blk cs z 0)).length:Int)>8))==false,true,!(decide (O.fr1 fx\/O.fr1 fy\/O.fr1 fz)==false&&true)||true],[],[⟨true,false,55,[(zNqX14 fx fy fz)],[],vb (decide (O.fr1 fx\/O.fr1 fy\/O.fr1 fz)),[]⟩,⟨decide (O.fr1 fx\/O.fr1 fy\/O.fr1 fz)==false&&true&&true,false,55,[(zNqX13 tx ty tz)],[],vb (decide (O.fr1 tx\/O.fr1 ty\/O.fr1 tz)),[]⟩,⟨(bif decide (O.fr1 fx\/O.fr1 fy\/O.fr1 fz) then true else decide (O.fr1 tx\/O.fr1 ty\/O.fr1 tz))==false&&true&&true,false,45,[vi z],[],vb (decide (O.fr1 z)),[]⟩]⟩ (by kernel_rfl) (bc (Zah (fun h=>d9 (i8.1 h))) (bc rfl (bc (Bool.or_true _) b0))) q0 (cc (fun _=>(@ev55 fx fy fz)) (cc (fun hc=>((@ev55 tx ty tz):Ev M1 (Conf.pure 55 [(zNqX13 tx ty tz)]) (vb (decide (O.fr1 tx\/O.fr1 ty\/O.fr1 tz))) [])) (cc (fun hc=>((@ev45 z):Ev M1 (Conf.pure 45 [vi z]) (vb (decide (O.fr1 z))) [])) c0))) ?_
    rcases xq H with ⟨d13,H⟩|⟨d13,H⟩
    ·exact Zai (G:=Zad kp26 [] []) 1000 [true] (vi 11) (by kernel_rfl) (bc (Zak ((ZaC (ZaC (ZaC Zab Zab) Zab) Zab).2 d13)) b0) q0 c0 H
    ·obtain ⟨k14,k15,H⟩:=H
     exact Zai (G:=Zad kp26 [(10,3,.call (AV.vec false 5 (List.map Bx.a (O.blk cs z r))) none),(10,5,.call (ag [vi fx,vi fy]) none),(10,7,.call (ag [vi tx,vi ty]) none),(10,8,.call (vi (O.erI (O.blk cs z r) { x:=fx,y:=fy } { x:=tx,y:=ty })) none)] []) 1000 [false] (vi (O.erI (O.blk cs z r) { x:=fx,y:=fy } { x:=tx,y:=ty })) (by kernel_rfl) (bc (Zah (fun h=>d13 ((ZaC (ZaC (ZaC Zab Zab) Zab) Zab).1 h))) (bc rfl (bc rfl (bc rfl b0)))) q0 (ce (@ev27 f cs u0 v0 u1 v1 th gp sf z r k14) (ce (@ev56 fx fy fz) (ce (@ev56 tx ty tz) (ce (@ev12 false (O.blk cs z r) fx fy tx ty k15) c0)))) H
theorem qSame (f g:Bool) (l m:List Mv)  (dq:AV) (H :
  ((¬(↑l.length:Int)=(↑m.length:Int))->vb false=dq) /\
  (¬(¬(↑l.length:Int)=(↑m.length:Int))->Zdc f g l m 0 (Zaf dq))) :
 qSame_at f g l m (Zaf dq):=by
 unfold qSame_at
 have w1:(List.map Mv.a l).length=l.length:=List.length_map ..
 have w2:(List.map Mv.a m).length=m.length:=List.length_map ..
 have i3:((↑(List.map Mv.a l).length:Int) != (↑(List.map Mv.a m).length:Int))=true ↔ (¬(↑l.length:Int)=(↑m.length:Int)):=(by (try rw [w1]);(try rw [w2]);all_goals exact i_ne)
 rcases xq H with ⟨d4,H⟩|⟨d4,H⟩
 ·exact Zai (G:=Zad kp28 [] []) 1000 [true] (vb false) (by kernel_rfl) (bc (Zak (i3.2 d4)) b0) q0 c0 H
 ·exact Zae (G:=Zad kp28 [] []) 1000 [false] ⟨(atC (cd Try.f28) [1,1,0,1,0,0]),[(0,AV.vec f 7 (List.map Mv.a l)),(1,AV.vec g 7 (List.map Mv.a m)),(5,vi 0)],[],_,[],_⟩ (by kernel_rfl) (bc (Zah (fun h=>d4 (i3.1 h))) b0) q0 c0 H
noncomputable abbrev zNqX15 (l:List Mv) (i:Int):=ag [vi (l.getD i.toNat default).kind,vi (l.getD i.toNat default).x,vi (l.getD i.toNat default).y,vi (l.getD i.toNat default).z,vi (l.getD i.toNat default).cx,vi (l.getD i.toNat default).cy,vi (l.getD i.toNat default).rate]
noncomputable abbrev zNqX16 (m:List Mv) (i:Int):=ag [vi (m.getD i.toNat default).kind,vi (m.getD i.toNat default).x,vi (m.getD i.toNat default).y,vi (m.getD i.toNat default).z,vi (m.getD i.toNat default).cx,vi (m.getD i.toNat default).cy,vi (m.getD i.toNat default).rate]
theorem qSameL (f g:Bool) (l m:List Mv) (i:Int)  (dq:AV) (H :
  ((i<(↑l.length:Int))->(0<=i) /\
   (i.toNat<l.length) /\
   (i.toNat<m.length) /\
   ((¬(((l.getD i.toNat default).kind=(m.getD i.toNat default).kind)/\((((l.getD i.toNat default).x=(m.getD i.toNat default).x)/\(((l.getD i.toNat default).y=(m.getD i.toNat default).y)/\((l.getD i.toNat default).z=(m.getD i.toNat default).z)))/\((((l.getD i.toNat default).cx=(m.getD i.toNat default).cx)/\((l.getD i.toNat default).cy=(m.getD i.toNat default).cy))/\((l.getD i.toNat default).rate=(m.getD i.toNat default).rate)))))->vb false=dq) /\
   (¬(¬(((l.getD i.toNat default).kind=(m.getD i.toNat default).kind)/\((((l.getD i.toNat default).x=(m.getD i.toNat default).x)/\(((l.getD i.toNat default).y=(m.getD i.toNat default).y)/\((l.getD i.toNat default).z=(m.getD i.toNat default).z)))/\((((l.getD i.toNat default).cx=(m.getD i.toNat default).cx)/\((l.getD i.toNat default).cy=(m.getD i.toNat default).cy))/\((l.getD i.toNat default).rate=(m.getD i.toNat default).rate)))))->(-9223372036854775808<=i+1/\i+1<=9223372036854775807) /\
    Zdc f g l m (i+1) (Zaf dq))) /\
  (¬(i<(↑l.length:Int))->vb true=dq)) :
 Zdc f g l m i (Zaf dq):=by
 unfold Zdc
 have w1:(List.map Mv.a l).length=l.length:=List.length_map ..
 have i2:(decide (i<(↑(List.map Mv.a l).length:Int)))=true ↔ (i<(↑l.length:Int)):=(by (try rw [w1]);all_goals exact Zab)
 rcases xq H with ⟨d3,H⟩|⟨d3,H⟩
 ·obtain ⟨k5,H⟩:=H
  have i6:(decide (i.toNat<(List.map Mv.a l).length))=true ↔ (i.toNat<l.length):=(by (try rw [w1]);all_goals exact Zab)
  obtain ⟨k7,H⟩:=H
  have w9:(List.map Mv.a m).length=m.length:=List.length_map ..
  have i10:(decide (i.toNat<(List.map Mv.a m).length))=true ↔ (i.toNat<m.length):=(by (try rw [w9]);all_goals exact Zab)
  obtain ⟨k11,H⟩:=H
  refine Zae (G:=Zad kp28 [(6,3,.elem (zNqX15 l i)),(6,7,.elem (zNqX16 m i))] []) 9 [true] ⟨(atC (cd Try.f28) [1,1,0,1,0,0,1,0,0,1]),[(0,AV.vec f 7 (List.map Mv.a l)),(1,AV.vec g 7 (List.map Mv.a m)),(5,vi i),(25,vb !((l.getD i.toNat default).kind==(m.getD i.toNat default).kind&&((l.getD i.toNat default).x==(m.getD i.toNat default).x&&((l.getD i.toNat default).y==(m.getD i.toNat default).y&&((l.getD i.toNat default).z==(m.getD i.toNat default).z&&true))&&((l.getD i.toNat default).cx==(m.getD i.toNat default).cx&&((l.getD i.toNat default).cy==(m.getD i.toNat default).cy&&true)&&((l.getD i.toNat default).rate==(m.getD i.toNat default).rate&&true)))))],[],_,[((List.map Mv.a l).get?Internal i.toNat=some (zNqX15 l i)),((List.map Mv.a m).get?Internal i.toNat=some (zNqX16 m i))],_⟩ (by kernel_rfl) (bc (Zak (i2.2 d3)) (bc (Zab.2 k5) (bc (i6.2 k7) (bc (Zab.2 k5) (bc (i10.2 k11) b0))))) (qc (Zal k7) (qc (Zal k11) q0)) c0 ?_
  rcases xq H with ⟨d13,H⟩|⟨d13,H⟩
  ·exact Zai (G:=Zad kp28 [] []) 1000 [true] (vb false) (by kernel_rfl) (bc (Zak ((ZaS (Za4 i_eq (Za4 (Za4 i_eq (Za4 i_eq (i_at i_eq))) (Za4 (Za4 i_eq (i_at i_eq)) (i_at i_eq))))).2 d13)) b0) q0 c0 H
  ·obtain ⟨k14,H⟩:=H
   have w15:wi (i+1)=i+1:=wI64 k14
   exact Zae (G:=Zad kp28 [] []) 1000 [false] ⟨(atC (cd Try.f28) [1,1,0,1,0,0]),[(0,AV.vec f 7 (List.map Mv.a l)),(1,AV.vec g 7 (List.map Mv.a m)),(5,vi (wi (i+1)))],[],_,[],_⟩ (by kernel_rfl) (bc (Zah (fun h=>d13 ((ZaS (Za4 i_eq (Za4 (Za4 i_eq (Za4 i_eq (i_at i_eq))) (Za4 (Za4 i_eq (i_at i_eq)) (i_at i_eq))))).1 h))) b0) q0 c0 (by (try rw [w15]);all_goals exact H)
 ·exact Zai (G:=Zad kp28 [] []) 1000 [false] (vb true) (by kernel_rfl) (bc (Zah (fun h=>d3 (i2.1 h))) b0) q0 c0 H
theorem qSf (fx fy fz tx ty tz:Int) (g:Bool) (l:List Mv) (le:Int)  (dq:AV) (H :
  ZeE tx ty tz fx fy fz g l le ((↑l.length:Int)) 0 (Zaf dq)) :
 qSf_at fx fy fz tx ty tz g l le (Zaf dq):=by
 unfold qSf_at
 have w1:(List.map Mv.a l).length=l.length:=List.length_map ..
 exact Zae (G:=Zad kp21 [] []) 1000 [] ⟨(atC (cd Try.f21) [1,1,0,1,0,0]),[(3,vi le),(5,AV.ptr 1 0 0 0),(9,AV.ptr 2 0 0 0),(14,AV.vec g 7 (List.map Mv.a l)),(15,vi (↑(List.map Mv.a l).length:Int)),(16,vi 0)],[⟨[ag [vi fx,vi fy,vi fz]],3,0,false,false⟩,⟨[ag [vi tx,vi ty,vi tz]],3,0,false,false⟩,⟨[ag [vi fx,vi fy,vi fz]],3,0,false,false⟩],_,[],_⟩ (by kernel_rfl) (bc rfl (bc rfl b0)) q0 c0 (by (try rw [w1]);all_goals exact Zas [1,2] (by kernel_rfl) H)
noncomputable abbrev zNqX17 (l:List Mv) (i:Int):=ag [vi (l.getD i.toNat default).kind,vi (l.getD i.toNat default).x,vi (l.getD i.toNat default).y,vi (l.getD i.toNat default).z,vi (l.getD i.toNat default).cx,vi (l.getD i.toNat default).cy,vi (l.getD i.toNat default).rate]
noncomputable abbrev ZgA (l:List Mv) (i:Int) (px:Int) (py:Int) (pz:Int) (le:Int):=bif !bif (l.getD i.toNat default).x==px then (l.getD i.toNat default).y==py else false then bif (l.getD i.toNat default).z != pz then true else decide (pz<le) else false
noncomputable abbrev zNqX19 (l:List Mv) (i:Int) (px:Int) (py:Int) (pz:Int) (le:Int):=bif bif !bif (l.getD i.toNat default).x==px then (l.getD i.toNat default).y==py else false then bif (l.getD i.toNat default).z != pz then true else decide (pz<le) else false then true else bif decide ((l.getD i.toNat default).z<1000) then decide ((l.getD i.toNat default).z<=pz) else false
noncomputable abbrev zNqX20 (l:List Mv) (i:Int):=ag [vi (l.getD i.toNat default).x,vi (l.getD i.toNat default).y,vi (l.getD i.toNat default).z]
theorem qSfL (tx ty tz px py pz:Int) (g:Bool) (l:List Mv) (le n i:Int)  (dq:AV) (H :
  ((i<n)->(0<=i) /\
   (i.toNat<l.length) /\
   (((l.getD i.toNat default).kind=1)->((((¬(((l.getD i.toNat default).x=px)/\((l.getD i.toNat default).y=py)))/\((¬(l.getD i.toNat default).z=pz)\/(pz<le)))\/(((l.getD i.toNat default).z<1000)/\((l.getD i.toNat default).z<=pz)))->vb false=dq) /\
    (¬(((¬(((l.getD i.toNat default).x=px)/\((l.getD i.toNat default).y=py)))/\((¬(l.getD i.toNat default).z=pz)\/(pz<le)))\/(((l.getD i.toNat default).z<1000)/\((l.getD i.toNat default).z<=pz)))->(-9223372036854775808<=i+1/\i+1<=9223372036854775807) /\
     ZeE tx ty tz ((l.getD i.toNat default).x) ((l.getD i.toNat default).y) ((l.getD i.toNat default).z) g l le n (i+1) (Zaf dq))) /\
   (¬((l.getD i.toNat default).kind=1)->(((l.getD i.toNat default).kind=2)->(((¬(((l.getD i.toNat default).x=px)/\((l.getD i.toNat default).y=py)))\/((l.getD i.toNat default).z>=pz))->vb false=dq) /\
     (¬((¬(((l.getD i.toNat default).x=px)/\((l.getD i.toNat default).y=py)))\/((l.getD i.toNat default).z>=pz))->(-9223372036854775808<=i+1/\i+1<=9223372036854775807) /\
      ZeE tx ty tz ((l.getD i.toNat default).x) ((l.getD i.toNat default).y) ((l.getD i.toNat default).z) g l le n (i+1) (Zaf dq))) /\
    (¬((l.getD i.toNat default).kind=2)->vb false=dq))) /\
  (¬(i<n)->vb (px==tx&&(py==ty&&(pz==tz&&true)))=dq)) :
 ZeE tx ty tz px py pz g l le n i (Zaf dq):=by
 unfold ZeE
 rcases xq H with ⟨d2,H⟩|⟨d2,H⟩
 ·obtain ⟨k4,H⟩:=H
  have w5:(List.map Mv.a l).length=l.length:=List.length_map ..
  have i6:(decide (i.toNat<(List.map Mv.a l).length))=true ↔ (i.toNat<l.length):=(by (try rw [w5]);all_goals exact Zab)
  obtain ⟨k7,H⟩:=H
  refine Zae (G:=Zad kp21 [(4,1,.elem ((zNqX17 l i)))] []) 17 [true] ⟨(atC (cd Try.f21) [1,1,0,1,0,0,1,1,0,0,1,1,0,1,0,1]),[(3,vi le),(5,AV.ptr 0 0 0 0),(9,AV.ptr 1 0 0 0),(11,AV.ptr 2 0 0 0),(12,vb (bif (l.getD i.toNat default).x==px then (l.getD i.toNat default).y==py else false)),(14,AV.vec g 7 (List.map Mv.a l)),(15,vi n),(16,vi i),(35,vi (l.getD i.toNat default).kind),(36,vb ((l.getD i.toNat default).kind==1))],[⟨[ag [vi tx,vi ty,vi tz]],3,0,false,false⟩,⟨[ag [vi px,vi py,vi pz]],3,0,false,false⟩,⟨[(zNqX17 l i)],7,0,false,false⟩],[(decide (i<n))==true,decide (0<=i),decide (i.toNat<(List.map Mv.a l).length),true,true,true,!(((l.getD i.toNat default).x==px)==true&&true)||true,!(((l.getD i.toNat default).x==px)==true&&true)||true,0==0],[((List.map Mv.a l).get?Internal i.toNat=some ((zNqX17 l i)))],_⟩ (by kernel_rfl) (bc (Zak (Zab.2 d2)) (bc (Zab.2 k4) (bc (i6.2 k7) (bc rfl (bc rfl (bc rfl (bc (Bool.or_true _) (bc (Bool.or_true _) (bc (beq_self_eq_true _) b0))))))))) (qc (Zal k7) q0) c0 ?_
  rcases xq H with ⟨d9,H⟩|⟨d9,H⟩
  ·rcases xq H with ⟨d11,H⟩|⟨d11,H⟩
   ·exact Zai (G:=Zad kp21 [] []) 1000 [true,true] (asm:=[((l.getD i.toNat default).kind==1)==true,!((!bif (l.getD i.toNat default).x==px then (l.getD i.toNat default).y==py else false)==true&&true)||true,!((!bif (l.getD i.toNat default).x==px then (l.getD i.toNat default).y==py else false)==true&&true)||true,!(((l.getD i.toNat default).z != pz)==false&&((!bif (l.getD i.toNat default).x==px then (l.getD i.toNat default).y==py else false)==true&&true))||true,!((ZgA l i px py pz le)==false&&true)||true,!(decide ((l.getD i.toNat default).z<1000)==true&&((ZgA l i px py pz le)==false&&true))||true,!(decide ((l.getD i.toNat default).z<1000)==true&&((ZgA l i px py pz le)==false&&true))||true,(zNqX19 l i px py pz le)==true]) (vb false) (by kernel_rfl) (bc (Zak (i_eq.2 d9)) (bc (Bool.or_true _) (bc (Bool.or_true _) (bc (Bool.or_true _) (bc (Bool.or_true _) (bc (Bool.or_true _) (bc (Bool.or_true _) (bc (Zak ((ZaC (ZaD (ZaS (ZaD i_eq i_eq)) (ZaC i_ne Zab)) (ZaD Zab Zab)).2 d11)) b0)))))))) q0 c0 H
   ·obtain ⟨k12,H⟩:=H
    have w13:wi (i+1)=i+1:=wI64 k12
    exact Zae (G:=Zad kp21 [] []) 1000 [true,false] ⟨(atC (cd Try.f21) [1,1,0,1,0,0]),[(3,vi le),(5,AV.ptr 0 0 0 0),(9,AV.ptr 1 0 0 0),(14,AV.vec g 7 (List.map Mv.a l)),(15,vi n),(16,vi (wi (i+1)))],[⟨[ag [vi tx,vi ty,vi tz]],3,0,false,false⟩,⟨[(zNqX20 l i)],3,0,false,false⟩,⟨[(zNqX17 l i)],7,0,false,false⟩],[((l.getD i.toNat default).kind==1)==true,!((!bif (l.getD i.toNat default).x==px then (l.getD i.toNat default).y==py else false)==true&&true)||true,!((!bif (l.getD i.toNat default).x==px then (l.getD i.toNat default).y==py else false)==true&&true)||true,!(((l.getD i.toNat default).z != pz)==false&&((!bif (l.getD i.toNat default).x==px then (l.getD i.toNat default).y==py else false)==true&&true))||true,!((ZgA l i px py pz le)==false&&true)||true,!(decide ((l.getD i.toNat default).z<1000)==true&&((ZgA l i px py pz le)==false&&true))||true,!(decide ((l.getD i.toNat default).z<1000)==true&&((ZgA l i px py pz le)==false&&true))||true,(zNqX19 l i px py pz le)==false,true,true],[],_⟩ (by kernel_rfl) (bc (Zak (i_eq.2 d9)) (bc (Bool.or_true _) (bc (Bool.or_true _) (bc (Bool.or_true _) (bc (Bool.or_true _) (bc (Bool.or_true _) (bc (Bool.or_true _) (bc (Zah (fun h=>d11 ((ZaC (ZaD (ZaS (ZaD i_eq i_eq)) (ZaC i_ne Zab)) (ZaD Zab Zab)).1 h))) (bc rfl (bc rfl b0)))))))))) q0 c0 (by (try rw [w13]);all_goals exact Zas [0,1] (by kernel_rfl) H)
  ·rcases xq H with ⟨d15,H⟩|⟨d15,H⟩
   ·rcases xq H with ⟨d17,H⟩|⟨d17,H⟩
    ·exact Zai (G:=Zad kp21 [] []) 1000 [false,true,true] (asm:=[((l.getD i.toNat default).kind==1)==false,((l.getD i.toNat default).kind==2)==true,!((!bif (l.getD i.toNat default).x==px then (l.getD i.toNat default).y==py else false)==false&&true)||true,!((!bif (l.getD i.toNat default).x==px then (l.getD i.toNat default).y==py else false)==false&&true)||true,(bif !bif (l.getD i.toNat default).x==px then (l.getD i.toNat default).y==py else false then true else decide ((l.getD i.toNat default).z>=pz))==true]) (vb false) (by kernel_rfl) (bc (Zah (fun h=>d9 (i_eq.1 h))) (bc (Zak (i_eq.2 d15)) (bc (Bool.or_true _) (bc (Bool.or_true _) (bc (Zak ((ZaC (ZaS (ZaD i_eq i_eq)) Zab).2 d17)) b0))))) q0 c0 H
    ·obtain ⟨k18,H⟩:=H
     have w19:wi (i+1)=i+1:=wI64 k18
     exact Zae (G:=Zad kp21 [] []) 1000 [false,true,false] ⟨(atC (cd Try.f21) [1,1,0,1,0,0]),[(3,vi le),(5,AV.ptr 0 0 0 0),(9,AV.ptr 1 0 0 0),(14,AV.vec g 7 (List.map Mv.a l)),(15,vi n),(16,vi (wi (i+1)))],[⟨[ag [vi tx,vi ty,vi tz]],3,0,false,false⟩,⟨[(zNqX20 l i)],3,0,false,false⟩,⟨[(zNqX17 l i)],7,0,false,false⟩],[((l.getD i.toNat default).kind==1)==false,((l.getD i.toNat default).kind==2)==true,!((!bif (l.getD i.toNat default).x==px then (l.getD i.toNat default).y==py else false)==false&&true)||true,!((!bif (l.getD i.toNat default).x==px then (l.getD i.toNat default).y==py else false)==false&&true)||true,(bif !bif (l.getD i.toNat default).x==px then (l.getD i.toNat default).y==py else false then true else decide ((l.getD i.toNat default).z>=pz))==false,true,true],[],_⟩ (by kernel_rfl) (bc (Zah (fun h=>d9 (i_eq.1 h))) (bc (Zak (i_eq.2 d15)) (bc (Bool.or_true _) (bc (Bool.or_true _) (bc (Zah (fun h=>d17 ((ZaC (ZaS (ZaD i_eq i_eq)) Zab).1 h))) (bc rfl (bc rfl b0))))))) q0 c0 (by (try rw [w19]);all_goals exact Zas [0,1] (by kernel_rfl) H)
   ·exact Zai (G:=Zad kp21 [] []) 1000 [false,false] (vb false) (by kernel_rfl) (bc (Zah (fun h=>d9 (i_eq.1 h))) (bc (Zah (fun h=>d15 (i_eq.1 h))) b0)) q0 c0 H
 ·exact Zai (G:=Zad kp21 [] []) 1000 [false] (vb (px==tx&&(py==ty&&(pz==tz&&true)))) (by kernel_rfl) (bc (Zah (fun h=>d2 (Zab.1 h))) (bc rfl (bc rfl b0))) q0 c0 H
end Go.Av

namespace Go.Av
open Go.Proofs
theorem Zeu (tz pz pl:Int) (q:Gp) (l:List Gp) (px py:Int):O.dtT tz pz pl (q::l) px py=O.tol q.x q.y pz px py pz 0++O.dtT tz pz pl l q.x q.y:=by
 show O.tol q.x q.y pz px py pz 0++O.acr pz l q.x q.y++_=_
 rw [List.append_assoc];rfl
theorem dtT_same {tz pz pl:Int} {q:Gp} {l:List Gp} {px py:Int} (h:O.sam q.x q.y pz px py pz):O.dtT tz pz pl (q::l) px py=O.dtT tz pz pl l px py:=by
 rw [Zeu,tol_y h,List.nil_append,h.1,h.2.1]
section
variable {tx ty tz pl pz:Int} {g:Bool} {ps:List Gp}
theorem dt1_loop (hp:ps.length<=1000) (m:Nat):∀ (i:Nat) (ms:List Mv) (v:Nat) (px py:Int),i+m=ps.length->ms.length<=1+i ->
  ZeH tx ty tz pl px py pz g ps ms v ps.length i (Zaf (.tup [.vec false 7 ((ms++O.dtT tz pz pl (ps.drop i) px py).map Mv.a),.int .i64 0])):=by
 induction m with
 | zero =>
  intro i ms v px py e hm
  refine qDt1 _ _ _ _ _ _ _ _ _ _ _ _ _ _ ⟨fun x=>by omega,fun _=>⟨by omega,?_⟩⟩
  rw [List.drop_eq_nil_of_le (by omega)]
  exact weak_m1 (by rw [List.append_assoc];rfl)
 | succ m ih =>
  intro i ms v px py e hm
  have hi:i<ps.length:=by omega
  refine qDt1 _ _ _ _ _ _ _ _ _ _ _ _ _ _ ⟨fun x => ?_,fun x=>by omega⟩
  rw [Int.toNat_natCast,show (i:Int)+1=((i+1:Nat):Int) by omega,ZaH hi,Zeu,<- List.append_assoc]
  exact ⟨by omega,hi,by omega,by omega,ih (i+1) _ _ _ _ (by omega) (by rw [List.length_append];have:=Zb9 (ps.getD i default).x (ps.getD i default).y pz px py pz 0;omega)⟩
theorem dt0_loop (hp:ps.length<=1000) (m:Nat):∀ (i:Nat) (px py:Int),i+m=ps.length ->
  ZfO tx ty tz pl px py pz g ps ps.length i (Zaf (.tup [.vec false 7 ((O.dtT tz pz pl (ps.drop i) px py).map Mv.a),.int .i64 0])):=by
 induction m with
 | zero =>
  intro i px py e
  refine qDt0 _ _ _ _ _ _ _ _ _ _ _ _ ⟨fun x=>by omega,fun _=>⟨fun k => ?_,fun k => ?_⟩⟩
  ·rw [List.drop_eq_nil_of_le (by omega)]
   obtain ⟨e1,e2,_,_⟩:=dsD (pl:=pl) (px:=px) (py:=py) k.1 k.2
   exact weak_m0 (by show []++(O.ds1 tz px py pz++O.ds2 tz pl px py pz)=[];rw [e1,e2];rfl)
  ·rw [List.drop_eq_nil_of_le (by omega)]
   exact weak_m1 rfl
 | succ m ih =>
  intro i px py e
  have hi:i<ps.length:=by omega
  refine qDt0 _ _ _ _ _ _ _ _ _ _ _ _ ⟨fun x => ?_,fun x=>by omega⟩
  rw [Int.toNat_natCast,show (i:Int)+1=((i+1:Nat):Int) by omega,ZaH hi]
  refine ⟨by omega,hi,fun s=>⟨by omega,?_⟩,fun s=>⟨by omega,?_⟩⟩
  ·rw [dtT_same s];exact ih (i+1) px py (by omega)
  ·rw [Zeu]
   exact dt1_loop hp m (i+1) _ 0 _ _ (by omega) (Nat.le_trans (Zb9 ..) (by omega))
theorem ax1_loop {z:Int} (hp:ps.length<=1000) (m:Nat):∀ (i:Nat) (ms:List Mv) (v:Nat) (px py:Int),i+m=ps.length->ms.length<=1+i->(tx=(O.lst (ps.drop i) px py).x/\ty=(O.lst (ps.drop i) px py).y/\tz<=z/\0<=pl) ->
  ZeK tx ty tz px py z z pl g ps ms v i (Zaf (.vec false 7 ((ms++O.dtT tz z pl (ps.drop i) px py).map Mv.a))):=by
 induction m with
 | zero =>
  intro i ms v px py e hm hL
  rw [List.drop_eq_nil_of_le (by omega)] at hL ⊢
  refine qAx1 _ _ _ _ _ _ _ _ _ _ _ _ _ _ ⟨fun x=>by omega,fun _=>⟨⟨by omega,hL⟩,?_⟩⟩
  rw [List.append_assoc];exact .refl _
 | succ m ih =>
  intro i ms v px py e hm hL
  have hi:i<ps.length:=by omega
  refine qAx1 _ _ _ _ _ _ _ _ _ _ _ _ _ _ ⟨fun x => ?_,fun x=>by omega⟩
  rw [ZaH hi] at hL
  rw [Int.toNat_natCast,show (i:Int)+1=((i+1:Nat):Int) by omega,ZaH hi,Zeu,<- List.append_assoc,Zcu (Int.le_refl 0)]
  exact ⟨by omega,by omega,hi,by omega,ih (i+1) _ _ _ _ (by omega) (by rw [List.length_append];have:=Zb9 (ps.getD i default).x (ps.getD i default).y z px py z 0;omega) hL⟩
theorem ax0_loop {z:Int} (hp:ps.length<=1000) (m:Nat):∀ (i:Nat) (px py:Int),i+m=ps.length->(tx=(O.lst (ps.drop i) px py).x/\ty=(O.lst (ps.drop i) px py).y/\tz<=z/\0<=pl) ->
  ZfR tx ty tz px py z z pl g ps i (Zaf (.vec false 7 ((O.dtT tz z pl (ps.drop i) px py).map Mv.a))):=by
 induction m with
 | zero =>
  intro i px py e hL
  rw [List.drop_eq_nil_of_le (by omega)] at hL ⊢
  refine qAx0 _ _ _ _ _ _ _ _ _ _ _ _ ⟨fun x=>by omega,fun _=>⟨fun k=>⟨hL,?_⟩,fun k=>⟨hL,.refl _⟩⟩⟩
  obtain ⟨e1,e2,_,_⟩:=dsD (pl:=pl) (px:=px) (py:=py) k.1 k.2
  have:O.dtT tz z pl [] px py=[]:=by show []++(O.ds1 tz px py z++O.ds2 tz pl px py z)=[];rw [e1,e2];rfl
  rw [this];exact .vnil 7
 | succ m ih =>
  intro i px py e hL
  have hi:i<ps.length:=by omega
  refine qAx0 _ _ _ _ _ _ _ _ _ _ _ _ ⟨fun x => ?_,fun x=>by omega⟩
  rw [ZaH hi] at hL
  rw [Int.toNat_natCast,show (i:Int)+1=((i+1:Nat):Int) by omega,ZaH hi]
  refine ⟨fun s=>⟨by omega,hi,by omega,?_⟩,fun s=>⟨by omega,hi,by omega,?_⟩⟩
  ·rw [dtT_same s]
   exact ih (i+1) px py (by omega) (by rw [<- s.1,<- s.2.1];exact hL)
  ·rw [Zeu,Zcu (Int.le_refl 0)]
   exact ax1_loop hp m (i+1) _ 0 _ _ (by omega) (Nat.le_trans (Zb9 ..) (by omega)) hL
end
def O.okAx (fx fy tx ty tz z pl:Int) (ps:List Gp):Prop:=ps.length<=1000/\tx=(lst ps fx fy).x/\ty=(lst ps fx fy).y/\tz<=z/\0<=pl
theorem ev29 (fx fy fz tx ty tz z pl:Int) (g:Bool) (ps:List Gp) (h:O.okAx fx fy tx ty tz z pl ps):Ev M1 (.pure 29 [.agg [.int .i64 fx,.int .i64 fy,.int .i64 fz],.agg [.int .i64 tx,.int .i64 ty,.int .i64 tz],.int .i64 z,.int .i64 pl,.vec g 2 (ps.map Gp.a)]) (.vec false 7 ((O.dtL fx fy fz tz z pl ps).map Mv.a)) []:=by
 refine call29 (qAx _ _ _ _ _ _ _ _ _ _ _ ⟨fun s => ?_,fun s => ?_⟩)
 ·unfold O.dtL
  rw [tol_y s,List.nil_append,<- s.2.2]
  exact ax0_loop h.1 ps.length 0 fx fy (by omega) h.2
 ·unfold O.dtL
  rw [Zcu (Int.le_refl 0)]
  exact ax1_loop h.1 ps.length 0 _ 0 fx fy (by omega) (Nat.le_trans (Zb9 ..) (by omega)) h.2
section
variable {cs:List Bx} {u0 v0 u1 v1 th gp sf fx fy fz tx ty tz z r pl:Int}
open Classical in
noncomputable def O.bfE (cs:List Bx) (u0 v0 u1 v1 th gp sf fx fy fz tx ty tz z r pl:Int):Int:=
 if ¬vaP cs u0 v0 u1 v1 th gp sf then 1 else if dtC fz tz z r pl then 1 else if (blk cs z 0).length>8 then 3 else if fr8 fx fy fz tx ty tz r z then 11 else erI (blk cs z r) ⟨fx,fy⟩ ⟨tx,ty⟩
theorem dtC_r (h:¬O.dtC fz tz z r pl):0<=r/\0<pl/\1000<=z/\fz<=z/\tz<=z:=by unfold O.dtC at h;omega
theorem fr8_r (h:¬O.fr8 fx fy fz tx ty tz r z):O.cc r:=by unfold O.fr8 O.fr4 O.fr1 at h;unfold O.cc;omega
theorem cc_0:O.cc 0:=by unfold O.cc;omega
end
open Classical in
theorem ev26 (f:Bool) (cs:List Bx) (u0 v0 u1 v1 th gp sf fx fy fz tx ty tz z r pl:Int) (h:cs.length<=1000) :
  Ev M1 (.pure 26 [.agg [.int .i64 u0,.int .i64 v0,.int .i64 u1,.int .i64 v1,.int .i64 th,.int .i64 gp,.vec f 5 (cs.map Bx.a),.int .i64 sf],.agg [.int .i64 fx,.int .i64 fy,.int .i64 fz],.agg [.int .i64 tx,.int .i64 ty,.int .i64 tz],.int .i64 z,.int .i64 r,.int .i64 pl])
   (.int .i64 (O.bfE cs u0 v0 u1 v1 th gp sf fx fy fz tx ty tz z r pl)) []:=by
 have I {n m:Int} (h:n=m):AV.int .i64 n = .int .i64 m:=by rw [h]
 refine call26 (qBf _ _ _ _ _ _ _ _ _ _ _ _ _ _ _ _ _ _ _ ⟨h,fun k1=>I ?_,fun k1=>⟨fun k2=>I ?_,fun k2 => ?_⟩⟩)
 ·rw [va_n (ZdY.1 k1)];unfold O.bfE;rw [if_pos (ZdY.1 k1)]
 ·unfold O.bfE;rw [if_neg fun x=>k1 (ZdY.2 x),if_pos (show O.dtC fz tz z r pl from k2)]
 ·have v:O.vaP cs u0 v0 u1 v1 th gp sf:=Classical.not_not.1 fun x=>k1 (ZdY.2 x)
  have k2:¬O.dtC fz tz z r pl:=k2
  have d:=dtC_r k2
  have bl:=blk_len cs z r
  have c5:=v.2.2.2.2.1
  refine ⟨va_okB v cc_0,fun k3=>I ?_,fun k3=>⟨fun k4=>I ?_,fun k4=>⟨va_okB v ?_,by omega,I ?_⟩⟩⟩
  ·unfold O.bfE;rw [if_neg fun x=>k1 (ZdY.2 x),if_neg k2,if_pos (by omega)]
  ·unfold O.bfE;rw [if_neg fun x=>k1 (ZdY.2 x),if_neg k2,if_neg (by omega),if_pos (show O.fr8 fx fy fz tx ty tz r z by unfold O.fr8 O.fr4 O.fr1;unfold O.fr1 at k4;omega)]
  ·unfold O.cc;omega
  ·unfold O.bfE;rw [if_neg fun x=>k1 (ZdY.2 x),if_neg k2,if_neg (by omega),if_neg (show ¬O.fr8 fx fy fz tx ty tz r z by unfold O.fr8 O.fr4 O.fr1;unfold O.fr1 at k4;omega)]
open Classical in
theorem ev25 (f:Bool) (cs:List Bx) (u0 v0 u1 v1 th gp sf fx fy fz tx ty tz z r pl:Int) :
  Ev M1 (.pure 25 [.agg [.int .i64 u0,.int .i64 v0,.int .i64 u1,.int .i64 v1,.int .i64 th,.int .i64 gp,.vec f 5 (cs.map Bx.a),.int .i64 sf],.agg [.int .i64 fx,.int .i64 fy,.int .i64 fz],.agg [.int .i64 tx,.int .i64 ty,.int .i64 tz],.int .i64 z,.int .i64 r,.int .i64 pl])
   (.tup [.vec false 7 ((O.dtP cs u0 v0 u1 v1 th gp sf fx fy fz tx ty tz z r pl).map Mv.a),.int .i64 (O.dtE cs u0 v0 u1 v1 th gp sf fx fy fz tx ty tz z r pl)]) []:=by
 have E {k:Int} (h:O.dtE cs u0 v0 u1 v1 th gp sf fx fy fz tx ty tz z r pl=k) (hk:k ≠ 0):Weak (AV.tup [.vnil,.int .i64 k]) (.tup [.vec false 7 ((O.dtP cs u0 v0 u1 v1 th gp sf fx fy fz tx ty tz z r pl).map Mv.a),.int .i64 (O.dtE cs u0 v0 u1 v1 th gp sf fx fy fz tx ty tz z r pl)]):=by
  rw [h];exact weak_m0 (by unfold O.dtP;rw [h,if_neg hk])
 refine call25 (qDt _ _ _ _ _ _ _ _ _ _ _ _ _ _ _ _ _ _ _ ⟨fun k1 => ?_,fun k1=>⟨fun k2=>E ?_ (by decide),fun k2 => ?_⟩⟩)
 ·rw [va_n (ZdY.1 k1)];exact E (by unfold O.dtE;rw [if_pos (ZdY.1 k1)]) (by decide)
 ·unfold O.dtE;rw [if_neg fun x=>k1 (ZdY.2 x),if_pos (show O.dtC fz tz z r pl from k2)]
 ·have v:O.vaP cs u0 v0 u1 v1 th gp sf:=Classical.not_not.1 fun x=>k1 (ZdY.2 x)
  have k2:¬O.dtC fz tz z r pl:=k2
  have bl:=blk_len cs z r
  have c5:=v.2.2.2.2.1
  refine ⟨va_okB v cc_0,fun k3=>E ?_ (by decide),fun k3=>⟨_,ev40_h true fx fy fz tx ty tz r z,fun k4=>E ?_ (by decide),fun k4 => ?_⟩⟩
  ·unfold O.dtE;rw [if_neg fun x=>k1 (ZdY.2 x),if_neg k2,if_pos (by omega)]
  ·unfold O.dtE;rw [if_neg fun x=>k1 (ZdY.2 x),if_neg k2,if_neg (by omega),if_pos (dec_of k4)]
  ·have k4:¬O.fr8 fx fy fz tx ty tz r z:=fun x=>k4 (dec_t x)
   have eE:O.dtE cs u0 v0 u1 v1 th gp sf fx fy fz tx ty tz z r pl=O.arE (O.blk cs z r) ⟨fx,fy⟩ ⟨tx,ty⟩:=by
    unfold O.dtE;rw [if_neg fun x=>k1 (ZdY.2 x),if_neg k2,if_neg (by omega),if_neg k4]
   refine ⟨va_okB v (fr8_r k4),by omega,fun k5 => ?_,fun k5 => ?_⟩
   ·exact E eE k5
   ·have k5:=Classical.not_not.1 k5
    have A:=ar_ok (f:=false) k5
    have len:=A.len
    have eP:O.dtP cs u0 v0 u1 v1 th gp sf fx fy fz tx ty tz z r pl=O.dtL fx fy fz tz z pl (O.arP false (O.blk cs z r) ⟨fx,fy⟩ ⟨tx,ty⟩):=by unfold O.dtP;rw [eE,if_pos k5]
    rw [eP,eE,k5]
    generalize O.arP false (O.blk cs z r) ⟨fx,fy⟩ ⟨tx,ty⟩=P at len ⊢
    refine ⟨fun s => ?_,fun s => ?_⟩
    ·unfold O.dtL
     rw [tol_y s,List.nil_append,s.2.2]
     exact dt0_loop (by omega) P.length 0 fx fy (by omega)
    ·exact dt1_loop (by omega) P.length 0 _ 0 fx fy (by omega) (Nat.le_trans (Zb9 ..) (by omega))
end Go.Av

namespace Go.Av
open Go.Proofs
noncomputable instance (cs:List Bx) (u0 v0 u1 v1 th gp sf:Int):Decidable (O.rgt cs u0 v0 u1 v1 th gp sf):=Classical.propDecidable _
namespace O
def stO (le:Int) (m:Mv) (px py pz:Int):Prop:=
 (m.kind=1/\¬((¬(m.x=px/\m.y=py)/\(¬m.z=pz\/pz<le))\/(m.z<1000/\m.z<=pz)))\/(m.kind=2/\¬(¬(m.x=px/\m.y=py)\/m.z>=pz))
def sfP (le:Int):List Mv->Int->Int->Int->(Int->Int->Int->Prop)->Prop
 | [],px,py,pz,K=>K px py pz
 | m::l,px,py,pz,K=>stO le m px py pz/\sfP le l m.x m.y m.z K
def atP (tx ty tz x y z:Int):Prop:=x=tx/\y=ty/\z=tz
def okSf (tx ty tz px py pz le:Int) (l:List Mv):Prop:=l.length<=100000/\sfP le l px py pz (atP tx ty tz)
def okSm (l m:List Mv):Prop:=l=m/\l.length<=100000
end O
theorem sf_app {le:Int} {K:Int->Int->Int->Prop}:∀ (l m:List Mv) (px py pz:Int),O.sfP le (l++m) px py pz K ↔ O.sfP le l px py pz fun x y z=>O.sfP le m x y z K
 | [],_,_,_,_=>Iff.rfl
 | a::l,m,px,py,pz=>by
  show (_/\O.sfP le (l++m) a.x a.y a.z K) ↔ (_/\_)
  rw [sf_app l m]
section
variable {le:Int} {K:Int->Int->Int->Prop}
theorem sf_tol {x y z px py pz:Int} (k:K x y z) (h:¬((¬(x=px/\y=py)/\(¬z=pz\/pz<le))\/(z<1000/\z<=pz))\/O.sam x y z px py pz):O.sfP le (O.tol x y z px py pz 0) px py pz K:=by
 by_cases s:O.sam x y z px py pz
 ·rw [tol_y s]
  obtain ⟨rfl,rfl,rfl⟩:=s
  exact k
 ·rw [tol_n s]
  have h:=h.resolve_right s
  exact ⟨.inl ⟨rfl,h⟩,k⟩
theorem stp_ge (z:Int):1000<=O.stp z/\z<=O.stp z:=by unfold O.stp;split <;> omega
theorem sf_ds {z pl px py pz:Int} (hp:0<pl) (k:K px py (O.dz2 z pz)):O.sfP le (O.ds1 z px py pz++O.ds2 z pl px py pz) px py pz K:=by
 have two:∀ z',O.dz1 z pz=z'->O.sfP le (O.ds2 z pl px py pz) px py z' K:=by
  intro z' e
  unfold O.ds2
  unfold O.dz2 at k
  rw [e] at k ⊢
  by_cases t:z<1000/\z<z'
  ·rw [if_pos t] at k ⊢
   have n:¬O.sam px py z px py z':=fun s=>by have:=s.2.2;omega
   rw [tol_n n]
   unfold O.mkv
   rw [if_pos hp]
   exact ⟨.inr ⟨rfl,fun x=>x.elim (fun y=>y ⟨rfl,rfl⟩) fun y=>by
    have:z>=z':=y
    omega⟩,k⟩
  ·rw [if_neg t] at k ⊢;exact k
 rw [sf_app]
 have g:=stp_ge z
 by_cases c:pz>O.stp z
 ·rw [show O.ds1 z px py pz=O.tol px py (O.stp z) px py pz 0 from if_pos c]
  exact sf_tol (two _ (if_pos c)) (.inl (by omega))
 ·rw [show O.ds1 z px py pz=[] from if_neg c]
  exact two _ (if_neg c)
theorem dz2_eq {z pz:Int} (h:z<=pz):O.dz2 z pz=z:=by
 unfold O.dz2 O.dz1 O.stp
 split <;> split at * <;> split at * <;> omega
theorem sf_acr {z:Int} (hz:1000<=z):∀ (l:List Gp) (px py:Int),K (O.lst l px py).x (O.lst l px py).y z->O.sfP z (O.acr z l px py) px py z K
 | [],_,_,k=>k
 | q::l,px,py,k=>by
  show O.sfP z (O.tol q.x q.y z px py z 0++O.acr z l q.x q.y) px py z K
  rw [sf_app]
  exact sf_tol (sf_acr hz l q.x q.y k) (.inl (by omega))
end
theorem lst_last:∀ (l:List Gp) (px py:Int),l ≠ []->O.lst l px py=l.getD (l.length-1) default
 | [],_,_,h=>absurd rfl h
 | [_],_,_,_=>rfl
 | a::q::l,_,_,_=>(lst_last (q::l) a.x a.y (by simp)).trans rfl
theorem acr_len (z:Int):∀ (l:List Gp) (px py:Int),(O.acr z l px py).length<=l.length
 | [],_,_=>Nat.le_refl _
 | q::l,px,py=>by
  show (O.tol q.x q.y z px py z 0++O.acr z l q.x q.y).length<=l.length+1
  rw [List.length_append]
  have:=Zb9 q.x q.y z px py z 0
  have:=acr_len z l q.x q.y
  omega
section
variable {fx fy fz tx ty tz z r pl:Int} {P:List Gp}
theorem dtL_len:(O.dtL fx fy fz tz z pl P).length<=P.length+3:=by
 unfold O.dtL O.dtT
 rw [List.length_append,List.length_append,List.length_append]
 have:=Zb9 fx fy z fx fy fz 0
 have:=acr_len z P fx fy
 have:=ds_len tz pl (O.lst P fx fy).x (O.lst P fx fy).y z
 omega
theorem dtL_safe (hz:1000<=z) (ht:tz<=z) (hp:0<pl) (hl:O.lst P fx fy=⟨tx,ty⟩):O.sfP z (O.dtL fx fy fz tz z pl P) fx fy fz (O.atP tx ty tz):=by
 unfold O.dtL O.dtT
 rw [sf_app]
 refine sf_tol ?_ (.inl (by omega))
 rw [sf_app]
 refine sf_acr hz P fx fy (sf_ds hp ?_)
 rw [dz2_eq ht,hl];exact ⟨rfl,rfl,rfl⟩
end
theorem smv_loop {f g:Bool} {l:List Mv} (hl:l.length<=100000) (m:Nat):∀ i:Nat,i+m=l.length->Zdc f g l l i (Zaf (.bool true)):=by
 induction m with
 | zero=>exact fun i e=>qSameL _ _ _ _ _ _ ⟨fun x=>by omega,fun _=>rfl⟩
 | succ m ih =>
  intro i e
  have hi:i<l.length:=by omega
  refine qSameL _ _ _ _ _ _ ⟨fun x => ?_,fun x=>by omega⟩
  rw [Int.toNat_natCast,show (i:Int)+1=((i+1:Nat):Int) by omega]
  exact ⟨by omega,hi,hi,fun k=>absurd ⟨rfl,⟨rfl,rfl,rfl⟩,⟨rfl,rfl⟩,rfl⟩ k,fun _=>⟨by omega,ih (i+1) (by omega)⟩⟩
theorem ev28 (f g:Bool) (l m:List Mv) (h:O.okSm l m):Ev M1 (.pure 28 [.vec f 7 (l.map Mv.a),.vec g 7 (m.map Mv.a)]) (.bool true) []:=by
 obtain ⟨rfl,h⟩:=h
 exact call28 (qSame _ _ _ _ _ ⟨fun k=>absurd rfl k,fun _=>smv_loop h l.length 0 (by omega)⟩)
theorem safe_loop {tx ty tz le:Int} {g:Bool} {l:List Mv} (hl:l.length<=100000) (m:Nat):∀ (i:Nat) (px py pz:Int),i+m=l.length->O.sfP le (l.drop i) px py pz (O.atP tx ty tz)->ZeE tx ty tz px py pz g l le l.length i (Zaf (.bool true)):=by
 induction m with
 | zero =>
  intro i px py pz e h
  rw [List.drop_eq_nil_of_le (by omega)] at h
  obtain ⟨rfl,rfl,rfl⟩:=h
  exact qSfL _ _ _ _ _ _ _ _ _ _ _ _ ⟨fun x=>by omega,fun _=>congrArg AV.bool (by simp)⟩
 | succ m ih =>
  intro i px py pz e h
  have hi:i<l.length:=by omega
  rw [ZaH hi] at h
  refine qSfL _ _ _ _ _ _ _ _ _ _ _ _ ⟨fun x => ?_,fun x=>by omega⟩
  rw [Int.toNat_natCast,show (i:Int)+1=((i+1:Nat):Int) by omega]
  refine ⟨by omega,hi,fun k1=>⟨fun k2 => ?_,fun _=>⟨by omega,ih (i+1) _ _ _ (by omega) h.2⟩⟩,fun k1=>⟨fun k2=>⟨fun k3 => ?_,fun _=>⟨by omega,ih (i+1) _ _ _ (by omega) h.2⟩⟩,fun k2 => ?_⟩⟩
  ·rcases h.1 with x | x
   ·exact absurd k2 x.2
   ·have:=x.1;omega
  ·rcases h.1 with x | x
   ·exact absurd x.1 k1
   ·exact absurd k3 x.2
  ·rcases h.1 with x | x
   ·exact absurd x.1 k1
   ·exact absurd x.1 k2
theorem ev21 (fx fy fz tx ty tz:Int) (g:Bool) (l:List Mv) (le:Int) (h:O.okSf tx ty tz fx fy fz le l):Ev M1 (.pure 21 [.agg [.int .i64 fx,.int .i64 fy,.int .i64 fz],.agg [.int .i64 tx,.int .i64 ty,.int .i64 tz],.vec g 7 (l.map Mv.a),.int .i64 le]) (.bool true) []:=
 call21 (qSf _ _ _ _ _ _ _ _ _ _ (safe_loop h.1 l.length 0 _ _ _ (by omega) h.2))
end Go.Av

namespace Go.Av
open Go.Proofs
set_option maxRecDepth 100000
def fi7:Fi:=⟨115,[.tmp 6]⟩
def kp7:List (Nat × List Nat):=[(0,[3,4,5]),(1,[3,4,5,21]),(2,[6]),(3,[3,4,7,8,9]),(4,[3,4,7,8,9,10,11]),(5,[3,4,7,8,9,10,11,12]),(6,[3,4,7,8,9,10,11,12,51]),(7,[6]),(8,[4,7,9,10,11,13,14]),(9,[4,7,9,10,11,13,14,83]),(10,[6]),(11,[6])]
def qLd_at (f:Bool) (cs:List Bx) (u0 v0 u1 v1 th gp sf:Int) (fx fy fz tx ty tz:Int) (z r pl:Int) (Q:AV->Heap->Prop):Prop:=Wp M1 (.run fi7 (atC (cd Try.f7) []) [(0,.agg [.int .i64 u0,.int .i64 v0,.int .i64 u1,.int .i64 v1,.int .i64 th,.int .i64 gp,.vec f 5 (cs.map Bx.a),.int .i64 sf]),(1,.agg [.int .i64 fx,.int .i64 fy,.int .i64 fz,.int .i64 tx,.int .i64 ty,.int .i64 tz]),(2,.agg [.int .i64 z,.int .i64 r,.int .i64 pl])] []) Q
theorem call7 {args:List AV} {d:AV} (h:wc M1 fi7 Try.f7 args d):Ev M1 (.pure 7 args) d []:=pcl _ _ (by kernel_rfl) h
noncomputable abbrev zNqY1 (fx:Int) (fy:Int) (fz:Int) (tx:Int) (ty:Int) (tz:Int):=ag [vi fx,vi fy,vi fz,vi tx,vi ty,vi tz]
noncomputable abbrev zNqY2 (fx:Int) (fy:Int) (fz:Int):=ag [vi fx,vi fy,vi fz]
noncomputable abbrev zNqY3 (tx:Int) (ty:Int) (tz:Int):=ag [vi tx,vi ty,vi tz]
noncomputable abbrev zNqY4 (z:Int) (r:Int) (pl:Int):=ag [vi z,vi r,vi pl]
theorem qLd (f:Bool) (cs:List Bx) (u0 v0 u1 v1 th gp sf:Int) (fx fy fz tx ty tz:Int) (z r pl:Int)  (dq:AV) (H :
  ((¬(cs.length<=6))->vb true=dq) /\
  (¬(¬(cs.length<=6))->(cs.length<=1000) /\
   ((¬O.bfE cs u0 v0 u1 v1 th gp sf fx fy fz tx ty tz z r pl=0)->vb (bif O.dtE cs u0 v0 u1 v1 th gp sf fx fy fz tx ty tz z r pl==O.bfE cs u0 v0 u1 v1 th gp sf fx fy fz tx ty tz z r pl then (↑(O.dtP cs u0 v0 u1 v1 th gp sf fx fy fz tx ty tz z r pl).length:Int)==0 else false)=dq) /\
   (¬(¬O.bfE cs u0 v0 u1 v1 th gp sf fx fy fz tx ty tz z r pl=0)->(O.Zei cs r) /\
    ((O.blk cs z r).length<=100) /\
    ((¬O.arE (O.blk cs z r) { x:=fx,y:=fy } { x:=tx,y:=ty } = 0)->vb (bif O.dtE cs u0 v0 u1 v1 th gp sf fx fy fz tx ty tz z r pl==O.arE (O.blk cs z r) { x:=fx,y:=fy } { x:=tx,y:=ty } then (↑(O.dtP cs u0 v0 u1 v1 th gp sf fx fy fz tx ty tz z r pl).length:Int)==0 else false)=dq) /\
    (¬(¬O.arE (O.blk cs z r) { x:=fx,y:=fy } { x:=tx,y:=ty } = 0)->((O.dtE cs u0 v0 u1 v1 th gp sf fx fy fz tx ty tz z r pl=0)->(O.okAx fx fy tx ty tz z pl (O.arP false (O.blk cs z r) { x:=fx,y:=fy } { x:=tx,y:=ty }))) /\
     ((O.dtE cs u0 v0 u1 v1 th gp sf fx fy fz tx ty tz z r pl=0)->(O.okSm (O.dtP cs u0 v0 u1 v1 th gp sf fx fy fz tx ty tz z r pl) (O.dtL fx fy fz tz z pl (O.arP false (O.blk cs z r) { x:=fx,y:=fy } { x:=tx,y:=ty })))) /\
     (((O.dtE cs u0 v0 u1 v1 th gp sf fx fy fz tx ty tz z r pl=0)\/(false=true))->(O.okSf tx ty tz fx fy fz z (O.dtP cs u0 v0 u1 v1 th gp sf fx fy fz tx ty tz z r pl))) /\
     vb (bif bif O.dtE cs u0 v0 u1 v1 th gp sf fx fy fz tx ty tz z r pl==0 then true else false then true else false)=dq)))) :
 qLd_at f cs u0 v0 u1 v1 th gp sf fx fy fz tx ty tz z r pl (Zaf dq):=by
 unfold qLd_at
 refine Zae (G:=Zad kp7 [(1,0,.call (vb true) none),(1,4,.call (vb (decide (cs.length<=6))) none)] []) 5 [] ⟨(atC (cd Try.f7) [1,0,1]),[(3,AV.ptr 0 0 0 0),(4,AV.ptr 1 0 0 0),(5,AV.ptr 2 0 0 0),(21,vb !decide (cs.length<=6))],[⟨[ag [vi u0,vi v0,vi u1,vi v1,vi th,vi gp,AV.vec f 5 (List.map Bx.a cs),vi sf]],8,0,false,false⟩,⟨[(zNqY1 fx fy fz tx ty tz)],6,0,false,false⟩,⟨[(zNqY4 z r pl)],3,0,false,false⟩],_,[],_⟩ (by kernel_rfl) (bc rfl b0) q0 (ce (@ev8 ) (ce (@ev24 f cs u0 v0 u1 v1 th gp sf) c0)) ?_
 rcases xq H with ⟨d2,H⟩|⟨d2,H⟩
 ·exact Zai (G:=Zad kp7 [(2,0,.call (vb true) none)] []) 1000 [true] (vb true) (by kernel_rfl) (bc (Zak ((ZaS Zab).2 d2)) b0) q0 (ce (@ev8 ) c0) H
 ·obtain ⟨k3,H⟩:=H
  refine Zae (G:=Zad kp7 [(4,8,.call (tu [AV.vec false 7 (List.map Mv.a (O.dtP cs u0 v0 u1 v1 th gp sf fx fy fz tx ty tz z r pl)),vi (O.dtE cs u0 v0 u1 v1 th gp sf fx fy fz tx ty tz z r pl)]) none),(5,8,.call (vi (O.bfE cs u0 v0 u1 v1 th gp sf fx fy fz tx ty tz z r pl)) none)] []) 11 [false] ⟨(atC (cd Try.f7) [1,1,1,1,0,1,1]),[(3,AV.ptr 0 0 0 0),(4,AV.ptr 1 0 0 0),(7,vi z),(8,vi r),(9,vi pl),(10,AV.vec false 7 (List.map Mv.a (O.dtP cs u0 v0 u1 v1 th gp sf fx fy fz tx ty tz z r pl))),(11,vi (O.dtE cs u0 v0 u1 v1 th gp sf fx fy fz tx ty tz z r pl)),(12,vi (O.bfE cs u0 v0 u1 v1 th gp sf fx fy fz tx ty tz z r pl)),(51,vb (O.bfE cs u0 v0 u1 v1 th gp sf fx fy fz tx ty tz z r pl != 0))],[⟨[ag [vi u0,vi v0,vi u1,vi v1,vi th,vi gp,AV.vec f 5 (List.map Bx.a cs),vi sf]],8,0,false,false⟩,⟨[(zNqY1 fx fy fz tx ty tz)],6,0,false,false⟩,⟨[(zNqY4 z r pl)],3,0,false,false⟩],_,[],_⟩ (by kernel_rfl) (bc (Zah (fun h=>d2 ((ZaS Zab).1 h))) (bc rfl (bc rfl (bc rfl (bc rfl (bc rfl (bc rfl (bc rfl (bc rfl (bc rfl (bc rfl (bc rfl (bc rfl (bc rfl (bc rfl (bc rfl (bc rfl (bc rfl (bc rfl (bc rfl (bc rfl (bc rfl (bc rfl (bc rfl b0)))))))))))))))))))))))) q0 (ce (@ev25 f cs u0 v0 u1 v1 th gp sf fx fy fz tx ty tz z r pl) (ce (@ev26 f cs u0 v0 u1 v1 th gp sf fx fy fz tx ty tz z r pl k3) c0)) ?_
  rcases xq H with ⟨d5,H⟩|⟨d5,H⟩
  ·have w6:(List.map Mv.a (O.dtP cs u0 v0 u1 v1 th gp sf fx fy fz tx ty tz z r pl)).length=(O.dtP cs u0 v0 u1 v1 th gp sf fx fy fz tx ty tz z r pl).length:=List.length_map ..
   exact Zai (G:=Zad kp7 [] []) 1000 [true] (vb (bif O.dtE cs u0 v0 u1 v1 th gp sf fx fy fz tx ty tz z r pl==O.bfE cs u0 v0 u1 v1 th gp sf fx fy fz tx ty tz z r pl then (↑(List.map Mv.a (O.dtP cs u0 v0 u1 v1 th gp sf fx fy fz tx ty tz z r pl)).length:Int)==0 else false)) (by kernel_rfl) (bc (Zak (i_ne.2 d5)) b0) q0 c0 (by (try rw [w6]);all_goals exact H)
  ·obtain ⟨k7,k8,H⟩:=H
   refine Zae (G:=Zad kp7 [(8,3,.call (AV.vec false 5 (List.map Bx.a (O.blk cs z r))) none),(8,10,.call (ag [vi fx,vi fy]) none),(8,17,.call (ag [vi tx,vi ty]) none),(8,18,.call (tu [AV.vec false 2 (List.map Gp.a (O.arP false (O.blk cs z r) { x:=fx,y:=fy } { x:=tx,y:=ty })),vi (O.arE (O.blk cs z r) { x:=fx,y:=fy } { x:=tx,y:=ty })]) none)] []) 7 [false] ⟨(atC (cd Try.f7) [1,1,1,1,1,1,0,1]),[(4,AV.ptr 1 0 0 0),(7,vi z),(9,vi pl),(10,AV.vec false 7 (List.map Mv.a (O.dtP cs u0 v0 u1 v1 th gp sf fx fy fz tx ty tz z r pl))),(11,vi (O.dtE cs u0 v0 u1 v1 th gp sf fx fy fz tx ty tz z r pl)),(13,AV.vec false 2 (List.map Gp.a (O.arP false (O.blk cs z r) { x:=fx,y:=fy } { x:=tx,y:=ty }))),(14,vi (O.arE (O.blk cs z r) { x:=fx,y:=fy } { x:=tx,y:=ty })),(83,vb (O.arE (O.blk cs z r) { x:=fx,y:=fy } { x:=tx,y:=ty } != 0))],[⟨[ag [vi u0,vi v0,vi u1,vi v1,vi th,vi gp,AV.vec f 5 (List.map Bx.a cs),vi sf]],8,0,false,false⟩,⟨[(zNqY1 fx fy fz tx ty tz)],6,0,false,false⟩,⟨[(zNqY4 z r pl)],3,0,false,false⟩],_,[],_⟩ (by kernel_rfl) (bc (Zah (fun h=>d5 (i_ne.1 h))) (bc rfl (bc rfl (bc rfl (bc rfl (bc rfl (bc rfl (bc rfl (bc rfl (bc rfl (bc rfl (bc rfl (bc rfl (bc rfl b0)))))))))))))) q0 (ce (@ev27 f cs u0 v0 u1 v1 th gp sf z r k7) (ce (@ev23 fx fy) (ce (@ev23 tx ty) (ce (@ev11 false (O.blk cs z r) fx fy tx ty k8) c0)))) ?_
   rcases xq H with ⟨d10,H⟩|⟨d10,H⟩
   ·have w11:(List.map Mv.a (O.dtP cs u0 v0 u1 v1 th gp sf fx fy fz tx ty tz z r pl)).length=(O.dtP cs u0 v0 u1 v1 th gp sf fx fy fz tx ty tz z r pl).length:=List.length_map ..
    exact Zai (G:=Zad kp7 [] []) 1000 [true] (vb (bif O.dtE cs u0 v0 u1 v1 th gp sf fx fy fz tx ty tz z r pl==O.arE (O.blk cs z r) { x:=fx,y:=fy } { x:=tx,y:=ty } then (↑(List.map Mv.a (O.dtP cs u0 v0 u1 v1 th gp sf fx fy fz tx ty tz z r pl)).length:Int)==0 else false)) (by kernel_rfl) (bc (Zak (i_ne.2 d10)) b0) q0 c0 (by (try rw [w11]);all_goals exact H)
   ·obtain ⟨k13,k15,k17,H⟩:=H
    exact Zai (G:=Zad kp7 [(11,11,.call (AV.vec false 7 (List.map Mv.a (O.dtL fx fy fz tz z pl (O.arP false (O.blk cs z r) { x:=fx,y:=fy } { x:=tx,y:=ty })))) none),(11,12,.call (vb true) none),(11,21,.call (vb true) none)] []) 1000 [false] (asm:=[(O.arE (O.blk cs z r) { x:=fx,y:=fy } { x:=tx,y:=ty } != 0)==false,!((O.dtE cs u0 v0 u1 v1 th gp sf fx fy fz tx ty tz z r pl==0)==true&&true)||true,!((O.dtE cs u0 v0 u1 v1 th gp sf fx fy fz tx ty tz z r pl==0)==true&&true)||true,!((O.dtE cs u0 v0 u1 v1 th gp sf fx fy fz tx ty tz z r pl==0)==true&&true)||true,!((O.dtE cs u0 v0 u1 v1 th gp sf fx fy fz tx ty tz z r pl==0)==true&&true)||true,!((O.dtE cs u0 v0 u1 v1 th gp sf fx fy fz tx ty tz z r pl==0)==true&&true)||true,!((O.dtE cs u0 v0 u1 v1 th gp sf fx fy fz tx ty tz z r pl==0)==true&&true)||true,!((bif O.dtE cs u0 v0 u1 v1 th gp sf fx fy fz tx ty tz z r pl==0 then true else false)==true&&true)||true,!((bif O.dtE cs u0 v0 u1 v1 th gp sf fx fy fz tx ty tz z r pl==0 then true else false)==true&&true)||true,!((bif O.dtE cs u0 v0 u1 v1 th gp sf fx fy fz tx ty tz z r pl==0 then true else false)==true&&true)||true,!((bif O.dtE cs u0 v0 u1 v1 th gp sf fx fy fz tx ty tz z r pl==0 then true else false)==true&&true)||true,!((bif O.dtE cs u0 v0 u1 v1 th gp sf fx fy fz tx ty tz z r pl==0 then true else false)==true&&true)||true,!((bif O.dtE cs u0 v0 u1 v1 th gp sf fx fy fz tx ty tz z r pl==0 then true else false)==true&&true)||true]) (calls:=[⟨(O.dtE cs u0 v0 u1 v1 th gp sf fx fy fz tx ty tz z r pl==0)==true&&true&&true,false,29,[(zNqY2 fx fy fz),(zNqY3 tx ty tz),vi z,vi pl,AV.vec false 2 (List.map Gp.a (O.arP false (O.blk cs z r) { x:=fx,y:=fy } { x:=tx,y:=ty }))],[],AV.vec false 7 (List.map Mv.a (O.dtL fx fy fz tz z pl (O.arP false (O.blk cs z r) { x:=fx,y:=fy } { x:=tx,y:=ty }))),[]⟩,⟨(O.dtE cs u0 v0 u1 v1 th gp sf fx fy fz tx ty tz z r pl==0)==true&&true&&true,false,28,[AV.vec false 7 (List.map Mv.a (O.dtP cs u0 v0 u1 v1 th gp sf fx fy fz tx ty tz z r pl)),AV.vec false 7 (List.map Mv.a (O.dtL fx fy fz tz z pl (O.arP false (O.blk cs z r) { x:=fx,y:=fy } { x:=tx,y:=ty })))],[],vb true,[]⟩,⟨(bif O.dtE cs u0 v0 u1 v1 th gp sf fx fy fz tx ty tz z r pl==0 then true else false)==true&&true&&true,false,21,[(zNqY2 fx fy fz),(zNqY3 tx ty tz),AV.vec false 7 (List.map Mv.a (O.dtP cs u0 v0 u1 v1 th gp sf fx fy fz tx ty tz z r pl)),vi z],[],vb true,[]⟩]) (vb (bif bif O.dtE cs u0 v0 u1 v1 th gp sf fx fy fz tx ty tz z r pl==0 then true else false then true else false)) (by kernel_rfl) (bc (Zah (fun h=>d10 (i_ne.1 h))) (bc (Bool.or_true _) (bc (Bool.or_true _) (bc (Bool.or_true _) (bc (Bool.or_true _) (bc (Bool.or_true _) (bc (Bool.or_true _) (bc (Bool.or_true _) (bc (Bool.or_true _) (bc (Bool.or_true _) (bc (Bool.or_true _) (bc (Bool.or_true _) (bc (Bool.or_true _) b0))))))))))))) q0 (cc (fun hc=>((@ev29 fx fy fz tx ty tz z pl false (O.arP false (O.blk cs z r) { x:=fx,y:=fy } { x:=tx,y:=ty }) (k13 ((i_at (i_at (i_bt i_eq))).1 hc))):Ev M1 (Conf.pure 29 [(zNqY2 fx fy fz),(zNqY3 tx ty tz),vi z,vi pl,AV.vec false 2 (List.map Gp.a (O.arP false (O.blk cs z r) { x:=fx,y:=fy } { x:=tx,y:=ty }))]) (AV.vec false 7 (List.map Mv.a (O.dtL fx fy fz tz z pl (O.arP false (O.blk cs z r) { x:=fx,y:=fy } { x:=tx,y:=ty })))) [])) (cc (fun hc=>((@ev28 false false (O.dtP cs u0 v0 u1 v1 th gp sf fx fy fz tx ty tz z r pl) (O.dtL fx fy fz tz z pl (O.arP false (O.blk cs z r) { x:=fx,y:=fy } { x:=tx,y:=ty })) (k15 ((i_at (i_at (i_bt i_eq))).1 hc))):Ev M1 (Conf.pure 28 [AV.vec false 7 (List.map Mv.a (O.dtP cs u0 v0 u1 v1 th gp sf fx fy fz tx ty tz z r pl)),AV.vec false 7 (List.map Mv.a (O.dtL fx fy fz tz z pl (O.arP false (O.blk cs z r) { x:=fx,y:=fy } { x:=tx,y:=ty })))]) (vb true) [])) (cc (fun hc=>((@ev21 fx fy fz tx ty tz false (O.dtP cs u0 v0 u1 v1 th gp sf fx fy fz tx ty tz z r pl) z (k17 ((i_at (i_at (i_bt (ZaC i_eq (ZaI _))))).1 hc))):Ev M1 (Conf.pure 21 [(zNqY2 fx fy fz),(zNqY3 tx ty tz),AV.vec false 7 (List.map Mv.a (O.dtP cs u0 v0 u1 v1 th gp sf fx fy fz tx ty tz z r pl)),vi z]) (vb true) [])) c0))) H
end Go.Av

namespace Go.Av
open Go.Proofs
section
variable {cs:List Bx} {u0 v0 u1 v1 th gp sf fx fy fz tx ty tz z r pl:Int}
open Classical in
theorem dt_bf:(¬O.bfE cs u0 v0 u1 v1 th gp sf fx fy fz tx ty tz z r pl=0->O.dtE cs u0 v0 u1 v1 th gp sf fx fy fz tx ty tz z r pl=O.bfE cs u0 v0 u1 v1 th gp sf fx fy fz tx ty tz z r pl) /\
  (O.bfE cs u0 v0 u1 v1 th gp sf fx fy fz tx ty tz z r pl=0->O.dtE cs u0 v0 u1 v1 th gp sf fx fy fz tx ty tz z r pl=O.arE (O.blk cs z r) ⟨fx,fy⟩ ⟨tx,ty⟩/\O.vaP cs u0 v0 u1 v1 th gp sf/\¬O.dtC fz tz z r pl/\¬O.fr8 fx fy fz tx ty tz r z):=by
 unfold O.bfE O.dtE
 by_cases h1:¬O.vaP cs u0 v0 u1 v1 th gp sf
 ·rw [if_pos h1,if_pos h1];exact ⟨fun _=>rfl,fun h=>absurd h (by decide)⟩
 rw [if_neg h1,if_neg h1]
 by_cases h2:O.dtC fz tz z r pl
 ·rw [if_pos h2,if_pos h2];exact ⟨fun _=>rfl,fun h=>absurd h (by decide)⟩
 rw [if_neg h2,if_neg h2]
 by_cases h3:(O.blk cs z 0).length>8
 ·rw [if_pos h3,if_pos h3];exact ⟨fun _=>rfl,fun h=>absurd h (by decide)⟩
 rw [if_neg h3,if_neg h3]
 by_cases h4:O.fr8 fx fy fz tx ty tz r z
 ·rw [if_pos h4,if_pos h4];exact ⟨fun _=>rfl,fun h=>absurd h (by decide)⟩
 rw [if_neg h4,if_neg h4]
 refine ⟨fun h => ?_,fun _=>⟨rfl,Classical.not_not.1 h1,h2,h4⟩⟩
 rw [ar_er,if_neg h]
theorem dtP_no (h:¬O.dtE cs u0 v0 u1 v1 th gp sf fx fy fz tx ty tz z r pl=0):O.dtP cs u0 v0 u1 v1 th gp sf fx fy fz tx ty tz z r pl=[]:=by unfold O.dtP;rw [if_neg h]
end
theorem ld_ev (f:Bool) (cs:List Bx) (u0 v0 u1 v1 th gp sf fx fy fz tx ty tz z r pl:Int) :
  Ev M1 (.pure 7 [.agg [.int .i64 u0,.int .i64 v0,.int .i64 u1,.int .i64 v1,.int .i64 th,.int .i64 gp,.vec f 5 (cs.map Bx.a),.int .i64 sf],.agg [.int .i64 fx,.int .i64 fy,.int .i64 fz,.int .i64 tx,.int .i64 ty,.int .i64 tz],.agg [.int .i64 z,.int .i64 r,.int .i64 pl]]) (.bool true) []:=by
 refine call7 (qLd _ _ _ _ _ _ _ _ _ _ _ _ _ _ _ _ _ _ _ ⟨fun _=>rfl,fun k1=>⟨by omega,fun k2=>congrArg AV.bool ?_,fun k2 => ?_⟩⟩)
 ·have e:=dt_bf.1 k2
  rw [e,dtP_no (by rw [e];exact k2),beq_self_eq_true];rfl
 ·obtain ⟨e,v,c,n8⟩:=dt_bf.2 (Classical.not_not.1 k2)
  have d:=dtC_r c
  have bl:=blk_len cs z r
  refine ⟨va_okB v (fr8_r n8),by omega,fun k3=>congrArg AV.bool ?_,fun k3 => ?_⟩
  ·rw [e,dtP_no (by rw [e];exact k3),beq_self_eq_true];rfl
  ·have k3:=Classical.not_not.1 k3
   have A:=ar_ok (f:=false) k3
   have l40:=A.len
   have hl:O.lst (O.arP false (O.blk cs z r) ⟨fx,fy⟩ ⟨tx,ty⟩) fx fy=⟨tx,ty⟩:=by rw [lst_last _ _ _ A.ne,A.last]
   have eP:O.dtP cs u0 v0 u1 v1 th gp sf fx fy fz tx ty tz z r pl=O.dtL fx fy fz tz z pl (O.arP false (O.blk cs z r) ⟨fx,fy⟩ ⟨tx,ty⟩):=by unfold O.dtP;rw [e,if_pos k3]
   have len:(O.dtL fx fy fz tz z pl (O.arP false (O.blk cs z r) ⟨fx,fy⟩ ⟨tx,ty⟩)).length<=100000:=Nat.le_trans dtL_len (by omega)
   rw [e,k3,eP]
   exact ⟨fun _=>⟨by omega,by rw [hl],by rw [hl],d.2.2.2.2,by omega⟩,fun _=>⟨rfl,len⟩,fun _=>⟨len,dtL_safe d.2.2.1 d.2.2.2.2 d.2.1 hl⟩,rfl⟩
end Go.Av
