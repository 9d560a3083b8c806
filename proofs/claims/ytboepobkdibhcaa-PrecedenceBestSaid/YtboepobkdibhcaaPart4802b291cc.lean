/- PART 5 of the texts of a claim, joined by a program: what each part shows stands at its head. -/
import Derived.Test.YtboepobkdibhcaaPart23145714cd

namespace Go.Av
open Go.Proofs
set_option maxRecDepth 100000
def fi42:Fi:=⟨24,[.tmp 6]⟩
def kp42:List (Nat × List Nat):=[(0,[0,1,2]),(1,[6])]
def fi43:Fi:=⟨39,[.tmp 8]⟩
def kp43:List (Nat × List Nat):=[(0,[0,1,2,3]),(1,[0,2,3,9]),(2,[9,35]),(3,[9]),(4,[8])]
def fi52:Fi:=⟨67,[.tmp 6]⟩
def kp52:List (Nat × List Nat):=[(0,[0,1,2]),(1,[0,1,2,15]),(2,[6]),(3,[0,1,2,7]),(4,[0,1,2,7,27]),(5,[6]),(6,[0,1,2,8]),(7,[0,1,2,8,39,40]),(8,[0,1,2,8,39,40,41]),(9,[0,1,2,8,9,39,40]),(10,[0,1,2,8,9,39,40,46]),(11,[0,1,2,8,39,40]),(12,[0,1,2,8,39,40]),(13,[8]),(14,[6])]
def sOp_at (f:Bool) (tl nd:List Int) (w:Int) (C:List AV) (R:Heap) (s k:Int) (Q:AV->Heap->Prop):Prop:=Wp M1 (.run fi42 (atC (cd Try.f42) []) [(0,.ptr 0 0 0 0),(1,.int .i64 s),(2,.int .i64 k)] (⟨[.agg [.row 1 0,.vec f 1 (tl.map (.int .i64)),.int .i64 w,.row 2 0]],4,0,false,false⟩::⟨nd.map (.int .i64),1,0,false,true⟩::⟨C,1,0,false,false⟩::R)) Q
def sS0_at (f:Bool) (tl nd:List Int) (w:Int) (C:List AV) (R:Heap) (s t k:Int) (Q:AV->Heap->Prop):Prop:=Wp M1 (.run fi43 (atC (cd Try.f43) []) [(0,.ptr 0 0 0 0),(1,.int .i64 s),(2,.int .i64 t),(3,.int .i64 k)] (⟨[.agg [.row 1 0,.vec f 1 (tl.map (.int .i64)),.int .i64 w,.row 2 0]],4,0,false,false⟩::⟨nd.map (.int .i64),1,0,false,true⟩::⟨C,1,0,false,false⟩::R)) Q
def sS1_at (f:Bool) (tl nd:List Int) (w:Int) (C:List AV) (R:Heap) (t k o:Int) (Q:AV->Heap->Prop):Prop:=Wp M1 (.run fi43 (atC (cd Try.f43) [1,1]) [(0,.ptr 0 0 0 0),(2,.int .i64 t),(3,.int .i64 k),(9,.int .i64 o)] (⟨[.agg [.row 1 0,.vec f 1 (tl.map (.int .i64)),.int .i64 w,.row 2 0]],4,0,false,false⟩::⟨nd.map (.int .i64),1,0,false,true⟩::⟨C,1,0,false,false⟩::R)) Q
def sR0_at (f:Bool) (tl nd:List Int) (w:Int) (C:List AV) (R:Heap) (s t:Int) (Q:AV->Heap->Prop):Prop:=Wp M1 (.run fi52 (atC (cd Try.f52) []) [(0,.ptr 0 0 0 0),(1,.int .i64 s),(2,.int .i64 t)] (⟨[.agg [.row 1 0,.vec f 1 (tl.map (.int .i64)),.int .i64 w,.row 2 0]],4,0,false,false⟩::⟨nd.map (.int .i64),1,0,false,true⟩::⟨C,1,0,false,false⟩::R)) Q
def sR3_at (f:Bool) (tl nd:List Int) (w:Int) (C:List AV) (R:Heap) (s t:Int) (r:List Int) (Q:AV->Heap->Prop):Prop:=Wp M1 (.run fi52 (atC (cd Try.f52) [1,1,0,0]) [(0,.ptr 0 0 0 0),(1,.int .i64 s),(2,.int .i64 t)] (⟨[.agg [.row 1 0,.vec f 1 (tl.map (.int .i64)),.int .i64 w,.row 2 0]],4,0,false,false⟩::⟨nd.map (.int .i64),1,0,false,true⟩::⟨C,1,0,false,false⟩::⟨r.map (.int .i64),1,0,false,true⟩::R)) Q
def Zgs (f:Bool) (tl nd:List Int) (w:Int) (C:List AV) (R:Heap) (s t b m i:Int) (Q:AV->Heap->Prop):Prop:=Wp M1 (.run fi52 (atC (cd Try.f52) [1,1,1,1,0,1,0,0]) [(0,.ptr 0 0 0 0),(1,.int .i64 s),(2,.int .i64 t),(8,.int .i64 b),(39,.int .i64 m),(40,.int .i64 i)] (⟨[.agg [.row 1 0,.vec f 1 (tl.map (.int .i64)),.int .i64 w,.row 2 0]],4,0,false,false⟩::⟨nd.map (.int .i64),1,0,false,true⟩::⟨C,1,0,false,false⟩::R)) Q
def sRC_at (f:Bool) (tl nd:List Int) (w:Int) (C:List AV) (R:Heap) (s t b m i k:Int) (o:Bool) (Q:AV->Heap->Prop):Prop:=Wp M1 (.run fi52 (atC (cd Try.f52) [1,1,1,1,0,1,0,0,1,1,0,0,1,1]) [(0,.ptr 0 0 0 0),(1,.int .i64 s),(2,.int .i64 t),(8,.int .i64 b),(9,.int .i64 k),(39,.int .i64 m),(40,.int .i64 i),(46,.bool o)] (⟨[.agg [.row 1 0,.vec f 1 (tl.map (.int .i64)),.int .i64 w,.row 2 0]],4,0,false,false⟩::⟨nd.map (.int .i64),1,0,false,true⟩::⟨C,1,0,false,false⟩::R)) Q
def sRN_at (f:Bool) (tl nd:List Int) (w:Int) (C:List AV) (R:Heap) (s t b m i:Int) (Q:AV->Heap->Prop):Prop:=Wp M1 (.run fi52 (atC (cd Try.f52) [1,1,1,1,0,1,0,0,1,1,1]) [(0,.ptr 0 0 0 0),(1,.int .i64 s),(2,.int .i64 t),(8,.int .i64 b),(39,.int .i64 m),(40,.int .i64 i)] (⟨[.agg [.row 1 0,.vec f 1 (tl.map (.int .i64)),.int .i64 w,.row 2 0]],4,0,false,false⟩::⟨nd.map (.int .i64),1,0,false,true⟩::⟨C,1,0,false,false⟩::R)) Q
def sRE_at (f:Bool) (tl nd:List Int) (w:Int) (C:List AV) (R:Heap) (s t b:Int) (r:List Int) (Q:AV->Heap->Prop):Prop:=Wp M1 (.run fi52 (atC (cd Try.f52) [1,1,1,1,1,0]) [(0,.ptr 0 0 0 0),(1,.int .i64 s),(2,.int .i64 t),(8,.int .i64 b)] (⟨[.agg [.row 1 0,.vec f 1 (tl.map (.int .i64)),.int .i64 w,.row 2 0]],4,0,false,false⟩::⟨nd.map (.int .i64),1,0,false,true⟩::⟨C,1,0,false,false⟩::⟨r.map (.int .i64),1,0,false,true⟩::R)) Q
theorem owncall42 {args:List AV} {L:Heap} {Q:AV -> Heap -> Prop} (h:Wp M1 (.run fi42 [.code (cd Try.f42)] (Zbi 0 args) L) Q):Wp M1 (.own 42 args L) Q:=
 Zgz Try.f42 fi42 (by kernel_rfl) (by kernel_rfl) (by kernel_rfl) (by kernel_rfl) h
theorem owncall43 {args:List AV} {L:Heap} {Q:AV -> Heap -> Prop} (h:Wp M1 (.run fi43 [.code (cd Try.f43)] (Zbi 0 args) L) Q):Wp M1 (.own 43 args L) Q:=
 Zgz Try.f43 fi43 (by kernel_rfl) (by kernel_rfl) (by kernel_rfl) (by kernel_rfl) h
theorem owncall52 {args:List AV} {L:Heap} {Q:AV -> Heap -> Prop} (h:Wp M1 (.run fi52 [.code (cd Try.f52)] (Zbi 0 args) L) Q):Wp M1 (.own 52 args L) Q:=
 Zgz Try.f52 fi52 (by kernel_rfl) (by kernel_rfl) (by kernel_rfl) (by kernel_rfl) h
theorem sOp (f:Bool) (tl nd:List Int) (w:Int) (C:List AV) (R:Heap) (s k:Int)  (Q:AV -> Heap -> Prop) (H :
  (0 <= k) /\
  (-9223372036854775808 <= (↑(BitVec.ofInt IntKind.i64.bits (s.fdiv (2 ^ min k.toNat IntKind.i64.bits)) &&& BitVec.ofInt IntKind.i64.bits 1).toNat:Int) /\ (↑(BitVec.ofInt IntKind.i64.bits (s.fdiv (2 ^ min k.toNat IntKind.i64.bits)) &&& BitVec.ofInt IntKind.i64.bits 1).toNat:Int) <= 9223372036854775807) /\
  (((↑(BitVec.ofInt IntKind.i64.bits (s.fdiv (2 ^ min k.toNat IntKind.i64.bits)) &&& BitVec.ofInt IntKind.i64.bits 1).toNat:Int) = 0) -> (k.toNat < nd.length)) /\
  Q (vb (bif (↑(BitVec.ofInt IntKind.i64.bits (s.fdiv (2 ^ min k.toNat IntKind.i64.bits)) &&& BitVec.ofInt IntKind.i64.bits 1).toNat:Int) == 0 then IntKind.i64.wrap (↑(BitVec.ofInt IntKind.i64.bits (nd.getD k.toNat default) &&& ~~~BitVec.ofInt IntKind.i64.bits s).toNat:Int) == 0 else false)) ({ elems:=[ag [AV.row 1 0,AV.vec f 1 (List.map (vi) tl),vi w,AV.row 2 0]],es:=4,ver:=0,frozen:=false,clean:=false } :: { elems:=List.map (vi) nd,es:=1,ver:=0,frozen:=false,clean:=true } :: { elems:=C,es:=1,ver:=0,frozen:=false,clean:=false } :: R)) :
 sOp_at f tl nd w C R s k Q:=by
 unfold sOp_at
 obtain ⟨k2,k3,H⟩:=H
 have w4:wi (↑(BitVec.ofInt IntKind.i64.bits (s.fdiv (2 ^ min k.toNat IntKind.i64.bits)) &&& BitVec.ofInt IntKind.i64.bits 1).toNat:Int) = (↑(BitVec.ofInt IntKind.i64.bits (s.fdiv (2 ^ min k.toNat IntKind.i64.bits)) &&& BitVec.ofInt IntKind.i64.bits 1).toNat:Int):=wI64 k3
 have i5:(!((wi (↑(BitVec.ofInt IntKind.i64.bits (s.fdiv (2 ^ min k.toNat IntKind.i64.bits)) &&& BitVec.ofInt IntKind.i64.bits 1).toNat:Int) == 0) == true && true) || decide (0 <= k)) = true ↔ (((↑(BitVec.ofInt IntKind.i64.bits (s.fdiv (2 ^ min k.toNat IntKind.i64.bits)) &&& BitVec.ofInt IntKind.i64.bits 1).toNat:Int) = 0) -> (0 <= k)):=(by (try rw [w4]);all_goals exact (ZaS (i_at (i_bt i_eq)) Zaa))
 have w6:(List.map (vi) nd).length = nd.length:=List.length_map ..
 have i7:(!((wi (↑(BitVec.ofInt IntKind.i64.bits (s.fdiv (2 ^ min k.toNat IntKind.i64.bits)) &&& BitVec.ofInt IntKind.i64.bits 1).toNat:Int) == 0) == true && true) || decide (k.toNat < (List.map (vi) nd).length)) = true ↔ (((↑(BitVec.ofInt IntKind.i64.bits (s.fdiv (2 ^ min k.toNat IntKind.i64.bits)) &&& BitVec.ofInt IntKind.i64.bits 1).toNat:Int) = 0) -> (k.toNat < nd.length)):=(by (try rw [w4]);(try rw [w6]);all_goals exact (ZaS (i_at (i_bt i_eq)) Zaa))
 obtain ⟨k8,H⟩:=H
 exact ZaC (G:=Zad kp42 [(1,12,.elem (vi (nd.getD k.toNat default)))] []) 1000 [] (k:=((atC (cd Try.f42) [1,1])).tail) (env':=[(6,vb (bif wi (↑(BitVec.ofInt IntKind.i64.bits (s.fdiv (2 ^ min k.toNat IntKind.i64.bits)) &&& BitVec.ofInt IntKind.i64.bits 1).toNat:Int) == 0 then wi (↑(BitVec.ofInt IntKind.i64.bits (nd.getD k.toNat default) &&& ~~~BitVec.ofInt IntKind.i64.bits s).toNat:Int) == 0 else false))]) (L':=⟨[ag [AV.row 1 0,AV.vec f 1 (List.map (vi) tl),vi w,AV.row 2 0]],4,0,false,false⟩ :: ⟨List.map (vi) nd,1,0,false,true⟩ :: ⟨C,1,0,false,false⟩ :: R) (asm:=[decide (0 <= k),!((wi (↑(BitVec.ofInt IntKind.i64.bits (s.fdiv (2 ^ min k.toNat IntKind.i64.bits)) &&& BitVec.ofInt IntKind.i64.bits 1).toNat:Int) == 0) == true && true) || true,!((wi (↑(BitVec.ofInt IntKind.i64.bits (s.fdiv (2 ^ min k.toNat IntKind.i64.bits)) &&& BitVec.ofInt IntKind.i64.bits 1).toNat:Int) == 0) == true && true) || true,!((wi (↑(BitVec.ofInt IntKind.i64.bits (s.fdiv (2 ^ min k.toNat IntKind.i64.bits)) &&& BitVec.ofInt IntKind.i64.bits 1).toNat:Int) == 0) == true && true) || decide (0 <= k),!((wi (↑(BitVec.ofInt IntKind.i64.bits (s.fdiv (2 ^ min k.toNat IntKind.i64.bits)) &&& BitVec.ofInt IntKind.i64.bits 1).toNat:Int) == 0) == true && true) || decide (k.toNat < (List.map (vi) nd).length),!((wi (↑(BitVec.ofInt IntKind.i64.bits (s.fdiv (2 ^ min k.toNat IntKind.i64.bits)) &&& BitVec.ofInt IntKind.i64.bits 1).toNat:Int) == 0) == true && true) || true]) (eqs:=[(((wi (↑(BitVec.ofInt IntKind.i64.bits (s.fdiv (2 ^ min k.toNat IntKind.i64.bits)) &&& BitVec.ofInt IntKind.i64.bits 1).toNat:Int) == 0) == true && true) = true -> (List.map (vi) nd).get?Internal k.toNat = some (vi (nd.getD k.toNat default)))]) (calls:=[]) (vb (bif wi (↑(BitVec.ofInt IntKind.i64.bits (s.fdiv (2 ^ min k.toNat IntKind.i64.bits)) &&& BitVec.ofInt IntKind.i64.bits 1).toNat:Int) == 0 then wi (↑(BitVec.ofInt IntKind.i64.bits (nd.getD k.toNat default) &&& ~~~BitVec.ofInt IntKind.i64.bits s).toNat:Int) == 0 else false)) (by kernel_rfl) (by kernel_rfl) (Zaf (Zaa.2 k2) (Zaf (Bool.or_true _) (Zaf (Bool.or_true _) (Zaf (i5.2 (fun _ => k2)) (Zaf (i7.2 k8) (Zaf (Bool.or_true _) Zah)))))) (Zei (by (try rw [w4]);all_goals exact (fun h => Zat (k8 ((i_at (i_bt i_eq)).1 h)))) Zam) ZaE (by (try rw [w4]);all_goals exact H)
theorem sS0 (f:Bool) (tl nd:List Int) (w:Int) (C:List AV) (R:Heap) (s t k:Int)  (Q:AV -> Heap -> Prop) (H :
  Wp M1 (.run fi43 (atC (cd Try.f43) [1,0]) [(0,AV.ptr 0 0 0 0),(1,vi s),(2,vi t),(3,vi k)] ({ elems:=[ag [AV.row 1 0,AV.vec f 1 (List.map (vi) tl),vi w,AV.row 2 0]],es:=4,ver:=0,frozen:=false,clean:=false } :: { elems:=List.map (vi) nd,es:=1,ver:=0,frozen:=false,clean:=true } :: { elems:=C,es:=1,ver:=0,frozen:=false,clean:=false } :: R)) Q) :
 sS0_at f tl nd w C R s t k Q:=by
 unfold sS0_at
 exact Zab (G:=Zad kp43 [] []) 3 [] ⟨(atC (cd Try.f43) [1,0]),[(0,AV.ptr 0 0 0 0),(1,vi s),(2,vi t),(3,vi k)],⟨[ag [AV.row 1 0,AV.vec f 1 (List.map (vi) tl),vi w,AV.row 2 0]],4,0,false,false⟩ :: ⟨List.map (vi) nd,1,0,false,true⟩ :: ⟨C,1,0,false,false⟩ :: R,_,[],_⟩ (by kernel_rfl) b0 q0 c0 (H)
noncomputable abbrev zPyA1 (f:Bool) (tl:List Int) (w:Int):=ag [AV.row 1 0,AV.vec f 1 (List.map vi tl),vi w,AV.row 2 0]
noncomputable abbrev zPyA2 (t:Int) (tl:List Int) (k:Int):=bif decide (t>=0) then tl.getD t.toNat default != tl.getD k.toNat default else false
theorem sS1 (f:Bool) (tl nd:List Int) (w:Int) (C:List AV) (R:Heap) (t k o:Int)  (Q:AV -> Heap -> Prop) (H :
  ((t >= 0) -> (0 <= t)) /\
  ((t >= 0) -> (t.toNat < tl.length)) /\
  ((t >= 0) -> (0 <= k)) /\
  ((t >= 0) -> (k.toNat < tl.length)) /\
  (((t >= 0) /\ (¬tl.getD t.toNat default = tl.getD k.toNat default)) -> (-9223372036854775808 <= o + 1 /\ o + 1 <= 9223372036854775807) /\
   Q (vi (o + 1)) ({ elems:=[ag [AV.row 1 0,AV.vec f 1 (List.map (vi) tl),vi w,AV.row 2 0]],es:=4,ver:=0,frozen:=false,clean:=false } :: { elems:=List.map (vi) nd,es:=1,ver:=0,frozen:=false,clean:=true } :: { elems:=C,es:=1,ver:=0,frozen:=false,clean:=false } :: R)) /\
  (¬((t >= 0) /\ (¬tl.getD t.toNat default = tl.getD k.toNat default)) -> Q (vi o) ({ elems:=[ag [AV.row 1 0,AV.vec f 1 (List.map (vi) tl),vi w,AV.row 2 0]],es:=4,ver:=0,frozen:=false,clean:=false } :: { elems:=List.map (vi) nd,es:=1,ver:=0,frozen:=false,clean:=true } :: { elems:=C,es:=1,ver:=0,frozen:=false,clean:=false } :: R))) :
 sS1_at f tl nd w C R t k o Q:=by
 unfold sS1_at
 obtain ⟨k2,H⟩:=H
 have w3:(List.map (vi) tl).length = tl.length:=List.length_map ..
 have i4:(!(decide (t >= 0) == true && true) || decide (t.toNat < (List.map (vi) tl).length)) = true ↔ ((t >= 0) -> (t.toNat < tl.length)):=(by (try rw [w3]);all_goals exact (ZaS (i_at (i_bt Zaa)) Zaa))
 obtain ⟨k5,k7,H⟩:=H
 have i8:(!(decide (t >= 0) == true && true) || decide (k.toNat < (List.map (vi) tl).length)) = true ↔ ((t >= 0) -> (k.toNat < tl.length)):=(by (try rw [w3]);all_goals exact (ZaS (i_at (i_bt Zaa)) Zaa))
 obtain ⟨k9,H⟩:=H
 refine Zab (G:=Zad kp43 [(2,9,.elem (vi (tl.getD t.toNat default))),(2,16,.elem (vi (tl.getD k.toNat default)))] []) 3 [] ⟨(atC (cd Try.f43) [1,1,0,1]),[(9,vi o),(35,vb (zPyA2 t tl k))],⟨[(zPyA1 f tl w)],4,0,false,false⟩ :: ⟨List.map (vi) nd,1,0,false,true⟩ :: ⟨C,1,0,false,false⟩ :: R,[!(decide (t >= 0) == true && true) || true,!(decide (t >= 0) == true && true) || decide (0 <= t),!(decide (t >= 0) == true && true) || decide (t.toNat < (List.map (vi) tl).length),!(decide (t >= 0) == true && true) || true,!(decide (t >= 0) == true && true) || decide (0 <= k),!(decide (t >= 0) == true && true) || decide (k.toNat < (List.map (vi) tl).length)],[((decide (t >= 0) == true && true) = true -> (List.map (vi) tl).get?Internal t.toNat = some (vi (tl.getD t.toNat default))),((decide (t >= 0) == true && true) = true -> (List.map (vi) tl).get?Internal k.toNat = some (vi (tl.getD k.toNat default)))],_⟩ (by kernel_rfl) (bc (Bool.or_true _) (bc ((ZaS (i_at (i_bt Zaa)) Zaa).2 k2) (bc (i4.2 k5) (bc (Bool.or_true _) (bc ((ZaS (i_at (i_bt Zaa)) Zaa).2 k7) (bc (i8.2 k9) b0)))))) (qc (fun h => Zat (k5 ((i_at (i_bt Zaa)).1 h))) (qc (fun h => Zat (k9 ((i_at (i_bt Zaa)).1 h))) q0)) c0 ?_
 rcases xq H with ⟨d13,H⟩|⟨d13,H⟩
 ·obtain ⟨k14,H⟩:=H
  have w15:wi (o + 1) = o + 1:=wI64 k14
  exact ZaC (G:=Zad kp43 [] []) 1000 [true] (k:=((atC (cd Try.f43) [1,1,1,1])).tail) (env':=[(8,vi (wi (o + 1)))]) (L':=⟨[(zPyA1 f tl w)],4,0,false,false⟩ :: ⟨List.map (vi) nd,1,0,false,true⟩ :: ⟨C,1,0,false,false⟩ :: R) (asm:=[(zPyA2 t tl k) == true]) (eqs:=[]) (calls:=[]) (vi (wi (o + 1))) (by kernel_rfl) (by kernel_rfl) (Zaf (Zap ((Zbx Zaa i_ne).2 d13)) Zah) Zam ZaE (by (try rw [w15]);all_goals exact H)
 ·exact ZaC (G:=Zad kp43 [] []) 1000 [false] (k:=((atC (cd Try.f43) [1,1,1,1])).tail) (env':=[(8,vi o)]) (L':=⟨[(zPyA1 f tl w)],4,0,false,false⟩ :: ⟨List.map (vi) nd,1,0,false,true⟩ :: ⟨C,1,0,false,false⟩ :: R) (asm:=[(zPyA2 t tl k) == false]) (eqs:=[]) (calls:=[]) (vi o) (by kernel_rfl) (by kernel_rfl) (Zaf (Zal (fun h => d13 ((Zbx Zaa i_ne).1 h))) Zah) Zam ZaE H
theorem sR0 (f:Bool) (tl nd:List Int) (w:Int) (C:List AV) (R:Heap) (s t:Int)  (Q:AV -> Heap -> Prop) (H :
  ((s = w) -> Q (vi 0) ({ elems:=[ag [AV.row 1 0,AV.vec f 1 (List.map (vi) tl),vi w,AV.row 2 0]],es:=4,ver:=0,frozen:=false,clean:=false } :: { elems:=List.map (vi) nd,es:=1,ver:=0,frozen:=false,clean:=true } :: { elems:=C,es:=1,ver:=0,frozen:=false,clean:=false } :: R)) /\
  (¬(s = w) -> Wp M1 (.run fi52 (atC (cd Try.f52) [1,1,0,0]) [(0,AV.ptr 0 0 0 0),(1,vi s),(2,vi t)] ({ elems:=[ag [AV.row 1 0,AV.vec f 1 (List.map (vi) tl),vi w,AV.row 2 0]],es:=4,ver:=0,frozen:=false,clean:=false } :: { elems:=List.map (vi) nd,es:=1,ver:=0,frozen:=false,clean:=true } :: { elems:=C,es:=1,ver:=0,frozen:=false,clean:=false } :: R)) Q)) :
 sR0_at f tl nd w C R s t Q:=by
 unfold sR0_at
 rcases xq H with ⟨d2,H⟩|⟨d2,H⟩
 ·exact ZaC (G:=Zad kp52 [] []) 1000 [true] (k:=((atC (cd Try.f52) [1,0,1,0,1])).tail) (env':=[(6,vi 0)]) (L':=⟨[ag [AV.row 1 0,AV.vec f 1 (List.map (vi) tl),vi w,AV.row 2 0]],4,0,false,false⟩ :: ⟨List.map (vi) nd,1,0,false,true⟩ :: ⟨C,1,0,false,false⟩ :: R) (asm:=[true,(s == w) == true]) (eqs:=[]) (calls:=[]) (vi 0) (by kernel_rfl) (by kernel_rfl) (Zaf rfl (Zaf (Zap (i_eq.2 d2)) Zah)) Zam ZaE H
 ·exact Zab (G:=Zad kp52 [] []) 9 [false] ⟨(atC (cd Try.f52) [1,1,0,0]),[(0,AV.ptr 0 0 0 0),(1,vi s),(2,vi t),(15,vb (s == w))],⟨[ag [AV.row 1 0,AV.vec f 1 (List.map (vi) tl),vi w,AV.row 2 0]],4,0,false,false⟩ :: ⟨List.map (vi) nd,1,0,false,true⟩ :: ⟨C,1,0,false,false⟩ :: R,_,[],_⟩ (by kernel_rfl) (bc rfl (bc (Zal (fun h => d2 (i_eq.1 h))) b0)) q0 c0 (Wp.less [0,1,2] (H))
noncomputable abbrev zPyA3 (f:Bool) (tl:List Int) (w:Int):=ag [AV.row 1 0,AV.vec f 1 (List.map vi tl),vi w,AV.row 2 0]
theorem sR3 (f:Bool) (tl nd:List Int) (w:Int) (C:List AV) (R:Heap) (s t:Int) (r:List Int)  (Q:AV -> Heap -> Prop) (H :
  (0 <= t) /\
  (t.toNat < C.length) /\
  (0 <= s) /\
  (s.toNat < r.length) /\
  (C.get?Internal t.toNat = some (AV.row 3 0)) /\
  ((r.getD s.toNat default > 0) -> (-9223372036854775808 <= r.getD s.toNat default - 1 /\ r.getD s.toNat default - 1 <= 9223372036854775807) /\
   Q (vi (r.getD s.toNat default - 1)) ({ elems:=[ag [AV.row 1 0,AV.vec f 1 (List.map (vi) tl),vi w,AV.row 2 0]],es:=4,ver:=0,frozen:=false,clean:=false } :: { elems:=List.map (vi) nd,es:=1,ver:=0,frozen:=false,clean:=true } :: { elems:=C,es:=1,ver:=0,frozen:=false,clean:=false } :: { elems:=List.map (vi) r,es:=1,ver:=0,frozen:=false,clean:=true } :: R)) /\
  (¬(r.getD s.toNat default > 0) -> Zgs (f) (tl) (nd) (w) (C) ({ elems:=List.map (vi) r,es:=1,ver:=0,frozen:=false,clean:=true } :: R) (s) (t) ((↑tl.length:Int)) ((↑tl.length:Int)) (0) Q)) :
 sR3_at f tl nd w C R s t r Q:=by
 unfold sR3_at
 obtain ⟨k2,k4,k6,H⟩:=H
 have w7:(List.map (vi) r).length = r.length:=List.length_map ..
 have i8:(decide (s.toNat < (List.map (vi) r).length)) = true ↔ (s.toNat < r.length):=(by (try rw [w7]);all_goals exact Zaa)
 obtain ⟨k9,k10,H⟩:=H
 refine Zab (G:=Zad kp52 [(3,6,(.elem (.row 3 0):Ans)),(3,9,.elem (vi (r.getD s.toNat default)))] []) 3 [] ⟨(atC (cd Try.f52) [1,1,0,1,1]),[(0,AV.ptr 0 0 0 0),(1,vi s),(2,vi t),(7,vi (r.getD s.toNat default)),(27,vb (decide (r.getD s.toNat default > 0)))],⟨[(zPyA3 f tl w)],4,0,false,false⟩ :: ⟨List.map (vi) nd,1,0,false,true⟩ :: ⟨C,1,0,false,false⟩ :: ⟨List.map (vi) r,1,0,false,true⟩ :: R,_,[(C.get?Internal t.toNat = some (AV.row 3 0)),((List.map (vi) r).get?Internal s.toNat = some (vi (r.getD s.toNat default)))],_⟩ (by kernel_rfl) (bc rfl (bc rfl (bc (Zaa.2 k2) (bc (Zaa.2 k4) (bc rfl (bc rfl (bc (Zaa.2 k6) (bc (i8.2 k9) (bc rfl b0))))))))) (qc k10 (qc (Zat k9) q0)) c0 ?_
 rcases xq H with ⟨d12,H⟩|⟨d12,H⟩
 ·obtain ⟨k13,H⟩:=H
  have w14:wi (r.getD s.toNat default - 1) = r.getD s.toNat default - 1:=wI64 k13
  exact ZaC (G:=Zad kp52 [] []) 1000 [true] (k:=((atC (cd Try.f52) [1,1,0,1,1,0,1])).tail) (env':=[(6,vi (wi (r.getD s.toNat default - 1)))]) (L':=⟨[(zPyA3 f tl w)],4,0,false,false⟩ :: ⟨List.map (vi) nd,1,0,false,true⟩ :: ⟨C,1,0,false,false⟩ :: ⟨List.map (vi) r,1,0,false,true⟩ :: R) (asm:=[(decide (r.getD s.toNat default > 0)) == true]) (eqs:=[]) (calls:=[]) (vi (wi (r.getD s.toNat default - 1))) (by kernel_rfl) (by kernel_rfl) (Zaf (Zap (Zaa.2 d12)) Zah) Zam ZaE (by (try rw [w14]);all_goals exact H)
 ·have w15:(List.map (vi) tl).length = tl.length:=List.length_map ..
  exact Zab (G:=Zad kp52 [] []) 1000 [false] ⟨(atC (cd Try.f52) [1,1,1,1,0,1,0,0]),[(0,AV.ptr 0 0 0 0),(1,vi s),(2,vi t),(8,vi (↑(List.map (vi) tl).length:Int)),(39,vi (↑(List.map (vi) tl).length:Int)),(40,vi 0)],⟨[(zPyA3 f tl w)],4,0,false,false⟩ :: ⟨List.map (vi) nd,1,0,false,true⟩ :: ⟨C,1,0,false,false⟩ :: ⟨List.map (vi) r,1,0,false,true⟩ :: R,_,[],_⟩ (by kernel_rfl) (bc (Zal (fun h => d12 (Zaa.1 h))) (bc rfl (bc rfl b0))) q0 c0 (by (try rw [w15]);all_goals exact H)
theorem sRL (f:Bool) (tl nd:List Int) (w:Int) (C:List AV) (R:Heap) (s t b m i:Int)  (Q:AV -> Heap -> Prop) (H :
  ((i < m) -> Wp M1 (.run fi52 (atC (cd Try.f52) [1,1,1,1,0,1,0,0,1,1,0,0,1,0]) [(0,AV.ptr 0 0 0 0),(1,vi s),(2,vi t),(8,vi b),(9,vi i),(39,vi m),(40,vi i)] ({ elems:=[ag [AV.row 1 0,AV.vec f 1 (List.map (vi) tl),vi w,AV.row 2 0]],es:=4,ver:=0,frozen:=false,clean:=false } :: { elems:=List.map (vi) nd,es:=1,ver:=0,frozen:=false,clean:=true } :: { elems:=C,es:=1,ver:=0,frozen:=false,clean:=false } :: R)) Q) /\
  (¬(i < m) -> Wp M1 (.run fi52 (atC (cd Try.f52) [1,1,1,1,1,0]) [(0,AV.ptr 0 0 0 0),(1,vi s),(2,vi t),(8,vi b)] ({ elems:=[ag [AV.row 1 0,AV.vec f 1 (List.map (vi) tl),vi w,AV.row 2 0]],es:=4,ver:=0,frozen:=false,clean:=false } :: { elems:=List.map (vi) nd,es:=1,ver:=0,frozen:=false,clean:=true } :: { elems:=C,es:=1,ver:=0,frozen:=false,clean:=false } :: R)) Q)) :
 Zgs f tl nd w C R s t b m i Q:=by
 unfold Zgs
 rcases xq H with ⟨d2,H⟩|⟨d2,H⟩
 ·exact Zab (G:=Zad kp52 [] []) 10 [true] ⟨(atC (cd Try.f52) [1,1,1,1,0,1,0,0,1,1,0,0,1,0]),[(0,AV.ptr 0 0 0 0),(1,vi s),(2,vi t),(8,vi b),(9,vi i),(39,vi m),(40,vi i)],⟨[ag [AV.row 1 0,AV.vec f 1 (List.map (vi) tl),vi w,AV.row 2 0]],4,0,false,false⟩ :: ⟨List.map (vi) nd,1,0,false,true⟩ :: ⟨C,1,0,false,false⟩ :: R,_,[],_⟩ (by kernel_rfl) (bc (Zap (Zaa.2 d2)) b0) q0 c0 (H)
 ·exact Zab (G:=Zad kp52 [] []) 6 [false] ⟨(atC (cd Try.f52) [1,1,1,1,1,0]),[(0,AV.ptr 0 0 0 0),(1,vi s),(2,vi t),(8,vi b),(39,vi m),(40,vi i),(41,vb (decide (i < m)))],⟨[ag [AV.row 1 0,AV.vec f 1 (List.map (vi) tl),vi w,AV.row 2 0]],4,0,false,false⟩ :: ⟨List.map (vi) nd,1,0,false,true⟩ :: ⟨C,1,0,false,false⟩ :: R,_,[],_⟩ (by kernel_rfl) (bc (Zal (fun h => d2 (Zaa.1 h))) b0) q0 c0 (Wp.less [0,1,2,8] (H))
theorem sRC (f:Bool) (tl nd:List Int) (w:Int) (C:List AV) (R:Heap) (s t b m i k:Int) (o:Bool)  (Q:AV -> Heap -> Prop) (H :
  ((o = true) -> Wp M1 (.run fi52 (atC (cd Try.f52) [1,1,1,1,0,1,0,0,1,1,0,0,1,1,0]) [(0,AV.ptr 0 0 0 0),(1,vi s),(2,vi t),(8,vi b),(9,vi k),(39,vi m),(40,vi i),(46,vb o)] ({ elems:=[ag [AV.row 1 0,AV.vec f 1 (List.map (vi) tl),vi w,AV.row 2 0]],es:=4,ver:=0,frozen:=false,clean:=false } :: { elems:=List.map (vi) nd,es:=1,ver:=0,frozen:=false,clean:=true } :: { elems:=C,es:=1,ver:=0,frozen:=false,clean:=false } :: R)) Q) /\
  (¬(o = true) -> (-9223372036854775808 <= i + 1 /\ i + 1 <= 9223372036854775807) /\
   Zgs (f) (tl) (nd) (w) (C) (R) (s) (t) (b) (m) (i + 1) Q)) :
 sRC_at f tl nd w C R s t b m i k o Q:=by
 unfold sRC_at
 rcases xq H with ⟨d2,H⟩|⟨d2,H⟩
 ·exact Zab (G:=Zad kp52 [] []) 1 [true] ⟨(atC (cd Try.f52) [1,1,1,1,0,1,0,0,1,1,0,0,1,1,0]),[(0,AV.ptr 0 0 0 0),(1,vi s),(2,vi t),(8,vi b),(9,vi k),(39,vi m),(40,vi i),(46,vb o)],⟨[ag [AV.row 1 0,AV.vec f 1 (List.map (vi) tl),vi w,AV.row 2 0]],4,0,false,false⟩ :: ⟨List.map (vi) nd,1,0,false,true⟩ :: ⟨C,1,0,false,false⟩ :: R,[(o) == true],[],_⟩ (by kernel_rfl) (bc (Zap ((Zar _).2 d2)) b0) q0 c0 (H)
 ·obtain ⟨k3,H⟩:=H
  have w4:wi (i + 1) = i + 1:=wI64 k3
  exact Zab (G:=Zad kp52 [] []) 1000 [false] ⟨(atC (cd Try.f52) [1,1,1,1,0,1,0,0]),[(0,AV.ptr 0 0 0 0),(1,vi s),(2,vi t),(8,vi b),(39,vi m),(40,vi (wi (i + 1)))],⟨[ag [AV.row 1 0,AV.vec f 1 (List.map (vi) tl),vi w,AV.row 2 0]],4,0,false,false⟩ :: ⟨List.map (vi) nd,1,0,false,true⟩ :: ⟨C,1,0,false,false⟩ :: R,[(o) == false],[],_⟩ (by kernel_rfl) (bc (Zal (fun h => d2 ((Zar _).1 h))) b0) q0 c0 (by (try rw [w4]);all_goals exact H)
theorem sRN (f:Bool) (tl nd:List Int) (w:Int) (C:List AV) (R:Heap) (s t b m i:Int)  (Q:AV -> Heap -> Prop) (H :
  (-9223372036854775808 <= i + 1 /\ i + 1 <= 9223372036854775807) /\
  Zgs (f) (tl) (nd) (w) (C) (R) (s) (t) (b) (m) (i + 1) Q) :
 sRN_at f tl nd w C R s t b m i Q:=by
 unfold sRN_at
 obtain ⟨k1,H⟩:=H
 have w2:wi (i + 1) = i + 1:=wI64 k1
 exact Zab (G:=Zad kp52 [] []) 1000 [] ⟨(atC (cd Try.f52) [1,1,1,1,0,1,0,0]),[(0,AV.ptr 0 0 0 0),(1,vi s),(2,vi t),(8,vi b),(39,vi m),(40,vi (wi (i + 1)))],⟨[ag [AV.row 1 0,AV.vec f 1 (List.map (vi) tl),vi w,AV.row 2 0]],4,0,false,false⟩ :: ⟨List.map (vi) nd,1,0,false,true⟩ :: ⟨C,1,0,false,false⟩ :: R,_,[],_⟩ (by kernel_rfl) b0 q0 c0 (by (try rw [w2]);all_goals exact H)
theorem sRE (f:Bool) (tl nd:List Int) (w:Int) (C:List AV) (R:Heap) (s t b:Int) (r:List Int)  (Q:AV -> Heap -> Prop) (H :
  (0 <= t) /\
  (t.toNat < C.length) /\
  (0 <= s) /\
  (s.toNat < r.length) /\
  (C.get?Internal t.toNat = some (AV.row 3 0)) /\
  (-9223372036854775808 <= b + 1 /\ b + 1 <= 9223372036854775807) /\
  Q (vi b) ({ elems:=[ag [AV.row 1 0,AV.vec f 1 (List.map (vi) tl),vi w,AV.row 2 0]],es:=4,ver:=0,frozen:=false,clean:=false } :: { elems:=List.map (vi) nd,es:=1,ver:=0,frozen:=false,clean:=true } :: { elems:=C,es:=1,ver:=0,frozen:=false,clean:=false } :: { elems:=List.map (vi) (r.set s.toNat (b + 1)),es:=1,ver:=0,frozen:=false,clean:=true } :: R)) :
 sRE_at f tl nd w C R s t b r Q:=by
 unfold sRE_at
 obtain ⟨k2,k4,k6,H⟩:=H
 have w7:(List.map (vi) r).length = r.length:=List.length_map ..
 have i8:(decide (s.toNat < (List.map (vi) r).length)) = true ↔ (s.toNat < r.length):=(by (try rw [w7]);all_goals exact Zaa)
 obtain ⟨k9,k10,k11,H⟩:=H
 have w12:wi (b + 1) = b + 1:=wI64 k11
 have w13:(List.map (vi) r).set s.toNat (vi (b + 1)) = List.map (vi) (r.set s.toNat (b + 1)):=(Zdr rfl rfl)
 exact ZaC (G:=Zad kp52 [(13,6,(.elem (.row 3 0):Ans)),(13,11,.elem (vi (r.getD s.toNat default)))] []) 1000 [] (k:=((atC (cd Try.f52) [1,1,1,1,1,1,1])).tail) (env':=[(6,vi b)]) (L':=⟨[ag [AV.row 1 0,AV.vec f 1 (List.map (vi) tl),vi w,AV.row 2 0]],4,0,false,false⟩ :: ⟨List.map (vi) nd,1,0,false,true⟩ :: ⟨C,1,0,false,false⟩ :: ⟨(List.map (vi) r).set s.toNat (vi (wi (b + 1))),1,0,false,true⟩ :: R) (asm:=[true,true,decide (0 <= t),decide (t.toNat < C.length),true,true,decide (0 <= s),decide (s.toNat < (List.map (vi) r).length),true]) (eqs:=[(C.get?Internal t.toNat = some (AV.row 3 0)),((List.map (vi) r).get?Internal s.toNat = some (vi (r.getD s.toNat default)))]) (calls:=[]) (vi b) (by kernel_rfl) (by kernel_rfl) (Zaf rfl (Zaf rfl (Zaf (Zaa.2 k2) (Zaf (Zaa.2 k4) (Zaf rfl (Zaf rfl (Zaf (Zaa.2 k6) (Zaf (i8.2 k9) (Zaf rfl Zah))))))))) (Zei k10 (Zei (Zat k9) Zam)) ZaE (by (try rw [w12]);(try rw [w13]);all_goals exact H)
end Go.Av

namespace Go.Av
open Go.Proofs
def Zdu (L:Heap):List Nat:=match L[2]? with
 | some row => Zag row
 | none => []
def BW (W:Heap->Prop) (L L1:Heap):Prop:=L1.length=L.length/\(∀ r,r ∉ Zdu L->L1[r]? = L[r]?)/\W L1
abbrev MX3 (L:Heap) (C:List AV) (M:List (Option Row)) (ρ:Nat->Nat):Prop:=Mx 3 [2] L (fun _=>C) (fun _=>0) (fun _=>M) (fun _=>ρ)
theorem Zdw {L:Heap} {C:Nat -> List AV} {M:Nat -> List (Option Row)} {ρ:Nat -> Nat -> Nat} (h:Mx 3 [2] L C (fun _ => 0) M ρ):MX3 L (C 2) (M 2) (ρ 2):=
 h.congr fun u hu => by
  rw [List.mem_singleton] at hu;subst hu
  exact ⟨rfl,rfl,rfl,fun _ => rfl⟩
theorem refs2_ge {L:Heap} {C:List AV} {M:List (Option Row)} {ρ:Nat -> Nat} (h:MX3 L C M ρ):∀ r ∈ Zdu L,3 <= r:=fun r hr => by
 obtain ⟨o1,o2⟩:=h.out 2 (by simp)
 unfold Zdu at hr
 rw [o1] at hr
 have hr:r ∈ rowsL C:=hr
 obtain ⟨j,c,hc,hrc⟩:=Zce hr
 have hj:j < M.length:=by rw [<- o2];exact (List.getElem?_eq_some_iff.1 hc).1
 cases hm:M[j] with
 | none =>
  rw [h.nil 2 (by simp) j (by show M[j]? = some none;rw [List.getElem?_eq_getElem hj,hm])] at hc
  rw [<- Option.some.inj hc] at hrc;cases hrc
 | some row =>
  obtain ⟨d1,d2,d3⟩:=h.hit 2 (by simp) j row (by show M[j]? = some (some row);rw [List.getElem?_eq_getElem hj,hm])
  rw [d1] at hc
  rw [<- Option.some.inj hc] at hrc
  have:r = ρ j:=by simpa [rowsA] using hrc
  rw [this];exact d3
theorem refs2_hit {L:Heap} {C:List AV} {M:List (Option Row)} {ρ:Nat -> Nat} (h:MX3 L C M ρ) {j:Nat} {row:Row} (hm:M[j]? = some (some row)):ρ j ∈ Zdu L:=by
 obtain ⟨o1,_⟩:=h.out 2 (by simp)
 obtain ⟨d1,_⟩:=h.hit 2 (by simp) j row hm
 unfold Zdu
 rw [o1]
 show ρ j ∈ rowsL C
 exact ZaT d1 (by simp [rowsA])
theorem refs2_swap {L:Heap} {p q r:Nat} (hp:3 <= p) (hq:3 <= q) (hpl:p < L.length) (hql:q < L.length) (h:r ∉ Zdu L):swp p q r ∉ Zdu (swH p q L):=by
 have h2:2 < L.length:=by omega
 have e:=ZcT hpl hql (List.getElem?_eq_getElem h2)
 rw [ZcR hp hq (by omega)] at e
 unfold Zdu at h ⊢
 rw [List.getElem?_eq_getElem h2] at h
 rw [e]
 simp only at h ⊢
 rw [refs_ren]
 intro hm
 obtain ⟨s,hs,e⟩:=List.mem_map.1 hm
 rw [Zek e] at hs
 exact h hs
theorem BW.refl {W:Heap->Prop} {L:Heap} (h:W L):BW W L L:=⟨rfl,fun _ _=>rfl,h⟩
theorem BW.refs {W:Heap -> Prop} {L L1:Heap} {C:List AV} {M:List (Option Row)} {ρ:Nat -> Nat} (hx:MX3 L C M ρ) (h:BW W L L1):Zdu L1 = Zdu L:=by
 have:=h.2.1 2 fun h2 => by have:=refs2_ge hx 2 h2;omega
 unfold Zdu
 rw [this]
theorem BW.trans {W W':Heap -> Prop} {L L1 L2:Heap} {C:List AV} {M:List (Option Row)} {ρ:Nat -> Nat} (hx:MX3 L C M ρ) (h:BW W L L1) (h':BW W' L1 L2):BW W' L L2:=by
 have e:=h.refs hx
 exact ⟨h'.1.trans h.1,fun r hr => (h'.2.1 r (by rw [e];exact hr)).trans (h.2.1 r hr),h'.2.2⟩
theorem wp_focB {N:Mach} {fi:Fi} {k:List Item} {env:Vars} {L:Heap} {C:List AV} {M:List (Option Row)} {ρ:Nat -> Nat} {W:Heap -> Prop} {v:AV} (hW:∀ p q L1,3 <= p -> 3 <= q -> p < L1.length -> q < L1.length -> W L1 -> W (swH p q L1))
  (h:MX3 L C M ρ) (henv:(rowsL (env.map (·.2))).all (fun r => Nat.blt r 3) = true) {a:Nat} {ra:Row} (ha:M[a]? = some (some ra)) (hv:v.clean = true)
  (H:∀ L' C' ρ',MX3 L' C' M ρ' -> L'[3]? = some ra -> ρ' a = 3 -> (∀ r,r < 3 -> r ∉ [2] -> L'[r]? = L[r]?) -> Wp N (.run fi k env L') (fun x L3 => x = v /\ BW W L' L3)):Wp N (.run fi k env L) (fun x L3 => x = v /\ BW W L L3):=by
 obtain ⟨e1,e2,e3⟩:=h.hit 2 (by simp) a ra ha
 have hql:=(List.getElem?_eq_some_iff.1 e2).1
 have hpl:3 < L.length:=by omega
 have hE:∀ r ∈ rowsL (env.map (·.2)),r < 3:=fun r hr => Nat.blt_eq.mp (List.all_eq_true.1 henv r hr)
 refine wp_swapQ (p:=3) (q:=ρ a) hpl hql (fun r hr => by have:=hE r hr;omega) h.refs ?_
 rw [Mx.renV (N:=N) (L:=L) (Nat.le_refl 3) e3 henv]
 have hs:=Zdw (h.swap (Nat.le_refl 3) e3 hpl hql)
 refine .mono (H _ _ _ hs ?_ (swp_q ..) fun r hr hno => ?_) fun x L3 ⟨hx,h1,h2,h3⟩ => ?_
 ·have:=(hs.hit 2 (by simp) a ra ha).2.1
  rw [swp_q] at this;exact this
 ·have hrl:r < L.length:=by omega
  have:=ZcT hpl hql (List.getElem?_eq_getElem hrl)
  rw [ZcR (Nat.le_refl 3) e3 hr,ren_fix (Nat.le_refl 3) e3 (h.fix r _ hr hno (List.getElem?_eq_getElem hrl))] at this
  rw [this,List.getElem?_eq_getElem hrl]
 ·rw [ZcS] at h1
  refine ⟨by omega,by rw [hx];exact clean_ren _ _ hv,by rw [ZcS];exact h1,fun r hr => ?_,hW 3 (ρ a) L3 (Nat.le_refl 3) e3 (by omega) (by omega) h3⟩
  by_cases hrl:r < L.length
  ·have e:=h2 (swp 3 (ρ a) r) (refs2_swap (Nat.le_refl 3) e3 hpl hql hr)
   rw [ZcT hpl hql (List.getElem?_eq_getElem hrl)] at e
   have:=ZcT (p:=3) (q:=ρ a) (L:=L3) (by omega) (by omega) e
   rw [ZbL,Zfp fun s _ => ZbL 3 (ρ a) s] at this
   rw [this,List.getElem?_eq_getElem hrl]
  ·rw [List.getElem?_eq_none (by rw [ZcS];omega),List.getElem?_eq_none (by omega)]
abbrev iR (v:List Int):Row:=⟨v.map (.int .i64),1,0,false,true⟩
abbrev sF (f:Bool) (tl:List Int) (w:Int):Row:=⟨[.agg [.row 1 0,.vec f 1 (tl.map (.int .i64)),.int .i64 w,.row 2 0]],4,0,false,false⟩
abbrev sH (f:Bool) (tl nd:List Int) (w:Int) (C:List AV) (R:Heap):Heap:=sF f tl w::iR nd::⟨C,1,0,false,false⟩::R
def MemoV (n:Nat) (ps:List Pr) (tl:List Int) (t:Nat) (v:List Int):Prop:=v.length=2 ^ n /\ ∀ c s,Sp.ZeM n ps c s->v.getD s default=0\/v.getD s default=(Sp.rv n ps tl c s (some (t:Int)):Int)+1
def MemoM (n:Nat) (ps:List Pr) (tl:List Int) (M:List (Option Row)):Prop:=M.length=n /\ ∀ t,t<n -> ∃ v,M[t]? = some (some (iR v))/\MemoV n ps tl t v
def Memo (n:Nat) (ps:List Pr) (tl:List Int) (L:Heap):Prop:=∃ C M ρ,MX3 L C M ρ/\MemoM n ps tl M
section
variable {n:Nat} {ps:List Pr} {tl:List Int} {f:Bool} {nd:List Int} {w:Int}
theorem memo_swap (p q:Nat) (L:Heap) (hp:3 <= p) (hq:3 <= q) (hpl:p < L.length) (hql:q < L.length) (h:Memo n ps tl L):Memo n ps tl (swH p q L):=by
 obtain ⟨C,M,ρ,hx,hM⟩:=h
 exact ⟨_,M,_,Zdw (hx.swap hp hq hpl hql),hM⟩
theorem sH_shape {C C':List AV} {R L':Heap} {M:List (Option Row)} {ρ:Nat -> Nat} (h:MX3 L' C' M ρ) (hf:∀ r,r < 3 -> r ∉ [2] -> L'[r]? = (sH f tl nd w C R)[r]?):∃ R',L' = sH f tl nd w C' R':=by
 have h2:=(h.out 2 (by simp)).1
 have h0:=hf 0 (by omega) (by simp)
 have h1:=hf 1 (by omega) (by simp)
 obtain ⟨R',e⟩:=Zdy (k:=3) (L:=L') (P:=sH f tl nd w C' []) rfl fun r hr => by
  have:r = 0 \/ r = 1 \/ r = 2:=by omega
  rcases this with rfl | rfl | rfl
  ·exact h0
  ·exact h1
  ·exact h2
 exact ⟨R',e⟩
theorem BW.shape {W:Heap -> Prop} {C:List AV} {R L1:Heap} {M:List (Option Row)} {ρ:Nat -> Nat} (hx:MX3 (sH f tl nd w C R) C M ρ) (h:BW W (sH f tl nd w C R) L1):∃ R',L1 = sH f tl nd w C R':=by
 have hf:∀ r,r < 3 -> L1[r]? = (sH f tl nd w C R)[r]?:=fun r hr => h.2.1 r fun hm => by have:=refs2_ge hx r hm;omega
 obtain ⟨R',e⟩:=Zdy (k:=3) (L:=L1) (P:=sH f tl nd w C []) rfl fun r hr => by
  rw [hf r hr]
  have:r = 0 \/ r = 1 \/ r = 2:=by omega
  rcases this with rfl | rfl | rfl <;> rfl
 exact ⟨R',e⟩
theorem mx_out {L:Heap} {C C':List AV} {R:Heap} {M:List (Option Row)} {ρ:Nat -> Nat} (hx:MX3 L C' M ρ) (e:L = sH f tl nd w C R):C' = C:=by
 have:=(hx.out 2 (by simp)).1
 rw [e] at this
 have h2:(some (⟨C,1,0,false,false⟩:Row)) = some ⟨C',1,0,false,false⟩:=this
 exact (Row.mk.inj (Option.some.inj h2)).1.symm
end
end Go.Av

namespace Go.Av
open Go.Proofs
theorem ndL_get {n:Nat} {ps:List Pr} {k:Nat} (h:k < n):(Sp.ndL n ps).getD k default = (Sp.nds ps k:Int):=by
 unfold Sp.ndL
 rw [List.getD_eq_getElem?_getD,List.getElem?_map,List.getElem?_range h];rfl
theorem ndL_len (n:Nat) (ps:List Pr):(Sp.ndL n ps).length=n:=by unfold Sp.ndL;simp
abbrev oNo:Nat->Option Ans:=fun _=>none
abbrev rP:AV:=.ptr 0 0 0 0
theorem pow16 {n:Nat} (hn:n <= 16):2 ^ n <= 65536:=by
 have:=Nat.pow_le_pow_right (show 2 > 0 by omega) hn
 omega
section
variable {n:Nat} {ps:List Pr} {tl:List Int} {f:Bool} {w:Int}
theorem open_own (hv:Sp.okV n ps) (hn:n <= 16) {s k:Nat} (hs:s < 2 ^ n) (hk:k < n) (C:List AV) (R:Heap):Wp M1 (.own 42 [rP,.int .i64 s,.int .i64 k] (sH f tl (Sp.ndL n ps) w C R)) (isR (.bool (Sp.opM ps s k)) (sH f tl (Sp.ndL n ps) w C R)):=by
 have hp:=pow16 hn
 have e1:((BitVec.ofInt IntKind.i64.bits ((s:Int).fdiv (2 ^ min ((k:Nat):Int).toNat IntKind.i64.bits)) &&& BitVec.ofInt IntKind.i64.bits 1).toNat:Int) = if s.testBit k = true then 1 else 0:=by
  rw [Int.toNat_natCast,show min k IntKind.i64.bits = k by show min k 64 = k;omega,fdiv_shr]
  have hb:(BitVec.ofInt 64 ((s / 2 ^ k:Nat):Int) &&& BitVec.ofInt 64 1).toNat = s / 2 ^ k % 2:=bv_and1 (by have:=Nat.div_le_self s (2 ^ k);omega)
  have hb':(BitVec.ofInt IntKind.i64.bits ((s / 2 ^ k:Nat):Int) &&& BitVec.ofInt IntKind.i64.bits 1).toNat = s / 2 ^ k % 2:=hb
  rw [hb',shr_bit]
  split <;> rfl
 have hnd:=nds_lt hv (k:Int)
 refine owncall42 (sOp f tl (Sp.ndL n ps) w C R s k _ ⟨by omega,?_,fun _ => ?_,?_,rfl⟩)
 ·rw [e1];split <;> omega
 ·rw [ndL_len,Int.toNat_natCast];exact hk
 ·rw [e1,Int.toNat_natCast,ndL_get hk]
  congr 1
  have e2:(BitVec.ofInt IntKind.i64.bits ((Sp.nds ps k:Nat):Int) &&& ~~~BitVec.ofInt IntKind.i64.bits ((s:Nat):Int)).toNat = 0 ↔ ∀ i,(Sp.nds ps k).testBit i = true -> s.testBit i = true:=bv_andnot (by omega) (by omega)
  have e3:(BitVec.ofInt IntKind.i64.bits ((Sp.nds ps k:Nat):Int) &&& ~~~BitVec.ofInt IntKind.i64.bits ((s:Nat):Int)).toNat <= Sp.nds ps k:=bv_le (by omega)
  rw [w64 _ (by omega)]
  have hop:=opM_bits (ps:=ps) (s:=s) (k:=k)
  cases ht:s.testBit k with
  | true =>
   rw [ht] at hop
   have:Sp.opM ps s k = false:=Bool.eq_false_iff.2 fun h => by have:=(hop.1 h).1;cases this
   rw [this];rfl
  | false =>
   rw [ht] at hop
   rw [if_neg (by simp)]
   show (bif true then _ else false) = _
   rw [cond_true,Bool.eq_iff_iff,hop,beq_iff_eq]
   constructor
   ·intro h
    exact ⟨rfl,e2.1 (by omega)⟩
   ·rintro ⟨_,h⟩
    have:=e2.2 h
    omega
noncomputable def stO1:Array Oper:=match atC (cd Try.f43) [1,0] with
 | .code (.region _ ops _) :: _ => ops
 | _ => #[]
theorem stC1:atC (cd Try.f43) [1,0] = .code (.region 1 stO1 false)::atC (cd Try.f43) [1,1]:=by kernel_rfl
def stX (s k:Int):Int:=IntKind.i64.wrap ((BitVec.ofInt IntKind.i64.bits s ||| BitVec.ofInt IntKind.i64.bits (IntKind.i64.wrap (1*2 ^ (min k.toNat IntKind.i64.bits)))).toNat:Int)
def stE (s t k:Int):Vars:=[(0,rP),(2,.int .i64 t),(3,.int .i64 k),(10,rP),(14,.int .i64 (stX s k)),(15,.int .i64 k)]
theorem stV (s t k:Int) (L:Heap):runV M1 fi43.n stO1 oNo [0,1,2,3,4,5] [0,2,3,10,14,15] [(0,rP),(1,.int .i64 s),(2,.int .i64 t),(3,.int .i64 k)] L=some (stE s t k,L,[decide (0<=k)],[]):=by kernel_rfl
theorem stK (s t k:Int):ZeP stO1 6 (stE s t k)=some (16,52,[rP,.int .i64 (stX s k),.int .i64 k]):=by kernel_rfl
theorem stR:List.range stO1.size=[0,1,2,3,4,5]++6::[7]:=by kernel_rfl
theorem stV2 (s t k o:Int) (L:Heap):runV M1 fi43.n stO1 oNo [7] [0,2,3,9] ((16,.int .i64 o)::stE s t k) L=some ([(0,rP),(2,.int .i64 t),(3,.int .i64 k),(9,.int .i64 o)],L,[],[]):=by kernel_rfl
theorem stX_eq {s k:Nat} (hn:n <= 16) (hs:s < 2 ^ n) (hk:k < n):stX s k = ((s ||| 2 ^ k:Nat):Int):=by
 have hp:=pow16 hn
 have hkp:=Zej hk hn
 unfold stX
 rw [Int.toNat_natCast,show min k IntKind.i64.bits = k by show min k 64 = k;omega,Int.one_mul]
 have hpw:((2:Int) ^ k) = ((2 ^ k:Nat):Int):=by simp
 rw [hpw]
 clear hpw
 revert hkp
 generalize hq:2 ^ k = q
 intro hkp
 have hsq:s ||| q < 2 ^ 17:=Nat.or_lt_two_pow (by omega) (by omega)
 rw [w64 ((q:Nat):Int) (by omega)]
 have e:(BitVec.ofInt IntKind.i64.bits ((s:Nat):Int) ||| BitVec.ofInt IntKind.i64.bits ((q:Nat):Int)).toNat = s ||| q:=bv_or (by omega) (by omega)
 rw [e,w64]
 omega
def HB (n:Nat) (ps:List Pr) (tl:List Int) (f:Bool) (w:Int) (C:List AV) (R:Heap):Prop:=∃ M ρ,MX3 (sH f tl (Sp.ndL n ps) w C R) C M ρ/\MemoM n ps tl M
def RestOk (n:Nat) (ps:List Pr) (tl:List Int) (f:Bool) (w:Int) (c:Nat):Prop:=∀ (s t:Nat) (C:List AV) (R:Heap),Sp.ZeM n ps c s -> t < n -> HB n ps tl f w C R ->
 Wp M1 (.own 52 [rP,.int .i64 s,.int .i64 t] (sH f tl (Sp.ndL n ps) w C R)) (fun x L1 => x = .int .i64 (Sp.rv n ps tl c s (some (t:Int)):Nat) /\ BW (Memo n ps tl) (sH f tl (Sp.ndL n ps) w C R) L1)
def tOk (n:Nat) (x:Int) (t:Option Int):Prop:=(x = -1/\t=none) \/ ∃ y:Nat,y<n/\x=y/\t=some (y:Int)
theorem step_of (hv:Sp.okV n ps) (hc:¬Sp.cyc n ps) (hn:n <= 16) (htl:tl.length = n) {c:Nat} (hR:RestOk n ps tl f w c) {s k:Nat} {x:Int} {t:Option Int} {C:List AV} {R:Heap} (hg:Sp.ZeM n ps (c + 1) s) (hk:k < n) (ho:Sp.opM ps s k = true) (ht:tOk n x t) (hB:HB n ps tl f w C R) :
  Wp M1 (.own 43 [rP,.int .i64 s,.int .i64 x,.int .i64 k] (sH f tl (Sp.ndL n ps) w C R)) (fun v L1 => v = .int .i64 (Sp.rv n ps tl c (s ||| 2 ^ k) (some (k:Int)) + Sp.cg1 tl t k:Nat) /\ BW (Memo n ps tl) (sH f tl (Sp.ndL n ps) w C R) L1):=by
 have hgo:=Zcv hv hg hk ho
 have hrv:=Zde (tl:=tl) hv hc c _ (some (k:Int)) hgo
 have hcn:c <= n:=by obtain ⟨O,_,e,_⟩:=hg;omega
 refine owncall43 (sS0 f tl (Sp.ndL n ps) w C R s x k _ ?_)
 rw [stC1]
 refine ZcA (Qc:=fun v L1 => v = .int .i64 (Sp.rv n ps tl c (s ||| 2 ^ k) (some (k:Int)):Nat) /\ BW (Memo n ps tl) (sH f tl (Sp.ndL n ps) w C R) L1) hm1 [0,1,2,3,4,5] [7] [0,2,3,10,14,15] [0,2,3,9] 6 stR (stV _ _ _ _) (Zaf (decide_eq_true (by omega)) Zah) Zam (stK _ _ _) (by decide) (by rw [stX_eq hn (Zcm hg) hk];exact hR _ k C R hgo hk hB) fun v L2 ⟨e,hb⟩ => ?_
 subst e
 obtain ⟨M,ρ,hx,hM⟩:=hB
 obtain ⟨R2,rfl⟩:=hb.shape hx
 refine ⟨_,_,_,_,stV2 _ _ _ _ _,Zah,Zam,?_⟩
 refine sS1 f tl (Sp.ndL n ps) w C R2 x k _ _ ⟨fun h => h,fun h => ?_,fun _ => by omega,fun _ => by rw [Int.toNat_natCast];omega,fun h => ⟨by omega,?_,hb⟩,fun h => ⟨?_,hb⟩⟩
 ·rcases ht with ⟨rfl,_⟩ | ⟨y,hy,rfl,_⟩
  ·omega
  ·rw [Int.toNat_natCast];omega
 ·rcases ht with ⟨rfl,_⟩ | ⟨y,hy,rfl,rfl⟩
  ·omega
  ·unfold Sp.cg1
   simp only
   rw [if_neg h.2];rfl
 ·rcases ht with ⟨rfl,rfl⟩ | ⟨y,hy,rfl,rfl⟩
  ·rfl
  ·unfold Sp.cg1
   simp only
   rw [if_pos (Classical.byContradiction fun z => h ⟨by omega,z⟩)];rfl
noncomputable def reO10:Array Oper:=match atC (cd Try.f52) [1,1,1,1,0,1,0,0,1,1,0,0,1,0] with
 | .code (.region _ ops _) :: _ => ops
 | _ => #[]
noncomputable def reO11:Array Oper:=match atC (cd Try.f52) [1,1,1,1,0,1,0,0,1,1,0,0,1,1,0] with
 | .code (.region _ ops _) :: _ => ops
 | _ => #[]
theorem reC10:atC (cd Try.f52) [1,1,1,1,0,1,0,0,1,1,0,0,1,0] = .code (.region 10 reO10 false)::atC (cd Try.f52) [1,1,1,1,0,1,0,0,1,1,0,0,1,1]:=by kernel_rfl
theorem reC11:atC (cd Try.f52) [1,1,1,1,0,1,0,0,1,1,0,0,1,1,0] = .code (.region 11 reO11 false) :: .inBlock 1::atC (cd Try.f52) [1,1,1,1,0,1,0,0,1,1,1]:=by kernel_rfl
def reE (s t b m i:Int):Vars:=[(0,rP),(1,.int .i64 s),(2,.int .i64 t),(8,.int .i64 b),(9,.int .i64 i),(39,.int .i64 m),(40,.int .i64 i)]
def reE1 (s t b m i:Int):Vars:=[(0,rP),(1,.int .i64 s),(2,.int .i64 t),(8,.int .i64 b),(9,.int .i64 i),(39,.int .i64 m),(40,.int .i64 i),(43,rP),(44,.int .i64 s),(45,.int .i64 i)]
theorem reV10 (s t b m i:Int) (L:Heap):runV M1 fi52.n reO10 oNo [0,1,2] [0,1,2,8,9,39,40,43,44,45] (reE s t b m i) L=some (reE1 s t b m i,L,[],[]):=by kernel_rfl
theorem reK10 (s t b m i:Int):ZeP reO10 3 (reE1 s t b m i)=some (46,42,[rP,.int .i64 s,.int .i64 i]):=by kernel_rfl
theorem reR10:List.range reO10.size=[0,1,2]++3::[]:=by kernel_rfl
theorem reW10 (s t b m i:Int) (o:Bool) (L:Heap):runV M1 fi52.n reO10 oNo [] [0,1,2,8,9,39,40,46] ((46,.bool o)::reE1 s t b m i) L=some (reE s t b m i++[(46,.bool o)],L,[],[]):=by kernel_rfl
def reE2 (s t b m i:Int):Vars:=[(0,rP),(1,.int .i64 s),(2,.int .i64 t),(39,.int .i64 m),(40,.int .i64 i),(47,.int .i64 b),(48,rP),(49,.int .i64 s),(50,.int .i64 t),(51,.int .i64 i)]
theorem reV11 (s t b m i:Int) (o:Bool) (L:Heap):runV M1 fi52.n reO11 oNo [0,1,2,3,4] [0,1,2,39,40,47,48,49,50,51] (reE s t b m i++[(46,.bool o)]) L=some (reE2 s t b m i,L,[],[]):=by kernel_rfl
theorem reK11 (s t b m i:Int):ZeP reO11 5 (reE2 s t b m i)=some (52,43,[rP,.int .i64 s,.int .i64 t,.int .i64 i]):=by kernel_rfl
theorem reR11:List.range reO11.size=[0,1,2,3,4]++5::[6,7]:=by kernel_rfl
theorem reW11 (s t b m i o:Int) (L:Heap):runV M1 fi52.n reO11 oNo [6,7] [0,1,2,8,39,40] ((52,.int .i64 o)::reE2 s t b m i) L=some ([(0,rP),(1,.int .i64 s),(2,.int .i64 t),(8,.int .i64 (if o<b then o else b)),(39,.int .i64 m),(40,.int .i64 i)],L,[],[]):=by kernel_rfl
end
end Go.Av

namespace Go.Av
open Go.Proofs
abbrev sW (n:Nat):Int:=((2 ^ n-1:Nat):Int)
section
variable {n:Nat} {ps:List Pr} {tl:List Int} {f:Bool} {w:Int}
theorem HB.of {C:List AV} {R:Heap} (h:Memo n ps tl (sH f tl (Sp.ndL n ps) w C R)):HB n ps tl f w C R:=by
 obtain ⟨C',M,ρ,hx,hM⟩:=h
 have e:=mx_out hx rfl
 subst e
 exact ⟨M,ρ,hx,hM⟩
theorem HB.memo {C:List AV} {R:Heap} (h:HB n ps tl f w C R):Memo n ps tl (sH f tl (Sp.ndL n ps) w C R):=by
 obtain ⟨M,ρ,hx,hM⟩:=h
 exact ⟨C,M,ρ,hx,hM⟩
theorem Zea {C C':List AV} {R L':Heap} {M:List (Option Row)} {ρ:Nat -> Nat} {nd:List Int} {z:Row} (h:MX3 L' C' M ρ) (hf:∀ r,r < 3 -> r ∉ [2] -> L'[r]? = (sH f tl nd w C R)[r]?) (h3:L'[3]? = some z):∃ R',L' = sH f tl nd w C' (z :: R'):=by
 obtain ⟨R',rfl⟩:=sH_shape h hf
 match R',h3 with
 | y :: R',h3 =>
  have:y = z:=Option.some.inj h3
  exact ⟨R',by rw [this]⟩
def bvF (n:Nat) (ps:List Pr) (tl:List Int) (c s t:Nat) (b k:Nat):Nat:=if Sp.opM ps s k=true then min b (Sp.rv n ps tl c (s ||| 2 ^ k) (some (k:Int))+Sp.cg1 tl (some (t:Int)) k) else b
def bv (n:Nat) (ps:List Pr) (tl:List Int) (c s t i:Nat):Nat:=(List.range i).foldl (bvF n ps tl c s t) n
theorem bv_succ (c s t i:Nat):bv n ps tl c s t (i + 1) = bvF n ps tl c s t (bv n ps tl c s t i) i:=by
 unfold bv
 rw [List.range_succ,List.foldl_append];rfl
theorem bv_end (c s t:Nat):bv n ps tl c s t n=Sp.rv n ps tl (c+1) s (some (t:Int)):=rfl
theorem bvm_le (c s t:Nat):∀ i,bv n ps tl c s t i <= n
 | 0 => Nat.le_refl _
 | i + 1 => by
  rw [bv_succ]
  have:=bvm_le c s t i
  unfold bvF
  split
  ·omega
  ·exact this
theorem memoV_set {c s t b:Nat} {v:List Int} (hg:Sp.ZeM n ps c s) (h:MemoV n ps tl t v) (hb:b = Sp.rv n ps tl c s (some (t:Int))):MemoV n ps tl t (v.set s ((b:Int) + 1)):=by
 refine ⟨by rw [List.length_set];exact h.1,fun c' s' hg' => ?_⟩
 rw [List.getD_eq_getElem?_getD,List.getElem?_set]
 by_cases e:s = s'
 ·subst e
  rw [if_pos rfl,if_pos (by rw [h.1];exact Zcm hg),Option.getD_some,good_c hg' hg,hb]
  exact .inr rfl
 ·rw [if_neg e,<- List.getD_eq_getElem?_getD]
  exact h.2 c' s' hg'
theorem memoM_set {t:Nat} {v:List Int} {M:List (Option Row)} (h:MemoM n ps tl M) (ht:t < n) (hv:MemoV n ps tl t v):MemoM n ps tl (M.set t (some (iR v))):=by
 refine ⟨by rw [List.length_set];exact h.1,fun u hu => ?_⟩
 rw [List.getElem?_set]
 by_cases e:t = u
 ·subst e
  rw [if_pos rfl,if_pos (by rw [h.1];exact hu)]
  exact ⟨v,rfl,hv⟩
 ·rw [if_neg e]
  exact h.2 u hu
theorem rest_end {c s t:Nat} (hn:n <= 16) (hg:Sp.ZeM n ps (c + 1) s) (ht:t < n) {C:List AV} {R:Heap} (hB:HB n ps tl f w C R) {b:Nat} (hb:b = Sp.rv n ps tl (c + 1) s (some (t:Int))) (hbn:b <= n) :
  Wp M1 (.run fi52 (atC (cd Try.f52) [1,1,1,1,1,0]) [(0,rP),(1,.int .i64 s),(2,.int .i64 t),(8,.int .i64 b)] (sH f tl (Sp.ndL n ps) w C R)) (fun x L1 => x = .int .i64 b /\ BW (Memo n ps tl) (sH f tl (Sp.ndL n ps) w C R) L1):=by
 obtain ⟨M,ρ,hx,hM⟩:=hB
 obtain ⟨v,hv1,hv2⟩:=hM.2 t ht
 refine wp_focB (fun p q L1 => memo_swap p q L1) hx rfl hv1 rfl fun L' C' ρ' hx' h3 hρ hf => ?_
 obtain ⟨R',rfl⟩:=Zea hx' hf h3
 have hC:=(hx'.hit 2 (by simp) t _ hv1).1
 rw [hρ] at hC
 have hCl:C'.length = n:=by rw [(hx'.out 2 (by simp)).2];exact hM.1
 have hsl:=Zcm hg
 have hup:=Zdw (Mx.upd hx' (u:=2) (a:=t) (by simp) hv1 (rb:=iR (v.set s ((b:Int) + 1))) rfl rfl)
 rw [if_pos rfl,hρ] at hup
 refine sRE f tl (Sp.ndL n ps) w C' R' s t b v _ ⟨by omega,by rw [Int.toNat_natCast];omega,by omega,by rw [Int.toNat_natCast,hv2.1];exact hsl,by rw [Int.toNat_natCast];exact hC,by omega,rfl,rfl,fun r hr => ?_,?_⟩
 ·have h3r:r ≠ 3:=fun e => hr (by rw [e];have:=refs2_hit hx' hv1;rw [hρ] at this;exact this)
  rw [Int.toNat_natCast]
  show ((sH f tl (Sp.ndL n ps) w C' (iR v :: R')).set 3 (iR (v.set s ((b:Int) + 1))))[r]? = _
  rw [List.getElem?_set,if_neg fun e => h3r e.symm]
 ·rw [Int.toNat_natCast]
  exact ⟨C',_,_,hup,memoM_set hM ht (memoV_set hg hv2 hb)⟩
theorem rest_loop (hv:Sp.okV n ps) (hc:¬Sp.cyc n ps) (hn:n <= 16) (htl:tl.length = n) {c:Nat} (hR:RestOk n ps tl f w c) {s t:Nat} (hg:Sp.ZeM n ps (c + 1) s) (ht:t < n) {C:List AV} {R0:Heap} {M0:List (Option Row)} {ρ0:Nat -> Nat} (hx0:MX3 (sH f tl (Sp.ndL n ps) w C R0) C M0 ρ0) :
  ∀ (d i:Nat) (R:Heap),i + d = n -> HB n ps tl f w C R -> BW (Memo n ps tl) (sH f tl (Sp.ndL n ps) w C R0) (sH f tl (Sp.ndL n ps) w C R) ->
   Zgs f tl (Sp.ndL n ps) w C R s t (bv n ps tl c s t i:Nat) n i (fun x L1 => x = .int .i64 (Sp.rv n ps tl (c + 1) s (some (t:Int)):Nat) /\ BW (Memo n ps tl) (sH f tl (Sp.ndL n ps) w C R0) L1):=by
 intro d
 induction d with
 | zero =>
  intro i R hi hB hb
  have hi:i = n:=by omega
  subst hi
  have hbl:=bvm_le (n:=i) (ps:=ps) (tl:=tl) c s t i
  refine sRL _ _ _ _ _ _ _ _ _ _ _ _ ⟨fun z => absurd z (by omega),fun _ => ?_⟩
  rw [bv_end] at hbl ⊢
  exact .mono (rest_end hn hg ht hB rfl hbl) fun x L1 h => ⟨h.1,hb.trans hx0 h.2⟩
 | succ d ih =>
  intro i R hi hB hb
  have hil:i < n:=by omega
  have hbl:=bvm_le (n:=n) (ps:=ps) (tl:=tl) c s t i
  refine sRL _ _ _ _ _ _ _ _ _ _ _ _ ⟨fun _ => ?_,fun z => absurd (by omega) z⟩
  rw [reC10]
  refine ZcA (Qc:=isR (.bool (Sp.opM ps s i)) (sH f tl (Sp.ndL n ps) w C R)) hm1 [0,1,2] [] [0,1,2,8,9,39,40,43,44,45] [0,1,2,8,9,39,40,46] 3 reR10 (reV10 _ _ _ _ _ _) Zah Zam (reK10 _ _ _ _ _) (by decide) (open_own hv hn (Zcm hg) hil C R) fun v L2 ⟨e1,e2⟩ => ?_
  subst e1;subst e2
  refine ⟨_,_,_,_,reW10 _ _ _ _ _ _ _,Zah,Zam,?_⟩
  refine sRC f tl (Sp.ndL n ps) w C R s t (bv n ps tl c s t i:Nat) n i i (Sp.opM ps s i) _ ⟨fun ho => ?_,fun ho => ⟨by omega,?_⟩⟩
  ·rw [reC11]
   have hrv:=Zde (tl:=tl) hv hc c _ (some (i:Int)) (Zcv hv hg hil ho)
   have hcg:=cg1_le (tl:=tl) (some (t:Int)) (i:Int)
   refine ZcA (Qc:=fun v L1 => v = .int .i64 (Sp.rv n ps tl c (s ||| 2 ^ i) (some (i:Int)) + Sp.cg1 tl (some (t:Int)) i:Nat) /\ BW (Memo n ps tl) (sH f tl (Sp.ndL n ps) w C R) L1) hm1 [0,1,2,3,4] [6,7] [0,1,2,39,40,47,48,49,50,51] [0,1,2,8,39,40] 5 reR11 (reV11 _ _ _ _ _ _ _) Zah Zam (reK11 _ _ _ _ _) (by decide)
    (step_of hv hc hn htl hR hg hil ho (.inr ⟨t,ht,rfl,rfl⟩) hB) fun v L2 ⟨e,h2⟩ => ?_
   subst e
   obtain ⟨M,ρ,hx,hM⟩:=hB
   obtain ⟨R2,rfl⟩:=h2.shape hx
   refine ⟨_,_,_,_,reW11 _ _ _ _ _ _ _,Zah,Zam,.inBlock ?_⟩
   refine sRN f tl (Sp.ndL n ps) w C R2 s t _ n i _ ⟨by omega,?_⟩
   have hn2:=ih (i + 1) R2 (by omega) (HB.of h2.2.2) (hb.trans hx0 h2)
   rw [bv_succ] at hn2
   unfold bvF at hn2
   rw [if_pos ho] at hn2
   have e:(if ((Sp.rv n ps tl c (s ||| 2 ^ i) (some (i:Int)) + Sp.cg1 tl (some (t:Int)) i:Nat):Int) < (bv n ps tl c s t i:Nat) then ((Sp.rv n ps tl c (s ||| 2 ^ i) (some (i:Int)) + Sp.cg1 tl (some (t:Int)) i:Nat):Int) else (bv n ps tl c s t i:Nat)) = ((min (bv n ps tl c s t i) (Sp.rv n ps tl c (s ||| 2 ^ i) (some (i:Int)) + Sp.cg1 tl (some (t:Int)) i):Nat):Int):=by
    split <;> omega
   rw [e]
   exact hn2
  ·have hn2:=ih (i + 1) R (by omega) hB hb
   rw [bv_succ] at hn2
   unfold bvF at hn2
   rw [if_neg ho] at hn2
   exact hn2
theorem rest_ok (hv:Sp.okV n ps) (hc:¬Sp.cyc n ps) (hn:n <= 16) (htl:tl.length = n):∀ c,RestOk n ps tl f (sW n) c
 | 0,s,t,C,R,hg,ht,hB => by
  have:=good_full hg
  refine owncall52 (sR0 f tl (Sp.ndL n ps) (sW n) C R s t _ ⟨fun _ => ⟨rfl,BW.refl hB.memo⟩,fun h => absurd (by rw [this]) h⟩)
 | c + 1,s,t,C,R,hg,ht,hB => by
  have hnf:=Zc7 hv hc hg
  have hsl:=Zcm hg
  have hm:=hB
  obtain ⟨M,ρ,hx,hM⟩:=hB
  obtain ⟨v,hv1,hv2⟩:=hM.2 t ht
  refine owncall52 (sR0 f tl (Sp.ndL n ps) (sW n) C R s t _ ⟨fun h => absurd (Int.ofNat.inj h) hnf,fun _ => ?_⟩)
  refine wp_focB (fun p q L1 => memo_swap p q L1) hx rfl hv1 rfl fun L' C' ρ' hx' h3 hρ hf => ?_
  obtain ⟨R',rfl⟩:=Zea hx' hf h3
  have hC:=(hx'.hit 2 (by simp) t _ hv1).1
  rw [hρ] at hC
  have hCl:C'.length = n:=by rw [(hx'.out 2 (by simp)).2];exact hM.1
  have hm':Memo n ps tl (sH f tl (Sp.ndL n ps) (sW n) C' (iR v :: R')):=⟨C',M,ρ',hx',hM⟩
  have hrv:=Zde (tl:=tl) hv hc (c + 1) s (some (t:Int)) hg
  have hcn:c + 1 <= n:=by obtain ⟨O,_,e,_⟩:=hg;omega
  refine sR3 f tl (Sp.ndL n ps) (sW n) C' R' s t v _ ⟨by omega,by rw [Int.toNat_natCast];omega,by omega,by rw [Int.toNat_natCast,hv2.1];exact hsl,by rw [Int.toNat_natCast];exact hC,fun hp => ?_,fun hp => ?_⟩
  ·rw [Int.toNat_natCast] at hp ⊢
   rcases hv2.2 _ _ hg with h0 | h0
   ·omega
   ·rw [h0]
    exact ⟨by omega,by congr 1;omega,BW.refl hm'⟩
  ·have:=rest_loop (f:=f) (w:=sW n) hv hc hn htl (rest_ok hv hc hn htl c) hg ht hx' n 0 (iR v :: R') (by omega) (HB.of hm') (BW.refl hm')
   rw [htl]
   exact this
end
end Go.Av

namespace Go.Av
open Go.Proofs
set_option maxRecDepth 100000
def fi24:Fi:=⟨126,[.tmp 6,.tmp 7,.tmp 8]⟩
def kp24:List (Nat × List Nat):=[(0,[0,1,2]),(1,[0,1,2,9]),(2,[0,1,2,9,28]),(3,[6,7,8]),(4,[0,1,2,33]),(5,[6,7,8]),(6,[0,1,2,35]),(7,[6,7,8]),(8,[0,1,2,11]),(9,[0,1,2,11,43]),(10,[6,7,8]),(11,[0,1,12]),(12,[0,1,12,56,57]),(13,[0,1,12,56,57,58]),(14,[0,1,12,13,56,57]),(15,[0,1,12,56,57]),(16,[0,1,12,56,57]),(17,[0,12,68,69,70]),(18,[0,12,68,69,70,71]),(19,[0,12,15,68,69,70]),(20,[0,12,68,69,70]),(21,[0,12,68,69,70]),(22,[0,12,16]),(23,[0,12,16,17]),(24,[0,12,16,17,18,19]),(25,[0,12,16,17,18,19,89]),(26,[0,12,16,17,18,19,20,21]),(27,[0,12,16,17,18,19,20,21,90,91]),(28,[0,12,16,17,18,19,20,21,90,91,92]),(29,[0,12,16,17,18,19,20,21,22,90,91]),(30,[0,12,16,17,18,19,20,21,22,90,91,97]),(31,[0,12,16,17,18,19,20,21,22,23,90,91]),(32,[0,12,16,17,18,19,20,21,22,23,90,91,108]),(33,[0,12,16,17,18,19,20,21,90,91]),(34,[0,12,16,17,18,19,20,21,90,91]),(35,[0,12,16,17,18,20,21,113]),(36,[0,12,16,17,18,20]),(37,[0,12,16,17,18,20]),(38,[0,12,16,17,18,19]),(39,[6,7,8])]
def zB_at (n:Int) (f g:Bool) (ps:List Pr) (tl:List Int) (Q:AV->Heap->Prop):Prop:=Wp M1 (.run fi24 (atC (cd Try.f24) []) [(0,.int .i64 n),(1,.vec g 2 (ps.map Pr.v)),(2,.vec f 1 (tl.map (.int .i64)))] []) Q
def zB0_at (f g:Bool) (Q:AV->Heap->Prop):Prop:=Wp M1 (.run fi24 (atC (cd Try.f24) [1,1,1,1,1,1]) [(0,.int .i64 0),(1,.vec g 2 (([]:List Pr).map Pr.v)),(12,.ptr 0 0 0 0)] [⟨[.agg [.row 1 0,.vec f 1 (([]:List Int).map (.int .i64)),.int .i64 0,.row 2 0]],4,0,false,false⟩,⟨([]:List Int).map (.int .i64),1,0,false,true⟩,⟨[],1,0,false,true⟩]) Q
def zB0a_at (f g:Bool) (Q:AV->Heap->Prop):Prop:=Wp M1 (.run fi24 (atC (cd Try.f24) [1,1,1,1,1,1,0,1,0,0]) [(0,.int .i64 0),(1,.vec g 2 (([]:List Pr).map Pr.v)),(12,.ptr 0 0 0 0),(56,.int .i64 0),(57,.int .i64 0)] [⟨[.agg [.row 1 0,.vec f 1 (([]:List Int).map (.int .i64)),.int .i64 0,.row 2 0]],4,0,false,false⟩,⟨([]:List Int).map (.int .i64),1,0,false,true⟩,⟨[],1,0,false,true⟩]) Q
def zB0b_at (f g:Bool) (Q:AV->Heap->Prop):Prop:=Wp M1 (.run fi24 (atC (cd Try.f24) [1,1,1,1,1,1,1,0,1,0,0]) [(0,.int .i64 0),(12,.ptr 0 0 0 0),(68,.vec g 2 (([]:List Pr).map Pr.v)),(69,.int .i64 0),(70,.int .i64 0)] [⟨[.agg [.row 1 0,.vec f 1 (([]:List Int).map (.int .i64)),.int .i64 0,.row 2 0]],4,0,false,false⟩,⟨([]:List Int).map (.int .i64),1,0,false,true⟩,⟨[],1,0,false,true⟩]) Q
def zB0c_at (f:Bool) (Q:AV->Heap->Prop):Prop:=Wp M1 (.run fi24 (atC (cd Try.f24) [1,1,1,1,1,1,1,1,1,1,0,1,0,0]) [(0,.int .i64 0),(12,.ptr 0 0 0 0),(16,.vnil),(17,.int .i64 0),(18,.int .i64 0),(19,.int .i64 (-1))] [⟨[.agg [.row 1 0,.vec f 1 (([]:List Int).map (.int .i64)),.int .i64 0,.row 2 0]],4,0,false,false⟩,⟨([]:List Int).map (.int .i64),1,0,false,true⟩,⟨[],1,0,false,true⟩]) Q
def zBi_at (f g:Bool) (ps:List Pr) (tl nd:List Int) (n w:Int) (C:List AV) (R:Heap) (Q:AV->Heap->Prop):Prop:=Wp M1 (.run fi24 (atC (cd Try.f24) [1,1,1,1,1,1]) [(0,.int .i64 n),(1,.vec g 2 (ps.map Pr.v)),(12,.ptr 0 0 0 0)] (⟨[.agg [.row 1 0,.vec f 1 (tl.map (.int .i64)),.int .i64 w,.row 2 0]],4,0,false,false⟩::⟨nd.map (.int .i64),1,0,false,true⟩::⟨C,1,0,false,true⟩::R)) Q
def zBA0_at (f g:Bool) (ps:List Pr) (tl nd:List Int) (n w:Int) (C:List AV) (R:Heap) (m i:Int) (Q:AV->Heap->Prop):Prop:=Wp M1 (.run fi24 (atC (cd Try.f24) [1,1,1,1,1,1,0,1,0,0]) [(0,.int .i64 n),(1,.vec g 2 (ps.map Pr.v)),(12,.ptr 0 0 0 0),(56,.int .i64 m),(57,.int .i64 i)] (⟨[.agg [.row 1 0,.vec f 1 (tl.map (.int .i64)),.int .i64 w,.row 2 0]],4,0,false,false⟩::⟨nd.map (.int .i64),1,0,false,true⟩::⟨C,1,0,false,true⟩::R)) Q
def zBA_at (f g:Bool) (ps:List Pr) (tl nd:List Int) (n w:Int) (C:List AV) (R:Heap) (m i:Int) (Q:AV->Heap->Prop):Prop:=Wp M1 (.run fi24 (atC (cd Try.f24) [1,1,1,1,1,1,0,1,0,0]) [(0,.int .i64 n),(1,.vec g 2 (ps.map Pr.v)),(12,.ptr 0 0 0 0),(56,.int .i64 m),(57,.int .i64 i)] (⟨[.agg [.row 1 0,.vec f 1 (tl.map (.int .i64)),.int .i64 w,.row 2 0]],4,0,false,false⟩::⟨nd.map (.int .i64),1,0,false,true⟩::⟨C,1,0,false,false⟩::R)) Q
def Zfa (f g:Bool) (ps:List Pr) (tl nd:List Int) (n w:Int) (C:List AV) (R:Heap) (m i:Int) (Q:AV->Heap->Prop):Prop:=Wp M1 (.run fi24 (atC (cd Try.f24) [1,1,1,1,1,1,1,0,1,0,0]) [(0,.int .i64 n),(12,.ptr 0 0 0 0),(68,.vec g 2 (ps.map Pr.v)),(69,.int .i64 m),(70,.int .i64 i)] (⟨[.agg [.row 1 0,.vec f 1 (tl.map (.int .i64)),.int .i64 w,.row 2 0]],4,0,false,false⟩::⟨nd.map (.int .i64),1,0,false,true⟩::⟨C,1,0,false,false⟩::R)) Q
def zBP_at (f g:Bool) (ps:List Pr) (tl nd:List Int) (n w:Int) (C:List AV) (R:Heap) (m i:Int) (p:Pr) (Q:AV->Heap->Prop):Prop:=Wp M1 (.run fi24 (atC (cd Try.f24) [1,1,1,1,1,1,1,0,1,0,0,1,1,0,0,1]) [(0,.int .i64 n),(12,.ptr 0 0 0 0),(15,.ptr 3 0 0 0),(68,.vec g 2 (ps.map Pr.v)),(69,.int .i64 m),(70,.int .i64 i)] (⟨[.agg [.row 1 0,.vec f 1 (tl.map (.int .i64)),.int .i64 w,.row 2 0]],4,0,false,false⟩::⟨nd.map (.int .i64),1,0,false,true⟩::⟨C,1,0,false,false⟩::⟨[.agg [.int .i64 p.a,.int .i64 p.b]],2,0,false,false⟩::R)) Q
def zCN_at (f:Bool) (tl nd:List Int) (w n:Int) (C:List AV) (R:Heap) (ch s t:Int) (Q:AV->Heap->Prop):Prop:=Wp M1 (.run fi24 (atC (cd Try.f24) [1,1,1,1,1,1,1,1,1,1,0,1,0,0]) [(0,.int .i64 n),(12,.ptr 0 0 0 0),(16,.vnil),(17,.int .i64 ch),(18,.int .i64 s),(19,.int .i64 t)] (⟨[.agg [.row 1 0,.vec f 1 (tl.map (.int .i64)),.int .i64 w,.row 2 0]],4,0,false,false⟩::⟨nd.map (.int .i64),1,0,false,true⟩::⟨C,1,0,false,false⟩::R)) Q
def ZeH (f:Bool) (tl nd:List Int) (w n:Int) (C:List AV) (R:Heap) (ch s t:Int) (b l m i:Int) (Q:AV->Heap->Prop):Prop:=Wp M1 (.run fi24 (atC (cd Try.f24) [1,1,1,1,1,1,1,1,1,1,0,1,0,0,1,0,1,0,1,0,0]) [(0,.int .i64 n),(12,.ptr 0 0 0 0),(16,.vnil),(17,.int .i64 ch),(18,.int .i64 s),(19,.int .i64 t),(20,.int .i64 b),(21,.int .i64 l),(90,.int .i64 m),(91,.int .i64 i)] (⟨[.agg [.row 1 0,.vec f 1 (tl.map (.int .i64)),.int .i64 w,.row 2 0]],4,0,false,false⟩::⟨nd.map (.int .i64),1,0,false,true⟩::⟨C,1,0,false,false⟩::R)) Q
def zDoN_at (f:Bool) (tl nd:List Int) (w n:Int) (C:List AV) (R:Heap) (ch s t:Int) (b l m i:Int) (k:Int) (o:Bool) (Q:AV->Heap->Prop):Prop:=Wp M1 (.run fi24 (atC (cd Try.f24) [1,1,1,1,1,1,1,1,1,1,0,1,0,0,1,0,1,0,1,0,0,1,1,0,0,1,0,1]) [(0,.int .i64 n),(12,.ptr 0 0 0 0),(16,.vnil),(17,.int .i64 ch),(18,.int .i64 s),(19,.int .i64 t),(20,.int .i64 b),(21,.int .i64 l),(22,.int .i64 k),(90,.int .i64 m),(91,.int .i64 i),(97,.bool o)] (⟨[.agg [.row 1 0,.vec f 1 (tl.map (.int .i64)),.int .i64 w,.row 2 0]],4,0,false,false⟩::⟨nd.map (.int .i64),1,0,false,true⟩::⟨C,1,0,false,false⟩::R)) Q
def zDvN_at (f:Bool) (tl nd:List Int) (w n:Int) (C:List AV) (R:Heap) (ch s t:Int) (b l m i:Int) (k c:Int) (Q:AV->Heap->Prop):Prop:=Wp M1 (.run fi24 (atC (cd Try.f24) [1,1,1,1,1,1,1,1,1,1,0,1,0,0,1,0,1,0,1,0,0,1,1,0,0,1,1,1]) [(0,.int .i64 n),(12,.ptr 0 0 0 0),(16,.vnil),(17,.int .i64 ch),(18,.int .i64 s),(19,.int .i64 t),(20,.int .i64 b),(21,.int .i64 l),(22,.int .i64 k),(23,.int .i64 c),(90,.int .i64 m),(91,.int .i64 i)] (⟨[.agg [.row 1 0,.vec f 1 (tl.map (.int .i64)),.int .i64 w,.row 2 0]],4,0,false,false⟩::⟨nd.map (.int .i64),1,0,false,true⟩::⟨C,1,0,false,false⟩::R)) Q
def zCR_at (f:Bool) (tl nd:List Int) (w n:Int) (C:List AV) (R:Heap) (O:List Int) (v:Nat) (ch s t:Int) (Q:AV->Heap->Prop):Prop:=Wp M1 (.run fi24 (atC (cd Try.f24) [1,1,1,1,1,1,1,1,1,1,0,1,0,0]) [(0,.int .i64 n),(12,.ptr 0 0 0 0),(16,.row 3 v),(17,.int .i64 ch),(18,.int .i64 s),(19,.int .i64 t)] (⟨[.agg [.row 1 0,.vec f 1 (tl.map (.int .i64)),.int .i64 w,.row 2 0]],4,0,false,false⟩::⟨nd.map (.int .i64),1,0,false,true⟩::⟨C,1,0,false,false⟩::⟨O.map (.int .i64),1,v,false,true⟩::R)) Q
def ZeG (f:Bool) (tl nd:List Int) (w n:Int) (C:List AV) (R:Heap) (O:List Int) (v:Nat) (ch s t:Int) (b l m i:Int) (Q:AV->Heap->Prop):Prop:=Wp M1 (.run fi24 (atC (cd Try.f24) [1,1,1,1,1,1,1,1,1,1,0,1,0,0,1,0,1,0,1,0,0]) [(0,.int .i64 n),(12,.ptr 0 0 0 0),(16,.row 3 v),(17,.int .i64 ch),(18,.int .i64 s),(19,.int .i64 t),(20,.int .i64 b),(21,.int .i64 l),(90,.int .i64 m),(91,.int .i64 i)] (⟨[.agg [.row 1 0,.vec f 1 (tl.map (.int .i64)),.int .i64 w,.row 2 0]],4,0,false,false⟩::⟨nd.map (.int .i64),1,0,false,true⟩::⟨C,1,0,false,false⟩::⟨O.map (.int .i64),1,v,false,true⟩::R)) Q
def zDoR_at (f:Bool) (tl nd:List Int) (w n:Int) (C:List AV) (R:Heap) (O:List Int) (v:Nat) (ch s t:Int) (b l m i:Int) (k:Int) (o:Bool) (Q:AV->Heap->Prop):Prop:=Wp M1 (.run fi24 (atC (cd Try.f24) [1,1,1,1,1,1,1,1,1,1,0,1,0,0,1,0,1,0,1,0,0,1,1,0,0,1,0,1]) [(0,.int .i64 n),(12,.ptr 0 0 0 0),(16,.row 3 v),(17,.int .i64 ch),(18,.int .i64 s),(19,.int .i64 t),(20,.int .i64 b),(21,.int .i64 l),(22,.int .i64 k),(90,.int .i64 m),(91,.int .i64 i),(97,.bool o)] (⟨[.agg [.row 1 0,.vec f 1 (tl.map (.int .i64)),.int .i64 w,.row 2 0]],4,0,false,false⟩::⟨nd.map (.int .i64),1,0,false,true⟩::⟨C,1,0,false,false⟩::⟨O.map (.int .i64),1,v,false,true⟩::R)) Q
def zDvR_at (f:Bool) (tl nd:List Int) (w n:Int) (C:List AV) (R:Heap) (O:List Int) (v:Nat) (ch s t:Int) (b l m i:Int) (k c:Int) (Q:AV->Heap->Prop):Prop:=Wp M1 (.run fi24 (atC (cd Try.f24) [1,1,1,1,1,1,1,1,1,1,0,1,0,0,1,0,1,0,1,0,0,1,1,0,0,1,1,1]) [(0,.int .i64 n),(12,.ptr 0 0 0 0),(16,.row 3 v),(17,.int .i64 ch),(18,.int .i64 s),(19,.int .i64 t),(20,.int .i64 b),(21,.int .i64 l),(22,.int .i64 k),(23,.int .i64 c),(90,.int .i64 m),(91,.int .i64 i)] (⟨[.agg [.row 1 0,.vec f 1 (tl.map (.int .i64)),.int .i64 w,.row 2 0]],4,0,false,false⟩::⟨nd.map (.int .i64),1,0,false,true⟩::⟨C,1,0,false,false⟩::⟨O.map (.int .i64),1,v,false,true⟩::R)) Q
theorem zB (n:Int) (f g:Bool) (ps:List Pr) (tl:List Int)  (Q:AV -> Heap -> Prop) (H :
  ((¬Sp.vd n ps = 0) -> Q (tu [AV.vnil,vi 0,vi (Sp.vd n ps)]) []) /\
  (¬(¬Sp.vd n ps = 0) -> ((¬(↑tl.length:Int) = n) -> Q (tu [AV.vnil,vi 0,vi 1]) []) /\
   (¬(¬(↑tl.length:Int) = n) -> ((n > 16) -> Q (tu [AV.vnil,vi 0,vi 3]) []) /\
    (¬(n > 16) -> ((¬Sp.ZeJ n ps = 0) -> Q (tu [AV.vnil,vi 0,vi (Sp.ZeJ n ps)]) []) /\
     (¬(¬Sp.ZeJ n ps = 0) -> Wp M1 (.run fi24 (atC (cd Try.f24) [1,1,1,1,1,0]) [(0,vi n),(1,AV.vec g 2 (List.map Pr.v ps)),(2,AV.vec f 1 (List.map (vi) tl)),(11,vi (Sp.ZeJ n ps)),(43,vb (Sp.ZeJ n ps != 0))] []) Q))))) :
 zB_at n f g ps tl Q:=by
 unfold zB_at
 refine Zab (G:=Zad kp24 [(1,2,.call (vi (Sp.vd n ps)) none)] []) 7 [] ⟨(atC (cd Try.f24) [1,0,1,1]),[(0,vi n),(1,AV.vec g 2 (List.map Pr.v ps)),(2,AV.vec f 1 (List.map (vi) tl)),(9,vi (Sp.vd n ps)),(28,vb (Sp.vd n ps != 0))],[],_,[],_⟩ (by kernel_rfl) b0 q0 (ce (@ev14 (n) (g) (ps)) c0) ?_
 rcases xq H with ⟨d2,H⟩|⟨d2,H⟩
 ·exact ZaC (G:=Zad kp24 [] []) 1000 [true] (k:=((atC (cd Try.f24) [1,0,1,1,0,1])).tail) (env':=[(6,AV.vnil),(7,vi 0),(8,vi (Sp.vd n ps))]) (L':=[]) (asm:=[(Sp.vd n ps != 0) == true]) (eqs:=[]) (calls:=[]) (tu [AV.vnil,vi 0,vi (Sp.vd n ps)]) (by kernel_rfl) (by kernel_rfl) (Zaf (Zap (i_ne.2 d2)) Zah) Zam ZaE H
 ·have w3:(List.map (vi) tl).length = tl.length:=List.length_map ..
  have i4:((↑(List.map (vi) tl).length:Int) != n) = true ↔ (¬(↑tl.length:Int) = n):=(by (try rw [w3]);all_goals exact i_ne)
  rcases xq H with ⟨d5,H⟩|⟨d5,H⟩
  ·exact ZaC (G:=Zad kp24 [] []) 1000 [false,true] (k:=((atC (cd Try.f24) [1,1,0,1,0,1])).tail) (env':=[(6,AV.vnil),(7,vi 0),(8,vi 1)]) (L':=[]) (asm:=[(Sp.vd n ps != 0) == false,((↑(List.map (vi) tl).length:Int) != n) == true]) (eqs:=[]) (calls:=[]) (tu [AV.vnil,vi 0,vi 1]) (by kernel_rfl) (by kernel_rfl) (Zaf (Zal (fun h => d2 (i_ne.1 h))) (Zaf (Zap (i4.2 d5)) Zah)) Zam ZaE H
  ·rcases xq H with ⟨d7,H⟩|⟨d7,H⟩
   ·exact ZaC (G:=Zad kp24 [] []) 1000 [false,false,true] (k:=((atC (cd Try.f24) [1,1,1,0,1,0,1])).tail) (env':=[(6,AV.vnil),(7,vi 0),(8,vi 3)]) (L':=[]) (asm:=[(Sp.vd n ps != 0) == false,((↑(List.map (vi) tl).length:Int) != n) == false,(decide (n > 16)) == true]) (eqs:=[]) (calls:=[]) (tu [AV.vnil,vi 0,vi 3]) (by kernel_rfl) (by kernel_rfl) (Zaf (Zal (fun h => d2 (i_ne.1 h))) (Zaf (Zal (fun h => d5 (i4.1 h))) (Zaf (Zap (Zaa.2 d7)) Zah))) Zam ZaE H
   ·refine Zab (G:=Zad kp24 [(8,2,.call (tu [vf (List.map (vi) (Sp.ordL n ps)),vi (Sp.ZeJ n ps)]) none)] []) 17 [false,false,false] ⟨(atC (cd Try.f24) [1,1,1,1,0,1,1]),[(0,vi n),(1,AV.vec g 2 (List.map Pr.v ps)),(2,AV.vec f 1 (List.map (vi) tl)),(11,vi (Sp.ZeJ n ps)),(43,vb (Sp.ZeJ n ps != 0))],[],_,[],_⟩ (by kernel_rfl) (bc (Zal (fun h => d2 (i_ne.1 h))) (bc (Zal (fun h => d5 (i4.1 h))) (bc (Zal (fun h => d7 (Zaa.1 h))) b0))) q0 (ce (@ev20 (n) (g) (ps)) c0) ?_
    rcases xq H with ⟨d9,H⟩|⟨d9,H⟩
    ·exact ZaC (G:=Zad kp24 [] []) 1000 [true] (k:=((atC (cd Try.f24) [1,1,1,1,0,1,1,0,1])).tail) (env':=[(6,AV.vnil),(7,vi 0),(8,vi (Sp.ZeJ n ps))]) (L':=[]) (asm:=[(Sp.ZeJ n ps != 0) == true]) (eqs:=[]) (calls:=[]) (tu [AV.vnil,vi 0,vi (Sp.ZeJ n ps)]) (by kernel_rfl) (by kernel_rfl) (Zaf (Zap (i_ne.2 d9)) Zah) Zam ZaE H
    ·exact Zab (G:=Zad kp24 [] []) 3 [false] ⟨(atC (cd Try.f24) [1,1,1,1,1,0]),[(0,vi n),(1,AV.vec g 2 (List.map Pr.v ps)),(2,AV.vec f 1 (List.map (vi) tl)),(11,vi (Sp.ZeJ n ps)),(43,vb (Sp.ZeJ n ps != 0))],[],_,[],_⟩ (by kernel_rfl) (bc (Zal (fun h => d9 (i_ne.1 h))) b0) q0 c0 (H)
theorem zB0 (f g:Bool)  (Q:AV -> Heap -> Prop) (H :
  zB0a_at (f) (g) Q) :
 zB0_at f g Q:=by
 unfold zB0_at
 have w1:[] = List.map (vi) []:=rfl
 have w2:[] = List.map (vi) []:=rfl
 have w3:[] = List.map (vi) []:=rfl
 exact Zab (G:=Zad kp24 [] []) 1000 [] ⟨(atC (cd Try.f24) [1,1,1,1,1,1,0,1,0,0]),[(0,vi 0),(1,AV.vec g 2 []),(12,AV.ptr 0 0 0 0),(56,vi 0),(57,vi 0)],[⟨[ag [AV.row 1 0,AV.vec f 1 [],vi 0,AV.row 2 0]],4,0,false,false⟩,⟨[],1,0,false,true⟩,⟨[],1,0,false,true⟩],_,[],_⟩ (by kernel_rfl) (bc rfl (bc rfl b0)) q0 c0 (by (try rw [w1]);all_goals exact H)
theorem zB0a (f g:Bool)  (Q:AV -> Heap -> Prop) (H :
  zB0b_at (f) (g) Q) :
 zB0a_at f g Q:=by
 unfold zB0a_at
 have w1:[] = List.map (vi) []:=rfl
 have w2:[] = List.map (vi) []:=rfl
 exact Zab (G:=Zad kp24 [] []) 1000 [false] ⟨(atC (cd Try.f24) [1,1,1,1,1,1,1,0,1,0,0]),[(0,vi 0),(12,AV.ptr 0 0 0 0),(68,AV.vec g 2 []),(69,vi 0),(70,vi 0)],[⟨[ag [AV.row 1 0,AV.vec f 1 [],vi 0,AV.row 2 0]],4,0,false,false⟩,⟨[],1,0,false,true⟩,⟨[],1,0,false,true⟩],_,[],_⟩ (by kernel_rfl) (bc rfl b0) q0 c0 (by (try rw [w1]);all_goals exact H)
theorem zB0b (f g:Bool)  (Q:AV -> Heap -> Prop) (H :
  zB0c_at (f) Q) :
 zB0b_at f g Q:=by
 unfold zB0b_at
 have w1:[] = List.map (vi) []:=rfl
 have w2:[] = List.map (vi) []:=rfl
 exact Zab (G:=Zad kp24 [] []) 1000 [false] ⟨(atC (cd Try.f24) [1,1,1,1,1,1,1,1,1,1,0,1,0,0]),[(0,vi 0),(12,AV.ptr 0 0 0 0),(16,AV.vnil),(17,vi 0),(18,vi 0),(19,vi (-1))],[⟨[ag [AV.row 1 0,AV.vec f 1 [],vi 0,AV.row 2 0]],4,0,false,false⟩,⟨[],1,0,false,true⟩,⟨[],1,0,false,true⟩],_,[],_⟩ (by kernel_rfl) (bc rfl b0) q0 c0 (by (try rw [w1]);all_goals exact H)
theorem zB0c (f:Bool)  (Q:AV -> Heap -> Prop) (H :
  Q (tu [AV.vnil,vi 0,vi 0]) [{ elems:=[ag [AV.row 1 0,AV.vec f 1 [],vi 0,AV.row 2 0]],es:=4,ver:=0,frozen:=false,clean:=false },{ elems:=[],es:=1,ver:=0,frozen:=false,clean:=true },{ elems:=[],es:=1,ver:=0,frozen:=false,clean:=true }]) :
 zB0c_at f Q:=by
 unfold zB0c_at
 exact ZaC (G:=Zad kp24 [] []) 1000 [false] (k:=((atC (cd Try.f24) [1,1,1,1,1,1,1,1,1,1,1,1])).tail) (env':=[(6,AV.vnil),(7,vi 0),(8,vi 0)]) (L':=[⟨[ag [AV.row 1 0,AV.vec f 1 [],vi 0,AV.row 2 0]],4,0,false,false⟩,⟨[],1,0,false,true⟩,⟨[],1,0,false,true⟩]) (asm:=[true,false == false]) (eqs:=[]) (calls:=[]) (tu [AV.vnil,vi 0,vi 0]) (by kernel_rfl) (by kernel_rfl) (Zaf rfl (Zaf rfl Zah)) Zam ZaE H
theorem zBi (f g:Bool) (ps:List Pr) (tl nd:List Int) (n w:Int) (C:List AV) (R:Heap)  (Q:AV -> Heap -> Prop) (H :
  zBA0_at (f) (g) (ps) (tl) (nd) (n) (w) (C) (R) ((↑C.length:Int)) (0) Q) :
 zBi_at f g ps tl nd n w C R Q:=by
 unfold zBi_at
 exact Zab (G:=Zad kp24 [] []) 1000 [] ⟨(atC (cd Try.f24) [1,1,1,1,1,1,0,1,0,0]),[(0,vi n),(1,AV.vec g 2 (List.map Pr.v ps)),(12,AV.ptr 0 0 0 0),(56,vi (↑C.length:Int)),(57,vi 0)],⟨[ag [AV.row 1 0,AV.vec f 1 (List.map (vi) tl),vi w,AV.row 2 0]],4,0,false,false⟩ :: ⟨List.map (vi) nd,1,0,false,true⟩ :: ⟨C,1,0,false,true⟩ :: R,_,[],_⟩ (by kernel_rfl) (bc rfl (bc rfl b0)) q0 c0 (H)
theorem zBA0 (f g:Bool) (ps:List Pr) (tl nd:List Int) (n w:Int) (C:List AV) (R:Heap) (m i:Int)  (Q:AV -> Heap -> Prop) (H :
  ((i < m) -> (0 <= n) /\
   (-9223372036854775808 <= (1:Int) * 2 ^ min n.toNat IntKind.i64.bits /\ (1:Int) * 2 ^ min n.toNat IntKind.i64.bits <= 9223372036854775807) /\
   (0 <= (1:Int) * 2 ^ min n.toNat IntKind.i64.bits) /\
   ((1:Int) * 2 ^ min n.toNat IntKind.i64.bits * 8 <= 1099511627776) /\
   ((1:Int) * 2 ^ min n.toNat IntKind.i64.bits <= 1099511627776) /\
   (0 <= i) /\
   (i.toNat < C.length) /\
   (C.get?Internal i.toNat = some AV.vnil) /\
   (-9223372036854775808 <= i + 1 /\ i + 1 <= 9223372036854775807) /\
   zBA_at (f) (g) (ps) (tl) (nd) (n) (w) (C.set i.toNat (AV.row (List.length R + 1 + 1 + 1) 0)) (List.append R [{ elems:=List.replicate ((1:Int) * 2 ^ min n.toNat IntKind.i64.bits).toNat (ofC (Value.int IntKind.i64 0)),es:=((fun x => Try.prog) ()).types[3].size,ver:=0,frozen:=false,clean:=true }]) (m) (i + 1) Q) /\
  (¬(i < m) -> Wp M1 (.run fi24 (atC (cd Try.f24) [1,1,1,1,1,1,1,0,1,0,0]) [(0,vi n),(12,AV.ptr 0 0 0 0),(68,AV.vec g 2 (List.map Pr.v ps)),(69,vi (↑ps.length:Int)),(70,vi 0)] ({ elems:=[ag [AV.row 1 0,AV.vec f 1 (List.map (vi) tl),vi w,AV.row 2 0]],es:=4,ver:=0,frozen:=false,clean:=false } :: { elems:=List.map (vi) nd,es:=1,ver:=0,frozen:=false,clean:=true } :: { elems:=C,es:=1,ver:=0,frozen:=false,clean:=true } :: R)) Q)) :
 zBA0_at f g ps tl nd n w C R m i Q:=by
 unfold zBA0_at
 rcases xq H with ⟨d2,H⟩|⟨d2,H⟩
 ·obtain ⟨k4,k5,H⟩:=H
  have w6:wi ((1:Int) * 2 ^ min n.toNat IntKind.i64.bits) = (1:Int) * 2 ^ min n.toNat IntKind.i64.bits:=wI64 k5
  have i7:(decide (0 <= wi ((1:Int) * 2 ^ min n.toNat IntKind.i64.bits))) = true ↔ (0 <= (1:Int) * 2 ^ min n.toNat IntKind.i64.bits):=(by (try rw [w6]);all_goals exact Zaa)
  obtain ⟨k8,H⟩:=H
  have i9:(decide (wi ((1:Int) * 2 ^ min n.toNat IntKind.i64.bits) <= wi ((1:Int) * 2 ^ min n.toNat IntKind.i64.bits))) = true ↔ ((1:Int) * 2 ^ min n.toNat IntKind.i64.bits <= (1:Int) * 2 ^ min n.toNat IntKind.i64.bits):=(by (try rw [w6]);all_goals exact Zaa)
  have i10:(decide (wi ((1:Int) * 2 ^ min n.toNat IntKind.i64.bits) * 8 <= 1099511627776)) = true ↔ ((1:Int) * 2 ^ min n.toNat IntKind.i64.bits * 8 <= 1099511627776):=(by (try rw [w6]);all_goals exact Zaa)
  obtain ⟨k11,H⟩:=H
  have i12:(decide (wi ((1:Int) * 2 ^ min n.toNat IntKind.i64.bits) <= 1099511627776)) = true ↔ ((1:Int) * 2 ^ min n.toNat IntKind.i64.bits <= 1099511627776):=(by (try rw [w6]);all_goals exact Zaa)
  obtain ⟨k13,k15,k17,k18,k19,H⟩:=H
  have w20:wi (i + 1) = i + 1:=wI64 k19
  exact Zab (G:=Zad kp24 [(15,7,(.elem .vnil:Ans))] [(15,[4007,4006,500004005,2001])]) 1000 [true] ⟨(atC (cd Try.f24) [1,1,1,1,1,1,0,1,0,0]),[(0,vi n),(1,AV.vec g 2 (List.map Pr.v ps)),(12,AV.ptr 0 0 0 0),(56,vi m),(57,vi (wi (i + 1)))],⟨[ag [AV.row 1 0,AV.vec f 1 (List.map (vi) tl),vi w,AV.row 2 0]],4,0,false,false⟩ :: ⟨List.map (vi) nd,1,0,false,true⟩ :: ⟨C.set i.toNat (AV.row (List.length R + 1 + 1 + 1) 0),1,0,false,false⟩ :: List.append R [⟨List.replicate (wi ((1:Int) * 2 ^ min n.toNat IntKind.i64.bits)).toNat (ofC (Value.int IntKind.i64 0)),((fun x => Try.prog) ()).types[3].size,0,false,true⟩],[(decide (i < m)) == true,true,decide (0 <= n),decide (0 <= wi ((1:Int) * 2 ^ min n.toNat IntKind.i64.bits)),decide (wi ((1:Int) * 2 ^ min n.toNat IntKind.i64.bits) <= wi ((1:Int) * 2 ^ min n.toNat IntKind.i64.bits)),decide (wi ((1:Int) * 2 ^ min n.toNat IntKind.i64.bits) * 8 <= 1099511627776),decide (wi ((1:Int) * 2 ^ min n.toNat IntKind.i64.bits) <= 1099511627776),true,decide (0 <= i),decide (i.toNat < C.length),true],[(C.get?Internal i.toNat = some AV.vnil)],_⟩ (by kernel_rfl) (bc (Zap (Zaa.2 d2)) (bc rfl (bc (Zaa.2 k4) (bc (i7.2 k8) (bc (i9.2 (by omega)) (bc (i10.2 k11) (bc (i12.2 k13) (bc rfl (bc (Zaa.2 k15) (bc (Zaa.2 k17) (bc rfl b0))))))))))) (qc k18 q0) c0 (by (try rw [w6]);(try rw [w20]);all_goals exact H)
 ·have w21:(List.map Pr.v ps).length = ps.length:=List.length_map ..
  exact Zab (G:=Zad kp24 [] []) 1000 [false] ⟨(atC (cd Try.f24) [1,1,1,1,1,1,1,0,1,0,0]),[(0,vi n),(12,AV.ptr 0 0 0 0),(68,AV.vec g 2 (List.map Pr.v ps)),(69,vi (↑(List.map Pr.v ps).length:Int)),(70,vi 0)],⟨[ag [AV.row 1 0,AV.vec f 1 (List.map (vi) tl),vi w,AV.row 2 0]],4,0,false,false⟩ :: ⟨List.map (vi) nd,1,0,false,true⟩ :: ⟨C,1,0,false,true⟩ :: R,_,[],_⟩ (by kernel_rfl) (bc (Zal (fun h => d2 (Zaa.1 h))) b0) q0 c0 (by (try rw [w21]);all_goals exact H)
theorem zBA (f g:Bool) (ps:List Pr) (tl nd:List Int) (n w:Int) (C:List AV) (R:Heap) (m i:Int)  (Q:AV -> Heap -> Prop) (H :
  ((i < m) -> (0 <= n) /\
   (-9223372036854775808 <= (1:Int) * 2 ^ min n.toNat IntKind.i64.bits /\ (1:Int) * 2 ^ min n.toNat IntKind.i64.bits <= 9223372036854775807) /\
   (0 <= (1:Int) * 2 ^ min n.toNat IntKind.i64.bits) /\
   ((1:Int) * 2 ^ min n.toNat IntKind.i64.bits * 8 <= 1099511627776) /\
   ((1:Int) * 2 ^ min n.toNat IntKind.i64.bits <= 1099511627776) /\
   (0 <= i) /\
   (i.toNat < C.length) /\
   (C.get?Internal i.toNat = some AV.vnil) /\
   (-9223372036854775808 <= i + 1 /\ i + 1 <= 9223372036854775807) /\
   zBA_at (f) (g) (ps) (tl) (nd) (n) (w) (C.set i.toNat (AV.row (List.length R + 1 + 1 + 1) 0)) (List.append R [{ elems:=List.replicate ((1:Int) * 2 ^ min n.toNat IntKind.i64.bits).toNat (ofC (Value.int IntKind.i64 0)),es:=((fun x => Try.prog) ()).types[3].size,ver:=0,frozen:=false,clean:=true }]) (m) (i + 1) Q) /\
  (¬(i < m) -> Zfa (f) (g) (ps) (tl) (nd) (n) (w) (C) (R) ((↑ps.length:Int)) (0) Q)) :
 zBA_at f g ps tl nd n w C R m i Q:=by
 unfold zBA_at
 rcases xq H with ⟨d2,H⟩|⟨d2,H⟩
 ·obtain ⟨k4,k5,H⟩:=H
  have w6:wi ((1:Int) * 2 ^ min n.toNat IntKind.i64.bits) = (1:Int) * 2 ^ min n.toNat IntKind.i64.bits:=wI64 k5
  have i7:(decide (0 <= wi ((1:Int) * 2 ^ min n.toNat IntKind.i64.bits))) = true ↔ (0 <= (1:Int) * 2 ^ min n.toNat IntKind.i64.bits):=(by (try rw [w6]);all_goals exact Zaa)
  obtain ⟨k8,H⟩:=H
  have i9:(decide (wi ((1:Int) * 2 ^ min n.toNat IntKind.i64.bits) <= wi ((1:Int) * 2 ^ min n.toNat IntKind.i64.bits))) = true ↔ ((1:Int) * 2 ^ min n.toNat IntKind.i64.bits <= (1:Int) * 2 ^ min n.toNat IntKind.i64.bits):=(by (try rw [w6]);all_goals exact Zaa)
  have i10:(decide (wi ((1:Int) * 2 ^ min n.toNat IntKind.i64.bits) * 8 <= 1099511627776)) = true ↔ ((1:Int) * 2 ^ min n.toNat IntKind.i64.bits * 8 <= 1099511627776):=(by (try rw [w6]);all_goals exact Zaa)
  obtain ⟨k11,H⟩:=H
  have i12:(decide (wi ((1:Int) * 2 ^ min n.toNat IntKind.i64.bits) <= 1099511627776)) = true ↔ ((1:Int) * 2 ^ min n.toNat IntKind.i64.bits <= 1099511627776):=(by (try rw [w6]);all_goals exact Zaa)
  obtain ⟨k13,k15,k17,k18,k19,H⟩:=H
  have w20:wi (i + 1) = i + 1:=wI64 k19
  exact Zab (G:=Zad kp24 [(15,7,(.elem .vnil:Ans))] [(15,[4007,4006,500004005,2001])]) 1000 [true] ⟨(atC (cd Try.f24) [1,1,1,1,1,1,0,1,0,0]),[(0,vi n),(1,AV.vec g 2 (List.map Pr.v ps)),(12,AV.ptr 0 0 0 0),(56,vi m),(57,vi (wi (i + 1)))],⟨[ag [AV.row 1 0,AV.vec f 1 (List.map (vi) tl),vi w,AV.row 2 0]],4,0,false,false⟩ :: ⟨List.map (vi) nd,1,0,false,true⟩ :: ⟨C.set i.toNat (AV.row (List.length R + 1 + 1 + 1) 0),1,0,false,false⟩ :: List.append R [⟨List.replicate (wi ((1:Int) * 2 ^ min n.toNat IntKind.i64.bits)).toNat (ofC (Value.int IntKind.i64 0)),((fun x => Try.prog) ()).types[3].size,0,false,true⟩],[(decide (i < m)) == true,true,decide (0 <= n),decide (0 <= wi ((1:Int) * 2 ^ min n.toNat IntKind.i64.bits)),decide (wi ((1:Int) * 2 ^ min n.toNat IntKind.i64.bits) <= wi ((1:Int) * 2 ^ min n.toNat IntKind.i64.bits)),decide (wi ((1:Int) * 2 ^ min n.toNat IntKind.i64.bits) * 8 <= 1099511627776),decide (wi ((1:Int) * 2 ^ min n.toNat IntKind.i64.bits) <= 1099511627776),true,decide (0 <= i),decide (i.toNat < C.length),true],[(C.get?Internal i.toNat = some AV.vnil)],_⟩ (by kernel_rfl) (bc (Zap (Zaa.2 d2)) (bc rfl (bc (Zaa.2 k4) (bc (i7.2 k8) (bc (i9.2 (by omega)) (bc (i10.2 k11) (bc (i12.2 k13) (bc rfl (bc (Zaa.2 k15) (bc (Zaa.2 k17) (bc rfl b0))))))))))) (qc k18 q0) c0 (by (try rw [w6]);(try rw [w20]);all_goals exact H)
 ·have w21:(List.map Pr.v ps).length = ps.length:=List.length_map ..
  exact Zab (G:=Zad kp24 [] []) 1000 [false] ⟨(atC (cd Try.f24) [1,1,1,1,1,1,1,0,1,0,0]),[(0,vi n),(12,AV.ptr 0 0 0 0),(68,AV.vec g 2 (List.map Pr.v ps)),(69,vi (↑(List.map Pr.v ps).length:Int)),(70,vi 0)],⟨[ag [AV.row 1 0,AV.vec f 1 (List.map (vi) tl),vi w,AV.row 2 0]],4,0,false,false⟩ :: ⟨List.map (vi) nd,1,0,false,true⟩ :: ⟨C,1,0,false,false⟩ :: R,_,[],_⟩ (by kernel_rfl) (bc (Zal (fun h => d2 (Zaa.1 h))) b0) q0 c0 (by (try rw [w21]);all_goals exact H)
theorem zBB (f g:Bool) (ps:List Pr) (tl nd:List Int) (n w:Int) (C:List AV) (R:Heap) (m i:Int)  (Q:AV -> Heap -> Prop) (H :
  ((i < m) -> Wp M1 (.run fi24 (atC (cd Try.f24) [1,1,1,1,1,1,1,0,1,0,0,1,1,0,0,0]) [(0,vi n),(12,AV.ptr 0 0 0 0),(68,AV.vec g 2 (List.map Pr.v ps)),(69,vi m),(70,vi i),(71,vb (decide (i < m)))] ({ elems:=[ag [AV.row 1 0,AV.vec f 1 (List.map (vi) tl),vi w,AV.row 2 0]],es:=4,ver:=0,frozen:=false,clean:=false } :: { elems:=List.map (vi) nd,es:=1,ver:=0,frozen:=false,clean:=true } :: { elems:=C,es:=1,ver:=0,frozen:=false,clean:=false } :: R)) Q) /\
  (¬(i < m) -> zCN_at (f) (tl) (nd) (w) (n) (C) (R) (0) (0) (-1) Q)) :
 Zfa f g ps tl nd n w C R m i Q:=by
 unfold Zfa
 rcases xq H with ⟨d2,H⟩|⟨d2,H⟩
 ·exact Zab (G:=Zad kp24 [] []) 8 [true] ⟨(atC (cd Try.f24) [1,1,1,1,1,1,1,0,1,0,0,1,1,0,0,0]),[(0,vi n),(12,AV.ptr 0 0 0 0),(68,AV.vec g 2 (List.map Pr.v ps)),(69,vi m),(70,vi i),(71,vb (decide (i < m)))],⟨[ag [AV.row 1 0,AV.vec f 1 (List.map (vi) tl),vi w,AV.row 2 0]],4,0,false,false⟩ :: ⟨List.map (vi) nd,1,0,false,true⟩ :: ⟨C,1,0,false,false⟩ :: R,_,[],_⟩ (by kernel_rfl) (bc (Zap (Zaa.2 d2)) b0) q0 c0 (H)
 ·exact Zab (G:=Zad kp24 [] []) 1000 [false] ⟨(atC (cd Try.f24) [1,1,1,1,1,1,1,1,1,1,0,1,0,0]),[(0,vi n),(12,AV.ptr 0 0 0 0),(16,AV.vnil),(17,vi 0),(18,vi 0),(19,vi (-1))],⟨[ag [AV.row 1 0,AV.vec f 1 (List.map (vi) tl),vi w,AV.row 2 0]],4,0,false,false⟩ :: ⟨List.map (vi) nd,1,0,false,true⟩ :: ⟨C,1,0,false,false⟩ :: R,_,[],_⟩ (by kernel_rfl) (bc (Zal (fun h => d2 (Zaa.1 h))) b0) q0 c0 (H)
theorem zBP (f g:Bool) (ps:List Pr) (tl nd:List Int) (n w:Int) (C:List AV) (R:Heap) (m i:Int) (p:Pr)  (Q:AV -> Heap -> Prop) (H :
  (0 <= p.b) /\
  (p.b.toNat < nd.length) /\
  (0 <= p.a) /\
  (-9223372036854775808 <= (1:Int) * 2 ^ min p.a.toNat IntKind.i64.bits /\ (1:Int) * 2 ^ min p.a.toNat IntKind.i64.bits <= 9223372036854775807) /\
  (-9223372036854775808 <= (↑(BitVec.ofInt IntKind.i64.bits (nd.getD p.b.toNat default) ||| BitVec.ofInt IntKind.i64.bits ((1:Int) * 2 ^ min p.a.toNat IntKind.i64.bits)).toNat:Int) /\ (↑(BitVec.ofInt IntKind.i64.bits (nd.getD p.b.toNat default) ||| BitVec.ofInt IntKind.i64.bits ((1:Int) * 2 ^ min p.a.toNat IntKind.i64.bits)).toNat:Int) <= 9223372036854775807) /\
  (-9223372036854775808 <= i + 1 /\ i + 1 <= 9223372036854775807) /\
  Zfa (f) (g) (ps) (tl) (nd.set p.b.toNat (↑(BitVec.ofInt IntKind.i64.bits (nd.getD p.b.toNat default) ||| BitVec.ofInt IntKind.i64.bits ((1:Int) * 2 ^ min p.a.toNat IntKind.i64.bits)).toNat:Int)) (n) (w) (C) ({ elems:=[ag [vi p.a,vi p.b]],es:=2,ver:=0,frozen:=false,clean:=false } :: R) (m) (i + 1) Q) :
 zBP_at f g ps tl nd n w C R m i p Q:=by
 unfold zBP_at
 obtain ⟨k2,H⟩:=H
 have w3:(List.map (vi) nd).length = nd.length:=List.length_map ..
 have i4:(decide (p.b.toNat < (List.map (vi) nd).length)) = true ↔ (p.b.toNat < nd.length):=(by (try rw [w3]);all_goals exact Zaa)
 obtain ⟨k5,k7,H⟩:=H
 have i9:(decide (p.b.toNat < (List.map (vi) nd).length)) = true ↔ (p.b.toNat < nd.length):=(by (try rw [w3]);all_goals exact Zaa)
 obtain ⟨k10,H⟩:=H
 have w11:wi ((1:Int) * 2 ^ min p.a.toNat IntKind.i64.bits) = (1:Int) * 2 ^ min p.a.toNat IntKind.i64.bits:=wI64 k10
 obtain ⟨k12,H⟩:=H
 have w13:wi (↑(BitVec.ofInt IntKind.i64.bits (nd.getD p.b.toNat default) ||| BitVec.ofInt IntKind.i64.bits ((1:Int) * 2 ^ min p.a.toNat IntKind.i64.bits)).toNat:Int) = (↑(BitVec.ofInt IntKind.i64.bits (nd.getD p.b.toNat default) ||| BitVec.ofInt IntKind.i64.bits ((1:Int) * 2 ^ min p.a.toNat IntKind.i64.bits)).toNat:Int):=wI64 k12
 have w14:(List.map (vi) nd).set p.b.toNat (vi (↑(BitVec.ofInt IntKind.i64.bits (nd.getD p.b.toNat default) ||| BitVec.ofInt IntKind.i64.bits ((1:Int) * 2 ^ min p.a.toNat IntKind.i64.bits)).toNat:Int)) = List.map (vi) (nd.set p.b.toNat (↑(BitVec.ofInt IntKind.i64.bits (nd.getD p.b.toNat default) ||| BitVec.ofInt IntKind.i64.bits ((1:Int) * 2 ^ min p.a.toNat IntKind.i64.bits)).toNat:Int)):=(Zdr rfl rfl)
 obtain ⟨k15,H⟩:=H
 have w16:wi (i + 1) = i + 1:=wI64 k15
 exact Zab (G:=Zad kp24 [(20,5,.elem (vi (nd.getD p.b.toNat default))),(20,11,.elem (vi (nd.getD p.b.toNat default)))] []) 1000 [] ⟨(atC (cd Try.f24) [1,1,1,1,1,1,1,0,1,0,0]),[(0,vi n),(12,AV.ptr 0 0 0 0),(68,AV.vec g 2 (List.map Pr.v ps)),(69,vi m),(70,vi (wi (i + 1)))],⟨[ag [AV.row 1 0,AV.vec f 1 (List.map (vi) tl),vi w,AV.row 2 0]],4,0,false,false⟩ :: ⟨(List.map (vi) nd).set p.b.toNat (vi (wi (↑(BitVec.ofInt IntKind.i64.bits (nd.getD p.b.toNat default) ||| BitVec.ofInt IntKind.i64.bits (wi ((1:Int) * 2 ^ min p.a.toNat IntKind.i64.bits))).toNat:Int))),1,0,false,true⟩ :: ⟨C,1,0,false,false⟩ :: ⟨[ag [vi p.a,vi p.b]],2,0,false,false⟩ :: R,_,[((List.map (vi) nd).get?Internal p.b.toNat = some (vi (nd.getD p.b.toNat default))),((List.map (vi) nd).get?Internal p.b.toNat = some (vi (nd.getD p.b.toNat default)))],_⟩ (by kernel_rfl) (bc rfl (bc rfl (bc rfl (bc rfl (bc rfl (bc (Zaa.2 k2) (bc (i4.2 k5) (bc rfl (bc rfl (bc rfl (bc rfl (bc (Zaa.2 k7) (bc rfl (bc (Zaa.2 k2) (bc (i9.2 k5) (bc rfl b0)))))))))))))))) (qc (Zat k5) (qc (Zat k5) q0)) c0 (by (try rw [w11]);(try rw [w13]);(try rw [w14]);(try rw [w16]);all_goals exact H)
theorem zCN (f:Bool) (tl nd:List Int) (w n:Int) (C:List AV) (R:Heap) (ch s t:Int)  (Q:AV -> Heap -> Prop) (H :
  ((¬s = w) -> ZeH (f) (tl) (nd) (w) (n) (C) (R) (ch) (s) (t) (-1) (0) (n) (0) Q) /\
  (¬(¬s = w) -> Q (tu [AV.vnil,vi ch,vi 0]) ({ elems:=[ag [AV.row 1 0,AV.vec f 1 (List.map (vi) tl),vi w,AV.row 2 0]],es:=4,ver:=0,frozen:=false,clean:=false } :: { elems:=List.map (vi) nd,es:=1,ver:=0,frozen:=false,clean:=true } :: { elems:=C,es:=1,ver:=0,frozen:=false,clean:=false } :: R))) :
 zCN_at f tl nd w n C R ch s t Q:=by
 unfold zCN_at
 rcases xq H with ⟨d2,H⟩|⟨d2,H⟩
 ·exact Zab (G:=Zad kp24 [] []) 1000 [true] ⟨(atC (cd Try.f24) [1,1,1,1,1,1,1,1,1,1,0,1,0,0,1,0,1,0,1,0,0]),[(0,vi n),(12,AV.ptr 0 0 0 0),(16,AV.vnil),(17,vi ch),(18,vi s),(19,vi t),(20,vi (-1)),(21,vi 0),(90,vi n),(91,vi 0)],⟨[ag [AV.row 1 0,AV.vec f 1 (List.map (vi) tl),vi w,AV.row 2 0]],4,0,false,false⟩ :: ⟨List.map (vi) nd,1,0,false,true⟩ :: ⟨C,1,0,false,false⟩ :: R,_,[],_⟩ (by kernel_rfl) (bc rfl (bc (Zap (i_ne.2 d2)) b0)) q0 c0 (H)
 ·exact ZaC (G:=Zad kp24 [] []) 1000 [false] (k:=((atC (cd Try.f24) [1,1,1,1,1,1,1,1,1,1,1,1])).tail) (env':=[(6,AV.vnil),(7,vi ch),(8,vi 0)]) (L':=⟨[ag [AV.row 1 0,AV.vec f 1 (List.map (vi) tl),vi w,AV.row 2 0]],4,0,false,false⟩ :: ⟨List.map (vi) nd,1,0,false,true⟩ :: ⟨C,1,0,false,false⟩ :: R) (asm:=[true,(s != w) == false]) (eqs:=[]) (calls:=[]) (tu [AV.vnil,vi ch,vi 0]) (by kernel_rfl) (by kernel_rfl) (Zaf rfl (Zaf (Zal (fun h => d2 (i_ne.1 h))) Zah)) Zam ZaE H
noncomputable abbrev zPyB1 (f:Bool) (tl:List Int) (w:Int):=ag [AV.row 1 0,AV.vec f 1 (List.map vi tl),vi w,AV.row 2 0]
theorem zDN (f:Bool) (tl nd:List Int) (w n:Int) (C:List AV) (R:Heap) (ch s t:Int) (b l m i:Int)  (Q:AV -> Heap -> Prop) (H :
  ((i < m) -> Wp M1 (.run fi24 (atC (cd Try.f24) [1,1,1,1,1,1,1,1,1,1,0,1,0,0,1,0,1,0,1,0,0,1,1,0,0,1,0,0]) [(0,vi n),(12,AV.ptr 0 0 0 0),(16,AV.vnil),(17,vi ch),(18,vi s),(19,vi t),(20,vi b),(21,vi l),(22,vi i),(90,vi m),(91,vi i)] ({ elems:=[ag [AV.row 1 0,AV.vec f 1 (List.map (vi) tl),vi w,AV.row 2 0]],es:=4,ver:=0,frozen:=false,clean:=false } :: { elems:=List.map (vi) nd,es:=1,ver:=0,frozen:=false,clean:=true } :: { elems:=C,es:=1,ver:=0,frozen:=false,clean:=false } :: R)) Q) /\
  (¬(i < m) -> ((t < 0) -> (0 <= b) /\
    (-9223372036854775808 <= (1:Int) * 2 ^ min b.toNat IntKind.i64.bits /\ (1:Int) * 2 ^ min b.toNat IntKind.i64.bits <= 9223372036854775807) /\
    (-9223372036854775808 <= (↑(BitVec.ofInt IntKind.i64.bits s ||| BitVec.ofInt IntKind.i64.bits ((1:Int) * 2 ^ min b.toNat IntKind.i64.bits)).toNat:Int) /\ (↑(BitVec.ofInt IntKind.i64.bits s ||| BitVec.ofInt IntKind.i64.bits ((1:Int) * 2 ^ min b.toNat IntKind.i64.bits)).toNat:Int) <= 9223372036854775807) /\
    Wp M1 (.run fi24 (atC (cd Try.f24) [1,1,1,1,1,1,1,1,1,1,0,1,0,0]) [(0,vi n),(12,AV.ptr 0 0 0 0),(16,AV.row (List.length R + 1 + 1 + 1) 0),(17,vi l),(18,vi (↑(BitVec.ofInt IntKind.i64.bits s ||| BitVec.ofInt IntKind.i64.bits ((1:Int) * 2 ^ min b.toNat IntKind.i64.bits)).toNat:Int)),(19,vi b)] ({ elems:=[ag [AV.row 1 0,AV.vec f 1 (List.map (vi) tl),vi w,AV.row 2 0]],es:=4,ver:=0,frozen:=false,clean:=false } :: { elems:=List.map (vi) nd,es:=1,ver:=0,frozen:=false,clean:=true } :: { elems:=C,es:=1,ver:=0,frozen:=false,clean:=false } :: List.append R [{ elems:=[vi b],es:=((fun x => Try.prog) ()).types[3].size,ver:=0,frozen:=false,clean:=true }])) Q) /\
   (¬(t < 0) -> (0 <= b) /\
    (-9223372036854775808 <= (1:Int) * 2 ^ min b.toNat IntKind.i64.bits /\ (1:Int) * 2 ^ min b.toNat IntKind.i64.bits <= 9223372036854775807) /\
    (-9223372036854775808 <= (↑(BitVec.ofInt IntKind.i64.bits s ||| BitVec.ofInt IntKind.i64.bits ((1:Int) * 2 ^ min b.toNat IntKind.i64.bits)).toNat:Int) /\ (↑(BitVec.ofInt IntKind.i64.bits s ||| BitVec.ofInt IntKind.i64.bits ((1:Int) * 2 ^ min b.toNat IntKind.i64.bits)).toNat:Int) <= 9223372036854775807) /\
    Wp M1 (.run fi24 (atC (cd Try.f24) [1,1,1,1,1,1,1,1,1,1,0,1,0,0]) [(0,vi n),(12,AV.ptr 0 0 0 0),(16,AV.row (List.length R + 1 + 1 + 1) 0),(17,vi ch),(18,vi (↑(BitVec.ofInt IntKind.i64.bits s ||| BitVec.ofInt IntKind.i64.bits ((1:Int) * 2 ^ min b.toNat IntKind.i64.bits)).toNat:Int)),(19,vi b)] ({ elems:=[ag [AV.row 1 0,AV.vec f 1 (List.map (vi) tl),vi w,AV.row 2 0]],es:=4,ver:=0,frozen:=false,clean:=false } :: { elems:=List.map (vi) nd,es:=1,ver:=0,frozen:=false,clean:=true } :: { elems:=C,es:=1,ver:=0,frozen:=false,clean:=false } :: List.append R [{ elems:=[vi b],es:=((fun x => Try.prog) ()).types[3].size,ver:=0,frozen:=false,clean:=true }])) Q))) :
 ZeH f tl nd w n C R ch s t b l m i Q:=by
 unfold ZeH
 rcases xq H with ⟨d2,H⟩|⟨d2,H⟩
 ·exact Zab (G:=Zad kp24 [] []) 11 [true] ⟨(atC (cd Try.f24) [1,1,1,1,1,1,1,1,1,1,0,1,0,0,1,0,1,0,1,0,0,1,1,0,0,1,0,0]),[(0,vi n),(12,AV.ptr 0 0 0 0),(16,AV.vnil),(17,vi ch),(18,vi s),(19,vi t),(20,vi b),(21,vi l),(22,vi i),(90,vi m),(91,vi i)],⟨[(zPyB1 f tl w)],4,0,false,false⟩ :: ⟨List.map (vi) nd,1,0,false,true⟩ :: ⟨C,1,0,false,false⟩ :: R,_,[],_⟩ (by kernel_rfl) (bc (Zap (Zaa.2 d2)) b0) q0 c0 (H)
 ·rcases xq H with ⟨d4,H⟩|⟨d4,H⟩
  ·obtain ⟨k6,k7,H⟩:=H
   have w8:wi ((1:Int) * 2 ^ min b.toNat IntKind.i64.bits) = (1:Int) * 2 ^ min b.toNat IntKind.i64.bits:=wI64 k7
   obtain ⟨k9,H⟩:=H
   have w10:wi (↑(BitVec.ofInt IntKind.i64.bits s ||| BitVec.ofInt IntKind.i64.bits ((1:Int) * 2 ^ min b.toNat IntKind.i64.bits)).toNat:Int) = (↑(BitVec.ofInt IntKind.i64.bits s ||| BitVec.ofInt IntKind.i64.bits ((1:Int) * 2 ^ min b.toNat IntKind.i64.bits)).toNat:Int):=wI64 k9
   exact Zab (G:=Zad kp24 [] []) 1000 [false,true] ⟨(atC (cd Try.f24) [1,1,1,1,1,1,1,1,1,1,0,1,0,0]),[(0,vi n),(12,AV.ptr 0 0 0 0),(16,AV.row (List.length R + 1 + 1 + 1) 0),(17,vi l),(18,vi (wi (↑(BitVec.ofInt IntKind.i64.bits s ||| BitVec.ofInt IntKind.i64.bits (wi ((1:Int) * 2 ^ min b.toNat IntKind.i64.bits))).toNat:Int))),(19,vi b)],⟨[(zPyB1 f tl w)],4,0,false,false⟩ :: ⟨List.map (vi) nd,1,0,false,true⟩ :: ⟨C,1,0,false,false⟩ :: List.append R [⟨[vi b],((fun x => Try.prog) ()).types[3].size,0,false,true⟩],_,[],_⟩ (by kernel_rfl) (bc (Zal (fun h => d2 (Zaa.1 h))) (bc (Zap (Zaa.2 d4)) (bc rfl (bc (Zaa.2 k6) b0)))) q0 c0 (by (try rw [w8]);(try rw [w10]);all_goals exact H)
  ·obtain ⟨k12,k13,H⟩:=H
   have w14:wi ((1:Int) * 2 ^ min b.toNat IntKind.i64.bits) = (1:Int) * 2 ^ min b.toNat IntKind.i64.bits:=wI64 k13
   obtain ⟨k15,H⟩:=H
   have w16:wi (↑(BitVec.ofInt IntKind.i64.bits s ||| BitVec.ofInt IntKind.i64.bits ((1:Int) * 2 ^ min b.toNat IntKind.i64.bits)).toNat:Int) = (↑(BitVec.ofInt IntKind.i64.bits s ||| BitVec.ofInt IntKind.i64.bits ((1:Int) * 2 ^ min b.toNat IntKind.i64.bits)).toNat:Int):=wI64 k15
   exact Zab (G:=Zad kp24 [] []) 1000 [false,false] ⟨(atC (cd Try.f24) [1,1,1,1,1,1,1,1,1,1,0,1,0,0]),[(0,vi n),(12,AV.ptr 0 0 0 0),(16,AV.row (List.length R + 1 + 1 + 1) 0),(17,vi ch),(18,vi (wi (↑(BitVec.ofInt IntKind.i64.bits s ||| BitVec.ofInt IntKind.i64.bits (wi ((1:Int) * 2 ^ min b.toNat IntKind.i64.bits))).toNat:Int))),(19,vi b)],⟨[(zPyB1 f tl w)],4,0,false,false⟩ :: ⟨List.map (vi) nd,1,0,false,true⟩ :: ⟨C,1,0,false,false⟩ :: List.append R [⟨[vi b],((fun x => Try.prog) ()).types[3].size,0,false,true⟩],_,[],_⟩ (by kernel_rfl) (bc (Zal (fun h => d2 (Zaa.1 h))) (bc (Zal (fun h => d4 (Zaa.1 h))) (bc rfl (bc (Zaa.2 k12) b0)))) q0 c0 (by (try rw [w14]);(try rw [w16]);all_goals exact H)
theorem zDoN (f:Bool) (tl nd:List Int) (w n:Int) (C:List AV) (R:Heap) (ch s t:Int) (b l m i:Int) (k:Int) (o:Bool)  (Q:AV -> Heap -> Prop) (H :
  ((o = true) -> (-9223372036854775808 <= i + 1 /\ i + 1 <= 9223372036854775807) /\
   ZeH (f) (tl) (nd) (w) (n) (C) (R) (ch) (s) (t) (b) (l) (m) (i + 1) Q) /\
  (¬(o = true) -> Wp M1 (.run fi24 (atC (cd Try.f24) [1,1,1,1,1,1,1,1,1,1,0,1,0,0,1,0,1,0,1,0,0,1,1,0,0,1,1,0]) [(0,vi n),(12,AV.ptr 0 0 0 0),(16,AV.vnil),(17,vi ch),(18,vi s),(19,vi t),(20,vi b),(21,vi l),(22,vi k),(90,vi m),(91,vi i),(97,vb o)] ({ elems:=[ag [AV.row 1 0,AV.vec f 1 (List.map (vi) tl),vi w,AV.row 2 0]],es:=4,ver:=0,frozen:=false,clean:=false } :: { elems:=List.map (vi) nd,es:=1,ver:=0,frozen:=false,clean:=true } :: { elems:=C,es:=1,ver:=0,frozen:=false,clean:=false } :: R)) Q)) :
 zDoN_at f tl nd w n C R ch s t b l m i k o Q:=by
 unfold zDoN_at
 rcases xq H with ⟨d2,H⟩|⟨d2,H⟩
 ·obtain ⟨k3,H⟩:=H
  have w4:wi (i + 1) = i + 1:=wI64 k3
  exact Zab (G:=Zad kp24 [] []) 1000 [true] ⟨(atC (cd Try.f24) [1,1,1,1,1,1,1,1,1,1,0,1,0,0,1,0,1,0,1,0,0]),[(0,vi n),(12,AV.ptr 0 0 0 0),(16,AV.vnil),(17,vi ch),(18,vi s),(19,vi t),(20,vi b),(21,vi l),(90,vi m),(91,vi (wi (i + 1)))],⟨[ag [AV.row 1 0,AV.vec f 1 (List.map (vi) tl),vi w,AV.row 2 0]],4,0,false,false⟩ :: ⟨List.map (vi) nd,1,0,false,true⟩ :: ⟨C,1,0,false,false⟩ :: R,[(o) == true],[],_⟩ (by kernel_rfl) (bc (Zap ((Zar _).2 d2)) b0) q0 c0 (by (try rw [w4]);all_goals exact H)
 ·exact Zab (G:=Zad kp24 [] []) 3 [false] ⟨(atC (cd Try.f24) [1,1,1,1,1,1,1,1,1,1,0,1,0,0,1,0,1,0,1,0,0,1,1,0,0,1,1,0]),[(0,vi n),(12,AV.ptr 0 0 0 0),(16,AV.vnil),(17,vi ch),(18,vi s),(19,vi t),(20,vi b),(21,vi l),(22,vi k),(90,vi m),(91,vi i),(97,vb o)],⟨[ag [AV.row 1 0,AV.vec f 1 (List.map (vi) tl),vi w,AV.row 2 0]],4,0,false,false⟩ :: ⟨List.map (vi) nd,1,0,false,true⟩ :: ⟨C,1,0,false,false⟩ :: R,[(o) == false],[],_⟩ (by kernel_rfl) (bc (Zal (fun h => d2 ((Zar _).1 h))) b0) q0 c0 (H)
theorem zDvN (f:Bool) (tl nd:List Int) (w n:Int) (C:List AV) (R:Heap) (ch s t:Int) (b l m i:Int) (k c:Int)  (Q:AV -> Heap -> Prop) (H :
  (((b < 0) \/ (c < l)) -> (-9223372036854775808 <= i + 1 /\ i + 1 <= 9223372036854775807) /\
   ZeH (f) (tl) (nd) (w) (n) (C) (R) (ch) (s) (t) (k) (c) (m) (i + 1) Q) /\
  (¬((b < 0) \/ (c < l)) -> (-9223372036854775808 <= i + 1 /\ i + 1 <= 9223372036854775807) /\
   ZeH (f) (tl) (nd) (w) (n) (C) (R) (ch) (s) (t) (b) (l) (m) (i + 1) Q)) :
 zDvN_at f tl nd w n C R ch s t b l m i k c Q:=by
 unfold zDvN_at
 rcases xq H with ⟨d2,H⟩|⟨d2,H⟩
 ·obtain ⟨k3,H⟩:=H
  have w4:wi (i + 1) = i + 1:=wI64 k3
  exact Zab (G:=Zad kp24 [] []) 1000 [true] ⟨(atC (cd Try.f24) [1,1,1,1,1,1,1,1,1,1,0,1,0,0,1,0,1,0,1,0,0]),[(0,vi n),(12,AV.ptr 0 0 0 0),(16,AV.vnil),(17,vi ch),(18,vi s),(19,vi t),(20,vi k),(21,vi c),(90,vi m),(91,vi (wi (i + 1)))],⟨[ag [AV.row 1 0,AV.vec f 1 (List.map (vi) tl),vi w,AV.row 2 0]],4,0,false,false⟩ :: ⟨List.map (vi) nd,1,0,false,true⟩ :: ⟨C,1,0,false,false⟩ :: R,_,[],_⟩ (by kernel_rfl) (bc (Zap ((Zb8 Zaa Zaa).2 d2)) b0) q0 c0 (by (try rw [w4]);all_goals exact H)
 ·obtain ⟨k5,H⟩:=H
  have w6:wi (i + 1) = i + 1:=wI64 k5
  exact Zab (G:=Zad kp24 [] []) 1000 [false] ⟨(atC (cd Try.f24) [1,1,1,1,1,1,1,1,1,1,0,1,0,0,1,0,1,0,1,0,0]),[(0,vi n),(12,AV.ptr 0 0 0 0),(16,AV.vnil),(17,vi ch),(18,vi s),(19,vi t),(20,vi b),(21,vi l),(90,vi m),(91,vi (wi (i + 1)))],⟨[ag [AV.row 1 0,AV.vec f 1 (List.map (vi) tl),vi w,AV.row 2 0]],4,0,false,false⟩ :: ⟨List.map (vi) nd,1,0,false,true⟩ :: ⟨C,1,0,false,false⟩ :: R,_,[],_⟩ (by kernel_rfl) (bc (Zal (fun h => d2 ((Zb8 Zaa Zaa).1 h))) b0) q0 c0 (by (try rw [w6]);all_goals exact H)
theorem zCR (f:Bool) (tl nd:List Int) (w n:Int) (C:List AV) (R:Heap) (O:List Int) (v:Nat) (ch s t:Int)  (Q:AV -> Heap -> Prop) (H :
  ((¬s = w) -> ZeG (f) (tl) (nd) (w) (n) (C) (R) (O) (v) (ch) (s) (t) (-1) (0) (n) (0) Q) /\
  (¬(¬s = w) -> Q (tu [AV.row 3 v,vi ch,vi 0]) ({ elems:=[ag [AV.row 1 0,AV.vec f 1 (List.map (vi) tl),vi w,AV.row 2 0]],es:=4,ver:=0,frozen:=false,clean:=false } :: { elems:=List.map (vi) nd,es:=1,ver:=0,frozen:=false,clean:=true } :: { elems:=C,es:=1,ver:=0,frozen:=false,clean:=false } :: { elems:=List.map (vi) O,es:=1,ver:=v,frozen:=false,clean:=true } :: R))) :
 zCR_at f tl nd w n C R O v ch s t Q:=by
 unfold zCR_at
 rcases xq H with ⟨d2,H⟩|⟨d2,H⟩
 ·exact Zab (G:=Zad kp24 [] []) 1000 [true] ⟨(atC (cd Try.f24) [1,1,1,1,1,1,1,1,1,1,0,1,0,0,1,0,1,0,1,0,0]),[(0,vi n),(12,AV.ptr 0 0 0 0),(16,AV.row 3 v),(17,vi ch),(18,vi s),(19,vi t),(20,vi (-1)),(21,vi 0),(90,vi n),(91,vi 0)],⟨[ag [AV.row 1 0,AV.vec f 1 (List.map (vi) tl),vi w,AV.row 2 0]],4,0,false,false⟩ :: ⟨List.map (vi) nd,1,0,false,true⟩ :: ⟨C,1,0,false,false⟩ :: ⟨List.map (vi) O,1,v,false,true⟩ :: R,_,[],_⟩ (by kernel_rfl) (bc rfl (bc (Zap (i_ne.2 d2)) b0)) q0 c0 (H)
 ·exact ZaC (G:=Zad kp24 [] []) 1000 [false] (k:=((atC (cd Try.f24) [1,1,1,1,1,1,1,1,1,1,1,1])).tail) (env':=[(6,AV.row 3 v),(7,vi ch),(8,vi 0)]) (L':=⟨[ag [AV.row 1 0,AV.vec f 1 (List.map (vi) tl),vi w,AV.row 2 0]],4,0,false,false⟩ :: ⟨List.map (vi) nd,1,0,false,true⟩ :: ⟨C,1,0,false,false⟩ :: ⟨List.map (vi) O,1,v,false,true⟩ :: R) (asm:=[true,(s != w) == false]) (eqs:=[]) (calls:=[]) (tu [AV.row 3 v,vi ch,vi 0]) (by kernel_rfl) (by kernel_rfl) (Zaf rfl (Zaf (Zal (fun h => d2 (i_ne.1 h))) Zah)) Zam ZaE H
noncomputable abbrev zPyB2 (f:Bool) (tl:List Int) (w:Int):=ag [AV.row 1 0,AV.vec f 1 (List.map vi tl),vi w,AV.row 2 0]
theorem zDR (f:Bool) (tl nd:List Int) (w n:Int) (C:List AV) (R:Heap) (O:List Int) (v:Nat) (ch s t:Int) (b l m i:Int)  (Q:AV -> Heap -> Prop) (H :
  ((i < m) -> Wp M1 (.run fi24 (atC (cd Try.f24) [1,1,1,1,1,1,1,1,1,1,0,1,0,0,1,0,1,0,1,0,0,1,1,0,0,1,0,0]) [(0,vi n),(12,AV.ptr 0 0 0 0),(16,AV.row 3 v),(17,vi ch),(18,vi s),(19,vi t),(20,vi b),(21,vi l),(22,vi i),(90,vi m),(91,vi i)] ({ elems:=[ag [AV.row 1 0,AV.vec f 1 (List.map (vi) tl),vi w,AV.row 2 0]],es:=4,ver:=0,frozen:=false,clean:=false } :: { elems:=List.map (vi) nd,es:=1,ver:=0,frozen:=false,clean:=true } :: { elems:=C,es:=1,ver:=0,frozen:=false,clean:=false } :: { elems:=List.map (vi) O,es:=1,ver:=v,frozen:=false,clean:=true } :: R)) Q) /\
  (¬(i < m) -> ((t < 0) -> ((O.length + 1) * 8 <= 1099511627776) /\
    (0 <= b) /\
    (-9223372036854775808 <= (1:Int) * 2 ^ min b.toNat IntKind.i64.bits /\ (1:Int) * 2 ^ min b.toNat IntKind.i64.bits <= 9223372036854775807) /\
    (-9223372036854775808 <= (↑(BitVec.ofInt IntKind.i64.bits s ||| BitVec.ofInt IntKind.i64.bits ((1:Int) * 2 ^ min b.toNat IntKind.i64.bits)).toNat:Int) /\ (↑(BitVec.ofInt IntKind.i64.bits s ||| BitVec.ofInt IntKind.i64.bits ((1:Int) * 2 ^ min b.toNat IntKind.i64.bits)).toNat:Int) <= 9223372036854775807) /\
    zCR_at (f) (tl) (nd) (w) (n) (C) (R) (O ++ [b]) (v + 1) (l) ((↑(BitVec.ofInt IntKind.i64.bits s ||| BitVec.ofInt IntKind.i64.bits ((1:Int) * 2 ^ min b.toNat IntKind.i64.bits)).toNat:Int)) (b) Q) /\
   (¬(t < 0) -> ((O.length + 1) * 8 <= 1099511627776) /\
    (0 <= b) /\
    (-9223372036854775808 <= (1:Int) * 2 ^ min b.toNat IntKind.i64.bits /\ (1:Int) * 2 ^ min b.toNat IntKind.i64.bits <= 9223372036854775807) /\
    (-9223372036854775808 <= (↑(BitVec.ofInt IntKind.i64.bits s ||| BitVec.ofInt IntKind.i64.bits ((1:Int) * 2 ^ min b.toNat IntKind.i64.bits)).toNat:Int) /\ (↑(BitVec.ofInt IntKind.i64.bits s ||| BitVec.ofInt IntKind.i64.bits ((1:Int) * 2 ^ min b.toNat IntKind.i64.bits)).toNat:Int) <= 9223372036854775807) /\
    zCR_at (f) (tl) (nd) (w) (n) (C) (R) (O ++ [b]) (v + 1) (ch) ((↑(BitVec.ofInt IntKind.i64.bits s ||| BitVec.ofInt IntKind.i64.bits ((1:Int) * 2 ^ min b.toNat IntKind.i64.bits)).toNat:Int)) (b) Q))) :
 ZeG f tl nd w n C R O v ch s t b l m i Q:=by
 unfold ZeG
 rcases xq H with ⟨d2,H⟩|⟨d2,H⟩
 ·exact Zab (G:=Zad kp24 [] []) 11 [true] ⟨(atC (cd Try.f24) [1,1,1,1,1,1,1,1,1,1,0,1,0,0,1,0,1,0,1,0,0,1,1,0,0,1,0,0]),[(0,vi n),(12,AV.ptr 0 0 0 0),(16,AV.row 3 v),(17,vi ch),(18,vi s),(19,vi t),(20,vi b),(21,vi l),(22,vi i),(90,vi m),(91,vi i)],⟨[(zPyB2 f tl w)],4,0,false,false⟩ :: ⟨List.map (vi) nd,1,0,false,true⟩ :: ⟨C,1,0,false,false⟩ :: ⟨List.map (vi) O,1,v,false,true⟩ :: R,_,[],_⟩ (by kernel_rfl) (bc (Zap (Zaa.2 d2)) b0) q0 c0 (H)
 ·rcases xq H with ⟨d4,H⟩|⟨d4,H⟩
  ·have w5:(List.map (vi) O).length = O.length:=List.length_map ..
   have i6:(decide (((List.map (vi) O).length + 1) * 8 <= 1099511627776)) = true ↔ ((O.length + 1) * 8 <= 1099511627776):=(by (try rw [w5]);all_goals exact Zaa)
   obtain ⟨k7,H⟩:=H
   have w8:List.map (vi) O ++ [vi b] = List.map (vi) (O ++ [b]):=(Zd4 rfl rfl)
   obtain ⟨k10,k11,H⟩:=H
   have w12:wi ((1:Int) * 2 ^ min b.toNat IntKind.i64.bits) = (1:Int) * 2 ^ min b.toNat IntKind.i64.bits:=wI64 k11
   obtain ⟨k13,H⟩:=H
   have w14:wi (↑(BitVec.ofInt IntKind.i64.bits s ||| BitVec.ofInt IntKind.i64.bits ((1:Int) * 2 ^ min b.toNat IntKind.i64.bits)).toNat:Int) = (↑(BitVec.ofInt IntKind.i64.bits s ||| BitVec.ofInt IntKind.i64.bits ((1:Int) * 2 ^ min b.toNat IntKind.i64.bits)).toNat:Int):=wI64 k13
   exact Zab (G:=Zad kp24 [] []) 1000 [false,true] ⟨(atC (cd Try.f24) [1,1,1,1,1,1,1,1,1,1,0,1,0,0]),[(0,vi n),(12,AV.ptr 0 0 0 0),(16,AV.row 3 (v + 1)),(17,vi l),(18,vi (wi (↑(BitVec.ofInt IntKind.i64.bits s ||| BitVec.ofInt IntKind.i64.bits (wi ((1:Int) * 2 ^ min b.toNat IntKind.i64.bits))).toNat:Int))),(19,vi b)],⟨[(zPyB2 f tl w)],4,0,false,false⟩ :: ⟨List.map (vi) nd,1,0,false,true⟩ :: ⟨C,1,0,false,false⟩ :: ⟨List.map (vi) O ++ [vi b],1,v + 1,false,true⟩ :: R,[(decide (i < m)) == false,(decide (t < 0)) == true,v == v,decide (((List.map (vi) O).length + 1) * 8 <= 1099511627776),decide (0 <= b)],[],_⟩ (by kernel_rfl) (bc (Zal (fun h => d2 (Zaa.1 h))) (bc (Zap (Zaa.2 d4)) (bc (beq_self_eq_true _) (bc (i6.2 k7) (bc (Zaa.2 k10) b0))))) q0 c0 (by (try rw [w8]);(try rw [w12]);(try rw [w14]);all_goals exact H)
  ·have w15:(List.map (vi) O).length = O.length:=List.length_map ..
   have i16:(decide (((List.map (vi) O).length + 1) * 8 <= 1099511627776)) = true ↔ ((O.length + 1) * 8 <= 1099511627776):=(by (try rw [w15]);all_goals exact Zaa)
   obtain ⟨k17,H⟩:=H
   have w18:List.map (vi) O ++ [vi b] = List.map (vi) (O ++ [b]):=(Zd4 rfl rfl)
   obtain ⟨k20,k21,H⟩:=H
   have w22:wi ((1:Int) * 2 ^ min b.toNat IntKind.i64.bits) = (1:Int) * 2 ^ min b.toNat IntKind.i64.bits:=wI64 k21
   obtain ⟨k23,H⟩:=H
   have w24:wi (↑(BitVec.ofInt IntKind.i64.bits s ||| BitVec.ofInt IntKind.i64.bits ((1:Int) * 2 ^ min b.toNat IntKind.i64.bits)).toNat:Int) = (↑(BitVec.ofInt IntKind.i64.bits s ||| BitVec.ofInt IntKind.i64.bits ((1:Int) * 2 ^ min b.toNat IntKind.i64.bits)).toNat:Int):=wI64 k23
   exact Zab (G:=Zad kp24 [] []) 1000 [false,false] ⟨(atC (cd Try.f24) [1,1,1,1,1,1,1,1,1,1,0,1,0,0]),[(0,vi n),(12,AV.ptr 0 0 0 0),(16,AV.row 3 (v + 1)),(17,vi ch),(18,vi (wi (↑(BitVec.ofInt IntKind.i64.bits s ||| BitVec.ofInt IntKind.i64.bits (wi ((1:Int) * 2 ^ min b.toNat IntKind.i64.bits))).toNat:Int))),(19,vi b)],⟨[(zPyB2 f tl w)],4,0,false,false⟩ :: ⟨List.map (vi) nd,1,0,false,true⟩ :: ⟨C,1,0,false,false⟩ :: ⟨List.map (vi) O ++ [vi b],1,v + 1,false,true⟩ :: R,[(decide (i < m)) == false,(decide (t < 0)) == false,v == v,decide (((List.map (vi) O).length + 1) * 8 <= 1099511627776),decide (0 <= b)],[],_⟩ (by kernel_rfl) (bc (Zal (fun h => d2 (Zaa.1 h))) (bc (Zal (fun h => d4 (Zaa.1 h))) (bc (beq_self_eq_true _) (bc (i16.2 k17) (bc (Zaa.2 k20) b0))))) q0 c0 (by (try rw [w18]);(try rw [w22]);(try rw [w24]);all_goals exact H)
theorem zDoR (f:Bool) (tl nd:List Int) (w n:Int) (C:List AV) (R:Heap) (O:List Int) (v:Nat) (ch s t:Int) (b l m i:Int) (k:Int) (o:Bool)  (Q:AV -> Heap -> Prop) (H :
  ((o = true) -> (-9223372036854775808 <= i + 1 /\ i + 1 <= 9223372036854775807) /\
   ZeG (f) (tl) (nd) (w) (n) (C) (R) (O) (v) (ch) (s) (t) (b) (l) (m) (i + 1) Q) /\
  (¬(o = true) -> Wp M1 (.run fi24 (atC (cd Try.f24) [1,1,1,1,1,1,1,1,1,1,0,1,0,0,1,0,1,0,1,0,0,1,1,0,0,1,1,0]) [(0,vi n),(12,AV.ptr 0 0 0 0),(16,AV.row 3 v),(17,vi ch),(18,vi s),(19,vi t),(20,vi b),(21,vi l),(22,vi k),(90,vi m),(91,vi i),(97,vb o)] ({ elems:=[ag [AV.row 1 0,AV.vec f 1 (List.map (vi) tl),vi w,AV.row 2 0]],es:=4,ver:=0,frozen:=false,clean:=false } :: { elems:=List.map (vi) nd,es:=1,ver:=0,frozen:=false,clean:=true } :: { elems:=C,es:=1,ver:=0,frozen:=false,clean:=false } :: { elems:=List.map (vi) O,es:=1,ver:=v,frozen:=false,clean:=true } :: R)) Q)) :
 zDoR_at f tl nd w n C R O v ch s t b l m i k o Q:=by
 unfold zDoR_at
 rcases xq H with ⟨d2,H⟩|⟨d2,H⟩
 ·obtain ⟨k3,H⟩:=H
  have w4:wi (i + 1) = i + 1:=wI64 k3
  exact Zab (G:=Zad kp24 [] []) 1000 [true] ⟨(atC (cd Try.f24) [1,1,1,1,1,1,1,1,1,1,0,1,0,0,1,0,1,0,1,0,0]),[(0,vi n),(12,AV.ptr 0 0 0 0),(16,AV.row 3 v),(17,vi ch),(18,vi s),(19,vi t),(20,vi b),(21,vi l),(90,vi m),(91,vi (wi (i + 1)))],⟨[ag [AV.row 1 0,AV.vec f 1 (List.map (vi) tl),vi w,AV.row 2 0]],4,0,false,false⟩ :: ⟨List.map (vi) nd,1,0,false,true⟩ :: ⟨C,1,0,false,false⟩ :: ⟨List.map (vi) O,1,v,false,true⟩ :: R,[(o) == true],[],_⟩ (by kernel_rfl) (bc (Zap ((Zar _).2 d2)) b0) q0 c0 (by (try rw [w4]);all_goals exact H)
 ·exact Zab (G:=Zad kp24 [] []) 3 [false] ⟨(atC (cd Try.f24) [1,1,1,1,1,1,1,1,1,1,0,1,0,0,1,0,1,0,1,0,0,1,1,0,0,1,1,0]),[(0,vi n),(12,AV.ptr 0 0 0 0),(16,AV.row 3 v),(17,vi ch),(18,vi s),(19,vi t),(20,vi b),(21,vi l),(22,vi k),(90,vi m),(91,vi i),(97,vb o)],⟨[ag [AV.row 1 0,AV.vec f 1 (List.map (vi) tl),vi w,AV.row 2 0]],4,0,false,false⟩ :: ⟨List.map (vi) nd,1,0,false,true⟩ :: ⟨C,1,0,false,false⟩ :: ⟨List.map (vi) O,1,v,false,true⟩ :: R,[(o) == false],[],_⟩ (by kernel_rfl) (bc (Zal (fun h => d2 ((Zar _).1 h))) b0) q0 c0 (H)
theorem zDvR (f:Bool) (tl nd:List Int) (w n:Int) (C:List AV) (R:Heap) (O:List Int) (v:Nat) (ch s t:Int) (b l m i:Int) (k c:Int)  (Q:AV -> Heap -> Prop) (H :
  (((b < 0) \/ (c < l)) -> (-9223372036854775808 <= i + 1 /\ i + 1 <= 9223372036854775807) /\
   ZeG (f) (tl) (nd) (w) (n) (C) (R) (O) (v) (ch) (s) (t) (k) (c) (m) (i + 1) Q) /\
  (¬((b < 0) \/ (c < l)) -> (-9223372036854775808 <= i + 1 /\ i + 1 <= 9223372036854775807) /\
   ZeG (f) (tl) (nd) (w) (n) (C) (R) (O) (v) (ch) (s) (t) (b) (l) (m) (i + 1) Q)) :
 zDvR_at f tl nd w n C R O v ch s t b l m i k c Q:=by
 unfold zDvR_at
 rcases xq H with ⟨d2,H⟩|⟨d2,H⟩
 ·obtain ⟨k3,H⟩:=H
  have w4:wi (i + 1) = i + 1:=wI64 k3
  exact Zab (G:=Zad kp24 [] []) 1000 [true] ⟨(atC (cd Try.f24) [1,1,1,1,1,1,1,1,1,1,0,1,0,0,1,0,1,0,1,0,0]),[(0,vi n),(12,AV.ptr 0 0 0 0),(16,AV.row 3 v),(17,vi ch),(18,vi s),(19,vi t),(20,vi k),(21,vi c),(90,vi m),(91,vi (wi (i + 1)))],⟨[ag [AV.row 1 0,AV.vec f 1 (List.map (vi) tl),vi w,AV.row 2 0]],4,0,false,false⟩ :: ⟨List.map (vi) nd,1,0,false,true⟩ :: ⟨C,1,0,false,false⟩ :: ⟨List.map (vi) O,1,v,false,true⟩ :: R,_,[],_⟩ (by kernel_rfl) (bc (Zap ((Zb8 Zaa Zaa).2 d2)) b0) q0 c0 (by (try rw [w4]);all_goals exact H)
 ·obtain ⟨k5,H⟩:=H
  have w6:wi (i + 1) = i + 1:=wI64 k5
  exact Zab (G:=Zad kp24 [] []) 1000 [false] ⟨(atC (cd Try.f24) [1,1,1,1,1,1,1,1,1,1,0,1,0,0,1,0,1,0,1,0,0]),[(0,vi n),(12,AV.ptr 0 0 0 0),(16,AV.row 3 v),(17,vi ch),(18,vi s),(19,vi t),(20,vi b),(21,vi l),(90,vi m),(91,vi (wi (i + 1)))],⟨[ag [AV.row 1 0,AV.vec f 1 (List.map (vi) tl),vi w,AV.row 2 0]],4,0,false,false⟩ :: ⟨List.map (vi) nd,1,0,false,true⟩ :: ⟨C,1,0,false,false⟩ :: ⟨List.map (vi) O,1,v,false,true⟩ :: R,_,[],_⟩ (by kernel_rfl) (bc (Zal (fun h => d2 ((Zb8 Zaa Zaa).1 h))) b0) q0 c0 (by (try rw [w6]);all_goals exact H)
end Go.Av

namespace Go.Av
open Go.Proofs
noncomputable def bsO11:Array Oper:=match atC (cd Try.f24) [1,1,1,1,1,0] with
 | .code (.region _ ops _) :: _ => ops
 | _ => #[]
noncomputable def bsK:List Item:=(atC (cd Try.f24) [1,1,1,1,1,0]).tail
theorem bsC:atC (cd Try.f24) [1,1,1,1,1,0] = .code (.region 11 bsO11 true)::bsK:=by kernel_rfl
theorem bsK1:bsK=atC (cd Try.f24) [1,1,1,1,1,1]:=by kernel_rfl
def bsF (n:Int):Int:=IntKind.i64.wrap (IntKind.i64.wrap (1*2 ^ (min n.toNat IntKind.i64.bits))-1)
noncomputable def bsX (n:Int) (f g b:Bool) (e:Int) (ps tl:List AV) (σ:List Nat):=ordX M1 (fun _ _ _=>none) fi24.n bsO11 (fun _=>none) [0,1,12] [9,1,7] [(0,.int .i64 n),(1,.vec g 2 ps),(2,.vec f 1 tl),(11,.int .i64 e),(43,.bool b)] [] σ
def bsA1 (n b:Int):List Bool:=[decide (0<=n),decide (n<=n),decide (n*b<=1099511627776),decide (n<=1099511627776)]
def bsA (n:Int) (σ:List Nat):List Bool:=(bif Nat.beq (Zai σ 1) 0 then bsA1 n 8++decide (0<=n)::bsA1 n 24 else bif Nat.blt (Zai σ 1) (Zai σ 7) then decide (0<=n)::(bsA1 n 8++bsA1 n 24) else decide (0<=n)::(bsA1 n 24++bsA1 n 8))++[0==0]
def bsV (n:Int) (g:Bool) (ps:List AV):Vars:=[(0,.int .i64 n),(1,.vec g 2 ps),(12,.ptr 0 0 0 0)]
def bsH (n:Int) (f:Bool) (tl:List AV):Heap:=[⟨[.agg [.row 1 0,.vec f 1 tl,.int .i64 (bsF n),.row 2 0]],4,0,false,false⟩,⟨List.replicate n.toNat (.int .i64 0),1,0,false,true⟩,⟨List.replicate n.toNat .vnil,1,0,false,true⟩]
theorem bsX_all (n:Int) (f g b:Bool) (e:Int) (ps tl:List AV):∀ σ ∈ [[9,1,7],[1,9,7],[1,7,9],[9,7,1],[7,9,1],[7,1,9]],bsX n f g b e ps tl σ = some (bsV n g ps,bsH n f tl,bsA n σ,[],[]):=by
 intro σ h
 simp only [List.mem_cons,List.not_mem_nil,or_false] at h
 rcases h with h | h | h | h | h | h <;> subst h <;> kernel_rfl
theorem bsA_ok {n:Int} (h:0 <= n /\ n <= 1000000) (σ:List Nat):∀ b ∈ bsA n σ,b = true:=by
 intro b hb
 unfold bsA bsA1 at hb
 have h0:(0 == 0) = true:=rfl
 cases hc:Nat.beq (Zai σ 1) 0 <;> cases hd:Nat.blt (Zai σ 1) (Zai σ 7) <;> rw [hc,hd] at hb <;> simp only [cond_true,cond_false,List.mem_append,List.mem_cons,List.not_mem_nil,or_false] at hb
 all_goals
  rcases hb with hb | rfl
  ·rcases hb with hb | hb
   all_goals
    first
     | (subst hb;exact decide_eq_true (by omega))
     | (rcases hb with rfl | rfl | rfl | rfl <;> exact decide_eq_true (by omega))
     | (rcases hb with rfl | rfl | rfl | rfl | rfl <;> exact decide_eq_true (by omega))
     | (rcases hb with (rfl | rfl | rfl | rfl) | rfl | rfl | rfl | rfl <;> exact decide_eq_true (by omega))
  ·rfl
theorem bs_lay {n:Int} {f g b:Bool} {e:Int} {ps tl:List AV} {Q:AV -> Heap -> Prop} (h:0 <= n /\ n <= 1000000) (H:Wp M1 (.run fi24 (atC (cd Try.f24) [1,1,1,1,1,1]) (bsV n g ps) (bsH n f tl)) Q) :
  Wp M1 (.run fi24 (atC (cd Try.f24) [1,1,1,1,1,0]) [(0,.int .i64 n),(1,.vec g 2 ps),(2,.vec f 1 tl),(11,.int .i64 e),(43,.bool b)] []) Q:=by
 rw [bsC,bsK1]
 exact wp_any3 hm1 (id:=11) (ops:=bsO11) (c:=9) (d:=1) (g:=7) (a1:=bsA n) rfl (bsX_all n f g b e ps tl) (bsA_ok h) H
end Go.Av

namespace Go.Av
open Go.Proofs
def HBn (n:Nat) (ps:List Pr) (tl nd:List Int) (f:Bool) (w:Int) (C:List AV) (R:Heap):Prop:=∃ M ρ,MX3 (sH f tl nd w C R) C M ρ/\MemoM n ps tl M
section
variable {n:Nat} {ps:List Pr} {tl nd:List Int} {f g:Bool} {w:Int}
theorem sH_refs {C:List AV} {R:Heap} (r:Nat) (row:Row) (hr:r < 3) (hno:r ∉ [2]) (h:(sH f tl nd w C R)[r]? = some row):∀ s ∈ Zag row,s < 3:=by
 have:r = 0 \/ r = 1:=by
  simp only [List.mem_cons,List.not_mem_nil,or_false] at hno
  omega
 rcases this with rfl | rfl
 ·have e:row = sF f tl w:=(Option.some.inj h).symm
  subst e
  intro s hs
  simp [Zag,rowsL,rowsA] at hs;omega
 ·have e:row = iR nd:=(Option.some.inj h).symm
  subst e
  intro s hs;simp [Zag] at hs
theorem sb_base:MX3 (sH f tl nd w (List.replicate n .vnil) []) (List.replicate n .vnil) (List.replicate n none) (fun _ => 0):=by
 have no:∀ (j:Nat) (row:Row),(List.replicate n (none:Option Row))[j]? = some (some row) -> False:=fun j row h => by
  rw [List.getElem?_replicate] at h
  split at h
  ·cases h
  ·cases h
 refine ⟨by simp,by simp,fun u hu => ?_,fun r row hr hno hrow => sH_refs r row hr hno hrow,fun r row hr hrow => ?_,fun u _ j row h => (no j row h).elim,fun u _ j h => ?_,fun u _ w _ i j r s h => (no i r h).elim,fun u _ j row h => (no j row h).elim⟩
 ·rw [List.mem_singleton] at hu
  subst hu
  exact ⟨rfl,by simp⟩
 ·have:=(List.getElem?_eq_some_iff.1 hrow).1
  simp at this;omega
 ·rw [List.getElem?_replicate] at h ⊢
  split at h
  ·rename_i hj;rw [if_pos hj]
  ·cases h
def tbM (n i:Nat) (M:List (Option Row)):Prop:=M.length=n /\ ∀ j,j<n->M[j]? = some (if j<i then some (iR (List.replicate (2 ^ n) 0)) else none)
theorem tbM_set {i:Nat} {M:List (Option Row)} (h:tbM n i M) (hi:i < n):tbM n (i + 1) (M.set i (some (iR (List.replicate (2 ^ n) 0)))):=by
 refine ⟨by rw [List.length_set];exact h.1,fun j hj => ?_⟩
 rw [List.getElem?_set]
 by_cases e:i = j
 ·rw [if_pos e,if_pos (by rw [h.1];omega),if_pos (by omega)]
 ·rw [if_neg e,h.2 j hj]
  by_cases h1:j < i
  ·rw [if_pos h1,if_pos (by omega)]
  ·rw [if_neg h1,if_neg (by omega)]
theorem tb_memo {M:List (Option Row)} (h:tbM n n M):MemoM n ps tl M:=⟨h.1,fun t ht => ⟨_,by rw [h.2 t ht,if_pos ht],by simp,fun c s hg => by
 rw [List.getD_eq_getElem?_getD,List.getElem?_replicate,if_pos (Zcm hg)];exact .inl rfl⟩⟩
theorem sh_pow (hn:n <= 16):(1:Int) * 2 ^ min ((n:Nat):Int).toNat IntKind.i64.bits = ((2 ^ n:Nat):Int):=by
 rw [Int.toNat_natCast,show min n IntKind.i64.bits = n by show min n 64 = n;omega,Int.one_mul];simp
theorem rep_zero (m:Nat):List.replicate m (ofC (.int .i64 0))=(List.replicate m (0:Int)).map (.int .i64):=by rw [List.map_replicate];rfl
theorem tb_row {m:Nat} {q:Nat} (hq:q = 1):(⟨List.replicate (((m:Nat):Int)).toNat (ofC (.int .i64 0)),q,0,false,true⟩:Row) = iR (List.replicate m 0):=by
 rw [Int.toNat_natCast,rep_zero,hq]
theorem tb_loop {Q:AV -> Heap -> Prop} (hn:n <= 16) (H:∀ C R,HBn n ps tl nd f w C R -> Zfa f g ps tl nd n w C R ps.length 0 Q):∀ (d i:Nat) (C:List AV) (R:Heap) (M:List (Option Row)) (ρ:Nat -> Nat),i + d = n -> MX3 (sH f tl nd w C R) C M ρ -> tbM n i M -> zBA_at f g ps tl nd n w C R n i Q:=by
 have hp:=pow16 hn
 intro d
 induction d with
 | zero =>
  intro i C R M ρ hi hx hM
  have hi:i = n:=by omega
  subst hi
  exact zBA _ _ _ _ _ _ _ _ _ _ _ _ ⟨fun z => absurd z (by omega),fun _ => H C R ⟨M,ρ,hx,tb_memo hM⟩⟩
 | succ d ih =>
  intro i C R M ρ hi hx hM
  have hil:i < n:=by omega
  have ho:=(hx.out 2 (by simp)).2
  have hCl:C.length = n:=by rw [ho];exact hM.1
  have hnil:=hx.nil 2 (by simp) i (by show M[i]? = some none;rw [hM.2 i hil,if_neg (by omega)])
  have hc:=Zdw (Mx.cell hx (u:=2) (a:=i) (by simp) (by show i < M.length;rw [hM.1];exact hil) (rb:=iR (List.replicate (2 ^ n) 0)) rfl)
  rw [if_pos rfl,if_pos rfl] at hc
  have hnx:=ih (i + 1) _ _ _ _ (by omega) hc (tbM_set hM hil)
  refine zBA _ _ _ _ _ _ _ _ _ _ _ _ ⟨fun _ => ?_,fun z => absurd (by omega) z⟩
  rw [sh_pow hn,Int.toNat_natCast,tb_row es3]
  generalize 2 ^ n = q at *
  exact ⟨by omega,by omega,by omega,by omega,by omega,by omega,by omega,hnil,by omega,hnx⟩
theorem tb_first {Q:AV -> Heap -> Prop} (hn:n <= 16) (h0:0 < n) (H:∀ C R,HBn n ps tl nd f w C R -> Zfa f g ps tl nd n w C R ps.length 0 Q):zBi_at f g ps tl nd n w (List.replicate n .vnil) [] Q:=by
 have hp:=pow16 hn
 have hM:tbM n 0 (List.replicate n none):=⟨by simp,fun j hj => by rw [List.getElem?_replicate,if_pos hj,if_neg (by omega)]⟩
 have hnil:(List.replicate n AV.vnil)[0]? = some .vnil:=by rw [List.getElem?_replicate,if_pos h0]
 have hc:=Zdw (Mx.cell (sb_base (f:=f) (tl:=tl) (nd:=nd) (w:=w) (n:=n)) (u:=2) (a:=0) (by simp) (by simpa using h0) (rb:=iR (List.replicate (2 ^ n) 0)) rfl)
 rw [if_pos rfl,if_pos rfl] at hc
 have hnx:=tb_loop (g:=g) hn H (n - 1) 1 _ _ _ _ (by omega) hc (tbM_set hM h0)
 refine zBi _ _ _ _ _ _ _ _ _ _ ?_
 rw [List.length_replicate]
 refine zBA0 _ _ _ _ _ _ _ _ _ _ _ _ ⟨fun _ => ?_,fun z => absurd (by omega) z⟩
 rw [sh_pow hn,tb_row es3]
 generalize 2 ^ n = q at *
 exact ⟨by omega,by omega,by omega,by omega,by omega,by omega,by simpa using h0,hnil,by omega,hnx⟩
theorem nds_snoc (qs:List Pr) (p:Pr) (k:Int):Sp.nds (qs ++ [p]) k = if p.b = k then Sp.nds qs k ||| 2 ^ p.a.toNat else Sp.nds qs k:=by
 unfold Sp.nds
 rw [List.foldl_append];rfl
theorem ndL_snoc {qs:List Pr} {p:Pr} (hb:0 <= p.b /\ p.b < n):Sp.ndL n (qs ++ [p]) = (Sp.ndL n qs).set p.b.toNat ((Sp.nds qs p.b ||| 2 ^ p.a.toNat:Nat):Int):=by
 unfold Sp.ndL
 apply List.ext_getElem?
 intro j
 rw [List.getElem?_set,List.getElem?_map,List.length_map,List.length_range]
 by_cases hj:j < n
 ·rw [List.getElem?_range hj,Option.map_some,nds_snoc]
  by_cases e:p.b.toNat = j
  ·rw [if_pos e,if_pos (show p.b.toNat < n by omega),if_pos (show p.b = (j:Int) by omega),show ((j:Nat):Int) = p.b by omega]
  ·rw [if_neg e,if_neg (by omega),List.getElem?_map,List.getElem?_range hj];rfl
 ·rw [List.getElem?_eq_none (by simp;omega),Option.map_none]
  rw [if_neg (by omega),List.getElem?_map,List.getElem?_eq_none (by simp;omega)];rfl
theorem ndL_nil (n:Nat):Sp.ndL n [] = List.replicate n 0:=by
 unfold Sp.ndL
 apply List.ext_getElem?
 intro j
 rw [List.getElem?_map,List.getElem?_replicate]
 by_cases hj:j < n
 ·rw [List.getElem?_range hj,if_pos hj];rfl
 ·rw [List.getElem?_eq_none (by simp;omega),if_neg hj];rfl
noncomputable def bsO19:Array Oper:=match atC (cd Try.f24) [1,1,1,1,1,1,1,0,1,0,0,1,1,0,0,0] with
 | .code (.region _ ops _) :: _ => ops
 | _ => #[]
theorem bsC19:atC (cd Try.f24) [1,1,1,1,1,1,1,0,1,0,0,1,1,0,0,0] = .code (.region 19 bsO19 false)::atC (cd Try.f24) [1,1,1,1,1,1,1,0,1,0,0,1,1,0,0,1]:=by kernel_rfl
def bsE19 (n:Int) (g b:Bool) (ps:List AV) (m i:Int):Vars:=[(0,.int .i64 n),(12,AV.ptr 0 0 0 0),(68,.vec g 2 ps),(69,.int .i64 m),(70,.int .i64 i),(71,.bool b)]
noncomputable def bsT (n:Int) (g b:Bool) (ps:List AV) (x y m i:Int) (L:Heap) (z:AV) (q:List Bool):RS:=⟨(15,[],.ptr L.length 0 0 0)::(73,[],rdP x y)::(72,[],.eptr 2 ps i.toNat 0)::lift (bsE19 n g b ps m i),L++[⟨[z],2,0,false,false⟩],[decide (0<=i),decide (i.toNat<ps.length)]++q,[ps[i.toNat]? = some (rdP x y)],[]⟩
theorem bsS2_eq (n:Int) (g b:Bool) (ps:List AV) (x y m i:Int) (L:Heap):Zak M1.P M1.inl (fun _ _ _=>none) fi24.n bsO19 (Zfs (rdP x y)) (fun _=>2) [0,1,2] ⟨lift (bsE19 n g b ps m i),L,[],[],[]⟩=some (bsT n g b ps x y m i L (rdP 0 0) []):=by kernel_rfl
noncomputable def ZgM:Oper:=match bsO19[3]? with
 | some o => o
 | none => ⟨none,.load 47 (.tmp 7),0,"",#[],none⟩
theorem bsO19_3:bsO19[3]? = some ZgM:=by kernel_rfl
theorem bsO19_g:ZgM.guard=none:=by kernel_rfl
theorem bsO19_d:ZgM.dst=none:=by kernel_rfl
theorem bsO19_o:ZgM.op = .store 47 (.tmp 15) (.tmp 73):=by kernel_rfl
theorem bsO19_run (n:Int) (g b:Bool) (ps:List AV) (x y m i:Int) (L:Heap):Zak M1.P M1.inl (fun _ _ _ => none) fi24.n bsO19 (Zfs (rdP x y)) (fun _ => 2) (List.range bsO19.size) ⟨lift (bsE19 n g b ps m i),L,[],[],[]⟩ = some (bsT n g b ps x y m i L (rdP x y) [0 == 0]):=by
 have hr:List.range bsO19.size = [0,1,2] ++ [3]:=by kernel_rfl
 rw [hr,ZdO,bsS2_eq,Option.bind_some]
 have ho:=bsO19_3
 have hs:ZaL M1.P M1.inl (fun _ _ _ => none) (Zfs (rdP x y) 3) (fun ex => ev (bsT n g b ps x y m i L (rdP 0 0) []).env (ex ++ [])) (bsT n g b ps x y m i L (rdP 0 0) []).L ZgM = some { v:=.tup [],L':=some (L ++ [⟨[rdP x y],2,0,false,false⟩]),asm:=[0 == 0] }:=by
  unfold ZaL
  rw [bsO19_o]
  show ZcU M1.P none (L ++ [⟨[rdP 0 0],2,0,false,false⟩]) 47 (.ptr L.length 0 0 0) (rdP x y) = _
  rw [Zgo]
  kernel_rfl
 have h3:Za8 M1.P M1.inl (fun _ _ _ => none) fi24.n bsO19 (Zfs (rdP x y) 3) 2 ZgM (bsT n g b ps x y m i L (rdP 0 0) []) = some (bsT n g b ps x y m i L (rdP x y) [0 == 0]):=
  ZbH.2 ⟨_,_,(Zcb bsO19_g).2 ⟨_,hs,rfl,rfl⟩,by rw [bsO19_d];rfl,rfl⟩
 simp only [Zak,ho,h3]
theorem bsF19 (n:Int) (g b:Bool) (ps:List AV) (x y m i:Int) (L:Heap):Zbe [0,12,15,68,69,70] (bsT n g b ps x y m i L (rdP x y) [0==0]).env=[(0,.int .i64 n),(12,AV.ptr 0 0 0 0),(15,.ptr L.length 0 0 0),(68,.vec g 2 ps),(69,.int .i64 m),(70,.int .i64 i)]:=by kernel_rfl
theorem bs19 {n:Int} {g b:Bool} {ps:List AV} {x y m i:Int} {L:Heap} {Q:AV -> Heap -> Prop} (hi:0 <= i) (hl:i.toNat < ps.length) (hx:ps[i.toNat]? = some (rdP x y))
  (H:Wp M1 (.run fi24 (atC (cd Try.f24) [1,1,1,1,1,1,1,0,1,0,0,1,1,0,0,1]) [(0,.int .i64 n),(12,AV.ptr 0 0 0 0),(15,.ptr L.length 0 0 0),(68,.vec g 2 ps),(69,.int .i64 m),(70,.int .i64 i)] (L ++ [⟨[rdP x y],2,0,false,false⟩])) Q) :
  Wp M1 (.run fi24 (atC (cd Try.f24) [1,1,1,1,1,1,1,0,1,0,0,1,1,0,0,0]) (bsE19 n g b ps m i) L) Q:=by
 rw [bsC19]
 refine .region (fun _ _ _ => none) (Zfs (rdP x y)) (fun _ => 2) [0,12,15,68,69,70] _ (by intro h;cases h) (bsO19_run n g b ps x y m i L) ?_ ?_ ?_ ?_ ?_
 ·intro c hc
  have hc:c ∈ [decide (0 <= i),decide (i.toNat < ps.length)] ++ [0 == 0]:=hc
  simp only [List.mem_append,List.mem_cons,List.not_mem_nil,or_false] at hc
  rcases hc with (rfl | rfl) | rfl
  ·exact decide_eq_true hi
  ·exact decide_eq_true hl
  ·rfl
 ·intro p hp
  have hp:p ∈ [ps[i.toNat]? = some (rdP x y)]:=hp
  rw [List.mem_singleton] at hp
  rw [hp];exact hx
 ·intro c hc;cases hc
 ·intro c hc;cases hc
 ·rw [bsF19];exact H
theorem ms_loop {qs:List Pr} {d:AV} (hv:Sp.okV n qs) (hn:n <= 16) (hpl:qs.length <= 1000000) (H:∀ C R,HBn n ps tl (Sp.ndL n qs) f w C R -> zCN_at f tl (Sp.ndL n qs) w n C R 0 0 (-1) (ZaJ d)) :
  ∀ (c i:Nat) (C:List AV) (R:Heap),i + c = qs.length -> HBn n ps tl (Sp.ndL n (qs.take i)) f w C R -> Zfa f g qs tl (Sp.ndL n (qs.take i)) n w C R qs.length i (ZaJ d):=by
 have hp16:=pow16 hn
 intro c
 induction c with
 | zero =>
  intro i C R hi hB
  rw [List.take_of_length_le (by omega)] at hB ⊢
  exact zBB _ _ _ _ _ _ _ _ _ _ _ _ ⟨fun z => absurd z (by omega),fun _ => H C R hB⟩
 | succ c ih =>
  intro i C R hi hB
  have hil:i < qs.length:=by omega
  have hp:=hv qs[i] (List.getElem_mem hil)
  refine zBB _ _ _ _ _ _ _ _ _ _ _ _ ⟨fun _ => ?_,fun z => absurd (by omega) z⟩
  refine bs19 (b:=decide ((i:Int) < qs.length)) (by omega) (by rw [List.length_map];omega) (rdQ_eq hil) ?_
  obtain ⟨M,ρ,hx,hM⟩:=hB
  have s0:swp 3 (sH f tl (Sp.ndL n (qs.take i)) w C R).length 0 = 0:=Zb5 (by omega) (by simp)
  have sL:swp 3 (sH f tl (Sp.ndL n (qs.take i)) w C R).length (sH f tl (Sp.ndL n (qs.take i)) w C R).length = 3:=swp_q ..
  refine wp_box hx (z:=rPB qs[i]) (by simp [Zag,rowsL,rowsA]) (by intro r hr;simp [rowsL,rowsA] at hr;simp;omega) (env':=[(0,.int .i64 n),(12,AV.ptr 0 0 0 0),(15,.ptr 3 0 0 0),(68,.vec g 2 (qs.map Pr.v)),(69,.int .i64 qs.length),(70,.int .i64 i)]) ?_ fun L' C' ρ' h' hU hfix => ?_
  ·unfold renV
   simp only [List.map_cons,List.map_nil,renA,s0,sL]
  ·have hd:=Zdw (Mx.down (U:=3) h' (by intro u hu;rw [List.mem_singleton] at hu;omega) hU (by simp [Zag,rowsL,rowsA]) fun r row hr hno hrow => by
    rw [hfix r hr hno] at hrow
    exact sH_refs r row hr hno hrow)
   obtain ⟨R',rfl⟩:=Zea hd hfix hU
   have e1:(Sp.ndL n (qs.take i)).getD qs[i].b.toNat default = (Sp.nds (qs.take i) qs[i].b:Int):=by
    rw [ndL_get (by omega),show ((qs[i].b.toNat:Nat):Int) = qs[i].b by omega]
   have hnd:=nds_lt (n:=n) (ps:=qs.take i) (fun p hp => hv p (List.mem_of_mem_take hp)) qs[i].b
   have e2:(1:Int) * 2 ^ min qs[i].a.toNat IntKind.i64.bits = ((2 ^ qs[i].a.toNat:Nat):Int):=by
    rw [show min qs[i].a.toNat IntKind.i64.bits = qs[i].a.toNat by show min _ 64 = _;omega,Int.one_mul];simp
   have hq:=Zej (k:=qs[i].a.toNat) (n:=n) (by omega) hn
   have hset:=Mx.fixd hd (r:=1) (z:=iR (Sp.ndL n (qs.take (i + 1)))) (by omega) (by simp) (by intro s hs;simp [Zag] at hs)
   have hnx:=ih (i + 1) (C' 2) (rPB qs[i] :: R') (by omega) ⟨M,_,hset,hM⟩
   refine zBP f g qs tl (Sp.ndL n (qs.take i)) n w (C' 2) R' qs.length i qs[i] _ ⟨by omega,by rw [ndL_len];omega,by omega,?_⟩
   rw [e1,e2]
   have hts:=Zcq hil
   rw [hts,ndL_snoc ⟨by omega,by omega⟩] at hnx
   revert hnx hq
   generalize 2 ^ qs[i].a.toNat = q
   intro hq hnx
   have e3:(BitVec.ofInt IntKind.i64.bits ((Sp.nds (qs.take i) qs[i].b:Nat):Int) ||| BitVec.ofInt IntKind.i64.bits ((q:Nat):Int)).toNat = Sp.nds (qs.take i) qs[i].b ||| q:=bv_or (by omega) (by omega)
   have hlt:Sp.nds (qs.take i) qs[i].b ||| q < 2 ^ 17:=Nat.or_lt_two_pow (by omega) (by omega)
   rw [e3]
   exact ⟨by omega,by omega,by omega,hnx⟩
end
end Go.Av

namespace Go.Av
open Go.Proofs
noncomputable def bsO30:Array Oper:=match atC (cd Try.f24) [1,1,1,1,1,1,1,1,1,1,0,1,0,0,1,0,1,0,1,0,0,1,1,0,0,1,0,0] with
 | .code (.region _ ops _) :: _ => ops
 | _ => #[]
noncomputable def bsO31:Array Oper:=match atC (cd Try.f24) [1,1,1,1,1,1,1,1,1,1,0,1,0,0,1,0,1,0,1,0,0,1,1,0,0,1,1,0] with
 | .code (.region _ ops _) :: _ => ops
 | _ => #[]
theorem bsC30:atC (cd Try.f24) [1,1,1,1,1,1,1,1,1,1,0,1,0,0,1,0,1,0,1,0,0,1,1,0,0,1,0,0] = .code (.region 30 bsO30 false)::atC (cd Try.f24) [1,1,1,1,1,1,1,1,1,1,0,1,0,0,1,0,1,0,1,0,0,1,1,0,0,1,0,1]:=by kernel_rfl
theorem bsC31:atC (cd Try.f24) [1,1,1,1,1,1,1,1,1,1,0,1,0,0,1,0,1,0,1,0,0,1,1,0,0,1,1,0] = .code (.region 31 bsO31 false)::atC (cd Try.f24) [1,1,1,1,1,1,1,1,1,1,0,1,0,0,1,0,1,0,1,0,0,1,1,0,0,1,1,1]:=by kernel_rfl
def bsE0 (n:Int) (out:AV) (ch s t b l i m:Int):Vars:=[(0,.int .i64 n),(12,rP),(16,out),(17,.int .i64 ch),(18,.int .i64 s),(19,.int .i64 t),(20,.int .i64 b),(21,.int .i64 l),(22,.int .i64 i),(90,.int .i64 m),(91,.int .i64 i)]
def bsE1 (n:Int) (out:AV) (ch s t b l i m:Int):Vars:=bsE0 n out ch s t b l i m++[(94,.int .i64 s),(95,.int .i64 i)]
theorem bsV30 (n:Int) (out:AV) (ch s t b l i m:Int) (L:Heap):runV M1 fi24.n bsO30 oNo [0,1] [0,12,16,17,18,19,20,21,22,90,91,94,95] (bsE0 n out ch s t b l i m) L=some (bsE1 n out ch s t b l i m,L,[],[]):=by kernel_rfl
theorem bsK30 (n:Int) (out:AV) (ch s t b l i m:Int):ZeP bsO30 2 (bsE1 n out ch s t b l i m)=some (96,42,[rP,.int .i64 s,.int .i64 i]):=by kernel_rfl
theorem bsR30:List.range bsO30.size=[0,1]++2::[3]:=by kernel_rfl
theorem bsW30 (n:Int) (out:AV) (ch s t b l i m:Int) (o:Bool) (L:Heap):runV M1 fi24.n bsO30 oNo [3] [0,12,16,17,18,19,20,21,22,90,91,97] ((96,.bool o)::bsE1 n out ch s t b l i m) L=some (bsE0 n out ch s t b l i m++[(97,.bool (!o))],L,[],[]):=by kernel_rfl
def bsE2 (n:Int) (out:AV) (ch s t b l i m:Int):Vars:=bsE0 n out ch s t b l i m++[(98,.int .i64 s),(99,.int .i64 t),(100,.int .i64 i)]
theorem bsV31 (n:Int) (out:AV) (ch s t b l i m:Int) (o:Bool) (L:Heap):runV M1 fi24.n bsO31 oNo [0,1,2] [0,12,16,17,18,19,20,21,22,90,91,98,99,100] (bsE0 n out ch s t b l i m++[(97,.bool o)]) L=some (bsE2 n out ch s t b l i m,L,[],[]):=by kernel_rfl
theorem bsK31 (n:Int) (out:AV) (ch s t b l i m:Int):ZeP bsO31 3 (bsE2 n out ch s t b l i m)=some (101,43,[rP,.int .i64 s,.int .i64 t,.int .i64 i]):=by kernel_rfl
theorem bsR31:List.range bsO31.size=[0,1,2]++3::[4]:=by kernel_rfl
theorem bsW31 (n:Int) (out:AV) (ch s t b l i m o:Int) (L:Heap):runV M1 fi24.n bsO31 oNo [4] [0,12,16,17,18,19,20,21,22,23,90,91] ((101,.int .i64 o)::bsE2 n out ch s t b l i m) L=some ([(0,.int .i64 n),(12,rP),(16,out),(17,.int .i64 ch),(18,.int .i64 s),(19,.int .i64 t),(20,.int .i64 b),(21,.int .i64 l),(22,.int .i64 i),(23,.int .i64 o),(90,.int .i64 m),(91,.int .i64 i)],L,[],[]):=by kernel_rfl
def nSt (b l:Int) (o:Option (Nat × Nat)):Prop:=(o=none/\b = -1/\l=0) \/ ∃ k v:Nat,o=some (k,v)/\b=k/\l=v
def nxP (n:Nat) (ps:List Pr) (tl:List Int) (c s:Nat) (t:Option Int) (i:Nat):Option (Nat × Nat):=
 (List.range i).foldl (fun b (k:Nat) => if Sp.opM ps s k = true then Sp.pick b k (Sp.rv n ps tl c (s ||| 2 ^ k) (some k) + Sp.cg1 tl t k) else b) none
theorem Ze2 (n:Nat) (ps:List Pr) (tl:List Int) (c s:Nat) (t:Option Int) (i:Nat):nxP n ps tl c s t (i + 1) = if Sp.opM ps s i = true then Sp.pick (nxP n ps tl c s t i) i (Sp.rv n ps tl c (s ||| 2 ^ i) (some (i:Int)) + Sp.cg1 tl t i) else nxP n ps tl c s t i:=by
 unfold nxP
 rw [List.range_succ,List.foldl_append];rfl
abbrev oR (O:List Int) (v:Nat):Row:=⟨O.map (.int .i64),1,v,false,true⟩
def HBR (n:Nat) (ps:List Pr) (tl:List Int) (f:Bool) (C:List AV) (R:Heap) (O:List Int) (v:Nat):Prop:=HB n ps tl f (sW n) C (oR O v::R)/\3 ∉ Zdu (sH f tl (Sp.ndL n ps) (sW n) C (oR O v::R))
section
variable {n:Nat} {ps:List Pr} {tl:List Int} {f:Bool}
theorem afterN {C:List AV} {R L2:Heap} (h:HB n ps tl f (sW n) C R) (hb:BW (Memo n ps tl) (sH f tl (Sp.ndL n ps) (sW n) C R) L2):∃ R2,L2 = sH f tl (Sp.ndL n ps) (sW n) C R2 /\ HB n ps tl f (sW n) C R2:=by
 obtain ⟨M,ρ,hx,hM⟩:=h
 obtain ⟨R2,rfl⟩:=hb.shape hx
 exact ⟨R2,rfl,HB.of hb.2.2⟩
theorem afterR {C:List AV} {R L2:Heap} {O:List Int} {v:Nat} (h:HBR n ps tl f C R O v) (hb:BW (Memo n ps tl) (sH f tl (Sp.ndL n ps) (sW n) C (oR O v :: R)) L2):∃ R2,L2 = sH f tl (Sp.ndL n ps) (sW n) C (oR O v :: R2) /\ HBR n ps tl f C R2 O v:=by
 obtain ⟨⟨M,ρ,hx,hM⟩,h3⟩:=h
 have e3:=hb.2.1 3 h3
 have er:=hb.refs hx
 obtain ⟨R2,rfl⟩:=hb.shape hx
 match R2,e3 with
 | y :: R2,e3 =>
  have:y = oR O v:=Option.some.inj e3
  subst this
  exact ⟨R2,rfl,HB.of hb.2.2,by rw [er];exact h3⟩
theorem zD_loopN (hv:Sp.okV n ps) (hc:¬Sp.cyc n ps) (hn:n <= 16) (htl:tl.length = n) {c s:Nat} {x ch:Int} {t:Option Int} {d:AV} (ht:tOk n x t) (hg:Sp.ZeM n ps (c + 1) s) {C:List AV}
  (H:∀ R b l,HB n ps tl f (sW n) C R -> nSt b l (Sp.nxt n ps tl c s t) -> ZeH f tl (Sp.ndL n ps) (sW n) n C R ch s x b l n n (ZaJ d)) :
  ∀ (e i:Nat) (R:Heap) (b l:Int),i + e = n -> HB n ps tl f (sW n) C R -> nSt b l (nxP n ps tl c s t i) -> ZeH f tl (Sp.ndL n ps) (sW n) n C R ch s x b l n i (ZaJ d):=by
 intro e
 induction e with
 | zero =>
  intro i R b l hi hB hS
  have hi:i = n:=by omega
  subst hi
  exact H R b l hB hS
 | succ e ih =>
  intro i R b l hi hB hS
  have hil:i < n:=by omega
  refine zDN _ _ _ _ _ _ _ _ _ _ _ _ _ _ _ ⟨fun _ => ?_,fun z => absurd (by omega) z⟩
  rw [bsC30]
  refine ZcA (Qc:=isR (.bool (Sp.opM ps s i)) (sH f tl (Sp.ndL n ps) (sW n) C R)) hm1 [0,1] [3] [0,12,16,17,18,19,20,21,22,90,91,94,95] [0,12,16,17,18,19,20,21,22,90,91,97] 2 bsR30 (bsV30 _ _ _ _ _ _ _ _ _ _) Zah Zam (bsK30 _ _ _ _ _ _ _ _ _) (by decide) (open_own hv hn (Zcm hg) hil C R) fun v1 L2 ⟨e1,e2⟩ => ?_
  subst e1;subst e2
  refine ⟨_,_,_,_,bsW30 _ _ _ _ _ _ _ _ _ _ _,Zah,Zam,?_⟩
  refine zDoN f tl (Sp.ndL n ps) (sW n) n C R ch s x b l n i i (!Sp.opM ps s i) _ ⟨fun ho => ⟨by omega,?_⟩,fun ho => ?_⟩
  ·have hno:¬Sp.opM ps s i = true:=fun y => by rw [y] at ho;cases ho
   refine ih (i + 1) R b l (by omega) hB ?_
   rw [Ze2,if_neg hno];exact hS
  ·have ho:Sp.opM ps s i = true:=by
    cases hq:Sp.opM ps s i with
    | true => rfl
    | false => rw [hq] at ho;exact absurd rfl ho
   rw [bsC31]
   refine ZcA (Qc:=fun z L1 => z = .int .i64 (Sp.rv n ps tl c (s ||| 2 ^ i) (some (i:Int)) + Sp.cg1 tl t i:Nat) /\ BW (Memo n ps tl) (sH f tl (Sp.ndL n ps) (sW n) C R) L1) hm1 [0,1,2] [4] [0,12,16,17,18,19,20,21,22,90,91,98,99,100] [0,12,16,17,18,19,20,21,22,23,90,91] 3 bsR31 (bsV31 _ _ _ _ _ _ _ _ _ _ _) Zah Zam (bsK31 _ _ _ _ _ _ _ _ _) (by decide)
    (step_of hv hc hn htl (rest_ok hv hc hn htl c) hg hil ho ht hB) fun v1 L2 ⟨e,h2⟩ => ?_
   subst e
   obtain ⟨R2,rfl,hB2⟩:=afterN hB h2
   refine ⟨_,_,_,_,bsW31 _ _ _ _ _ _ _ _ _ _ _,Zah,Zam,?_⟩
   have hP:=Ze2 n ps tl c s t i
   rw [if_pos ho] at hP
   refine zDvN f tl (Sp.ndL n ps) (sW n) n C R2 ch s x b l n i i _ _ ⟨fun h => ⟨by omega,ih (i + 1) R2 _ _ (by omega) hB2 ?_⟩,fun h => ⟨by omega,ih (i + 1) R2 b l (by omega) hB2 ?_⟩⟩
   ·rw [hP]
    rcases hS with ⟨e0,_,_⟩ | ⟨k,v,e0,e1,e2⟩
    ·rw [e0]
     exact .inr ⟨i,_,rfl,rfl,rfl⟩
    ·rw [e0]
     refine .inr ⟨i,_,?_,rfl,rfl⟩
     unfold Sp.pick
     simp only
     rw [if_pos (by omega)]
   ·rw [hP]
    rcases hS with ⟨e0,e1,_⟩ | ⟨k,v,e0,e1,e2⟩
    ·exact absurd (.inl (by omega)) h
    ·rw [e0]
     refine .inr ⟨k,v,?_,e1,e2⟩
     unfold Sp.pick
     simp only
     rw [if_neg fun y => h (.inr (by omega))]
theorem zD_loopR (hv:Sp.okV n ps) (hc:¬Sp.cyc n ps) (hn:n <= 16) (htl:tl.length = n) {c s:Nat} {x ch:Int} {t:Option Int} {d:AV} (ht:tOk n x t) (hg:Sp.ZeM n ps (c + 1) s) {C:List AV} {O:List Int} {v:Nat}
  (H:∀ R b l,HBR n ps tl f C R O v -> nSt b l (Sp.nxt n ps tl c s t) -> ZeG f tl (Sp.ndL n ps) (sW n) n C R O v ch s x b l n n (ZaJ d)) :
  ∀ (e i:Nat) (R:Heap) (b l:Int),i + e = n -> HBR n ps tl f C R O v -> nSt b l (nxP n ps tl c s t i) -> ZeG f tl (Sp.ndL n ps) (sW n) n C R O v ch s x b l n i (ZaJ d):=by
 intro e
 induction e with
 | zero =>
  intro i R b l hi hB hS
  have hi:i = n:=by omega
  subst hi
  exact H R b l hB hS
 | succ e ih =>
  intro i R b l hi hB hS
  have hil:i < n:=by omega
  refine zDR _ _ _ _ _ _ _ _ _ _ _ _ _ _ _ _ _ ⟨fun _ => ?_,fun z => absurd (by omega) z⟩
  rw [bsC30]
  refine ZcA (Qc:=isR (.bool (Sp.opM ps s i)) (sH f tl (Sp.ndL n ps) (sW n) C (oR O v :: R))) hm1 [0,1] [3] [0,12,16,17,18,19,20,21,22,90,91,94,95] [0,12,16,17,18,19,20,21,22,90,91,97] 2 bsR30 (bsV30 _ _ _ _ _ _ _ _ _ _) Zah Zam (bsK30 _ _ _ _ _ _ _ _ _) (by decide) (open_own hv hn (Zcm hg) hil C (oR O v :: R)) fun v1 L2 ⟨e1,e2⟩ => ?_
  subst e1;subst e2
  refine ⟨_,_,_,_,bsW30 _ _ _ _ _ _ _ _ _ _ _,Zah,Zam,?_⟩
  refine zDoR f tl (Sp.ndL n ps) (sW n) n C R O v ch s x b l n i i (!Sp.opM ps s i) _ ⟨fun ho => ⟨by omega,?_⟩,fun ho => ?_⟩
  ·have hno:¬Sp.opM ps s i = true:=fun y => by rw [y] at ho;cases ho
   refine ih (i + 1) R b l (by omega) hB ?_
   rw [Ze2,if_neg hno];exact hS
  ·have ho:Sp.opM ps s i = true:=by
    cases hq:Sp.opM ps s i with
    | true => rfl
    | false => rw [hq] at ho;exact absurd rfl ho
   rw [bsC31]
   refine ZcA (Qc:=fun z L1 => z = .int .i64 (Sp.rv n ps tl c (s ||| 2 ^ i) (some (i:Int)) + Sp.cg1 tl t i:Nat) /\ BW (Memo n ps tl) (sH f tl (Sp.ndL n ps) (sW n) C (oR O v :: R)) L1) hm1 [0,1,2] [4] [0,12,16,17,18,19,20,21,22,90,91,98,99,100] [0,12,16,17,18,19,20,21,22,23,90,91] 3 bsR31 (bsV31 _ _ _ _ _ _ _ _ _ _ _) Zah Zam (bsK31 _ _ _ _ _ _ _ _ _) (by decide)
    (step_of hv hc hn htl (rest_ok hv hc hn htl c) hg hil ho ht hB.1) fun v1 L2 ⟨e,h2⟩ => ?_
   subst e
   obtain ⟨R2,rfl,hB2⟩:=afterR hB h2
   refine ⟨_,_,_,_,bsW31 _ _ _ _ _ _ _ _ _ _ _,Zah,Zam,?_⟩
   have hP:=Ze2 n ps tl c s t i
   rw [if_pos ho] at hP
   refine zDvR f tl (Sp.ndL n ps) (sW n) n C R2 O v ch s x b l n i i _ _ ⟨fun h => ⟨by omega,ih (i + 1) R2 _ _ (by omega) hB2 ?_⟩,fun h => ⟨by omega,ih (i + 1) R2 b l (by omega) hB2 ?_⟩⟩
   ·rw [hP]
    rcases hS with ⟨e0,_,_⟩ | ⟨k,v,e0,e1,e2⟩
    ·rw [e0]
     exact .inr ⟨i,_,rfl,rfl,rfl⟩
    ·rw [e0]
     refine .inr ⟨i,_,?_,rfl,rfl⟩
     unfold Sp.pick
     simp only
     rw [if_pos (by omega)]
   ·rw [hP]
    rcases hS with ⟨e0,e1,_⟩ | ⟨k,v,e0,e1,e2⟩
    ·exact absurd (.inl (by omega)) h
    ·rw [e0]
     refine .inr ⟨k,v,?_,e1,e2⟩
     unfold Sp.pick
     simp only
     rw [if_neg fun y => h (.inr (by omega))]
theorem mx_free {L:Heap} {C:List AV} {M:List (Option Row)} {ρ:Nat -> Nat} (h:MX3 L C M ρ) {r:Nat} {z:Row} (hr:3 <= r) (hno:r ∉ Zdu L) (hz:Zag z = []):MX3 (L.set r z) C M ρ:=by
 have hne:∀ q,q ≠ r -> (L.set r z)[q]? = L[q]?:=fun q hq => by rw [List.getElem?_set,if_neg fun e => hq e.symm]
 refine ⟨by rw [List.length_set];exact h.len,h.osU,fun u hu => ?_,fun q row hq hqo hrow => ?_,fun q row hq hrow => ?_,fun u hu j row hm => ?_,h.nil,h.inj,h.hcl⟩
 ·rw [List.mem_singleton] at hu
  subst hu
  rw [hne 2 (by omega)];exact h.out 2 (by simp)
 ·rw [hne q (by omega)] at hrow;exact h.fix q row hq hqo hrow
 ·by_cases e:q = r
  ·subst e
   by_cases hl:q < L.length
   ·rw [List.getElem?_set,if_pos rfl,if_pos hl] at hrow
    rw [<- Option.some.inj hrow];exact hz
   ·rw [List.getElem?_eq_none (by rw [List.length_set];omega)] at hrow;cases hrow
  ·rw [hne q e] at hrow;exact h.cln q row hq hrow
 ·rw [List.mem_singleton] at hu
  subst hu
  obtain ⟨e1,e2,e3⟩:=h.hit 2 (by simp) j row hm
  have:ρ j ≠ r:=fun e => hno (by rw [<- e];exact refs2_hit h hm)
  rw [hne _ this];exact ⟨e1,e2,e3⟩
theorem HBR.row {C:List AV} {R:Heap} {O O':List Int} {v v':Nat} (h:HBR n ps tl f C R O v):HBR n ps tl f C R O' v':=by
 obtain ⟨⟨M,ρ,hx,hM⟩,h3⟩:=h
 have:=mx_free hx (r:=3) (z:=oR O' v') (Nat.le_refl 3) h3 (by simp [Zag])
 exact ⟨⟨M,ρ,this,hM⟩,h3⟩
theorem or_bits {s k:Nat} (hn:n <= 16) (hs:s < 2 ^ n) (hk:k < n):(1:Int) * 2 ^ min ((k:Nat):Int).toNat IntKind.i64.bits = ((2 ^ k:Nat):Int) /\ (BitVec.ofInt IntKind.i64.bits ((s:Nat):Int) ||| BitVec.ofInt IntKind.i64.bits (((2 ^ k:Nat)):Int)).toNat = s ||| 2 ^ k /\ s ||| 2 ^ k < 2 ^ 17 /\ 2 ^ k <= 65536:=by
 have hp:=pow16 hn
 have hkp:=Zej hk hn
 have e1:(1:Int) * 2 ^ min ((k:Nat):Int).toNat IntKind.i64.bits = ((2 ^ k:Nat):Int):=by
  rw [Int.toNat_natCast,show min k IntKind.i64.bits = k by show min k 64 = k;omega,Int.one_mul];simp
 refine ⟨e1,?_⟩
 clear e1
 revert hkp
 generalize 2 ^ k = q
 intro hkp
 exact ⟨bv_or (by omega) (by omega),Nat.or_lt_two_pow (by omega) (by omega),hkp⟩
theorem nxt_at {c s:Nat} {t:Option Int} {b l:Int} (hv:Sp.okV n ps) (hc:¬Sp.cyc n ps) (hg:Sp.ZeM n ps (c + 1) s) (h:nSt b l (Sp.nxt n ps tl c s t)):∃ k:Nat,b = k /\ k < n /\ Sp.opM ps s k = true /\ l = (Sp.rv n ps tl (c + 1) s t:Nat) /\ Sp.gr n ps tl (c + 1) s t = (k:Int) :: Sp.gr n ps tl c (s ||| 2 ^ k) (some (k:Int)):=by
 obtain ⟨k,v,e,hk,ho,h1,h2⟩:=Zd1 (tl:=tl) (t:=t) hv hc hg
 rw [e] at h
 rcases h with ⟨h,_⟩ | ⟨k',v',h,h3,h4⟩
 ·cases h
 ·cases h
  exact ⟨k,h3,hk,ho,by rw [h4,h2],by rw [Sp.gr,e]⟩
theorem row_end {C:List AV} {R:Heap} {O:List Int} {v:Nat} {ch:Int}:ZaJ (.tup [.vec false 1 (O.map (.int .i64)),.int .i64 ch,.int .i64 0]) (.tup [.row 3 v,.int .i64 ch,.int .i64 0]) (sH f tl (Sp.ndL n ps) (sW n) C (oR O v :: R)):=by
 refine ⟨_,rfl,?_,.refl _⟩
 exact Zaf (by simp [Zbf]) Zah
theorem zC_loop (hv:Sp.okV n ps) (hc:¬Sp.cyc n ps) (hn:n <= 16) (htl:tl.length = n) {ch:Int}:∀ (c:Nat) (O:List Int) (k:Nat) (C:List AV) (R:Heap) (v:Nat),Sp.ZaR n ps O -> O.length + c = n -> k < n -> HBR n ps tl f C R O v ->
  zCR_at f tl (Sp.ndL n ps) (sW n) n C R O v ch (Sp.msk O:Nat) k (ZaJ (.tup [.vec false 1 ((O ++ Sp.gr n ps tl c (Sp.msk O) (some (k:Int))).map (.int .i64)),.int .i64 ch,.int .i64 0])):=by
 intro c
 induction c with
 | zero =>
  intro O k C R v hb hl hk hB
  have hg:Sp.ZeM n ps 0 (Sp.msk O):=⟨O,hb,hl,rfl⟩
  have:=good_full hg
  refine zCR _ _ _ _ _ _ _ _ _ _ _ _ _ ⟨fun z => absurd (by rw [this]) z,fun _ => ?_⟩
  rw [Sp.gr,List.append_nil]
  exact row_end
 | succ c ih =>
  intro O k C R v hb hl hk hB
  have hg:Sp.ZeM n ps (c + 1) (Sp.msk O):=⟨O,hb,hl,rfl⟩
  have hnf:=Zc7 hv hc hg
  refine zCR _ _ _ _ _ _ _ _ _ _ _ _ _ ⟨fun _ => ?_,fun z => absurd (fun y => hnf (Int.ofNat.inj y)) z⟩
  refine zD_loopR hv hc hn htl (t:=some (k:Int)) (.inr ⟨k,hk,rfl,rfl⟩) hg (fun R b l hB hS => ?_) n 0 R (-1) 0 (by omega) hB (.inl ⟨rfl,rfl,rfl⟩)
  obtain ⟨q,rfl,hq,ho,_,hgr⟩:=nxt_at hv hc hg hS
  obtain ⟨o1,o2,o3,o4⟩:=or_bits hn (Zcm hg) hq
  have hb':=Zba hv hb hq ho
  refine zDR _ _ _ _ _ _ _ _ _ _ _ _ _ _ _ _ _ ⟨fun z => absurd z (by omega),fun _ => ⟨fun z => absurd z (by omega),fun _ => ?_⟩⟩
  rw [o1,o2]
  have hn2:=ih (O ++ [(q:Int)]) q C R (v + 1) hb' (by simp;omega) hq hB.row
  rw [Zdi,Int.toNat_natCast,List.append_assoc,List.singleton_append] at hn2
  rw [hgr]
  have hol:O.length <= 16:=by omega
  revert o3 o4 hn2
  generalize 2 ^ q = y
  intro o3 o4 hn2
  exact ⟨by omega,by omega,by omega,by omega,hn2⟩
theorem refs_four {L:Heap} {C:Nat -> List AV} {M:Nat -> List (Option Row)} {ρ:Nat -> Nat -> Nat} (h:Mx 4 [2] L C (fun _ => 0) M ρ) (h3:MX3 L (C 2) (M 2) (ρ 2)):3 ∉ Zdu L:=fun hr => by
 obtain ⟨o1,o2⟩:=h3.out 2 (by simp)
 unfold Zdu at hr
 rw [o1] at hr
 have hr:3 ∈ rowsL (C 2):=hr
 obtain ⟨j,c,hc,hrc⟩:=Zce hr
 have hj:j < (M 2).length:=by rw [<- o2];exact (List.getElem?_eq_some_iff.1 hc).1
 cases hm:(M 2)[j] with
 | none =>
  rw [h.nil 2 (by simp) j (by rw [List.getElem?_eq_getElem hj,hm])] at hc
  rw [<- Option.some.inj hc] at hrc;cases hrc
 | some row =>
  obtain ⟨d1,d2,d3⟩:=h.hit 2 (by simp) j row (by rw [List.getElem?_eq_getElem hj,hm])
  rw [d1] at hc
  rw [<- Option.some.inj hc] at hrc
  have:3 = ρ 2 j:=by simpa [rowsA] using hrc
  omega
theorem zC_first (hv:Sp.okV n ps) (hc:¬Sp.cyc n ps) (hn:n <= 16) (h0:0 < n) (htl:tl.length = n) {C:List AV} {R:Heap} (hB:HB n ps tl f (sW n) C R) :
  zCN_at f tl (Sp.ndL n ps) (sW n) n C R 0 0 (-1) (ZaJ (.tup [.vec false 1 ((Sp.gr n ps tl n 0 none).map (.int .i64)),.int .i64 (Sp.rv n ps tl n 0 none:Nat),.int .i64 0])):=by
 obtain ⟨c,rfl⟩:∃ c,n = c + 1:=⟨n - 1,by omega⟩
 have hg:Sp.ZeM (c + 1) ps (c + 1) 0:=Zd9
 have hnf:=Zc7 hv hc hg
 refine zCN _ _ _ _ _ _ _ _ _ _ _ ⟨fun _ => ?_,fun z => absurd (fun y => hnf (Int.ofNat.inj (show Int.ofNat 0 = Int.ofNat _ from y))) z⟩
 refine zD_loopN hv hc hn htl (t:=none) (s:=0) (.inl ⟨rfl,rfl⟩) hg (fun R b l hB hS => ?_) (c + 1) 0 R (-1) 0 (by omega) hB (.inl ⟨rfl,rfl,rfl⟩)
 obtain ⟨q,rfl,hq,ho,rfl,hgr⟩:=nxt_at hv hc hg hS
 obtain ⟨o1,o2,o3,o4⟩:=or_bits hn (Zcm hg) hq
 have hb':=Zba (O:=[]) hv (fun j hj => by simp at hj) hq ho
 refine zDN _ _ _ _ _ _ _ _ _ _ _ _ _ _ _ ⟨fun z => absurd z (by omega),fun _ => ⟨fun _ => ?_,fun z => absurd (by omega) z⟩⟩
 have o2':(BitVec.ofInt IntKind.i64.bits 0 ||| BitVec.ofInt IntKind.i64.bits (((2 ^ q:Nat)):Int)).toNat = 0 ||| 2 ^ q:=o2
 rw [o1,show (((0:Nat)):Int) = 0 from rfl,o2',es3]
 refine ⟨by omega,by revert o4;generalize 2 ^ q = y;intro o4;omega,by revert o3;generalize 2 ^ q = y;intro o3;omega,?_⟩
 obtain ⟨M,ρ,hx,hM⟩:=hB
 have s0:swp 3 (sH f tl (Sp.ndL (c + 1) ps) (sW (c + 1)) C R).length 0 = 0:=Zb5 (by omega) (by simp)
 have sL:swp 3 (sH f tl (Sp.ndL (c + 1) ps) (sW (c + 1)) C R).length (sH f tl (Sp.ndL (c + 1) ps) (sW (c + 1)) C R).length = 3:=swp_q ..
 refine wp_box hx (z:=oR [(q:Int)] 0) (by simp [Zag]) (by intro r hr;simp [rowsL,rowsA] at hr;simp;omega) (env':=[(0,.int .i64 ((c + 1:Nat):Int)),(12,AV.ptr 0 0 0 0),(16,.row 3 0),(17,.int .i64 (Sp.rv (c + 1) ps tl (c + 1) 0 none:Nat)),(18,.int .i64 ((0 ||| 2 ^ q:Nat):Int)),(19,.int .i64 q)]) ?_ fun L' C' ρ' h' hU hfix => ?_
 ·have sL':swp 3 (sH f tl (Sp.ndL (c + 1) ps) (sW (c + 1)) C R).length (R.length + 1 + 1 + 1) = 3:=sL
  unfold renV
  simp only [List.map_cons,List.map_nil,renA,s0,sL']
 ·have hd:=Zdw (Mx.down (U:=3) h' (by intro u hu;rw [List.mem_singleton] at hu;omega) hU (by simp [Zag]) fun r row hr hno hrow => by
   rw [hfix r hr hno] at hrow
   exact sH_refs r row hr hno hrow)
  have h3:=refs_four h' hd
  obtain ⟨R',rfl⟩:=Zea hd hfix hU
  have:=zC_loop (ch:=(Sp.rv (c + 1) ps tl (c + 1) 0 none:Nat)) hv hc hn htl c [(q:Int)] q (C' 2) R' 0 hb' (by simp;omega) hq ⟨⟨M,_,hd,hM⟩,h3⟩
  rw [show Sp.msk [(q:Int)] = 0 ||| 2 ^ q by rw [show [(q:Int)] = [] ++ [(q:Int)] from rfl,Zdi,Int.toNat_natCast];rfl,List.singleton_append,<- hgr] at this
  exact this
end
end Go.Av

namespace Go.Av
open Go.Proofs
namespace Sp
def bsE (n:Int) (ps:List Pr) (tl:List Int):Int:=if vd n ps=0 then (if (tl.length:Int)=n then (if n>16 then 3 else ZeJ n ps) else 1) else vd n ps
def bsL (n:Int) (ps:List Pr) (tl:List Int):List Int:=if bsE n ps tl=0 then gr n.toNat ps tl n.toNat 0 none else []
def bsC (n:Int) (ps:List Pr) (tl:List Int):Int:=if bsE n ps tl=0 then (rv n.toNat ps tl n.toNat 0 none:Nat) else 0
end Sp
theorem Zfb {a b c a' b' c':AV} (h1:Weak a a') (h2:Weak b b') (h3:Weak c c'):Weak (.tup [a,b,c]) (.tup [a',b',c']):=
 .tup _ _ rfl fun i x y hx hy => by
  match i with
  | 0 => rw [<- Option.some.inj hx,<- Option.some.inj hy];exact h1
  | 1 => rw [<- Option.some.inj hx,<- Option.some.inj hy];exact h2
  | 2 => rw [<- Option.some.inj hx,<- Option.some.inj hy];exact h3
  | i + 3 => cases hx
theorem bs_err {e:Int}:ZaJ (.tup [.vec false 1 (([]:List Int).map (.int .i64)),.int .i64 0,.int .i64 e]) (.tup [.vnil,.int .i64 0,.int .i64 e]) []:=
 ⟨_,rfl,Zah,Zfb (.vnil 1) (.refl _) (.refl _)⟩
theorem bsF_eq {n:Nat} (hn:n <= 16):bsF n = sW n:=by
 have hp:=pow16 hn
 have hpos:0 < 2 ^ n:=Nat.two_pow_pos n
 unfold bsF
 rw [sh_pow hn]
 show _ = ((2 ^ n - 1:Nat):Int)
 revert hp hpos
 generalize 2 ^ n = q
 intro hp hpos
 rw [w64 ((q:Nat):Int) (by omega),w64 _ (by omega)]
 omega
theorem bs_go {n:Nat} {ps:List Pr} {tl:List Int} {f g:Bool} (hv:Sp.okV n ps) (hc:¬Sp.cyc n ps) (hn:n <= 16) (hpl:ps.length <= 1000000) (htl:tl.length = n) :
  Wp M1 (.run fi24 (atC (cd Try.f24) [1,1,1,1,1,1]) (bsV n g (ps.map Pr.v)) (bsH n f (tl.map (.int .i64)))) (ZaJ (.tup [.vec false 1 ((Sp.gr n ps tl n 0 none).map (.int .i64)),.int .i64 (Sp.rv n ps tl n 0 none:Nat),.int .i64 0])):=by
 by_cases h0:n = 0
 ·subst h0
  have ht:tl = []:=List.length_eq_zero_iff.1 htl
  have hp:ps = []:=List.eq_nil_iff_forall_not_mem.2 fun p hp => by have:=hv p hp;omega
  subst ht;subst hp
  have e:bsH (((0:Nat)):Int) f (([]:List Int).map (.int .i64)) = [⟨[.agg [.row 1 0,.vec f 1 (([]:List Int).map (.int .i64)),.int .i64 0,.row 2 0]],4,0,false,false⟩,⟨([]:List Int).map (.int .i64),1,0,false,true⟩,⟨[],1,0,false,true⟩]:=by
   unfold bsH
   rw [bsF_eq (by omega)];rfl
  rw [e]
  exact zB0 f g _ (zB0a _ _ _ (zB0b _ _ _ (zB0c _ _ ⟨_,rfl,Zah,Zfb (.vnil 1) (.refl _) (.refl _)⟩)))
 ·have e:bsH n f (tl.map (.int .i64)) = sF f tl (sW n) :: iR (List.replicate n 0) :: ⟨List.replicate n .vnil,1,0,false,true⟩ :: []:=by
   unfold bsH
   have er:iR (List.replicate n 0) = ⟨List.replicate n (.int .i64 0),1,0,false,true⟩:=by unfold iR;rw [List.map_replicate]
   rw [bsF_eq hn,Int.toNat_natCast,er]
  rw [e]
  refine tb_first (ps:=ps) (f:=f) (g:=g) (tl:=tl) (nd:=List.replicate n 0) (w:=sW n) hn (by omega) fun C R hB => ?_
  have hl:=ms_loop (ps:=ps) (tl:=tl) (f:=f) (g:=g) (w:=sW n) (qs:=ps) (d:=.tup [.vec false 1 ((Sp.gr n ps tl n 0 none).map (.int .i64)),.int .i64 (Sp.rv n ps tl n 0 none:Nat),.int .i64 0]) hv hn hpl (fun C R hB => zC_first hv hc hn (by omega) htl hB) ps.length 0 C R (by omega)
  rw [List.take_zero,ndL_nil] at hl
  exact hl hB
theorem ev24 (n:Int) (f g:Bool) (ps:List Pr) (tl:List Int):Ev M1 (.pure 24 [.int .i64 n,.vec g 2 (ps.map Pr.v),.vec f 1 (tl.map (.int .i64))]) (.tup [.vec false 1 ((Sp.bsL n ps tl).map (.int .i64)),.int .i64 (Sp.bsC n ps tl),.int .i64 (Sp.bsE n ps tl)]) []:=by
 refine Zf3 hm1 Try.f24 fi24 (by kernel_rfl) (by kernel_rfl) (by kernel_rfl) (by kernel_rfl) (zB n f g ps tl _ ⟨fun h => ?_,fun h => ⟨fun h1 => ?_,fun h1 => ⟨fun h2 => ?_,fun h2 => ⟨fun h3 => ?_,fun h3 => ?_⟩⟩⟩⟩)
 ·have e:Sp.bsE n ps tl = Sp.vd n ps:=if_neg h
  unfold Sp.bsL Sp.bsC
  rw [e,if_neg h,if_neg h]
  exact bs_err
 ·have e:Sp.bsE n ps tl = 1:=by unfold Sp.bsE;rw [if_pos (Classical.not_not.1 h),if_neg h1]
  unfold Sp.bsL Sp.bsC
  rw [e,if_neg (by omega),if_neg (by omega)]
  exact bs_err
 ·have e:Sp.bsE n ps tl = 3:=by unfold Sp.bsE;rw [if_pos (Classical.not_not.1 h),if_pos (Classical.not_not.1 h1),if_pos h2]
  unfold Sp.bsL Sp.bsC
  rw [e,if_neg (by omega),if_neg (by omega)]
  exact bs_err
 ·have e:Sp.bsE n ps tl = Sp.ZeJ n ps:=by unfold Sp.bsE;rw [if_pos (Classical.not_not.1 h),if_pos (Classical.not_not.1 h1),if_neg h2]
  unfold Sp.bsL Sp.bsC
  rw [e,if_neg h3,if_neg h3]
  exact bs_err
 ·have h:=Classical.not_not.1 h
  have h1:=Classical.not_not.1 h1
  have h3:=Classical.not_not.1 h3
  have e:Sp.bsE n ps tl = 0:=by unfold Sp.bsE;rw [if_pos h,if_pos h1,if_neg h2,h3]
  unfold Sp.bsL Sp.bsC
  rw [e,if_pos rfl,if_pos rfl]
  obtain ⟨m,rfl,hv,hn,hpl⟩:=Zfe h
  rw [Int.toNat_natCast]
  have hc:¬Sp.cyc m ps:=fun hy => by
   unfold Sp.ZeJ at h3
   rw [if_pos h,Int.toNat_natCast,(Zed hv).2 hy] at h3
   cases h3
  exact bs_lay (by omega) (bs_go hv hc (by omega) hpl (by omega))
end Go.Av

namespace Go.Av
open Go.Proofs
def ZfJ (t:Option Int):List Int -> Option Int
 | [] => t
 | x :: l => ZfJ (some x) l
theorem Zdk (x:Int):∀ (l:List Int) (t:Option Int),ZfJ t (l ++ [x]) = some x
 | [],t => rfl
 | y :: l,t => Zdk x l (some y)
theorem cg_app (tl:List Int):∀ (O l:List Int) (t:Option Int),Sp.cg tl t (O ++ l) = Sp.cg tl t O + Sp.cg tl (ZfJ t O) l
 | [],l,t => by simp [Sp.cg,ZfJ]
 | x :: O,l,t => by
  rw [List.cons_append,Sp.cg,Sp.cg,cg_app tl O l (some x),ZfJ];omega
theorem ch_cg {tl:List Int}:∀ (l:List Int) (t:Option Int) (m:Int),(∀ x ∈ l,0 <= x /\ x < (tl.length:Int)) -> Sp.chl tl t m l = m + Sp.cg tl t l
 | [],t,m,_ => by simp [Sp.chl,Sp.cg]
 | x :: l,t,m,h => by
  have hx:=h x (List.mem_cons_self ..)
  have hl:=fun y hy => h y (List.mem_cons_of_mem _ hy)
  unfold Sp.chl
  rw [if_neg (by omega)]
  cases t with
  | none =>
   simp only
   rw [ch_cg l (some x) m hl]
   simp [Sp.cg,Sp.cg1]
  | some y =>
   simp only
   rw [ch_cg l (some x) _ hl]
   simp only [Sp.cg,Sp.cg1]
   split <;> omega
namespace Sp
def full (n:Nat) (ps:List Pr) (tl:List Int) (c:Nat) (O:List Int):List Int:=O++gr n ps tl c (msk O) (ZfJ none O)
def Ze6 (n:Nat) (ps:List Pr) (tl:List Int) (c:Nat) (O:List Int):Option (List Int) -> List Int
 | none => full n ps tl c O
 | some x => if cg tl none (full n ps tl c O) < cg tl none x then full n ps tl c O else x
end Sp
section
variable {n:Nat} {ps:List Pr} {tl:List Int}
theorem ZdC (hv:Sp.okV n ps) (hc:¬Sp.cyc n ps):∀ (c:Nat) (O:List Int),Sp.ZaR n ps O -> O.length + c = n -> Sp.ZaR n ps (Sp.full n ps tl c O) /\ (Sp.full n ps tl c O).length = n
 | 0,O,hb,hl => by unfold Sp.full;rw [Sp.gr,List.append_nil];exact ⟨hb,hl⟩
 | c + 1,O,hb,hl => by
  obtain ⟨k,v,e,hk,ho,h1,h2⟩:=Zd1 (tl:=tl) (t:=ZfJ none O) hv hc ⟨O,hb,hl,rfl⟩
  have ih:=ZdC hv hc c (O ++ [(k:Int)]) (Zba hv hb hk ho) (by simp;omega)
  have e2:Sp.full n ps tl (c + 1) O = Sp.full n ps tl c (O ++ [(k:Int)]):=by
   unfold Sp.full
   rw [Sp.gr,e,Zdi,Int.toNat_natCast,Zdk,List.append_assoc];rfl
  rw [e2];exact ih
theorem ZfQ (hv:Sp.okV n ps) (hc:¬Sp.cyc n ps) {c:Nat} {O:List Int} (hb:Sp.ZaR n ps O) (hl:O.length + c = n):Sp.cg tl none (Sp.full n ps tl c O) = Sp.cg tl none O + Sp.rv n ps tl c (Sp.msk O) (ZfJ none O):=by
 unfold Sp.full
 rw [cg_app,gr_cost hv hc c _ _ ⟨O,hb,hl,rfl⟩]
def cand (n:Nat) (ps:List Pr) (tl:List Int) (c:Nat) (O:List Int) (L:List Nat):List (List Int):=(L.filter fun k=>Sp.opM ps (Sp.msk O) k).map fun (k:Nat)=>Sp.full n ps tl c (O++[(k:Int)])
theorem ZgG {α:Type} {f g:α -> Nat}:∀ (L:List α) (b:Option (α × Nat)),(∀ x ∈ L,f x = g x) -> Sp.ZfW f b L = Sp.ZfW g b L
 | [],b,_ => rfl
 | x :: L,b,h => by
  have e:∀ f:α -> Nat,Sp.ZfW f b (x :: L) = Sp.ZfW f (Sp.pick b x (f x)) L:=fun f => rfl
  rw [e,e,h x (List.mem_cons_self ..)]
  exact ZgG L _ fun y hy => h y (List.mem_cons_of_mem _ hy)
theorem ZdD {F:Nat -> Bool} {g:Nat -> Nat}:∀ (L:List Nat) (b:Option (Nat × Nat)),Sp.ZfW g b (L.filter F) = L.foldl (fun b k => if F k = true then Sp.pick b k (g k) else b) b
 | [],b => rfl
 | x :: L,b => by
  rw [List.foldl_cons]
  by_cases h:F x = true
  ·rw [List.filter_cons_of_pos h,if_pos h]
   exact ZdD L _
  ·rw [List.filter_cons_of_neg h,if_neg h]
   exact ZdD L b
theorem cand_min (hv:Sp.okV n ps) (hc:¬Sp.cyc n ps) {c:Nat} {O:List Int} (hb:Sp.ZaR n ps O) (hl:O.length + (c + 1) = n):Sp.ZfW (Sp.cg tl none) none (cand n ps tl c O (List.range n)) = some (Sp.full n ps tl (c + 1) O,Sp.cg tl none (Sp.full n ps tl (c + 1) O)):=by
 have hg:Sp.ZeM n ps (c + 1) (Sp.msk O):=⟨O,hb,hl,rfl⟩
 obtain ⟨k,v,e,hk,ho,h1,h2⟩:=Zd1 (tl:=tl) (t:=ZfJ none O) hv hc hg
 unfold cand
 have m:=fmin_map (fun k:Nat => Sp.full n ps tl c (O ++ [(k:Int)])) (Sp.cg tl none) ((List.range n).filter fun k => Sp.opM ps (Sp.msk O) k) none
 simp only [Option.map_none] at m
 rw [m]
 have hcongr:=ZgG (f:=fun k:Nat => Sp.cg tl none (Sp.full n ps tl c (O ++ [(k:Int)]))) (g:=fun k:Nat => Sp.rv n ps tl c (Sp.msk O ||| 2 ^ k) (some (k:Int)) + Sp.cg1 tl (ZfJ none O) k + Sp.cg tl none O) ((List.range n).filter fun k => Sp.opM ps (Sp.msk O) k) none fun j hj => by
  obtain ⟨hj1,hj2⟩:=List.mem_filter.1 hj
  have hj1:=List.mem_range.1 hj1
  rw [ZfQ hv hc (Zba hv hb hj1 hj2) (by simp;omega),Zdi,Int.toNat_natCast,Zdk,cg_app]
  simp only [Sp.cg]
  omega
 rw [hcongr]
 have a:=fmin_add (Sp.cg tl none O) (fun k:Nat => Sp.rv n ps tl c (Sp.msk O ||| 2 ^ k) (some (k:Int)) + Sp.cg1 tl (ZfJ none O) k) ((List.range n).filter fun k => Sp.opM ps (Sp.msk O) k) none
 simp only [Option.map_none] at a
 rw [a,ZdD]
 have e':=e
 unfold Sp.nxt at e'
 rw [e']
 simp only [Option.map_some]
 have ef:Sp.full n ps tl (c + 1) O = Sp.full n ps tl c (O ++ [(k:Int)]):=by
  unfold Sp.full
  rw [Sp.gr,e,Zdi,Int.toNat_natCast,Zdk,List.append_assoc];rfl
 rw [ZfQ hv hc hb hl,<- h2,ef,Nat.add_comm v]
def pr2 (tl:List Int) (b:Option (List Int)):Option (List Int × Nat):=b.map fun x=>(x,Sp.cg tl none x)
theorem betv_pick (c:Nat) (O:List Int) (b:Option (List Int)):pr2 tl (some (Sp.Ze6 n ps tl c O b)) = Sp.pick (pr2 tl b) (Sp.full n ps tl c O) (Sp.cg tl none (Sp.full n ps tl c O)):=by
 cases b with
 | none => rfl
 | some x =>
  unfold pr2 Sp.Ze6 Sp.pick
  simp only [Option.map_some]
  split <;> rfl
def betF (n:Nat) (ps:List Pr) (tl:List Int) (c:Nat) (O:List Int) (b:Option (List Int)) (k:Nat):Option (List Int):=if Sp.opM ps (Sp.msk O) k=true then some (Sp.Ze6 n ps tl c (O++[(k:Int)]) b) else b
theorem betF_fold (c:Nat) (O:List Int):∀ (L:List Nat) (b:Option (List Int)),pr2 tl (L.foldl (betF n ps tl c O) b) = Sp.ZfW (Sp.cg tl none) (pr2 tl b) (cand n ps tl c O L)
 | [],b => rfl
 | k :: L,b => by
  rw [List.foldl_cons,betF_fold c O L]
  unfold betF cand
  by_cases h:Sp.opM ps (Sp.msk O) k = true
  ·rw [if_pos h,List.filter_cons_of_pos h,List.map_cons,betv_pick];rfl
  ·rw [if_neg h,List.filter_cons_of_neg h]
theorem betF_all (hv:Sp.okV n ps) (hc:¬Sp.cyc n ps) {c:Nat} {O:List Int} (hb:Sp.ZaR n ps O) (hl:O.length + (c + 1) = n) (b:Option (List Int)):(List.range n).foldl (betF n ps tl c O) b = some (Sp.Ze6 n ps tl (c + 1) O b):=by
 have h:=betF_fold (n:=n) (ps:=ps) (tl:=tl) c O (List.range n) b
 rw [ZfV,cand_min hv hc hb hl] at h
 have h2:=betv_pick (n:=n) (ps:=ps) (tl:=tl) (c + 1) O b
 have h3:pr2 tl ((List.range n).foldl (betF n ps tl c O) b) = pr2 tl (some (Sp.Ze6 n ps tl (c + 1) O b)):=by rw [h,h2];rfl
 have h4:=congrArg (Option.map Prod.fst) h3
 unfold pr2 at h4
 rw [Option.map_map,Option.map_map] at h4
 have e:(Prod.fst ∘ fun x:List Int => (x,Sp.cg tl none x)) = id:=rfl
 rw [e,Option.map_id] at h4
 exact h4
def okB (n:Nat) (ps:List Pr) (b:Option (List Int)):Prop:=∀ x,b=some x->x ≠ []/\Sp.ZaR n ps x/\x.length=n
theorem okB_betv (hv:Sp.okV n ps) (hc:¬Sp.cyc n ps) (h0:0 < n) {c:Nat} {O:List Int} (hb:Sp.ZaR n ps O) (hl:O.length + c = n) {b:Option (List Int)} (h:okB n ps b):okB n ps (some (Sp.Ze6 n ps tl c O b)):=fun x hx => by
 cases hx
 have hf:=ZdC (tl:=tl) hv hc c O hb hl
 have hfull:Sp.full n ps tl c O ≠ []:=fun e => by rw [e] at hf;simp at hf;omega
 cases b with
 | none => exact ⟨hfull,hf⟩
 | some x =>
  unfold Sp.Ze6
  simp only
  split
  ·exact ⟨hfull,hf⟩
  ·exact h x rfl
theorem bet_loop (hv:Sp.okV n ps) (hc:¬Sp.cyc n ps) (h0:0 < n) {c:Nat} {O:List Int} (hb:Sp.ZaR n ps O) (hl:O.length + (c + 1) = n) {LN:Nat -> Prop} {LC:Nat -> Int -> List Int -> Prop}
  (h1:∀ k,k < n -> Sp.opM ps (Sp.msk O) k = true -> ∀ y ys,Sp.Ze6 n ps tl c (O ++ [(k:Int)]) none = y :: ys -> LC (k + 1) y ys -> LN k)
  (h2:∀ k,k < n -> ¬Sp.opM ps (Sp.msk O) k = true -> LN (k + 1) -> LN k)
  (h3:∀ k x xs,k < n -> okB n ps (some (x :: xs)) -> Sp.opM ps (Sp.msk O) k = true -> ∀ y ys,Sp.Ze6 n ps tl c (O ++ [(k:Int)]) (some (x :: xs)) = y :: ys -> LC (k + 1) y ys -> LC k x xs)
  (h4:∀ k x xs,k < n -> ¬Sp.opM ps (Sp.msk O) k = true -> LC (k + 1) x xs -> LC k x xs) {r:Int} {rs:List Int} (he:LC n r rs) :
  ∀ (d i:Nat) (b:Option (List Int)),i + d = n -> okB n ps b -> (List.range' i d).foldl (betF n ps tl c O) b = some (r :: rs) -> (b = none -> LN i) /\ ∀ x xs,b = some (x :: xs) -> LC i x xs:=by
 intro d
 induction d with
 | zero =>
  intro i b hi hB hf
  have hi:i = n:=by omega
  subst hi
  have hf:b = some (r :: rs):=hf
  subst hf
  exact ⟨fun e => (nomatch e),fun x xs e => by cases e;exact he⟩
 | succ d ih =>
  intro i b hi hB hf
  rw [List.range'_succ,List.foldl_cons] at hf
  have hil:i < n:=by omega
  by_cases ho:Sp.opM ps (Sp.msk O) i = true
  ·have hbf:betF n ps tl c O b i = some (Sp.Ze6 n ps tl c (O ++ [(i:Int)]) b):=if_pos ho
   rw [hbf] at hf
   have hbo:=Zba hv hb hil ho
   have hok:=okB_betv (tl:=tl) hv hc h0 hbo (c:=c) (by simp;omega) hB
   obtain ⟨i1,i2⟩:=ih (i + 1) _ (by omega) hok hf
   obtain ⟨y,ys,hy⟩:∃ y ys,Sp.Ze6 n ps tl c (O ++ [(i:Int)]) b = y :: ys:=by
    have:=(hok _ rfl).1
    cases hq:Sp.Ze6 n ps tl c (O ++ [(i:Int)]) b with
    | nil => exact absurd hq this
    | cons y ys => exact ⟨y,ys,rfl⟩
   have hlc:=i2 y ys (by rw [hy])
   refine ⟨fun e => ?_,fun x xs e => ?_⟩
   ·subst e;exact h1 i hil ho y ys hy hlc
   ·subst e;exact h3 i x xs hil hB ho y ys hy hlc
  ·have hbf:betF n ps tl c O b i = b:=if_neg ho
   rw [hbf] at hf
   obtain ⟨i1,i2⟩:=ih (i + 1) b (by omega) hB hf
   exact ⟨fun e => h2 i hil ho (i1 e),fun x xs e => h4 i x xs hil ho (i2 x xs e)⟩
end
end Go.Av

namespace Go.Av
open Go.Proofs
def bAV:Option (List Int) -> AV
 | none => .vnil
 | some x => .vec false 1 (x.map (.int .i64))
section
variable {n:Nat} {ps:List Pr} {tl l:List Int} {f g:Bool}
theorem cost_ev (hb:Sp.ZaR n ps l) (htl:tl.length = n) (hl:l.length <= 1000000):Ev M1 (.pure 26 [.vec false 1 (l.map (.int .i64)),.vec g 1 (tl.map (.int .i64))]) (.int .i64 (Sp.cg tl none l:Nat)) []:=by
 have h:=ev26 false g l tl hl
 have e:Sp.ch l tl = (Sp.cg tl none l:Nat):=by
  unfold Sp.ch
  rw [ch_cg l none 0 fun x hx => by have:=Zcz hb x hx;omega];omega
 rw [e] at h
 exact h
theorem ZgN (hv:Sp.okV n ps) (hc:¬Sp.cyc n ps) {c:Nat} {O x:List Int} (hb:Sp.ZaR n ps O) (hl:O.length + c = n) (h:Sp.cg tl none x <= Sp.cg tl none O):Sp.Ze6 n ps tl c O (some x) = x:=by
 have:=ZfQ (tl:=tl) hv hc hb hl
 unfold Sp.Ze6
 simp only
 rw [if_neg (by omega)]
theorem betv_last (O:List Int) (b:Option (List Int)) (h:∀ x,b = some x -> Sp.cg tl none O < Sp.cg tl none x):Sp.Ze6 n ps tl 0 O b = O:=by
 have e:Sp.full n ps tl 0 O = O:=by unfold Sp.full;rw [Sp.gr,List.append_nil]
 unfold Sp.Ze6
 rw [e]
 cases b with
 | none => rfl
 | some x => simp only;rw [if_pos (h x rfl)]
theorem Zcg (hv:Sp.okV n ps) {O:List Int} (hb:Sp.ZaR n ps O) (k:Nat):(¬Sp.mem O (k:Int) = true /\ Sp.rdy ps O (k:Int) = true) ↔ Sp.opM ps (Sp.msk O) k = true:=by
 rw [opM_eq (okV_pos hv) (Zb3 hb),Bool.and_eq_true,Bool.not_eq_true',Bool.not_eq_true]
theorem better_ev (hv:Sp.okV n ps) (hc:¬Sp.cyc n ps) (h0:0 < n) (hn:n <= 1000) (hpl:ps.length <= 1000000) (htl:tl.length = n):∀ (c:Nat) (O:List Int) (b:Option (List Int)),O ≠ [] -> Sp.ZaR n ps O -> O.length + c = n -> okB n ps b ->
  Ev M1 (.pure 44 [.int .i64 n,.vec f 2 (ps.map Pr.v),.vec g 1 (tl.map (.int .i64)),.vec false 1 (O.map (.int .i64)),bAV b]) (.vec false 1 ((Sp.Ze6 n ps tl c O b).map (.int .i64))) []:=by
 intro c
 induction c with
 | zero =>
  intro O b hne hb hl hB
  match O,hne with
  | o :: os,_ =>
   simp only [List.length_cons] at hl
   cases b with
   | none =>
    rw [betv_last _ none (fun x h => nomatch h)]
    exact call44 (bTCN _ _ _ _ _ _ _ _ ⟨0,fun z => (nomatch z),0,fun z => (nomatch z),fun _ => ⟨by omega,.refl _⟩,fun z => absurd (by omega) z⟩)
   | some x =>
    obtain ⟨hxne,hxb,hxl⟩:=hB x rfl
    obtain ⟨x,xs,rfl⟩:=List.exists_cons_of_ne_nil hxne
    ·refine call44 (bTCC _ _ _ _ _ _ _ _ _ _ ⟨_,fun _ => cost_ev hb htl (by simp only [List.length_cons];omega),_,cost_ev hxb htl (by rw [hxl];omega),fun h => ?_,fun h => ⟨fun _ => ⟨by omega,?_⟩,fun z => absurd (by omega) z⟩⟩)
     ·rw [ZgN hv hc hb (by simp only [List.length_cons];omega) (by omega)]
      exact .refl _
     ·rw [betv_last _ _ (fun y hy => by cases hy;omega)]
      exact .refl _
 | succ c ih =>
  intro O b hne hb hl hB
  match O,hne with
  | o :: os,_ =>
   have hol:os.length + 1 + (c + 1) = n:=by simpa using hl
   have hok:=okB_betv (tl:=tl) hv hc h0 hb hl hB
   obtain ⟨r,rs,hr⟩:∃ r rs,Sp.Ze6 n ps tl (c + 1) (o :: os) b = r :: rs:=by
    have:=(hok _ rfl).1
    cases hq:Sp.Ze6 n ps tl (c + 1) (o :: os) b with
    | nil => exact absurd hq this
    | cons y ys => exact ⟨y,ys,rfl⟩
   have hall:=betF_all (tl:=tl) hv hc hb hl b
   rw [hr,List.range_eq_range'] at hall
   rw [hr]
   have hin:∀ k:Nat,Ev M1 (.pure 37 [.vec false 1 ((o :: os).map (.int .i64)),.int .i64 k]) (.bool (Sp.mem (o :: os) k)) []:=fun k => ev37 false (o :: os) k (by unfold Sp.few;simp only [List.length_cons];omega)
   have hrd:∀ k:Nat,Ev M1 (.pure 41 [.vec f 2 (ps.map Pr.v),.vec false 1 ((o :: os).map (.int .i64)),.int .i64 k]) (.bool (Sp.rdy ps (o :: os) k)) []:=fun k => ev41 f false ps (o :: os) k (by unfold Sp.few;simp only [List.length_cons];omega) (by unfold Sp.few;omega)
   have hrec:∀ (k:Nat) b,k < n -> Sp.opM ps (Sp.msk (o :: os)) k = true -> okB n ps b -> Ev M1 (.pure 44 [.int .i64 n,.vec f 2 (ps.map Pr.v),.vec g 1 (tl.map (.int .i64)),.vec false 1 (((o :: os) ++ [(k:Int)]).map (.int .i64)),bAV b]) (.vec false 1 ((Sp.Ze6 n ps tl c ((o :: os) ++ [(k:Int)]) b).map (.int .i64))) []:=fun k b hk ho hB =>
    ih _ b (by simp) (Zba hv hb hk ho) (by simp;omega) hB
   have hmap:∀ k:Nat,((o :: os) ++ [(k:Int)]).map (AV.int .i64) = .int .i64 o :: (os.map (.int .i64) ++ [.int .i64 (k:Int)]):=fun k => by simp
   have hloop:=bet_loop (n:=n) (ps:=ps) (tl:=tl) hv hc h0 hb hl (LN:=fun k => Zgd n f g ps tl o os k (Zan (.vec false 1 ((r :: rs).map (.int .i64))))) (LC:=fun k x xs => ZdH n f g ps tl o os x xs k (Zan (.vec false 1 ((r :: rs).map (.int .i64)))))
    (fun k hk ho y ys hy hn2 => by
     have hh:=hrec k none hk ho (fun x hx => nomatch hx)
     rw [hmap,hy] at hh
     exact bLCN _ _ _ _ _ _ _ _ y ys _ ⟨fun _ => ⟨_,hin k,_,fun _ => hrd k,fun _ => ⟨hh,by omega,by omega,by omega,hn2⟩,fun z => absurd ((Zcg hv hb k).2 ho) z⟩,fun z => absurd (by omega) z⟩)
    (fun k hk ho hn2 => bLCN _ _ _ _ _ _ _ _ 0 [] _ ⟨fun _ => ⟨_,hin k,_,fun _ => hrd k,fun z => absurd ((Zcg hv hb k).1 z) ho,fun _ => ⟨by omega,hn2⟩⟩,fun z => absurd (by omega) z⟩)
    (fun k x xs hk hB ho y ys hy hn2 => by
     have hh:=hrec k (some (x :: xs)) hk ho hB
     rw [hmap,hy] at hh
     exact bLCC _ _ _ _ _ _ _ _ _ _ y ys _ ⟨fun _ => ⟨_,hin k,_,fun _ => hrd k,fun _ => ⟨hh,by omega,by omega,by omega,hn2⟩,fun z => absurd ((Zcg hv hb k).2 ho) z⟩,fun z => absurd (by omega) z⟩)
    (fun k x xs hk ho hn2 => bLCC _ _ _ _ _ _ _ _ _ _ 0 [] _ ⟨fun _ => ⟨_,hin k,_,fun _ => hrd k,fun z => absurd ((Zcg hv hb k).1 z) ho,fun _ => ⟨by omega,hn2⟩⟩,fun z => absurd (by omega) z⟩)
    (r:=r) (rs:=rs) (bLCC _ _ _ _ _ _ _ _ _ _ 0 [] _ ⟨fun z => absurd z (by omega),fun _ => .refl _⟩) n 0 b (by omega) hB hall
   cases b with
   | none =>
    exact call44 (bTCN _ _ _ _ _ _ _ _ ⟨0,fun z => (nomatch z),0,fun z => (nomatch z),fun z => absurd z (by omega),fun _ => hloop.1 rfl⟩)
   | some x =>
    obtain ⟨hxne,hxb,hxl⟩:=hB x rfl
    obtain ⟨x,xs,rfl⟩:=List.exists_cons_of_ne_nil hxne
    ·refine call44 (bTCC _ _ _ _ _ _ _ _ _ _ ⟨_,fun _ => cost_ev hb htl (by simp only [List.length_cons];omega),_,cost_ev hxb htl (by rw [hxl];omega),fun h => ?_,fun h => ⟨fun z => absurd z (by omega),fun _ => hloop.2 x xs rfl⟩⟩)
     rw [ZgN hv hc hb hl (by omega)] at hr
     rw [<- hr]
     exact .refl _
theorem better_top (hv:Sp.okV n ps) (hc:¬Sp.cyc n ps) (h0:0 < n) (hn:n <= 1000) (hpl:ps.length <= 1000000) (htl:tl.length = n) :
  Ev M1 (.pure 44 [.int .i64 n,.vec f 2 (ps.map Pr.v),.vec g 1 (tl.map (.int .i64)),.vnil,.vnil]) (.vec false 1 ((Sp.gr n ps tl n 0 none).map (.int .i64))) []:=by
 obtain ⟨c,rfl⟩:∃ c,n = c + 1:=⟨n - 1,by omega⟩
 have hb:Sp.ZaR (c + 1) ps []:=fun j hj => by simp at hj
 have hl:([]:List Int).length + (c + 1) = c + 1:=by simp
 have hB:okB (c + 1) ps none:=fun x hx => nomatch hx
 have hok:=okB_betv (tl:=tl) hv hc h0 hb hl hB
 have e0:Sp.Ze6 (c + 1) ps tl (c + 1) [] none = Sp.gr (c + 1) ps tl (c + 1) 0 none:=rfl
 obtain ⟨r,rs,hr⟩:∃ r rs,Sp.Ze6 (c + 1) ps tl (c + 1) [] none = r :: rs:=by
  have:=(hok _ rfl).1
  cases hq:Sp.Ze6 (c + 1) ps tl (c + 1) [] none with
  | nil => exact absurd hq this
  | cons y ys => exact ⟨y,ys,rfl⟩
 have hall:=betF_all (tl:=tl) hv hc hb hl none
 rw [hr,List.range_eq_range'] at hall
 rw [<- e0,hr]
 have hin:∀ k:Nat,Ev M1 (.pure 37 [.vnil,.int .i64 k]) (.bool (Sp.mem [] k)) []:=fun k => in_nil k
 have hrd:∀ k:Nat,Ev M1 (.pure 41 [.vec f 2 (ps.map Pr.v),.vnil,.int .i64 k]) (.bool (Sp.rdy ps [] k)) []:=fun k => ready_nil f ps k (by omega)
 have hrec:∀ (k:Nat) b,k < c + 1 -> Sp.opM ps (Sp.msk []) k = true -> okB (c + 1) ps b -> Ev M1 (.pure 44 [.int .i64 ((c + 1:Nat):Int),.vec f 2 (ps.map Pr.v),.vec g 1 (tl.map (.int .i64)),.vec false 1 [.int .i64 (k:Int)],bAV b]) (.vec false 1 ((Sp.Ze6 (c + 1) ps tl c ([] ++ [(k:Int)]) b).map (.int .i64))) []:=fun k b hk ho hB =>
  better_ev hv hc h0 hn hpl htl c ([] ++ [(k:Int)]) b (by simp) (Zba hv hb hk ho) (by simp;omega) hB
 have hloop:=bet_loop (n:=c + 1) (ps:=ps) (tl:=tl) hv hc h0 hb hl (LN:=fun k => Zgc (c + 1:Nat) f g ps tl k (Zan (.vec false 1 ((r :: rs).map (.int .i64))))) (LC:=fun k x xs => ZeC (c + 1:Nat) f g ps tl x xs k (Zan (.vec false 1 ((r :: rs).map (.int .i64)))))
  (fun k hk ho y ys hy hn2 => by
   have hh:=hrec k none hk ho (fun x hx => nomatch hx)
   rw [hy] at hh
   exact bLNN _ _ _ _ _ _ y ys _ ⟨fun _ => ⟨_,hin k,_,fun _ => hrd k,fun _ => ⟨hh,by omega,hn2⟩,fun z => absurd ((Zcg hv hb k).2 ho) z⟩,fun z => absurd (by omega) z⟩)
  (fun k hk ho hn2 => bLNN _ _ _ _ _ _ 0 [] _ ⟨fun _ => ⟨_,hin k,_,fun _ => hrd k,fun z => absurd ((Zcg hv hb k).1 z) ho,fun _ => ⟨by omega,hn2⟩⟩,fun z => absurd (by omega) z⟩)
  (fun k x xs hk hB ho y ys hy hn2 => by
   have hh:=hrec k (some (x :: xs)) hk ho hB
   rw [hy] at hh
   exact bLNC _ _ _ _ _ _ _ _ y ys _ ⟨fun _ => ⟨_,hin k,_,fun _ => hrd k,fun _ => ⟨hh,by omega,hn2⟩,fun z => absurd ((Zcg hv hb k).2 ho) z⟩,fun z => absurd (by omega) z⟩)
  (fun k x xs hk ho hn2 => bLNC _ _ _ _ _ _ _ _ 0 [] _ ⟨fun _ => ⟨_,hin k,_,fun _ => hrd k,fun z => absurd ((Zcg hv hb k).1 z) ho,fun _ => ⟨by omega,hn2⟩⟩,fun z => absurd (by omega) z⟩)
  (r:=r) (rs:=rs) (bLNC _ _ _ _ _ _ _ _ 0 [] _ ⟨fun z => absurd z (by omega),fun _ => .refl _⟩) (c + 1) 0 none (by omega) hB hall
 exact call44 (bTNN _ _ _ _ _ _ ⟨0,fun z => (nomatch z),0,fun z => (nomatch z),fun z => absurd z (by omega),fun _ => hloop.1 rfl⟩)
end
end Go.Av

namespace Go.Av
open Go.Proofs
set_option maxRecDepth 100000
def fi25:Fi:=⟨36,[.tmp 6,.tmp 7,.tmp 8]⟩
def kp25:List (Nat × List Nat):=[(0,[0,1,2]),(1,[0,1,2,9]),(2,[0,1,2,9,15]),(3,[6,7,8]),(4,[0,1,2,20]),(5,[6,7,8]),(6,[0,1,2,22]),(7,[6,7,8]),(8,[0,1,2,25]),(9,[6,7,8]),(10,[0,1,2,27]),(11,[6,7,8]),(12,[2,10]),(13,[6,7,8])]
def rBs_at (n:Int) (f g:Bool) (ps:List Pr) (tl:List Int) (Q:AV->Heap->Prop):Prop:=Wp M1 (.run fi25 (atC (cd Try.f25) []) [(0,.int .i64 n),(1,.vec g 2 (ps.map Pr.v)),(2,.vec f 1 (tl.map (.int .i64)))] []) Q
theorem call25 {args:List AV} {d:AV} (h:wc M1 fi25 Try.f25 args d):Ev M1 (.pure 25 args) d []:=pcl _ _ (by kernel_rfl) h
theorem rBs (n:Int) (f g:Bool) (ps:List Pr) (tl:List Int) (X:List Int) (dq:AV) (H :
  ((¬Sp.vd n ps = 0) -> Weak (tu [AV.vnil,vi 0,vi (Sp.vd n ps)]) dq) /\
  (¬(¬Sp.vd n ps = 0) -> ((¬(↑tl.length:Int) = n) -> Weak (tu [AV.vnil,vi 0,vi 1]) dq) /\
   (¬(¬(↑tl.length:Int) = n) -> ((n > 16) -> Weak (tu [AV.vnil,vi 0,vi 3]) dq) /\
    (¬(n > 16) -> (Sp.vd n ps = 0) /\
     ((Sp.cycB n.toNat ps = true) -> Weak (tu [AV.vnil,vi 0,vi 12]) dq) /\
     (¬(Sp.cycB n.toNat ps = true) -> ((n = 0) -> Weak (tu [AV.vnil,vi 0,vi 0]) dq) /\
      (¬(n = 0) -> (Ev M1 (Conf.pure 44 [vi n,AV.vec g 2 (List.map Pr.v ps),AV.vec f 1 (List.map (vi) tl),AV.vnil,AV.vnil]) (vf (List.map (vi) X)) []) /\
       (Sp.few X.length 1000000) /\
       Weak (tu [vf (List.map (vi) X),vi (Sp.ch X tl),vi 0]) dq)))))) :
 rBs_at n f g ps tl (Zan dq):=by
 unfold rBs_at
 refine Zab (G:=Zad kp25 [(1,2,.call (vi (Sp.vd n ps)) none)] []) 7 [] ⟨(atC (cd Try.f25) [1,0,1,1]),[(0,vi n),(1,AV.vec g 2 (List.map Pr.v ps)),(2,AV.vec f 1 (List.map (vi) tl)),(9,vi (Sp.vd n ps)),(15,vb (Sp.vd n ps != 0))],[],_,[],_⟩ (by kernel_rfl) b0 q0 (ce (@ev15 (n) (g) (ps)) c0) ?_
 rcases xq H with ⟨d2,H⟩|⟨d2,H⟩
 ·exact Za4 (G:=Zad kp25 [] []) 1000 [true] (tu [AV.vnil,vi 0,vi (Sp.vd n ps)]) (by kernel_rfl) (bc (Zap (i_ne.2 d2)) b0) q0 c0 H
 ·have w3:(List.map (vi) tl).length = tl.length:=List.length_map ..
  have i4:((↑(List.map (vi) tl).length:Int) != n) = true ↔ (¬(↑tl.length:Int) = n):=(by (try rw [w3]);all_goals exact i_ne)
  rcases xq H with ⟨d5,H⟩|⟨d5,H⟩
  ·exact Za4 (G:=Zad kp25 [] []) 1000 [false,true] (tu [AV.vnil,vi 0,vi 1]) (by kernel_rfl) (bc (Zal (fun h => d2 (i_ne.1 h))) (bc (Zap (i4.2 d5)) b0)) q0 c0 H
  ·rcases xq H with ⟨d7,H⟩|⟨d7,H⟩
   ·exact Za4 (G:=Zad kp25 [] []) 1000 [false,false,true] (tu [AV.vnil,vi 0,vi 3]) (by kernel_rfl) (bc (Zal (fun h => d2 (i_ne.1 h))) (bc (Zal (fun h => d5 (i4.1 h))) (bc (Zap (Zaa.2 d7)) b0))) q0 c0 H
   ·obtain ⟨k8,H⟩:=H
    refine Zab (G:=Zad kp25 [(8,2,.call (vb (Sp.cycB n.toNat ps)) none)] []) 15 [false,false,false] ⟨(atC (cd Try.f25) [1,1,1,1,0,1]),[(0,vi n),(1,AV.vec g 2 (List.map Pr.v ps)),(2,AV.vec f 1 (List.map (vi) tl)),(25,vb (Sp.cycB n.toNat ps))],[],_,[],_⟩ (by kernel_rfl) (bc (Zal (fun h => d2 (i_ne.1 h))) (bc (Zal (fun h => d5 (i4.1 h))) (bc (Zal (fun h => d7 (Zaa.1 h))) b0))) q0 (ce (@ev18 (n) (g) (ps) k8) c0) ?_
    rcases xq H with ⟨d10,H⟩|⟨d10,H⟩
    ·exact Za4 (G:=Zad kp25 [] []) 1000 [true] (asm:=[(Sp.cycB n.toNat ps) == true]) (tu [AV.vnil,vi 0,vi 12]) (by kernel_rfl) (bc (Zap ((Zar _).2 d10)) b0) q0 c0 H
    ·rcases xq H with ⟨d12,H⟩|⟨d12,H⟩
     ·exact Za4 (G:=Zad kp25 [] []) 1000 [false,true] (asm:=[(Sp.cycB n.toNat ps) == false,(n == 0) == true]) (tu [AV.vnil,vi 0,vi 0]) (by kernel_rfl) (bc (Zal (fun h => d10 ((Zar _).1 h))) (bc (Zap (i_eq.2 d12)) b0)) q0 c0 H
     ·obtain ⟨k13,k14,H⟩:=H
      exact Za4 (G:=Zad kp25 [(12,3,(.call (.vec false 1 (X.map (.int .i64))) none:Ans)),(13,3,.call (vi (Sp.ch X tl)) none)] []) 1000 [false,false] (asm:=[(Sp.cycB n.toNat ps) == false,(n == 0) == false]) (tu [vf (List.map (vi) X),vi (Sp.ch X tl),vi 0]) (by kernel_rfl) (bc (Zal (fun h => d10 ((Zar _).1 h))) (bc (Zal (fun h => d12 (i_eq.1 h))) b0)) q0 (ce k13 (ce (@ev26 (false) (f) (X) (tl) k14) c0)) H
end Go.Av

namespace Go.Av
open Go.Proofs
theorem Zfc {e:Int}:Weak (.tup [.vnil,.int .i64 0,.int .i64 e]) (.tup [.vec false 1 (([]:List Int).map (.int .i64)),.int .i64 0,.int .i64 e]):=Zfb (.vnil 1) (.refl _) (.refl _)
theorem bs_no {n:Int} {ps:List Pr} {tl:List Int} (h:¬Sp.bsE n ps tl=0):Sp.bsL n ps tl=[]/\Sp.bsC n ps tl=0:=⟨if_neg h,if_neg h⟩
theorem ch_full {n:Nat} {ps:List Pr} {tl:List Int} (hv:Sp.okV n ps) (hc:¬Sp.cyc n ps) (htl:tl.length = n):Sp.ch (Sp.gr n ps tl n 0 none) tl = (Sp.rv n ps tl n 0 none:Nat):=by
 have hb:=(ZdC (tl:=tl) hv hc n [] (fun j hj => by simp at hj) (by simp)).1
 have e:Sp.full n ps tl n [] = Sp.gr n ps tl n 0 none:=rfl
 rw [e] at hb
 unfold Sp.ch
 rw [ch_cg _ none 0 fun x hx => by have:=Zcz hb x hx;omega,gr_cost hv hc n 0 none Zd9];omega
theorem ev25 (n:Int) (f g:Bool) (ps:List Pr) (tl:List Int):Ev M1 (.pure 25 [.int .i64 n,.vec g 2 (ps.map Pr.v),.vec f 1 (tl.map (.int .i64))]) (.tup [.vec false 1 ((Sp.bsL n ps tl).map (.int .i64)),.int .i64 (Sp.bsC n ps tl),.int .i64 (Sp.bsE n ps tl)]) []:=by
 refine call25 (rBs n f g ps tl (Sp.gr n.toNat ps tl n.toNat 0 none) _ ⟨fun h => ?_,fun h => ⟨fun h1 => ?_,fun h1 => ⟨fun h2 => ?_,fun h2 => ?_⟩⟩⟩)
 ·have e:Sp.bsE n ps tl = Sp.vd n ps:=if_neg h
  obtain ⟨e1,e2⟩:=bs_no (by rw [e];exact h)
  rw [e1,e2,e];exact Zfc
 ·have e:Sp.bsE n ps tl = 1:=by unfold Sp.bsE;rw [if_pos (Classical.not_not.1 h),if_neg h1]
  obtain ⟨e1,e2⟩:=bs_no (by rw [e];omega)
  rw [e1,e2,e];exact Zfc
 ·have e:Sp.bsE n ps tl = 3:=by unfold Sp.bsE;rw [if_pos (Classical.not_not.1 h),if_pos (Classical.not_not.1 h1),if_pos h2]
  obtain ⟨e1,e2⟩:=bs_no (by rw [e];omega)
  rw [e1,e2,e];exact Zfc
 ·have h:=Classical.not_not.1 h
  have h1:=Classical.not_not.1 h1
  have e:Sp.bsE n ps tl = Sp.ZeJ n ps:=by unfold Sp.bsE;rw [if_pos h,if_pos h1,if_neg h2]
  refine ⟨h,fun h3 => ?_,fun h3 => ?_⟩
  ·have e0:Sp.ZeJ n ps = 12:=by unfold Sp.ZeJ;rw [if_pos h,if_pos h3]
   obtain ⟨e1,e2⟩:=bs_no (by rw [e,e0];omega)
   rw [e1,e2,e,e0];exact Zfc
  ·have e0:Sp.ZeJ n ps = 0:=by unfold Sp.ZeJ;rw [if_pos h,if_neg h3]
   have eE:Sp.bsE n ps tl = 0:=by rw [e,e0]
   have eL:Sp.bsL n ps tl = Sp.gr n.toNat ps tl n.toNat 0 none:=if_pos eE
   have eC:Sp.bsC n ps tl = (Sp.rv n.toNat ps tl n.toNat 0 none:Nat):=if_pos eE
   obtain ⟨m,rfl,hv,hn,hpl⟩:=Zfe h
   rw [eL,eC,eE,Int.toNat_natCast]
   rw [Int.toNat_natCast] at h3
   have hc:¬Sp.cyc m ps:=fun hy => h3 ((Zed hv).2 hy)
   refine ⟨fun h4 => ?_,fun h4 => ⟨better_top hv hc (by omega) (by omega) hpl (by omega),?_,?_⟩⟩
   ·have hm:m = 0:=by omega
    subst hm
    exact Zfc
   ·have:=gr_len (tl:=tl) hv hc m 0 none Zd9
    unfold Sp.few;omega
   ·rw [ch_full hv hc (by omega)]
    exact .refl _
end Go.Av

namespace Go.Av
open Go.Proofs
set_option maxRecDepth 100000
def fi6:Fi:=⟨66,[.tmp 6]⟩
def kp6:List (Nat × List Nat):=[(0,[0,1,2]),(1,[0,1,2,32]),(2,[6]),(3,[0,1,2,7,8,9]),(4,[7,8,9,10,11,12]),(5,[6])]
def lBsN_at (n:Int) (f g:Bool) (ps:List Pr) (Q:AV->Heap->Prop):Prop:=Wp M1 (.run fi6 (atC (cd Try.f6) []) [(0,.int .i64 n),(1,.vec g 2 (ps.map Pr.v)),(2,.vec f 1 (([]:List Int).map (.int .i64)))] []) Q
def lBsC_at (n:Int) (f g:Bool) (ps:List Pr) (a:Int) (tl:List Int) (Q:AV->Heap->Prop):Prop:=Wp M1 (.run fi6 (atC (cd Try.f6) []) [(0,.int .i64 n),(1,.vec g 2 (ps.map Pr.v)),(2,.vec f 1 ((a::tl).map (.int .i64)))] []) Q
theorem call6 {args:List AV} {d:AV} (h:wc M1 fi6 Try.f6 args d):Ev M1 (.pure 6 args) d []:=pcl _ _ (by kernel_rfl) h
theorem lBsN (n:Int) (f g:Bool) (ps:List Pr)  (dq:AV) (H :
  (((((↑ps.length:Int) > 60) \/ (false = true)) \/ ((n > 7) /\ (n <= 16))) -> vb true = dq) /\
  (¬((((↑ps.length:Int) > 60) \/ (false = true)) \/ ((n > 7) /\ (n <= 16))) -> (Sp.few ps.length 60000000000) /\
   ∃ (x1:Iw) (n1:Int) (n2:Int),
   (Ev M1 (Conf.pure 24 [vi n,AV.vec false 2 (List.map Pr.v ps),AV.vec true 1 []]) (tu [vf (List.map (vi) x1.1),vi n1,vi n2]) []) /\
   ∃ (x2:Iw) (n3:Int) (n4:Int),
   (Ev M1 (Conf.pure 25 [vi n,AV.vec g 2 (List.map Pr.v ps),AV.vec f 1 []]) (tu [vf (List.map (vi) x2.1),vi n3,vi n4]) []) /\
   (((n2 = n4) /\ (n1 = n3)) -> (Sp.few x1.1.length 4000000000)) /\
   vb (bif bif n2 == n4 then n1 == n3 else false then decide (x1.1 = x2.1) else false) = dq)) :
 lBsN_at n f g ps (Zan dq):=by
 unfold lBsN_at
 have w1:(List.map Pr.v ps).length = ps.length:=List.length_map ..
 have i2:(bif bif decide ((↑(List.map Pr.v ps).length:Int) > 60) then true else false then true else bif decide (n > 7) then decide (n <= 16) else false) = true ↔ ((((↑ps.length:Int) > 60) \/ (false = true)) \/ ((n > 7) /\ (n <= 16))):=(by (try rw [w1]);all_goals exact (Zb8 (Zb8 Zaa (Zar _)) (Zbx Zaa Zaa)))
 refine Zab (G:=Zad kp6 [(1,0,.call (vb true) none)] []) 5 [] ⟨(atC (cd Try.f6) [1,0,1]),[(0,vi n),(1,AV.vec g 2 (List.map Pr.v ps)),(2,AV.vec f 1 []),(32,vb (bif bif decide ((↑(List.map Pr.v ps).length:Int) > 60) then true else false then true else bif decide (n > 7) then decide (n <= 16) else false))],[],_,[],_⟩ (by kernel_rfl) b0 q0 (ce (@ev12 ) c0) ?_
 rcases xq H with ⟨d3,H⟩|⟨d3,H⟩
 ·exact ZaN (G:=Zad kp6 [(2,0,.call (vb true) none)] []) 1000 [true] (vb true) (by kernel_rfl) (bc (Zap (i2.2 d3)) b0) q0 (ce (@ev12 ) c0) H
 ·obtain ⟨k4,x1,n1,n2,k5,x2,n3,n4,k6,k8,H⟩:=H
  exact ZaN (G:=Zad kp6 [(3,2,.call (AV.vec false 2 (List.map Pr.v ps)) none),(3,6,.call (tu [vf (List.map (vi) x1.1),vi n1,vi n2]) none),(4,3,.call (tu [vf (List.map (vi) x2.1),vi n3,vi n4]) none),(5,11,.call (vb (decide (x1.1 = x2.1))) none)] []) 1000 [false] (calls:=[⟨true,false,13,[AV.vec g 2 (List.map Pr.v ps)],[],AV.vec false 2 (List.map Pr.v ps),[]⟩,⟨true,false,24,[vi n,AV.vec false 2 (List.map Pr.v ps),AV.vec true 1 []],[],tu [vf (List.map (vi) x1.1),vi n1,vi n2],[]⟩,⟨true,false,25,[vi n,AV.vec g 2 (List.map Pr.v ps),AV.vec f 1 []],[],tu [vf (List.map (vi) x2.1),vi n3,vi n4],[]⟩,⟨(bif n2 == n4 then n1 == n3 else false) == true && true && true,false,22,[vf (List.map (vi) x1.1),vf (List.map (vi) x2.1)],[],vb (decide (x1.1 = x2.1)),[]⟩]) (vb (bif bif n2 == n4 then n1 == n3 else false then decide (x1.1 = x2.1) else false)) (by kernel_rfl) (bc (Zal (fun h => d3 (i2.1 h))) b0) q0 (cc (fun _ => (@ev13 (g) (ps) k4)) (cc (fun _ => k5) (cc (fun _ => k6) (cc (fun hc => ((@ev22 (false) (false) (x1.1) (x2.1) (k8 ((i_at (i_at (i_bt (Zbx i_eq i_eq)))).1 hc))):Ev M1 (Conf.pure 22 [vf (List.map (vi) x1.1),vf (List.map (vi) x2.1)]) (vb (decide (x1.1 = x2.1))) [])) c0)))) H
theorem lBsC (n:Int) (f g:Bool) (ps:List Pr) (a:Int) (tl:List Int)  (dq:AV) (H :
  (((((↑ps.length:Int) > 60) \/ ((↑(tl.length + 1):Int) > 30)) \/ ((n > 7) /\ (n <= 16))) -> vb true = dq) /\
  (¬((((↑ps.length:Int) > 60) \/ ((↑(tl.length + 1):Int) > 30)) \/ ((n > 7) /\ (n <= 16))) -> (Sp.few ps.length 60000000000) /\
   ∃ (x1:Iw) (n1:Int) (n2:Int),
   (Ev M1 (Conf.pure 24 [vi n,AV.vec false 2 (List.map Pr.v ps),vf (vi a :: List.map (vi) tl)]) (tu [vf (List.map (vi) x1.1),vi n1,vi n2]) []) /\
   ((0 + (tl.length + 1)) * 8 <= 1099511627776) /\
   ∃ (x2:Iw) (n3:Int) (n4:Int),
   (Ev M1 (Conf.pure 25 [vi n,AV.vec g 2 (List.map Pr.v ps),AV.vec f 1 (vi a :: List.map (vi) tl)]) (tu [vf (List.map (vi) x2.1),vi n3,vi n4]) []) /\
   (((n2 = n4) /\ (n1 = n3)) -> (Sp.few x1.1.length 4000000000)) /\
   vb (bif bif n2 == n4 then n1 == n3 else false then decide (x1.1 = x2.1) else false) = dq)) :
 lBsC_at n f g ps a tl (Zan dq):=by
 unfold lBsC_at
 have w1:(List.map Pr.v ps).length = ps.length:=List.length_map ..
 have w2:(List.map (vi) tl).length = tl.length:=List.length_map ..
 have i3:(bif bif decide ((↑(List.map Pr.v ps).length:Int) > 60) then true else decide ((↑((List.map (vi) tl).length + 1):Int) > 30) then true else bif decide (n > 7) then decide (n <= 16) else false) = true ↔ ((((↑ps.length:Int) > 60) \/ ((↑(tl.length + 1):Int) > 30)) \/ ((n > 7) /\ (n <= 16))):=(by (try rw [w1]);(try rw [w2]);all_goals exact (Zb8 (Zb8 Zaa Zaa) (Zbx Zaa Zaa)))
 refine Zab (G:=Zad kp6 [(1,0,.call (vb true) none)] []) 5 [] ⟨(atC (cd Try.f6) [1,0,1]),[(0,vi n),(1,AV.vec g 2 (List.map Pr.v ps)),(2,AV.vec f 1 (vi a :: List.map (vi) tl)),(32,vb (bif bif decide ((↑(List.map Pr.v ps).length:Int) > 60) then true else decide ((↑((List.map (vi) tl).length + 1):Int) > 30) then true else bif decide (n > 7) then decide (n <= 16) else false))],[],_,[],_⟩ (by kernel_rfl) b0 q0 (ce (@ev12 ) c0) ?_
 rcases xq H with ⟨d4,H⟩|⟨d4,H⟩
 ·exact ZaN (G:=Zad kp6 [(2,0,.call (vb true) none)] []) 1000 [true] (vb true) (by kernel_rfl) (bc (Zap (i3.2 d4)) b0) q0 (ce (@ev12 ) c0) H
 ·obtain ⟨k5,x1,n1,n2,k6,H⟩:=H
  have i7:(decide ((0 + ((List.map (vi) tl).length + 1)) * 8 <= 1099511627776)) = true ↔ ((0 + (tl.length + 1)) * 8 <= 1099511627776):=(by (try rw [w2]);all_goals exact Zaa)
  obtain ⟨k8,x2,n3,n4,k9,k11,H⟩:=H
  exact ZaN (G:=Zad kp6 [(3,2,.call (AV.vec false 2 (List.map Pr.v ps)) none),(3,6,.call (tu [vf (List.map (vi) x1.1),vi n1,vi n2]) none),(4,3,.call (tu [vf (List.map (vi) x2.1),vi n3,vi n4]) none),(5,11,.call (vb (decide (x1.1 = x2.1))) none)] []) 1000 [false] (calls:=[⟨true,false,13,[AV.vec g 2 (List.map Pr.v ps)],[],AV.vec false 2 (List.map Pr.v ps),[]⟩,⟨true,false,24,[vi n,AV.vec false 2 (List.map Pr.v ps),vf (vi a :: List.map (vi) tl)],[],tu [vf (List.map (vi) x1.1),vi n1,vi n2],[]⟩,⟨true,false,25,[vi n,AV.vec g 2 (List.map Pr.v ps),AV.vec f 1 (vi a :: List.map (vi) tl)],[],tu [vf (List.map (vi) x2.1),vi n3,vi n4],[]⟩,⟨(bif n2 == n4 then n1 == n3 else false) == true && true && true,false,22,[vf (List.map (vi) x1.1),vf (List.map (vi) x2.1)],[],vb (decide (x1.1 = x2.1)),[]⟩]) (vb (bif bif n2 == n4 then n1 == n3 else false then decide (x1.1 = x2.1) else false)) (by kernel_rfl) (bc (Zal (fun h => d4 (i3.1 h))) (bc (i7.2 k8) (bc rfl b0))) q0 (cc (fun _ => (@ev13 (g) (ps) k5)) (cc (fun _ => k6) (cc (fun _ => k9) (cc (fun hc => ((@ev22 (false) (false) (x1.1) (x2.1) (k11 ((i_at (i_at (i_bt (Zbx i_eq i_eq)))).1 hc))):Ev M1 (Conf.pure 22 [vf (List.map (vi) x1.1),vf (List.map (vi) x2.1)]) (vb (decide (x1.1 = x2.1))) [])) c0)))) H
end Go.Av

namespace Go.Av
open Go.Proofs
theorem bsL_len (n:Int) (ps:List Pr) (tl:List Int):(Sp.bsL n ps tl).length <= 16:=by
 by_cases h:Sp.bsE n ps tl = 0
 ·have hE:=h
  unfold Sp.bsL
  rw [if_pos h]
  unfold Sp.bsE at h
  split at h
  ·rename_i hvd
   split at h
   ·split at h
    ·cases h
    ·obtain ⟨m,rfl,hv,hn,hpl⟩:=Zfe hvd
     have hc:¬Sp.cyc m ps:=fun hy => by
      unfold Sp.ZeJ at h
      rw [if_pos hvd,Int.toNat_natCast,(Zed hv).2 hy] at h
      cases h
     rw [Int.toNat_natCast,gr_len hv hc m 0 none Zd9]
     omega
   ·cases h
  ·rename_i hvd;exact absurd h hvd
 ·rw [(bs_no h).1];simp
theorem few_of {a b m:Nat} (h:a<=b) (hb:b<=m):Sp.few a m:=Nat.le_trans h hb
theorem ev6 (n:Int) (f g:Bool) (ps:List Pr) (tl:List Int):Ev M1 (.pure 6 [.int .i64 n,.vec g 2 (ps.map Pr.v),.vec f 1 (tl.map (.int .i64))]) (.bool true) []:=by
 have hl:=bsL_len n ps tl
 have fin:AV.bool (bif bif Sp.bsE n ps tl == Sp.bsE n ps tl then Sp.bsC n ps tl == Sp.bsC n ps tl else false then decide (Sp.bsL n ps tl = Sp.bsL n ps tl) else false) = .bool true:=by
  rw [show (Sp.bsE n ps tl == Sp.bsE n ps tl) = true by simp,show (Sp.bsC n ps tl == Sp.bsC n ps tl) = true by simp,decide_eq_true rfl];rfl
 cases tl with
 | nil =>
  refine call6 (lBsN n f g ps _ ⟨fun _ => rfl,fun h => ⟨by unfold Sp.few;omega,⟨Sp.bsL n ps []⟩,Sp.bsC n ps [],Sp.bsE n ps [],ev24 n true false ps [],⟨Sp.bsL n ps []⟩,Sp.bsC n ps [],Sp.bsE n ps [],ev25 n f g ps [],fun _ => few_of hl (by omega),fin⟩⟩)
 | cons a tl =>
  refine call6 (lBsC n f g ps a tl _ ⟨fun _ => rfl,fun h => ⟨by unfold Sp.few;omega,⟨Sp.bsL n ps (a :: tl)⟩,Sp.bsC n ps (a :: tl),Sp.bsE n ps (a :: tl),ev24 n false false ps (a :: tl),by omega,⟨Sp.bsL n ps (a :: tl)⟩,Sp.bsC n ps (a :: tl),Sp.bsE n ps (a :: tl),ev25 n f g ps (a :: tl),fun _ => few_of hl (by omega),fin⟩⟩)
end Go.Av
