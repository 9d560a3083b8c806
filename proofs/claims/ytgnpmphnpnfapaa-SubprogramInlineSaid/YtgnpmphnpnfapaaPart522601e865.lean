/- PART 4 of the texts of a claim, joined by a program: what each part shows stands at its head. -/
import Derived.Test.YtgnpmphnpnfapaaPartf1b7fcd94f

namespace Go.Av
open Go.Proofs
set_option maxRecDepth 100000
def fi13:Fi:=⟨80,[.tmp 2,.tmp 3,.tmp 4,.tmp 5]⟩
def kp13:List (Nat × List Nat):=[(0,[1]),(1,[1,16]),(2,[2,3,4,5]),(3,[1,6]),(4,[1,6,7,8,9]),(5,[6,7,8,9,19,20,21]),(6,[6,7,8,9,19,20,21,22]),(7,[6,7,8,9,11,19,20,21]),(8,[6,7,8,9,11,19,20,21]),(9,[6,7,8,9,11,12,13,19,20,21]),(10,[6,7,8,9,12,13,19,20,21,37]),(11,[6,7,8,9,19,20,21]),(12,[6,7,8,9,12,13,19,20,21,37,38]),(13,[6,7,8,9,19,20,21]),(14,[6,7,8,9,12,13,19,20,21,37,45]),(15,[6,7,8,9,19,20,21]),(16,[6,7,8,9,19,20,21,37,52]),(17,[6,7,8,9,19,20,21,52]),(18,[6,7,8,9,19,20,21]),(19,[7,8,77]),(20,[2,3,4,5]),(21,[2,3,4,5])]
def fi14:Fi:=⟨77,[.tmp 2,.tmp 3,.tmp 4,.tmp 5]⟩
def kp14:List (Nat × List Nat):=[(0,[1]),(1,[1,16]),(2,[2,3,4,5]),(3,[1,6,7,8,9,10,11]),(4,[1,6,7,8,9,10,11,12]),(5,[1,6,7,8,9,10,11,12,21]),(6,[1,6,7,8,9,10,11,12]),(7,[1,6,7,8,9,10,11,12,13]),(8,[1,6,7,8,9,10,11,12,13,30]),(9,[2,3,4,5]),(10,[1,6,7,8,9,10,11,12,13,30,31]),(11,[1,6,7,8,9,10,11,12]),(12,[1,6,7,8,9,10,11,12,13,30,35]),(13,[1,7,8,9,10,11,12,13]),(14,[1,6,7,8,9,10,11,12]),(15,[1,6,7,8,9,10,11,12,13,30,42]),(16,[1,6,8,9,10,11,12,13]),(17,[1,6,7,8,9,10,11,12]),(18,[1,6,7,8,9,10,11,12,49]),(19,[1,6,7,8,9,10,11,12]),(20,[6,7,74]),(21,[2,3,4,5]),(22,[2,3,4,5])]
def suK_at (sk f:Bool) (ws:List Wo) (cm:List UInt8) (Q:AV -> Heap -> Prop):Prop:=Wp M1 (.run fi13 (atC (cd Try.f13) []) [(0,.agg [.bool sk,.vec f 2 (ws.map Wo.a),.str cm])] []) Q
def suKa_at (f:Bool) (ws:List Wo) (ms:List AV) (p t n i:Int) (ok:Bool) (Q:AV -> Heap -> Prop):Prop:=Wp M1 (.run fi13 (atC (cd Try.f13) [1,1,1,1,0,1,0,0]) [(6,.mapr 0),(7,.int .i64 p),(8,.int .i64 t),(9,.bool ok),(19,.vec f 2 (ws.map Wo.a)),(20,.int .i64 n),(21,.int .i64 i)] [⟨ms,2,0,false,true⟩]) Q
def suR_at (sk f:Bool) (ws:List Wo) (cm:List UInt8) (Q:AV -> Heap -> Prop):Prop:=Wp M1 (.run fi14 (atC (cd Try.f14) []) [(0,.agg [.bool sk,.vec f 2 (ws.map Wo.a),.str cm])] []) Q
def suRa_at (sk f:Bool) (ws:List Wo) (cm:List UInt8) (a t p l m n i:Int) (Q:AV -> Heap -> Prop):Prop:=Wp M1 (.run fi14 (atC (cd Try.f14) [1,1,1,0,1,0,0]) [(1,.ptr 0 0 0 0),(6,.int .i64 a),(7,.int .i64 t),(8,.int .i64 p),(9,.int .i64 l),(10,.int .i64 m),(11,.int .i64 n),(12,.int .i64 i)] [⟨[.agg [.bool sk,.vec f 2 (ws.map Wo.a),.str cm]],3,0,false,false⟩]) Q
theorem call13 {args:List AV} {d:AV} (h:wc M1 fi13 Try.f13 args d):Ev M1 (.pure 13 args) d []:=pcl _ _ (by kernel_rfl) h
theorem call14 {args:List AV} {d:AV} (h:wc M1 fi14 Try.f14 args d):Ev M1 (.pure 14 args) d []:=pcl _ _ (by kernel_rfl) h
theorem suK (sk f:Bool) (ws:List Wo) (cm:List UInt8)  (dq:AV) (H :
  (Sp.few6 ws.length) /\
  ((¬(Sp.hasW ws 77 98000 = true)) -> tu [vi 0,vi 0,vb false,vi 0] = dq) /\
  (¬(¬(Sp.hasW ws 77 98000 = true)) -> suKa_at (f) (ws) ([]) (0) (1) ((↑ws.length:Int)) (0) (true) (PureQ dq))) :
 suK_at sk f ws cm (PureQ dq):=by
 unfold suK_at
 obtain ⟨k1,H⟩:=H
 refine path_wp (G:=given kp13 [(1,1,.call (vb (Sp.hasW ws 77 98000)) none)] []) 5 [] ⟨(atC (cd Try.f13) [1,0,1]),[(1,AV.ptr 0 0 0 0),(16,vb !Sp.hasW ws 77 98000)],[⟨[ag [vb sk,AV.vec f 2 (List.map Wo.a ws),AV.str cm]],3,0,false,false⟩],_,[],_⟩ (by kernel_rfl) (bc rfl b0) q0 (ce (@ev40 (sk) (f) (ws) (cm) (77) (98000) k1) c0) ?_
 rcases xm (¬(Sp.hasW ws 77 98000 = true)) with d3 | d3
 ·have H:=H.1 d3
  exact path_re (G:=given kp13 [] []) 1000 [true] (asm:=[(!Sp.hasW ws 77 98000) == true]) (tu [vi 0,vi 0,vb false,vi 0]) (by kernel_rfl) (bc (beq_t ((i_not (i_var _)).2 d3)) b0) q0 c0 H
 ·have H:=H.2 d3
  have w4:(List.map Wo.a ws).length = ws.length:=List.length_map ..
  exact path_wp (G:=given kp13 [] []) 1000 [false] ⟨(atC (cd Try.f13) [1,1,1,1,0,1,0,0]),[(6,AV.mapr 1),(7,vi 0),(8,vi 1),(9,vb true),(19,AV.vec f 2 (List.map Wo.a ws)),(20,vi (↑(List.map Wo.a ws).length:Int)),(21,vi 0)],[⟨[ag [vb sk,AV.vec f 2 (List.map Wo.a ws),AV.str cm]],3,0,false,false⟩,⟨[],2,0,false,true⟩],[(!Sp.hasW ws 77 98000) == false,true],[],_⟩ (by kernel_rfl) (bc (beq_f (fun h => d3 ((i_not (i_var _)).1 h))) (bc rfl b0)) q0 c0 (by (try rw [w4]);all_goals exact wp_narrow [1] (by kernel_rfl) H)
noncomputable abbrev zSpD1 (ws:List Wo) (i:Int):=ag [AV.int IntKind.u8 (ws.getD i.toNat default).l,vi (ws.getD i.toNat default).v]
theorem suKa (f:Bool) (ws:List Wo) (ms:List AV) (p t n i:Int) (ok:Bool)  (dq:AV) (H :
  ((i < n) -> (0 <= i) /\
   (i.toNat < ws.length) /\
   (mapKeys IntKind.u8 ms = true) /\
   (mapIs IntKind.i64 ms = true) /\
   (-9223372036854775808 <= mapI (ws.getD i.toNat default).l ms + 1 /\ mapI (ws.getD i.toNat default).l ms + 1 <= 9223372036854775807) /\
   (Sp.okV (ws.getD i.toNat default).v) /\
   (((ws.getD i.toNat default).l = 80) -> (-9223372036854775808 <= i + 1 /\ i + 1 <= 9223372036854775807) /\
    suKa_at (f) (ws) (mapPut IntKind.u8 (ws.getD i.toNat default).l (vi (mapI (ws.getD i.toNat default).l ms + 1)) ms) (Sp.whV (ws.getD i.toNat default).v) (t) (n) (i + 1) (bif ok then Sp.whB (ws.getD i.toNat default).v else false) (PureQ dq)) /\
   (¬((ws.getD i.toNat default).l = 80) -> (((ws.getD i.toNat default).l = 76) -> (-9223372036854775808 <= i + 1 /\ i + 1 <= 9223372036854775807) /\
     suKa_at (f) (ws) (mapPut IntKind.u8 (ws.getD i.toNat default).l (vi (mapI (ws.getD i.toNat default).l ms + 1)) ms) (p) (Sp.whV (ws.getD i.toNat default).v) (n) (i + 1) (bif ok then Sp.whB (ws.getD i.toNat default).v else false) (PureQ dq)) /\
    (¬((ws.getD i.toNat default).l = 76) -> (((ws.getD i.toNat default).l = 77) -> (-9223372036854775808 <= i + 1 /\ i + 1 <= 9223372036854775807) /\
      suKa_at (f) (ws) (mapPut IntKind.u8 (ws.getD i.toNat default).l (vi (mapI (ws.getD i.toNat default).l ms + 1)) ms) (p) (t) (n) (i + 1) (ok) (PureQ dq)) /\
     (¬((ws.getD i.toNat default).l = 77) -> (((ws.getD i.toNat default).l = 78) -> (-9223372036854775808 <= i + 1 /\ i + 1 <= 9223372036854775807) /\
       suKa_at (f) (ws) (mapPut IntKind.u8 (ws.getD i.toNat default).l (vi (mapI (ws.getD i.toNat default).l ms + 1)) ms) (p) (t) (n) (i + 1) (ok) (PureQ dq)) /\
      (¬((ws.getD i.toNat default).l = 78) -> (-9223372036854775808 <= i + 1 /\ i + 1 <= 9223372036854775807) /\
       suKa_at (f) (ws) (mapPut IntKind.u8 (ws.getD i.toNat default).l (vi (mapI (ws.getD i.toNat default).l ms + 1)) ms) (p) (t) (n) (i + 1) (false) (PureQ dq)))))) /\
  (¬(i < n) -> ((¬(¬(ok = true))) -> (mapKeys IntKind.u8 ms = true)) /\
   ((¬(¬(ok = true))) -> (mapIs IntKind.i64 ms = true)) /\
   ((¬((¬(ok = true)) \/ (¬mapI 77 ms = 1))) -> (mapKeys IntKind.u8 ms = true)) /\
   ((¬((¬(ok = true)) \/ (¬mapI 77 ms = 1))) -> (mapIs IntKind.i64 ms = true)) /\
   ((¬(((¬(ok = true)) \/ (¬mapI 77 ms = 1)) \/ (¬mapI 80 ms = 1))) -> (mapKeys IntKind.u8 ms = true)) /\
   ((¬(((¬(ok = true)) \/ (¬mapI 77 ms = 1)) \/ (¬mapI 80 ms = 1))) -> (mapIs IntKind.i64 ms = true)) /\
   ((¬((((¬(ok = true)) \/ (¬mapI 77 ms = 1)) \/ (¬mapI 80 ms = 1)) \/ (mapI 76 ms > 1))) -> (mapKeys IntKind.u8 ms = true)) /\
   ((¬((((¬(ok = true)) \/ (¬mapI 77 ms = 1)) \/ (¬mapI 80 ms = 1)) \/ (mapI 76 ms > 1))) -> (mapIs IntKind.i64 ms = true)) /\
   ((((((¬(ok = true)) \/ (¬mapI 77 ms = 1)) \/ (¬mapI 80 ms = 1)) \/ (mapI 76 ms > 1)) \/ (mapI 78 ms > 1)) -> tu [vi 0,vi 0,vb false,vi 1] = dq) /\
   (¬(((((¬(ok = true)) \/ (¬mapI 77 ms = 1)) \/ (¬mapI 80 ms = 1)) \/ (mapI 76 ms > 1)) \/ (mapI 78 ms > 1)) -> tu [vi p,vi t,vb true,vi 0] = dq))) :
 suKa_at f ws ms p t n i ok (PureQ dq):=by
 unfold suKa_at
 rcases xm (i < n) with d2 | d2
 ·have H:=H.1 d2
  obtain ⟨k4,H⟩:=H
  have w5:(List.map Wo.a ws).length = ws.length:=List.length_map ..
  have i6:(decide (i.toNat < (List.map Wo.a ws).length)) = true ↔ (i.toNat < ws.length):=(by (try rw [w5]);all_goals exact i_dec)
  obtain ⟨k7,H⟩:=H
  obtain ⟨k9,H⟩:=H
  obtain ⟨k11,H⟩:=H
  obtain ⟨k13,H⟩:=H
  have w14:wi (mapI (ws.getD i.toNat default).l ms + 1) = mapI (ws.getD i.toNat default).l ms + 1:=wI64 k13
  obtain ⟨k15,H⟩:=H
  refine path_wp (G:=given kp13 [(7,1,.elem ((zSpD1 ws i))),(9,2,.call (tu [vi (Sp.whV (ws.getD i.toNat default).v),vb (Sp.whB (ws.getD i.toNat default).v)]) none)] []) 18 [true] ⟨(atC (cd Try.f13) [1,1,1,1,0,1,0,0,1,1,0,0,1,1,1,1,0,1]),[(6,AV.mapr 0),(7,vi p),(8,vi t),(9,vb ok),(12,vi (Sp.whV (ws.getD i.toNat default).v)),(13,vb (Sp.whB (ws.getD i.toNat default).v)),(19,AV.vec f 2 (List.map Wo.a ws)),(20,vi n),(21,vi i),(37,AV.int IntKind.u8 (ws.getD i.toNat default).l),(38,vb ((ws.getD i.toNat default).l == 80))],[⟨mapPut IntKind.u8 (ws.getD i.toNat default).l (vi (wi (mapI (ws.getD i.toNat default).l ms + 1))) ms,2,0,false,true⟩,⟨[(zSpD1 ws i)],2,0,false,false⟩],[(decide (i < n)) == true,decide (0 <= i),decide (i.toNat < (List.map Wo.a ws).length),true,true,mapKeys IntKind.u8 ms,mapIs IntKind.i64 ms,mapKeys IntKind.u8 ms,true,0 == 0],[((List.map Wo.a ws).get?Internal i.toNat = some ((zSpD1 ws i)))],_⟩ (by kernel_rfl) (bc (beq_t (i_dec.2 d2)) (bc (i_dec.2 k4) (bc (i6.2 k7) (bc rfl (bc rfl (bc ((i_var _).2 k9) (bc ((i_var _).2 k11) (bc ((i_var _).2 k9) (bc rfl (bc (beq_self_eq_true _) b0)))))))))) (qc (el_map k7) q0) (ce (@ev41 ((ws.getD i.toNat default).v) k15) c0) ?_
  rcases xm ((ws.getD i.toNat default).l = 80) with d17 | d17
  ·have H:=H.1 d17
   obtain ⟨k18,H⟩:=H
   have w19:wi (i + 1) = i + 1:=wI64 k18
   exact path_wp (G:=given kp13 [] []) 1000 [true] ⟨(atC (cd Try.f13) [1,1,1,1,0,1,0,0]),[(6,AV.mapr 0),(7,vi (Sp.whV (ws.getD i.toNat default).v)),(8,vi t),(9,vb (bif ok then Sp.whB (ws.getD i.toNat default).v else false)),(19,AV.vec f 2 (List.map Wo.a ws)),(20,vi n),(21,vi (wi (i + 1)))],[⟨mapPut IntKind.u8 (ws.getD i.toNat default).l (vi (wi (mapI (ws.getD i.toNat default).l ms + 1))) ms,2,0,false,true⟩,⟨[(zSpD1 ws i)],2,0,false,false⟩],_,[],_⟩ (by kernel_rfl) (bc (beq_t (i_eq.2 d17)) b0) q0 c0 (by (try rw [w14]);(try rw [w19]);all_goals exact wp_narrow [0] (by kernel_rfl) H)
  ·have H:=H.2 d17
   rcases xm ((ws.getD i.toNat default).l = 76) with d21 | d21
   ·have H:=H.1 d21
    obtain ⟨k22,H⟩:=H
    have w23:wi (i + 1) = i + 1:=wI64 k22
    exact path_wp (G:=given kp13 [] []) 1000 [false,true] ⟨(atC (cd Try.f13) [1,1,1,1,0,1,0,0]),[(6,AV.mapr 0),(7,vi p),(8,vi (Sp.whV (ws.getD i.toNat default).v)),(9,vb (bif ok then Sp.whB (ws.getD i.toNat default).v else false)),(19,AV.vec f 2 (List.map Wo.a ws)),(20,vi n),(21,vi (wi (i + 1)))],[⟨mapPut IntKind.u8 (ws.getD i.toNat default).l (vi (wi (mapI (ws.getD i.toNat default).l ms + 1))) ms,2,0,false,true⟩,⟨[(zSpD1 ws i)],2,0,false,false⟩],_,[],_⟩ (by kernel_rfl) (bc (beq_f (fun h => d17 (i_eq.1 h))) (bc (beq_t (i_eq.2 d21)) b0)) q0 c0 (by (try rw [w14]);(try rw [w23]);all_goals exact wp_narrow [0] (by kernel_rfl) H)
   ·have H:=H.2 d21
    rcases xm ((ws.getD i.toNat default).l = 77) with d25 | d25
    ·have H:=H.1 d25
     obtain ⟨k27,H⟩:=H
     have w28:wi (i + 1) = i + 1:=wI64 k27
     exact path_wp (G:=given kp13 [] []) 1000 [false,false,true,true] ⟨(atC (cd Try.f13) [1,1,1,1,0,1,0,0]),[(6,AV.mapr 0),(7,vi p),(8,vi t),(9,vb ok),(19,AV.vec f 2 (List.map Wo.a ws)),(20,vi n),(21,vi (wi (i + 1)))],[⟨mapPut IntKind.u8 (ws.getD i.toNat default).l (vi (wi (mapI (ws.getD i.toNat default).l ms + 1))) ms,2,0,false,true⟩,⟨[(zSpD1 ws i)],2,0,false,false⟩],_,[],_⟩ (by kernel_rfl) (bc (beq_f (fun h => d17 (i_eq.1 h))) (bc (beq_f (fun h => d21 (i_eq.1 h))) (bc (beq_t (i_eq.2 d25)) (bc (beq_t (i_eq.2 d25)) b0)))) q0 c0 (by (try rw [w14]);(try rw [w28]);all_goals exact wp_narrow [0] (by kernel_rfl) H)
    ·have H:=H.2 d25
     rcases xm ((ws.getD i.toNat default).l = 78) with d30 | d30
     ·have H:=H.1 d30
      obtain ⟨k31,H⟩:=H
      have w32:wi (i + 1) = i + 1:=wI64 k31
      exact path_wp (G:=given kp13 [] []) 1000 [false,false,false,true] ⟨(atC (cd Try.f13) [1,1,1,1,0,1,0,0]),[(6,AV.mapr 0),(7,vi p),(8,vi t),(9,vb ok),(19,AV.vec f 2 (List.map Wo.a ws)),(20,vi n),(21,vi (wi (i + 1)))],[⟨mapPut IntKind.u8 (ws.getD i.toNat default).l (vi (wi (mapI (ws.getD i.toNat default).l ms + 1))) ms,2,0,false,true⟩,⟨[(zSpD1 ws i)],2,0,false,false⟩],_,[],_⟩ (by kernel_rfl) (bc (beq_f (fun h => d17 (i_eq.1 h))) (bc (beq_f (fun h => d21 (i_eq.1 h))) (bc (beq_f (fun h => d25 (i_eq.1 h))) (bc (beq_t (i_eq.2 d30)) b0)))) q0 c0 (by (try rw [w14]);(try rw [w32]);all_goals exact wp_narrow [0] (by kernel_rfl) H)
     ·have H:=H.2 d30
      obtain ⟨k33,H⟩:=H
      have w34:wi (i + 1) = i + 1:=wI64 k33
      exact path_wp (G:=given kp13 [] []) 1000 [false,false,false,false] ⟨(atC (cd Try.f13) [1,1,1,1,0,1,0,0]),[(6,AV.mapr 0),(7,vi p),(8,vi t),(9,vb false),(19,AV.vec f 2 (List.map Wo.a ws)),(20,vi n),(21,vi (wi (i + 1)))],[⟨mapPut IntKind.u8 (ws.getD i.toNat default).l (vi (wi (mapI (ws.getD i.toNat default).l ms + 1))) ms,2,0,false,true⟩,⟨[(zSpD1 ws i)],2,0,false,false⟩],_,[],_⟩ (by kernel_rfl) (bc (beq_f (fun h => d17 (i_eq.1 h))) (bc (beq_f (fun h => d21 (i_eq.1 h))) (bc (beq_f (fun h => d25 (i_eq.1 h))) (bc (beq_f (fun h => d30 (i_eq.1 h))) b0)))) q0 c0 (by (try rw [w14]);(try rw [w34]);all_goals exact wp_narrow [0] (by kernel_rfl) H)
 ·have H:=H.2 d2
  obtain ⟨k36,H⟩:=H
  obtain ⟨k38,H⟩:=H
  obtain ⟨k40,H⟩:=H
  obtain ⟨k42,H⟩:=H
  obtain ⟨k44,H⟩:=H
  obtain ⟨k46,H⟩:=H
  obtain ⟨k48,H⟩:=H
  obtain ⟨k50,H⟩:=H
  rcases xm (((((¬(ok = true)) \/ (¬mapI 77 ms = 1)) \/ (¬mapI 80 ms = 1)) \/ (mapI 76 ms > 1)) \/ (mapI 78 ms > 1)) with d52 | d52
  ·have H:=H.1 d52
   exact path_re (G:=given kp13 [] []) 1000 [false,true] (asm:=[(decide (i < n)) == false,!((!ok) == false && true) || mapKeys IntKind.u8 ms,!((!ok) == false && true) || mapIs IntKind.i64 ms,!((bif !ok then true else mapI 77 ms != 1) == false && true) || mapKeys IntKind.u8 ms,!((bif !ok then true else mapI 77 ms != 1) == false && true) || mapIs IntKind.i64 ms,!((bif bif !ok then true else mapI 77 ms != 1 then true else mapI 80 ms != 1) == false && true) || mapKeys IntKind.u8 ms,!((bif bif !ok then true else mapI 77 ms != 1 then true else mapI 80 ms != 1) == false && true) || mapIs IntKind.i64 ms,!((bif bif bif !ok then true else mapI 77 ms != 1 then true else mapI 80 ms != 1 then true else decide (mapI 76 ms > 1)) == false && true) || mapKeys IntKind.u8 ms,!((bif bif bif !ok then true else mapI 77 ms != 1 then true else mapI 80 ms != 1 then true else decide (mapI 76 ms > 1)) == false && true) || mapIs IntKind.i64 ms,(bif bif bif bif !ok then true else mapI 77 ms != 1 then true else mapI 80 ms != 1 then true else decide (mapI 76 ms > 1) then true else decide (mapI 78 ms > 1)) == true]) (tu [vi 0,vi 0,vb false,vi 1]) (by kernel_rfl) (bc (beq_f (fun h => d2 (i_dec.1 h))) (bc ((i_imp (i_at (i_bf (i_not (i_var _)))) (i_var _)).2 k36) (bc ((i_imp (i_at (i_bf (i_not (i_var _)))) (i_var _)).2 k38) (bc ((i_imp (i_at (i_bf (i_bor (i_not (i_var _)) i_ne))) (i_var _)).2 k40) (bc ((i_imp (i_at (i_bf (i_bor (i_not (i_var _)) i_ne))) (i_var _)).2 k42) (bc ((i_imp (i_at (i_bf (i_bor (i_bor (i_not (i_var _)) i_ne) i_ne))) (i_var _)).2 k44) (bc ((i_imp (i_at (i_bf (i_bor (i_bor (i_not (i_var _)) i_ne) i_ne))) (i_var _)).2 k46) (bc ((i_imp (i_at (i_bf (i_bor (i_bor (i_bor (i_not (i_var _)) i_ne) i_ne) i_dec))) (i_var _)).2 k48) (bc ((i_imp (i_at (i_bf (i_bor (i_bor (i_bor (i_not (i_var _)) i_ne) i_ne) i_dec))) (i_var _)).2 k50) (bc (beq_t ((i_bor (i_bor (i_bor (i_bor (i_not (i_var _)) i_ne) i_ne) i_dec) i_dec).2 d52)) b0)))))))))) q0 c0 H
  ·have H:=H.2 d52
   exact path_re (G:=given kp13 [] []) 1000 [false,false] (asm:=[(decide (i < n)) == false,!((!ok) == false && true) || mapKeys IntKind.u8 ms,!((!ok) == false && true) || mapIs IntKind.i64 ms,!((bif !ok then true else mapI 77 ms != 1) == false && true) || mapKeys IntKind.u8 ms,!((bif !ok then true else mapI 77 ms != 1) == false && true) || mapIs IntKind.i64 ms,!((bif bif !ok then true else mapI 77 ms != 1 then true else mapI 80 ms != 1) == false && true) || mapKeys IntKind.u8 ms,!((bif bif !ok then true else mapI 77 ms != 1 then true else mapI 80 ms != 1) == false && true) || mapIs IntKind.i64 ms,!((bif bif bif !ok then true else mapI 77 ms != 1 then true else mapI 80 ms != 1 then true else decide (mapI 76 ms > 1)) == false && true) || mapKeys IntKind.u8 ms,!((bif bif bif !ok then true else mapI 77 ms != 1 then true else mapI 80 ms != 1 then true else decide (mapI 76 ms > 1)) == false && true) || mapIs IntKind.i64 ms,(bif bif bif bif !ok then true else mapI 77 ms != 1 then true else mapI 80 ms != 1 then true else decide (mapI 76 ms > 1) then true else decide (mapI 78 ms > 1)) == false]) (tu [vi p,vi t,vb true,vi 0]) (by kernel_rfl) (bc (beq_f (fun h => d2 (i_dec.1 h))) (bc ((i_imp (i_at (i_bf (i_not (i_var _)))) (i_var _)).2 k36) (bc ((i_imp (i_at (i_bf (i_not (i_var _)))) (i_var _)).2 k38) (bc ((i_imp (i_at (i_bf (i_bor (i_not (i_var _)) i_ne))) (i_var _)).2 k40) (bc ((i_imp (i_at (i_bf (i_bor (i_not (i_var _)) i_ne))) (i_var _)).2 k42) (bc ((i_imp (i_at (i_bf (i_bor (i_bor (i_not (i_var _)) i_ne) i_ne))) (i_var _)).2 k44) (bc ((i_imp (i_at (i_bf (i_bor (i_bor (i_not (i_var _)) i_ne) i_ne))) (i_var _)).2 k46) (bc ((i_imp (i_at (i_bf (i_bor (i_bor (i_bor (i_not (i_var _)) i_ne) i_ne) i_dec))) (i_var _)).2 k48) (bc ((i_imp (i_at (i_bf (i_bor (i_bor (i_bor (i_not (i_var _)) i_ne) i_ne) i_dec))) (i_var _)).2 k50) (bc (beq_f (fun h => d52 ((i_bor (i_bor (i_bor (i_bor (i_not (i_var _)) i_ne) i_ne) i_dec) i_dec).1 h))) b0)))))))))) q0 c0 H
theorem suR (sk f:Bool) (ws:List Wo) (cm:List UInt8)  (dq:AV) (H :
  (Sp.few6 ws.length) /\
  ((¬(Sp.hasW ws 77 98000 = true)) -> tu [vi 0,vi 0,vb false,vi 0] = dq) /\
  (¬(¬(Sp.hasW ws 77 98000 = true)) -> suRa_at (sk) (f) (ws) (cm) (0) (1) (0) (0) (0) (0) (0) (PureQ dq))) :
 suR_at sk f ws cm (PureQ dq):=by
 unfold suR_at
 obtain ⟨k1,H⟩:=H
 refine path_wp (G:=given kp14 [(1,1,.call (vb (Sp.hasW ws 77 98000)) none)] []) 5 [] ⟨(atC (cd Try.f14) [1,0,1]),[(1,AV.ptr 0 0 0 0),(16,vb !Sp.hasW ws 77 98000)],[⟨[ag [vb sk,AV.vec f 2 (List.map Wo.a ws),AV.str cm]],3,0,false,false⟩],_,[],_⟩ (by kernel_rfl) (bc rfl b0) q0 (ce (@ev42 (sk) (f) (ws) (cm) (77) (98000) k1) c0) ?_
 rcases xm (¬(Sp.hasW ws 77 98000 = true)) with d3 | d3
 ·have H:=H.1 d3
  exact path_re (G:=given kp14 [] []) 1000 [true] (asm:=[(!Sp.hasW ws 77 98000) == true]) (tu [vi 0,vi 0,vb false,vi 0]) (by kernel_rfl) (bc (beq_t ((i_not (i_var _)).2 d3)) b0) q0 c0 H
 ·have H:=H.2 d3
  exact path_wp (G:=given kp14 [] []) 1000 [false] ⟨(atC (cd Try.f14) [1,1,1,0,1,0,0]),[(1,AV.ptr 0 0 0 0),(6,vi 0),(7,vi 1),(8,vi 0),(9,vi 0),(10,vi 0),(11,vi 0),(12,vi 0)],[⟨[ag [vb sk,AV.vec f 2 (List.map Wo.a ws),AV.str cm]],3,0,false,false⟩],[(!Sp.hasW ws 77 98000) == false],[],_⟩ (by kernel_rfl) (bc (beq_f (fun h => d3 ((i_not (i_var _)).1 h))) b0) q0 c0 (H)
noncomputable abbrev zSpD2 (ws:List Wo) (i:Int):=ag [AV.int IntKind.u8 (ws.getD i.toNat default).l,vi (ws.getD i.toNat default).v]
theorem suRa (sk f:Bool) (ws:List Wo) (cm:List UInt8) (a t p l m n i:Int)  (dq:AV) (H :
  ((i < (↑ws.length:Int)) -> (0 <= i) /\
   (i.toNat < ws.length) /\
   (((ws.getD i.toNat default).l = 77) -> (-9223372036854775808 <= m + 1 /\ m + 1 <= 9223372036854775807) /\
    (-9223372036854775808 <= i + 1 /\ i + 1 <= 9223372036854775807) /\
    suRa_at (sk) (f) (ws) (cm) (a) (t) (p) (l) (m + 1) (n) (i + 1) (PureQ dq)) /\
   (¬((ws.getD i.toNat default).l = 77) -> (((ws.getD i.toNat default).l = 80) -> (-9223372036854775808 <= p + 1 /\ p + 1 <= 9223372036854775807) /\
     (Sp.okV (ws.getD i.toNat default).v) /\
     (-9223372036854775808 <= i + 1 /\ i + 1 <= 9223372036854775807) /\
     suRa_at (sk) (f) (ws) (cm) (Sp.whR (ws.getD i.toNat default).v) (t) (p + 1) (l) (m) (n) (i + 1) (PureQ dq)) /\
    (¬((ws.getD i.toNat default).l = 80) -> (((ws.getD i.toNat default).l = 76) -> (-9223372036854775808 <= l + 1 /\ l + 1 <= 9223372036854775807) /\
      (Sp.okV (ws.getD i.toNat default).v) /\
      (-9223372036854775808 <= i + 1 /\ i + 1 <= 9223372036854775807) /\
      suRa_at (sk) (f) (ws) (cm) (a) (Sp.whR (ws.getD i.toNat default).v) (p) (l + 1) (m) (n) (i + 1) (PureQ dq)) /\
     (¬((ws.getD i.toNat default).l = 76) -> (((ws.getD i.toNat default).l = 78) -> (-9223372036854775808 <= n + 1 /\ n + 1 <= 9223372036854775807) /\
       (-9223372036854775808 <= i + 1 /\ i + 1 <= 9223372036854775807) /\
       suRa_at (sk) (f) (ws) (cm) (a) (t) (p) (l) (m) (n + 1) (i + 1) (PureQ dq)) /\
      (¬((ws.getD i.toNat default).l = 78) -> tu [vi 0,vi 0,vb false,vi 1] = dq))))) /\
  (¬(i < (↑ws.length:Int)) -> (((((((¬m = 1) \/ (¬p = 1)) \/ (l > 1)) \/ (n > 1)) \/ (a = 0)) \/ (t = 0)) -> tu [vi 0,vi 0,vb false,vi 1] = dq) /\
   (¬((((((¬m = 1) \/ (¬p = 1)) \/ (l > 1)) \/ (n > 1)) \/ (a = 0)) \/ (t = 0)) -> tu [vi a,vi t,vb true,vi 0] = dq))) :
 suRa_at sk f ws cm a t p l m n i (PureQ dq):=by
 unfold suRa_at
 have w1:(List.map Wo.a ws).length = ws.length:=List.length_map ..
 have i2:(decide (i < (↑(List.map Wo.a ws).length:Int))) = true ↔ (i < (↑ws.length:Int)):=(by (try rw [w1]);all_goals exact i_dec)
 rcases xm (i < (↑ws.length:Int)) with d3 | d3
 ·have H:=H.1 d3
  obtain ⟨k5,H⟩:=H
  have i6:(decide (i.toNat < (List.map Wo.a ws).length)) = true ↔ (i.toNat < ws.length):=(by (try rw [w1]);all_goals exact i_dec)
  obtain ⟨k7,H⟩:=H
  refine path_wp (G:=given kp14 [(7,4,.elem ((zSpD2 ws i)))] []) 14 [true] ⟨(atC (cd Try.f14) [1,1,1,0,1,0,0,1,0,0,1,1,0,1]),[(1,AV.ptr 0 0 0 0),(6,vi a),(7,vi t),(8,vi p),(9,vi l),(10,vi m),(11,vi n),(12,vi i),(13,AV.ptr 1 0 0 0),(30,AV.int IntKind.u8 (ws.getD i.toNat default).l),(31,vb ((ws.getD i.toNat default).l == 77))],[⟨[ag [vb sk,AV.vec f 2 (List.map Wo.a ws),AV.str cm]],3,0,false,false⟩,⟨[(zSpD2 ws i)],2,0,false,false⟩],[true,(decide (i < (↑(List.map Wo.a ws).length:Int))) == true,true,decide (0 <= i),decide (i.toNat < (List.map Wo.a ws).length),true,0 == 0],[((List.map Wo.a ws).get?Internal i.toNat = some ((zSpD2 ws i)))],_⟩ (by kernel_rfl) (bc rfl (bc (beq_t (i2.2 d3)) (bc rfl (bc (i_dec.2 k5) (bc (i6.2 k7) (bc rfl (bc (beq_self_eq_true _) b0))))))) (qc (el_map k7) q0) c0 ?_
  rcases xm ((ws.getD i.toNat default).l = 77) with d9 | d9
  ·have H:=H.1 d9
   obtain ⟨k10,H⟩:=H
   have w11:wi (m + 1) = m + 1:=wI64 k10
   obtain ⟨k12,H⟩:=H
   have w13:wi (i + 1) = i + 1:=wI64 k12
   exact path_wp (G:=given kp14 [] []) 1000 [true] ⟨(atC (cd Try.f14) [1,1,1,0,1,0,0]),[(1,AV.ptr 0 0 0 0),(6,vi a),(7,vi t),(8,vi p),(9,vi l),(10,vi (wi (m + 1))),(11,vi n),(12,vi (wi (i + 1)))],[⟨[ag [vb sk,AV.vec f 2 (List.map Wo.a ws),AV.str cm]],3,0,false,false⟩,⟨[(zSpD2 ws i)],2,0,false,false⟩],_,[],_⟩ (by kernel_rfl) (bc (beq_t (i_eq.2 d9)) b0) q0 c0 (by (try rw [w11]);(try rw [w13]);all_goals exact wp_narrow [0] (by kernel_rfl) H)
  ·have H:=H.2 d9
   rcases xm ((ws.getD i.toNat default).l = 80) with d15 | d15
   ·have H:=H.1 d15
    obtain ⟨k16,H⟩:=H
    have w17:wi (p + 1) = p + 1:=wI64 k16
    obtain ⟨k18,H⟩:=H
    obtain ⟨k19,H⟩:=H
    have w20:wi (i + 1) = i + 1:=wI64 k19
    exact path_wp (G:=given kp14 [(14,2,.call (vi (Sp.whR (ws.getD i.toNat default).v)) none)] []) 1000 [false,true] ⟨(atC (cd Try.f14) [1,1,1,0,1,0,0]),[(1,AV.ptr 0 0 0 0),(6,vi (Sp.whR (ws.getD i.toNat default).v)),(7,vi t),(8,vi (wi (p + 1))),(9,vi l),(10,vi m),(11,vi n),(12,vi (wi (i + 1)))],[⟨[ag [vb sk,AV.vec f 2 (List.map Wo.a ws),AV.str cm]],3,0,false,false⟩,⟨[(zSpD2 ws i)],2,0,false,false⟩],_,[],_⟩ (by kernel_rfl) (bc (beq_f (fun h => d9 (i_eq.1 h))) (bc (beq_t (i_eq.2 d15)) (bc rfl b0))) q0 (ce (@ev43 ((ws.getD i.toNat default).v) k18) c0) (by (try rw [w17]);(try rw [w20]);all_goals exact wp_narrow [0] (by kernel_rfl) H)
   ·have H:=H.2 d15
    rcases xm ((ws.getD i.toNat default).l = 76) with d22 | d22
    ·have H:=H.1 d22
     obtain ⟨k23,H⟩:=H
     have w24:wi (l + 1) = l + 1:=wI64 k23
     obtain ⟨k25,H⟩:=H
     obtain ⟨k26,H⟩:=H
     have w27:wi (i + 1) = i + 1:=wI64 k26
     exact path_wp (G:=given kp14 [(17,2,.call (vi (Sp.whR (ws.getD i.toNat default).v)) none)] []) 1000 [false,false,true] ⟨(atC (cd Try.f14) [1,1,1,0,1,0,0]),[(1,AV.ptr 0 0 0 0),(6,vi a),(7,vi (Sp.whR (ws.getD i.toNat default).v)),(8,vi p),(9,vi (wi (l + 1))),(10,vi m),(11,vi n),(12,vi (wi (i + 1)))],[⟨[ag [vb sk,AV.vec f 2 (List.map Wo.a ws),AV.str cm]],3,0,false,false⟩,⟨[(zSpD2 ws i)],2,0,false,false⟩],_,[],_⟩ (by kernel_rfl) (bc (beq_f (fun h => d9 (i_eq.1 h))) (bc (beq_f (fun h => d15 (i_eq.1 h))) (bc (beq_t (i_eq.2 d22)) (bc rfl b0)))) q0 (ce (@ev43 ((ws.getD i.toNat default).v) k25) c0) (by (try rw [w24]);(try rw [w27]);all_goals exact wp_narrow [0] (by kernel_rfl) H)
    ·have H:=H.2 d22
     rcases xm ((ws.getD i.toNat default).l = 78) with d29 | d29
     ·have H:=H.1 d29
      obtain ⟨k30,H⟩:=H
      have w31:wi (n + 1) = n + 1:=wI64 k30
      obtain ⟨k32,H⟩:=H
      have w33:wi (i + 1) = i + 1:=wI64 k32
      exact path_wp (G:=given kp14 [] []) 1000 [false,false,false,true] ⟨(atC (cd Try.f14) [1,1,1,0,1,0,0]),[(1,AV.ptr 0 0 0 0),(6,vi a),(7,vi t),(8,vi p),(9,vi l),(10,vi m),(11,vi (wi (n + 1))),(12,vi (wi (i + 1)))],[⟨[ag [vb sk,AV.vec f 2 (List.map Wo.a ws),AV.str cm]],3,0,false,false⟩,⟨[(zSpD2 ws i)],2,0,false,false⟩],_,[],_⟩ (by kernel_rfl) (bc (beq_f (fun h => d9 (i_eq.1 h))) (bc (beq_f (fun h => d15 (i_eq.1 h))) (bc (beq_f (fun h => d22 (i_eq.1 h))) (bc (beq_t (i_eq.2 d29)) b0)))) q0 c0 (by (try rw [w31]);(try rw [w33]);all_goals exact wp_narrow [0] (by kernel_rfl) H)
     ·have H:=H.2 d29
      exact path_re (G:=given kp14 [] []) 1000 [false,false,false,false] (tu [vi 0,vi 0,vb false,vi 1]) (by kernel_rfl) (bc (beq_f (fun h => d9 (i_eq.1 h))) (bc (beq_f (fun h => d15 (i_eq.1 h))) (bc (beq_f (fun h => d22 (i_eq.1 h))) (bc (beq_f (fun h => d29 (i_eq.1 h))) b0)))) q0 c0 H
 ·have H:=H.2 d3
  rcases xm ((((((¬m = 1) \/ (¬p = 1)) \/ (l > 1)) \/ (n > 1)) \/ (a = 0)) \/ (t = 0)) with d35 | d35
  ·have H:=H.1 d35
   exact path_re (G:=given kp14 [] []) 1000 [false,true] (tu [vi 0,vi 0,vb false,vi 1]) (by kernel_rfl) (bc rfl (bc (beq_f (fun h => d3 (i2.1 h))) (bc (beq_t ((i_bor (i_bor (i_bor (i_bor (i_bor i_ne i_ne) i_dec) i_dec) i_eq) i_eq).2 d35)) b0))) q0 c0 H
  ·have H:=H.2 d35
   exact path_re (G:=given kp14 [] []) 1000 [false,false] (tu [vi a,vi t,vb true,vi 0]) (by kernel_rfl) (bc rfl (bc (beq_f (fun h => d3 (i2.1 h))) (bc (beq_f (fun h => d35 ((i_bor (i_bor (i_bor (i_bor (i_bor i_ne i_ne) i_dec) i_dec) i_eq) i_eq).1 h))) b0))) q0 c0 H
end Go.Av

namespace Go.Av
open Go.Proofs
namespace Sp
def cnt (ws:List Wo) (c:Int):Int:=(codes ws c).length
def lastD (l:List Int) (d:Int):Int:=l.foldl (fun _ x => x) d
def lp (ws:List Wo):Int:=whV (lastD (codes ws 80) 0)
def lt (ws:List Wo):Int:=whV (lastD (codes ws 76) 1000)
def okL (w:Wo):Bool:=if w.l = 80 \/ w.l = 76 then whB w.v else decide (w.l = 77 \/ w.l = 78)
def okC (ws:List Wo):Bool:=ws.all okL && decide (cnt ws 77 = 1 /\ cnt ws 80 = 1 /\ cnt ws 76 <= 1 /\ cnt ws 78 <= 1)
def cIs (ws:List Wo):Bool:=hasW ws 77 98000 && okC ws
def cN (ws:List Wo):Int:=if cIs ws = true then lp ws else 0
def cT (ws:List Wo):Int:=if cIs ws = true then lt ws else 0
def cE (ws:List Wo):Int:=if (hasW ws 77 98000 && !okC ws) = true then 1 else 0
def okW (ws:List Wo):Prop:=ws.length <= 1000000 /\ ∀ w ∈ ws,okV w.v
end Sp
theorem codes_snoc (pre:List Wo) (w:Wo) (c:Int):Sp.codes (pre ++ [w]) c = if w.l = c then Sp.codes pre c ++ [w.v] else Sp.codes pre c:=by
 unfold Sp.codes
 rw [List.filter_append,List.map_append]
 by_cases h:w.l = c
 ·rw [List.filter_cons_of_pos (by simpa using h),if_pos h];rfl
 ·rw [List.filter_cons_of_neg (by simpa using h),if_neg h];simp
theorem last_snoc (l:List Int) (x d:Int):Sp.lastD (l ++ [x]) d = x:=by unfold Sp.lastD;rw [List.foldl_append];rfl
theorem cnt_snoc (pre:List Wo) (w:Wo) (c:Int):Sp.cnt (pre ++ [w]) c = if w.l = c then Sp.cnt pre c + 1 else Sp.cnt pre c:=by
 unfold Sp.cnt
 rw [codes_snoc]
 split
 ·simp
 ·rfl
theorem lp_snoc (pre:List Wo) (w:Wo):Sp.lp (pre ++ [w]) = if w.l = 80 then Sp.whV w.v else Sp.lp pre:=by
 unfold Sp.lp
 rw [codes_snoc]
 split
 ·rw [last_snoc]
 ·rfl
theorem lt_snoc (pre:List Wo) (w:Wo):Sp.lt (pre ++ [w]) = if w.l = 76 then Sp.whV w.v else Sp.lt pre:=by
 unfold Sp.lt
 rw [codes_snoc]
 split
 ·rw [last_snoc]
 ·rfl
theorem cnt_le (ws:List Wo) (c:Int):0 <= Sp.cnt ws c /\ Sp.cnt ws c <= ws.length:=by
 have:=codes_len ws c
 unfold Sp.cnt
 omega
theorem takeW {ws:List Wo} {i:Nat} (h:i < ws.length):ws.take (i + 1) = ws.take i ++ [ws.getD i default]:=by
 rw [List.take_succ_eq_append_getElem h,List.getD_eq_getElem?_getD,List.getElem?_eq_getElem h];rfl
theorem all_take {ws:List Wo} {i:Nat} (h:i < ws.length):(ws.take (i + 1)).all Sp.okL = ((ws.take i).all Sp.okL && Sp.okL (ws.getD i default)):=by
 rw [takeW h,List.all_append];simp
def NumM (ms:List AV):Prop:=mapKeys .u8 ms = true /\ mapIs .i64 ms = true
theorem numM_put {n x:Int}:∀ {ms:List AV},NumM ms -> NumM (mapPut .u8 n (.int .i64 x) ms) /\ ∀ c,mapI c (mapPut .u8 n (.int .i64 x) ms) = if c = n then x else mapI c ms
 | [],_ => ⟨⟨by simp [mapPut,mapKeys],by simp [mapPut,mapIs]⟩,fun c => by
   simp only [mapPut,mapI]
   by_cases h:c = n
   ·subst h;simp
   ·rw [if_neg h,show (c == n) = false by simpa using h];rfl⟩
 | y :: l,h => by
  obtain ⟨h1,h2⟩:=h
  unfold mapIs at h2
  split at h2
  ·rename_i e;cases e
  ·rename_i k' m j b l' e
   simp only [List.cons.injEq] at e
   obtain ⟨rfl,rfl⟩:=e
   simp only [mapKeys,Bool.and_eq_true,decide_eq_true_eq] at h1
   obtain ⟨rfl,h1⟩:=h1
   simp only [Bool.and_eq_true,decide_eq_true_eq] at h2
   obtain ⟨rfl,h2⟩:=h2
   simp only [mapPut]
   by_cases hn:n = m
   ·subst hn
    simp only [beq_self_eq_true,cond_true]
    refine ⟨⟨by simp [mapKeys,h1],by simp [mapIs,h2]⟩,fun c => ?_⟩
    simp only [mapI]
    by_cases h:c = n
    ·subst h;simp
    ·rw [if_neg h,show (c == n) = false by simpa using h];rfl
   ·have e:(n == m) = false:=by simpa using hn
    rw [e,cond_false]
    obtain ⟨⟨q1,q2⟩,q3⟩:=numM_put (n:=n) (x:=x) ⟨h1,h2⟩
    refine ⟨⟨by simp [mapKeys,q1],by simp [mapIs,q2]⟩,fun c => ?_⟩
    simp only [mapI]
    by_cases h:c = m
    ·subst h
     have:(c == c) = true:=by simp
     rw [this,cond_true,cond_true,if_neg (fun e => hn e.symm)]
    ·have:(c == m) = false:=by simpa using h
     rw [this,cond_false,cond_false,q3]
  ·cases h2
theorem whV_0:Sp.whV 0 = 0:=by decide
theorem whV_1:Sp.whV 1000 = 1:=by decide
theorem okV_at {ws:List Wo} (h:Sp.okW ws) {i:Nat} (hi:i < ws.length):Sp.okV (ws.getD i default).v:=h.2 _ (getD_mem hi)
theorem suKa_loop {f:Bool} {ws:List Wo} {dq:AV} (hl:Sp.okW ws) (hq:AV.tup [.int .i64 (if Sp.okC ws = true then Sp.lp ws else 0),.int .i64 (if Sp.okC ws = true then Sp.lt ws else 0),.bool (Sp.okC ws),.int .i64 (if Sp.okC ws = true then 0 else 1)] = dq) :
  ∀ (k i:Nat) (ms:List AV),i + k = ws.length -> NumM ms -> (∀ c,mapI c ms = Sp.cnt (ws.take i) c) -> suKa_at f ws ms (Sp.lp (ws.take i)) (Sp.lt (ws.take i)) ws.length i ((ws.take i).all Sp.okL) (PureQ dq):=by
 have hlen:=hl.1
 intro k
 induction k with
 | zero =>
  intro i ms hi hm hc
  rw [List.take_of_length_le (show ws.length <= i by omega)] at hc ⊢
  have e:Sp.okC ws = (ws.all Sp.okL && decide (Sp.cnt ws 77 = 1 /\ Sp.cnt ws 80 = 1 /\ Sp.cnt ws 76 <= 1 /\ Sp.cnt ws 78 <= 1)):=rfl
  refine suKa _ _ _ _ _ _ _ _ _ ⟨fun h => by omega,fun _ => ⟨fun _ => hm.1,fun _ => hm.2,fun _ => hm.1,fun _ => hm.2,fun _ => hm.1,fun _ => hm.2,fun _ => hm.1,fun _ => hm.2,fun h => ?_,fun h => ?_⟩⟩
  ·simp only [hc] at h
   have hn:Sp.okC ws = false:=by
    cases ha:ws.all Sp.okL with
    | false => rw [e,ha,Bool.false_and]
    | true => rw [e,ha,Bool.true_and];rw [ha] at h;exact decide_eq_false (by simp at h;omega)
   rw [hn] at hq
   exact hq
  ·simp only [hc] at h
   have hn:Sp.okC ws = true:=by
    cases ha:ws.all Sp.okL with
    | false => rw [ha] at h;simp at h
    | true => rw [e,ha,Bool.true_and];rw [ha] at h;exact decide_eq_true (by simp at h;omega)
   rw [hn] at hq
   exact hq
 | succ k ih =>
  intro i ms hi hm hc
  have hil:i < ws.length:=by omega
  have hv:=okV_at hl hil
  have ha:=all_take hil
  have hp:=lp_snoc (ws.take i) (ws.getD i default)
  have ht:=lt_snoc (ws.take i) (ws.getD i default)
  have hn:∀ c,Sp.cnt (ws.take (i + 1)) c = if (ws.getD i default).l = c then Sp.cnt (ws.take i) c + 1 else Sp.cnt (ws.take i) c:=fun c => by rw [takeW hil,cnt_snoc]
  rw [<- takeW hil] at hp ht
  refine suKa _ _ _ _ _ _ _ _ _ ⟨fun _ => ?_,fun h => by omega⟩
  rw [Int.toNat_natCast]
  generalize ws.getD i default = w at hv ha hp ht hn ⊢
  obtain ⟨n1,n2⟩:=numM_put (n:=w.l) (x:=mapI w.l ms + 1) hm
  have hc':∀ c,mapI c (mapPut .u8 w.l (.int .i64 (mapI w.l ms + 1)) ms) = Sp.cnt (ws.take (i + 1)) c:=by
   intro c
   rw [n2,hn]
   by_cases h:c = w.l
   ·subst h;rw [if_pos rfl,if_pos rfl,hc]
   ·rw [if_neg h,if_neg (fun e => h e.symm),hc]
  have cb:=cnt_le (ws.take i) w.l
  have cl:(ws.take i).length <= ws.length:=by rw [List.length_take];omega
  have next:=ih (i + 1) _ (by omega) n1 hc'
  rw [hp,ht,ha] at next
  have eb:∀ a b:Bool,(bif a then b else false) = (a && b):=fun a b => by cases a <;> rfl
  refine ⟨by omega,by omega,hm.1,hm.2,by rw [hc];omega,hv,fun h => ⟨by omega,?_⟩,fun h1 => ⟨fun h => ⟨by omega,?_⟩,fun h2 => ⟨fun h => ⟨by omega,?_⟩,fun h3 => ⟨fun h => ⟨by omega,?_⟩,fun h4 => ⟨by omega,?_⟩⟩⟩⟩⟩
  ·rw [if_pos h,if_neg (by omega),show Sp.okL w = Sp.whB w.v by unfold Sp.okL;rw [if_pos (.inl h)]] at next
   rw [eb];exact next
  ·rw [if_neg h1,if_pos h,show Sp.okL w = Sp.whB w.v by unfold Sp.okL;rw [if_pos (.inr h)]] at next
   rw [eb];exact next
  ·rw [if_neg h1,if_neg h2,show Sp.okL w = true by unfold Sp.okL;rw [if_neg (by omega)];exact decide_eq_true (.inl h),Bool.and_true] at next
   exact next
  ·rw [if_neg h1,if_neg h2,show Sp.okL w = true by unfold Sp.okL;rw [if_neg (by omega)];exact decide_eq_true (.inr h),Bool.and_true] at next
   exact next
  ·rw [if_neg h1,if_neg h2,show Sp.okL w = false by unfold Sp.okL;rw [if_neg (by omega)];exact decide_eq_false (by omega),Bool.and_false] at next
   exact next
theorem ev13 (sk f:Bool) (ws:List Wo) (cm:List UInt8) (h:Sp.okW ws):Ev M1 (.pure 13 [bkA sk f ws cm]) (.tup [.int .i64 (Sp.cN ws),.int .i64 (Sp.cT ws),.bool (Sp.cIs ws),.int .i64 (Sp.cE ws)]) []:=by
 unfold Sp.cN Sp.cT Sp.cE Sp.cIs
 refine call13 (suK sk f ws cm _ ⟨h.1,fun k => ?_,fun k => ?_⟩)
 ·have k:Sp.hasW ws 77 98000 = false:=by simpa using k
  simp only [k,Bool.false_and]
  rfl
 ·have k:Sp.hasW ws 77 98000 = true:=by simpa using k
  simp only [k,Bool.true_and]
  have:=suKa_loop (f:=f) h rfl ws.length 0 [] (by omega) ⟨rfl,rfl⟩ (fun c => rfl)
  rw [List.take_zero,show Sp.lp [] = 0 from whV_0,show Sp.lt [] = 1 from whV_1] at this
  cases hc:Sp.okC ws with
  | true => rw [hc] at this;exact this
  | false => rw [hc] at this;exact this
def Sp.rp (ws:List Wo):Int:=Sp.whR (Sp.lastD (Sp.codes ws 80) 0)
def Sp.rt (ws:List Wo):Int:=Sp.whR (Sp.lastD (Sp.codes ws 76) 1000)
theorem rp_snoc (pre:List Wo) (w:Wo):Sp.rp (pre ++ [w]) = if w.l = 80 then Sp.whR w.v else Sp.rp pre:=by
 unfold Sp.rp
 rw [codes_snoc]
 split
 ·rw [last_snoc]
 ·rfl
theorem rt_snoc (pre:List Wo) (w:Wo):Sp.rt (pre ++ [w]) = if w.l = 76 then Sp.whR w.v else Sp.rt pre:=by
 unfold Sp.rt
 rw [codes_snoc]
 split
 ·rw [last_snoc]
 ·rfl
def Sp.lets (ws:List Wo):Bool:=ws.all fun w => decide (w.l = 77 \/ w.l = 80 \/ w.l = 76 \/ w.l = 78)
theorem whR_pos {x:Int}:Sp.whR x = 0 ↔ Sp.whB x = false:=by
 unfold Sp.whR
 cases h:Sp.whB x with
 | false => simp
 | true =>
  unfold Sp.whB at h
  simp only [decide_eq_true_eq] at h
  simp [Sp.whV];omega
theorem mem_codes {ws:List Wo} {c x:Int}:x ∈ Sp.codes ws c ↔ ∃ w ∈ ws,w.l = c /\ w.v = x:=by
 unfold Sp.codes
 simp only [List.mem_map,List.mem_filter,decide_eq_true_eq]
 exact ⟨fun ⟨w,⟨h1,h2⟩,h3⟩ => ⟨w,h1,h2,h3⟩,fun ⟨w,h1,h2,h3⟩ => ⟨w,⟨h1,h2⟩,h3⟩⟩
theorem okC_iff {ws:List Wo}:Sp.okC ws = true ↔ (Sp.lets ws = true /\ ¬((((((¬Sp.cnt ws 77 = 1) \/ (¬Sp.cnt ws 80 = 1)) \/ (Sp.cnt ws 76 > 1)) \/ (Sp.cnt ws 78 > 1)) \/ (Sp.rp ws = 0)) \/ (Sp.rt ws = 0))):=by
 unfold Sp.okC Sp.lets
 simp only [Bool.and_eq_true,List.all_eq_true,decide_eq_true_eq]
 have one:∀ c d,Sp.cnt ws c = 1 -> ∃ x,Sp.codes ws c = [x] /\ Sp.lastD (Sp.codes ws c) d = x:=by
  intro c d h
  unfold Sp.cnt at h
  match hc:Sp.codes ws c,h with
  | [x],_ => exact ⟨x,rfl,rfl⟩
 have none:∀ c d,Sp.cnt ws c = 0 -> Sp.lastD (Sp.codes ws c) d = d /\ Sp.codes ws c = []:=by
  intro c d h
  unfold Sp.cnt at h
  have:Sp.codes ws c = []:=List.length_eq_zero_iff.1 (by omega)
  exact ⟨by rw [this];rfl,this⟩
 constructor
 ·rintro ⟨h1,h2,h3,h4,h5⟩
  refine ⟨fun w hw => ?_,?_⟩
  ·have:=h1 w hw
   unfold Sp.okL at this
   split at this
   ·rename_i k;omega
   ·simp only [decide_eq_true_eq] at this;omega
  ·have c4:=cnt_le ws 76
   have p0:¬Sp.rp ws = 0:=by
    obtain ⟨x,e1,e2⟩:=one 80 0 h3
    unfold Sp.rp
    rw [e2,whR_pos]
    obtain ⟨w,hw,k1,k2⟩:=mem_codes.1 (show x ∈ Sp.codes ws 80 by rw [e1];simp)
    have:=h1 w hw
    unfold Sp.okL at this
    rw [if_pos (.inl k1),k2] at this
    rw [this];simp
   have t0:¬Sp.rt ws = 0:=by
    unfold Sp.rt
    rw [whR_pos]
    by_cases hz:Sp.cnt ws 76 = 0
    ·rw [(none 76 1000 hz).1];decide
    ·obtain ⟨x,e1,e2⟩:=one 76 1000 (by omega)
     rw [e2]
     obtain ⟨w,hw,k1,k2⟩:=mem_codes.1 (show x ∈ Sp.codes ws 76 by rw [e1];simp)
     have:=h1 w hw
     unfold Sp.okL at this
     rw [if_pos (.inr k1),k2] at this
     rw [this];simp
   omega
 ·rintro ⟨h1,h2⟩
  have g1:Sp.cnt ws 77 = 1 /\ Sp.cnt ws 80 = 1 /\ Sp.cnt ws 76 <= 1 /\ Sp.cnt ws 78 <= 1 /\ ¬Sp.rp ws = 0 /\ ¬Sp.rt ws = 0:=by omega
  obtain ⟨a1,a2,a3,a4,a5,a6⟩:=g1
  refine ⟨fun w hw => ?_,a1,a2,a3,a4⟩
  have hl:=h1 w hw
  unfold Sp.okL
  split
  ·rename_i k
   rcases k with k | k
   ·obtain ⟨x,e1,e2⟩:=one 80 0 a2
    have hx:w.v ∈ Sp.codes ws 80:=mem_codes.2 ⟨w,hw,k,rfl⟩
    rw [e1,List.mem_singleton] at hx
    unfold Sp.rp at a5
    rw [e2,whR_pos,<- hx] at a5
    simpa using a5
   ·have hx:w.v ∈ Sp.codes ws 76:=mem_codes.2 ⟨w,hw,k,rfl⟩
    have hz:¬Sp.cnt ws 76 = 0:=fun hz => by rw [(none 76 1000 hz).2] at hx;cases hx
    have:=cnt_le ws 76
    obtain ⟨x,e1,e2⟩:=one 76 1000 (by omega)
    rw [e1,List.mem_singleton] at hx
    unfold Sp.rt at a6
    rw [e2,whR_pos,<- hx] at a6
    simpa using a6
  ·exact decide_eq_true (by omega)
theorem okC_vals {ws:List Wo} (h:Sp.okC ws = true):Sp.rp ws = Sp.lp ws /\ Sp.rt ws = Sp.lt ws:=by
 have hi:=(okC_iff.1 h).2
 have g:¬Sp.rp ws = 0 /\ ¬Sp.rt ws = 0:=by omega
 unfold Sp.rp Sp.rt at g
 rw [whR_pos,whR_pos] at g
 unfold Sp.rp Sp.rt Sp.lp Sp.lt Sp.whR
 rw [if_pos (by simpa using g.1),if_pos (by simpa using g.2)]
 exact ⟨rfl,rfl⟩
theorem suRa_loop {sk f:Bool} {ws:List Wo} {cm:List UInt8} {dq:AV} (hl:Sp.okW ws) (hq:AV.tup [.int .i64 (if Sp.okC ws = true then Sp.lp ws else 0),.int .i64 (if Sp.okC ws = true then Sp.lt ws else 0),.bool (Sp.okC ws),.int .i64 (if Sp.okC ws = true then 0 else 1)] = dq) :
  ∀ (k i:Nat),i + k = ws.length -> Sp.lets (ws.take i) = true -> suRa_at sk f ws cm (Sp.rp (ws.take i)) (Sp.rt (ws.take i)) (Sp.cnt (ws.take i) 80) (Sp.cnt (ws.take i) 76) (Sp.cnt (ws.take i) 77) (Sp.cnt (ws.take i) 78) i (PureQ dq):=by
 have hlen:=hl.1
 intro k
 induction k with
 | zero =>
  intro i hi hs
  rw [List.take_of_length_le (show ws.length <= i by omega)] at hs ⊢
  refine suRa _ _ _ _ _ _ _ _ _ _ _ _ ⟨fun h => by omega,fun _ => ⟨fun h => ?_,fun h => ?_⟩⟩
  ·have hn:Sp.okC ws = false:=by
    cases hc:Sp.okC ws with
    | false => rfl
    | true => exact absurd h (okC_iff.1 hc).2
   rw [hn] at hq
   exact hq
  ·have hn:Sp.okC ws = true:=okC_iff.2 ⟨hs,h⟩
   obtain ⟨e1,e2⟩:=okC_vals hn
   rw [hn] at hq
   rw [e1,e2]
   exact hq
 | succ k ih =>
  intro i hi hs
  have hil:i < ws.length:=by omega
  have hv:=okV_at hl hil
  have hp:=rp_snoc (ws.take i) (ws.getD i default)
  have ht:=rt_snoc (ws.take i) (ws.getD i default)
  have hn:∀ c,Sp.cnt (ws.take (i + 1)) c = if (ws.getD i default).l = c then Sp.cnt (ws.take i) c + 1 else Sp.cnt (ws.take i) c:=fun c => by rw [takeW hil,cnt_snoc]
  have hs':Sp.lets (ws.take (i + 1)) = (Sp.lets (ws.take i) && decide ((ws.getD i default).l = 77 \/ (ws.getD i default).l = 80 \/ (ws.getD i default).l = 76 \/ (ws.getD i default).l = 78)):=by
   unfold Sp.lets
   rw [takeW hil,List.all_append];simp
  have hmem:ws.getD i default ∈ ws:=getD_mem hil
  rw [<- takeW hil] at hp ht
  refine suRa _ _ _ _ _ _ _ _ _ _ _ _ ⟨fun _ => ?_,fun h => by omega⟩
  rw [Int.toNat_natCast]
  generalize ws.getD i default = w at hv hs' hp ht hn hmem ⊢
  have cb:=fun c => cnt_le (ws.take i) c
  have c1:=cb 77
  have c2:=cb 80
  have c3:=cb 76
  have c4:=cb 78
  have cl:(ws.take i).length <= ws.length:=by rw [List.length_take];omega
  have next:=ih (i + 1) (by omega)
  rw [hs',hs,Bool.true_and,hp,ht,hn,hn,hn,hn] at next
  refine ⟨by omega,by omega,fun h => ⟨by omega,by omega,?_⟩,fun h1 => ⟨fun h => ⟨by omega,hv,by omega,?_⟩,fun h2 => ⟨fun h => ⟨by omega,hv,by omega,?_⟩,fun h3 => ⟨fun h => ⟨by omega,by omega,?_⟩,fun h4 => ?_⟩⟩⟩⟩
  ·have:=next (decide_eq_true (.inl h))
   simp only [h,if_true,show ¬(77:Int) = 80 by omega,show ¬(77:Int) = 76 by omega,show ¬(77:Int) = 78 by omega,if_false] at this
   exact this
  ·have:=next (decide_eq_true (.inr (.inl h)))
   simp only [h,if_true,show ¬(80:Int) = 77 by omega,show ¬(80:Int) = 76 by omega,show ¬(80:Int) = 78 by omega,if_false] at this
   exact this
  ·have:=next (decide_eq_true (.inr (.inr (.inl h))))
   simp only [h,if_true,show ¬(76:Int) = 77 by omega,show ¬(76:Int) = 80 by omega,show ¬(76:Int) = 78 by omega,if_false] at this
   exact this
  ·have:=next (decide_eq_true (.inr (.inr (.inr h))))
   simp only [h,if_true,show ¬(78:Int) = 77 by omega,show ¬(78:Int) = 80 by omega,show ¬(78:Int) = 76 by omega,if_false] at this
   exact this
  ·have hnn:Sp.okC ws = false:=by
    cases hc:Sp.okC ws with
    | false => rfl
    | true =>
     have:=(okC_iff.1 hc).1
     unfold Sp.lets at this
     have:=List.all_eq_true.1 this w hmem
     simp only [decide_eq_true_eq] at this
     omega
   rw [hnn] at hq
   exact hq
theorem ev14 (sk f:Bool) (ws:List Wo) (cm:List UInt8) (h:Sp.okW ws):Ev M1 (.pure 14 [bkA sk f ws cm]) (.tup [.int .i64 (Sp.cN ws),.int .i64 (Sp.cT ws),.bool (Sp.cIs ws),.int .i64 (Sp.cE ws)]) []:=by
 unfold Sp.cN Sp.cT Sp.cE Sp.cIs
 refine call14 (suR sk f ws cm _ ⟨h.1,fun k => ?_,fun k => ?_⟩)
 ·have k:Sp.hasW ws 77 98000 = false:=by simpa using k
  simp only [k,Bool.false_and]
  rfl
 ·have k:Sp.hasW ws 77 98000 = true:=by simpa using k
  simp only [k,Bool.true_and]
  have:=suRa_loop (sk:=sk) (f:=f) (cm:=cm) h rfl ws.length 0 (by omega) rfl
  rw [List.take_zero,show Sp.rp [] = 0 by decide,show Sp.rt [] = 1 by decide] at this
  cases hc:Sp.okC ws with
  | true => rw [hc] at this;exact this
  | false => rw [hc] at this;exact this
end Go.Av

namespace Go.Av
open Go.Proofs
set_option maxRecDepth 100000
end Go.Av

namespace Go.Av
open Go.Proofs
theorem valB_okW {ws:List Wo} {cm:List UInt8} (h:Sp.valB ws cm = true):Sp.okW ws:=by
 unfold Sp.valB at h
 simp only [Bool.and_eq_true,decide_eq_true_eq,List.all_eq_true] at h
 obtain ⟨⟨h1,_⟩,h2,_⟩:=h
 refine ⟨by omega,fun w hw => ?_⟩
 have:=h2 w hw
 unfold Sp.woB at this
 simp only [decide_eq_true_eq] at this
 unfold Sp.okV
 omega
theorem vals_at {l:List Bk} {m:Int} (h:Sp.vals l m = true):(l.length:Int) <= m /\ ∀ b ∈ l,Sp.valB b.ws b.cm = true:=by
 unfold Sp.vals Sp.fewB at h
 simp only [Bool.and_eq_true,decide_eq_true_eq,List.all_eq_true] at h
 exact ⟨h.1.1,h.2⟩
end Go.Av

namespace Go.Av
open Go.Proofs
set_option maxRecDepth 100000
def fi48:Fi:=⟨45,[.tmp 4]⟩
def kp48:List (Nat × List Nat):=[(0,[2,3]),(1,[2,3,26]),(2,[4]),(3,[2,3,5]),(4,[2,3,5,31]),(5,[2,3,5]),(6,[2,3,5,44]),(7,[4]),(8,[4])]
def fi77:Fi:=⟨15,[.tmp 2]⟩
def kp77:List (Nat × List Nat):=[(0,[1]),(1,[2])]
def suMk_at (sk f:Bool) (ws:List Wo) (cm:List UInt8) (Q:AV -> Heap -> Prop):Prop:=Wp M1 (.run fi77 (atC (cd Try.f77) []) [(0,.agg [.bool sk,.vec f 2 (ws.map Wo.a),.str cm])] []) Q
def suEq_at (sk f tk g:Bool) (ws vs:List Wo) (cm dm:List UInt8) (Q:AV -> Heap -> Prop):Prop:=Wp M1 (.run fi48 (atC (cd Try.f48) []) [(0,.agg [.bool sk,.vec f 2 (ws.map Wo.a),.str cm]),(1,.agg [.bool tk,.vec g 2 (vs.map Wo.a),.str dm])] []) Q
def suEqa_at (sk f tk g:Bool) (ws vs:List Wo) (cm dm:List UInt8) (i:Int) (Q:AV -> Heap -> Prop):Prop:=Wp M1 (.run fi48 (atC (cd Try.f48) [1,1,0,1,0,0]) [(2,.ptr 0 0 0 0),(3,.ptr 1 0 0 0),(5,.int .i64 i)] [⟨[.agg [.bool sk,.vec f 2 (ws.map Wo.a),.str cm]],3,0,false,false⟩,⟨[.agg [.bool tk,.vec g 2 (vs.map Wo.a),.str dm]],3,0,false,false⟩]) Q
theorem call48 {args:List AV} {d:AV} (h:wc M1 fi48 Try.f48 args d):Ev M1 (.pure 48 args) d []:=pcl _ _ (by kernel_rfl) h
theorem call77 {args:List AV} {d:AV} (h:wc M1 fi77 Try.f77 args d):Ev M1 (.pure 77 args) d []:=pcl _ _ (by kernel_rfl) h
theorem suMk (sk f:Bool) (ws:List Wo) (cm:List UInt8)  (dq:AV) (H :
  (Sp.few6 ws.length) /\
  vb (bif bif decide ((↑(Sp.codes ws 79).length:Int) > 0) then true else Sp.hasW ws 77 30000 then true else Sp.hasW ws 77 99000) = dq) :
 suMk_at sk f ws cm (PureQ dq):=by
 unfold suMk_at
 obtain ⟨k1,H⟩:=H
 have w2:(List.map (vi) (Sp.codes ws 79)).length = (Sp.codes ws 79).length:=List.length_map ..
 have i3:(decide ((↑(List.map (vi) (Sp.codes ws 79)).length:Int) > 0) == false && true && true) = true ↔ (¬((↑(Sp.codes ws 79).length:Int) > 0)):=(by (try rw [w2]);all_goals exact (i_at (i_at (i_bf i_dec))))
 have i4:((bif decide ((↑(List.map (vi) (Sp.codes ws 79)).length:Int) > 0) then true else Sp.hasW ws 77 30000) == false && true && true) = true ↔ (¬(((↑(Sp.codes ws 79).length:Int) > 0) \/ (Sp.hasW ws 77 30000 = true))):=(by (try rw [w2]);all_goals exact (i_at (i_at (i_bf (i_bor i_dec (i_var _))))))
 exact path_re (G:=given kp77 [(1,1,.call (vf (List.map (vi) (Sp.codes ws 79))) none),(1,6,.call (vb (Sp.hasW ws 77 30000)) none),(1,10,.call (vb (Sp.hasW ws 77 99000)) none)] []) 1000 [] (asm:=[true,!(decide ((↑(List.map (vi) (Sp.codes ws 79)).length:Int) > 0) == false && true) || true,!((bif decide ((↑(List.map (vi) (Sp.codes ws 79)).length:Int) > 0) then true else Sp.hasW ws 77 30000) == false && true) || true]) (calls:=[⟨true,false,70,[ag [vb sk,AV.vec f 2 (List.map Wo.a ws),AV.str cm],AV.int IntKind.u8 79],[],vf (List.map (vi) (Sp.codes ws 79)),[]⟩,⟨decide ((↑(List.map (vi) (Sp.codes ws 79)).length:Int) > 0) == false && true && true,false,40,[ag [vb sk,AV.vec f 2 (List.map Wo.a ws),AV.str cm],AV.int IntKind.u8 77,vi 30000],[],vb (Sp.hasW ws 77 30000),[]⟩,⟨(bif decide ((↑(List.map (vi) (Sp.codes ws 79)).length:Int) > 0) then true else Sp.hasW ws 77 30000) == false && true && true,false,40,[ag [vb sk,AV.vec f 2 (List.map Wo.a ws),AV.str cm],AV.int IntKind.u8 77,vi 99000],[],vb (Sp.hasW ws 77 99000),[]⟩]) (vb (bif bif decide ((↑(List.map (vi) (Sp.codes ws 79)).length:Int) > 0) then true else Sp.hasW ws 77 30000 then true else Sp.hasW ws 77 99000)) (by kernel_rfl) (bc rfl (bc (Bool.or_true _) (bc (Bool.or_true _) b0))) q0 (cc (fun _ => (@ev70 (sk) (f) (ws) (cm) (79) k1)) (cc (fun hc => ((@ev40 (sk) (f) (ws) (cm) (77) (30000) k1):Ev M1 (Conf.pure 40 [ag [vb sk,AV.vec f 2 (List.map Wo.a ws),AV.str cm],AV.int IntKind.u8 77,vi 30000]) (vb (Sp.hasW ws 77 30000)) [])) (cc (fun hc => ((@ev40 (sk) (f) (ws) (cm) (77) (99000) k1):Ev M1 (Conf.pure 40 [ag [vb sk,AV.vec f 2 (List.map Wo.a ws),AV.str cm],AV.int IntKind.u8 77,vi 99000]) (vb (Sp.hasW ws 77 99000)) [])) c0))) (by (try rw [w2]);all_goals exact H)
theorem suEq (sk f tk g:Bool) (ws vs:List Wo) (cm dm:List UInt8)  (dq:AV) (H :
  ((((¬(sk = tk)) \/ (¬cm = dm)) \/ (¬(↑ws.length:Int) = (↑vs.length:Int))) -> vb false = dq) /\
  (¬(((¬(sk = tk)) \/ (¬cm = dm)) \/ (¬(↑ws.length:Int) = (↑vs.length:Int))) -> suEqa_at (sk) (f) (tk) (g) (ws) (vs) (cm) (dm) (0) (PureQ dq))) :
 suEq_at sk f tk g ws vs cm dm (PureQ dq):=by
 unfold suEq_at
 have w1:(List.map Wo.a ws).length = ws.length:=List.length_map ..
 have w2:(List.map Wo.a vs).length = vs.length:=List.length_map ..
 have i3:(bif bif !sk == tk then true else !cm == dm then true else (↑(List.map Wo.a ws).length:Int) != (↑(List.map Wo.a vs).length:Int)) = true ↔ (((¬(sk = tk)) \/ (¬cm = dm)) \/ (¬(↑ws.length:Int) = (↑vs.length:Int))):=(by (try rw [w1]);(try rw [w2]);all_goals exact (i_bor (i_bor (i_not i_eq) i_neq) i_ne))
 rcases xm (((¬(sk = tk)) \/ (¬cm = dm)) \/ (¬(↑ws.length:Int) = (↑vs.length:Int))) with d4 | d4
 ·have H:=H.1 d4
  exact path_re (G:=given kp48 [] []) 1000 [true] (asm:=[true,true,!((!sk == tk) == false && true) || true,!((!sk == tk) == false && true) || true,!((bif !sk == tk then true else !cm == dm) == false && true) || true,!((bif !sk == tk then true else !cm == dm) == false && true) || true,(bif bif !sk == tk then true else !cm == dm then true else (↑(List.map Wo.a ws).length:Int) != (↑(List.map Wo.a vs).length:Int)) == true]) (vb false) (by kernel_rfl) (bc rfl (bc rfl (bc (Bool.or_true _) (bc (Bool.or_true _) (bc (Bool.or_true _) (bc (Bool.or_true _) (bc (beq_t (i3.2 d4)) b0))))))) q0 c0 H
 ·have H:=H.2 d4
  exact path_wp (G:=given kp48 [] []) 1000 [false] ⟨(atC (cd Try.f48) [1,1,0,1,0,0]),[(2,AV.ptr 0 0 0 0),(3,AV.ptr 1 0 0 0),(5,vi 0)],[⟨[ag [vb sk,AV.vec f 2 (List.map Wo.a ws),AV.str cm]],3,0,false,false⟩,⟨[ag [vb tk,AV.vec g 2 (List.map Wo.a vs),AV.str dm]],3,0,false,false⟩],[true,true,!((!sk == tk) == false && true) || true,!((!sk == tk) == false && true) || true,!((bif !sk == tk then true else !cm == dm) == false && true) || true,!((bif !sk == tk then true else !cm == dm) == false && true) || true,(bif bif !sk == tk then true else !cm == dm then true else (↑(List.map Wo.a ws).length:Int) != (↑(List.map Wo.a vs).length:Int)) == false],[],_⟩ (by kernel_rfl) (bc rfl (bc rfl (bc (Bool.or_true _) (bc (Bool.or_true _) (bc (Bool.or_true _) (bc (Bool.or_true _) (bc (beq_f (fun h => d4 (i3.1 h))) b0))))))) q0 c0 (H)
theorem suEqa (sk f tk g:Bool) (ws vs:List Wo) (cm dm:List UInt8) (i:Int)  (dq:AV) (H :
  ((i < (↑ws.length:Int)) -> (0 <= i) /\
   (i.toNat < ws.length) /\
   (i.toNat < vs.length) /\
   ((¬(((ws.getD i.toNat default).l = (vs.getD i.toNat default).l) /\ ((ws.getD i.toNat default).v = (vs.getD i.toNat default).v))) -> vb false = dq) /\
   (¬(¬(((ws.getD i.toNat default).l = (vs.getD i.toNat default).l) /\ ((ws.getD i.toNat default).v = (vs.getD i.toNat default).v))) -> (-9223372036854775808 <= i + 1 /\ i + 1 <= 9223372036854775807) /\
    suEqa_at (sk) (f) (tk) (g) (ws) (vs) (cm) (dm) (i + 1) (PureQ dq))) /\
  (¬(i < (↑ws.length:Int)) -> vb true = dq)) :
 suEqa_at sk f tk g ws vs cm dm i (PureQ dq):=by
 unfold suEqa_at
 have w1:(List.map Wo.a ws).length = ws.length:=List.length_map ..
 have i2:(decide (i < (↑(List.map Wo.a ws).length:Int))) = true ↔ (i < (↑ws.length:Int)):=(by (try rw [w1]);all_goals exact i_dec)
 rcases xm (i < (↑ws.length:Int)) with d3 | d3
 ·have H:=H.1 d3
  obtain ⟨k5,H⟩:=H
  have i6:(decide (i.toNat < (List.map Wo.a ws).length)) = true ↔ (i.toNat < ws.length):=(by (try rw [w1]);all_goals exact i_dec)
  obtain ⟨k7,H⟩:=H
  have w9:(List.map Wo.a vs).length = vs.length:=List.length_map ..
  have i10:(decide (i.toNat < (List.map Wo.a vs).length)) = true ↔ (i.toNat < vs.length):=(by (try rw [w9]);all_goals exact i_dec)
  obtain ⟨k11,H⟩:=H
  refine path_wp (G:=given kp48 [(6,4,.elem (ag [AV.int IntKind.u8 (ws.getD i.toNat default).l,vi (ws.getD i.toNat default).v])),(6,9,.elem (ag [AV.int IntKind.u8 (vs.getD i.toNat default).l,vi (vs.getD i.toNat default).v]))] []) 9 [true] ⟨(atC (cd Try.f48) [1,1,0,1,0,0,1,0,0,1]),[(2,AV.ptr 0 0 0 0),(3,AV.ptr 1 0 0 0),(5,vi i),(44,vb !((ws.getD i.toNat default).l == (vs.getD i.toNat default).l && ((ws.getD i.toNat default).v == (vs.getD i.toNat default).v && true)))],[⟨[ag [vb sk,AV.vec f 2 (List.map Wo.a ws),AV.str cm]],3,0,false,false⟩,⟨[ag [vb tk,AV.vec g 2 (List.map Wo.a vs),AV.str dm]],3,0,false,false⟩],_,[((List.map Wo.a ws).get?Internal i.toNat = some (ag [AV.int IntKind.u8 (ws.getD i.toNat default).l,vi (ws.getD i.toNat default).v])),((List.map Wo.a vs).get?Internal i.toNat = some (ag [AV.int IntKind.u8 (vs.getD i.toNat default).l,vi (vs.getD i.toNat default).v]))],_⟩ (by kernel_rfl) (bc rfl (bc (beq_t (i2.2 d3)) (bc rfl (bc (i_dec.2 k5) (bc (i6.2 k7) (bc rfl (bc (i_dec.2 k5) (bc (i10.2 k11) b0)))))))) (qc (el_map k7) (qc (el_map k11) q0)) c0 ?_
  rcases xm (¬(((ws.getD i.toNat default).l = (vs.getD i.toNat default).l) /\ ((ws.getD i.toNat default).v = (vs.getD i.toNat default).v))) with d13 | d13
  ·have H:=H.1 d13
   exact path_re (G:=given kp48 [] []) 1000 [true] (vb false) (by kernel_rfl) (bc (beq_t ((i_not (i_and i_eq (i_at i_eq))).2 d13)) b0) q0 c0 H
  ·have H:=H.2 d13
   obtain ⟨k14,H⟩:=H
   have w15:wi (i + 1) = i + 1:=wI64 k14
   exact path_wp (G:=given kp48 [] []) 1000 [false] ⟨(atC (cd Try.f48) [1,1,0,1,0,0]),[(2,AV.ptr 0 0 0 0),(3,AV.ptr 1 0 0 0),(5,vi (wi (i + 1)))],[⟨[ag [vb sk,AV.vec f 2 (List.map Wo.a ws),AV.str cm]],3,0,false,false⟩,⟨[ag [vb tk,AV.vec g 2 (List.map Wo.a vs),AV.str dm]],3,0,false,false⟩],_,[],_⟩ (by kernel_rfl) (bc (beq_f (fun h => d13 ((i_not (i_and i_eq (i_at i_eq))).1 h))) b0) q0 c0 (by (try rw [w15]);all_goals exact H)
 ·have H:=H.2 d3
  exact path_re (G:=given kp48 [] []) 1000 [false] (vb true) (by kernel_rfl) (bc rfl (bc (beq_f (fun h => d3 (i2.1 h))) b0)) q0 c0 H
end Go.Av

namespace Go.Av
open Go.Proofs
namespace Sp
def letB (ws:List Wo) (c:Int):Bool:=decide (0 < (codes ws c).length)
def endB (ws:List Wo):Bool:=hasW ws 77 30000
def backB (ws:List Wo):Bool:=hasW ws 77 99000
def mkB (ws:List Wo):Bool:=letB ws 79 || (endB ws || backB ws)
def plB (sk:Bool) (ws:List Wo) (cm:List UInt8):Bool:=decide (ws.length = 1 /\ sk = false /\ cm = [])
def eqB (sk tk:Bool) (ws vs:List Wo) (cm dm:List UInt8):Bool:=decide (sk = tk /\ cm = dm /\ ws = vs)
end Sp
theorem gt_pos (n:Nat):decide ((n:Int) > 0) = decide (0 < n):=decide_eq_decide.2 (by omega)
theorem ev77 (sk f:Bool) (ws:List Wo) (cm:List UInt8) (h:Sp.few6 ws.length):Ev M1 (.pure 77 [bkA sk f ws cm]) (.bool (Sp.mkB ws)) []:=by
 refine call77 (suMk sk f ws cm _ ⟨h,?_⟩)
 unfold Sp.mkB Sp.letB Sp.endB Sp.backB
 rw [gt_pos]
 cases decide (0 < (Sp.codes ws 79).length) <;> cases Sp.hasW ws 77 30000 <;> rfl
theorem wo_eq {a b:Wo}:a = b ↔ a.l = b.l /\ a.v = b.v:=⟨fun h => by rw [h];exact ⟨rfl,rfl⟩,fun ⟨h1,h2⟩ => by cases a;cases b;simp_all⟩
theorem suEq_loop {sk f tk g:Bool} {ws vs:List Wo} {cm dm:List UInt8} {dq:AV} (he:ws.length = vs.length) (hl:ws.length <= 1000000):∀ (k i:Nat),i + k = ws.length -> AV.bool (decide (ws.drop i = vs.drop i)) = dq -> suEqa_at sk f tk g ws vs cm dm i (PureQ dq):=by
 intro k
 induction k with
 | zero =>
  intro i hi hq
  rw [List.drop_eq_nil_of_le (by omega),List.drop_eq_nil_of_le (by omega)] at hq
  exact suEqa _ _ _ _ _ _ _ _ _ _ ⟨fun h => by omega,fun _ => hq⟩
 | succ k ih =>
  intro i hi hq
  rw [drop_getD (show i < ws.length by omega),drop_getD (show i < vs.length by omega)] at hq
  refine suEqa _ _ _ _ _ _ _ _ _ _ ⟨fun _ => ?_,fun h => by omega⟩
  rw [Int.toNat_natCast]
  refine ⟨by omega,by omega,by omega,fun h => ?_,fun h => ⟨by omega,ih (i + 1) (by omega) ?_⟩⟩
  ·rw [decide_eq_false (fun e => h (wo_eq.1 (List.cons.inj e).1))] at hq
   exact hq
  ·rw [<- hq]
   congr 1
   rw [decide_eq_decide]
   have:=wo_eq.2 (Classical.not_not.1 h)
   rw [this];simp
theorem ev48 (sk f tk g:Bool) (ws vs:List Wo) (cm dm:List UInt8) (h:Sp.few6 ws.length):Ev M1 (.pure 48 [bkA sk f ws cm,bkA tk g vs dm]) (.bool (Sp.eqB sk tk ws vs cm dm)) []:=by
 unfold Sp.eqB
 refine call48 (suEq sk f tk g ws vs cm dm _ ⟨fun k => ?_,fun k => suEq_loop (by omega) h ws.length 0 (by omega) ?_⟩)
 ·rw [decide_eq_false]
  rintro ⟨rfl,rfl,rfl⟩
  simp at k
 ·have k1:sk = tk:=Classical.byContradiction fun e => k (.inl (.inl e))
  have k2:cm = dm:=Classical.byContradiction fun e => k (.inl (.inr e))
  congr 1
  rw [decide_eq_decide]
  simp [k1,k2]
end Go.Av

namespace Go.Av
open Go.Proofs
set_option maxRecDepth 100000
def fi18:Fi:=⟨27,[.tmp 4]⟩
def kp18:List (Nat × List Nat):=[(0,[0,1]),(1,[0,1,10]),(2,[4]),(3,[0,1,5]),(4,[0,1,5,14]),(5,[0,1,5]),(6,[0,1,5,26]),(7,[4]),(8,[4])]
def suSm_at (g h:Bool) (l q:List Bk) (Q:AV -> Heap -> Prop):Prop:=Wp M1 (.run fi18 (atC (cd Try.f18) []) [(0,.vec g 3 (l.map Bk.a)),(1,.vec h 3 (q.map Bk.a))] []) Q
def suSma_at (g h:Bool) (l q:List Bk) (i:Int) (Q:AV -> Heap -> Prop):Prop:=Wp M1 (.run fi18 (atC (cd Try.f18) [1,1,0,1,0,0]) [(0,.vec g 3 (l.map Bk.a)),(1,.vec h 3 (q.map Bk.a)),(5,.int .i64 i)] []) Q
theorem call18 {args:List AV} {d:AV} (h:wc M1 fi18 Try.f18 args d):Ev M1 (.pure 18 args) d []:=pcl _ _ (by kernel_rfl) h
theorem suSm (g h:Bool) (l q:List Bk)  (dq:AV) (H :
  ((¬(↑l.length:Int) = (↑q.length:Int)) -> vb false = dq) /\
  (¬(¬(↑l.length:Int) = (↑q.length:Int)) -> suSma_at (g) (h) (l) (q) (0) (PureQ dq))) :
 suSm_at g h l q (PureQ dq):=by
 unfold suSm_at
 have w1:(List.map Bk.a l).length = l.length:=List.length_map ..
 have w2:(List.map Bk.a q).length = q.length:=List.length_map ..
 have i3:((↑(List.map Bk.a l).length:Int) != (↑(List.map Bk.a q).length:Int)) = true ↔ (¬(↑l.length:Int) = (↑q.length:Int)):=(by (try rw [w1]);(try rw [w2]);all_goals exact i_ne)
 rcases xm (¬(↑l.length:Int) = (↑q.length:Int)) with d4 | d4
 ·have H:=H.1 d4
  exact path_re (G:=given kp18 [] []) 1000 [true] (vb false) (by kernel_rfl) (bc (beq_t (i3.2 d4)) b0) q0 c0 H
 ·have H:=H.2 d4
  exact path_wp (G:=given kp18 [] []) 1000 [false] ⟨(atC (cd Try.f18) [1,1,0,1,0,0]),[(0,AV.vec g 3 (List.map Bk.a l)),(1,AV.vec h 3 (List.map Bk.a q)),(5,vi 0)],[],_,[],_⟩ (by kernel_rfl) (bc (beq_f (fun h => d4 (i3.1 h))) b0) q0 c0 (H)
theorem suSma (g h:Bool) (l q:List Bk) (i:Int)  (dq:AV) (H :
  ((i < (↑l.length:Int)) -> (Sp.few6 (l.getD i.toNat default).3.length) /\
   (0 <= i) /\
   (i.toNat < l.length) /\
   (i.toNat < q.length) /\
   ((¬(Sp.eqB (l.getD i.toNat default).1 (q.getD i.toNat default).1 (l.getD i.toNat default).3 (q.getD i.toNat default).3 (l.getD i.toNat default).4 (q.getD i.toNat default).4 = true)) -> vb false = dq) /\
   (¬(¬(Sp.eqB (l.getD i.toNat default).1 (q.getD i.toNat default).1 (l.getD i.toNat default).3 (q.getD i.toNat default).3 (l.getD i.toNat default).4 (q.getD i.toNat default).4 = true)) -> (-9223372036854775808 <= i + 1 /\ i + 1 <= 9223372036854775807) /\
    suSma_at (g) (h) (l) (q) (i + 1) (PureQ dq))) /\
  (¬(i < (↑l.length:Int)) -> vb true = dq)) :
 suSma_at g h l q i (PureQ dq):=by
 unfold suSma_at
 have w1:(List.map Bk.a l).length = l.length:=List.length_map ..
 have i2:(decide (i < (↑(List.map Bk.a l).length:Int))) = true ↔ (i < (↑l.length:Int)):=(by (try rw [w1]);all_goals exact i_dec)
 rcases xm (i < (↑l.length:Int)) with d3 | d3
 ·have H:=H.1 d3
  obtain ⟨k4,H⟩:=H
  obtain ⟨k6,H⟩:=H
  have i7:(decide (i.toNat < (List.map Bk.a l).length)) = true ↔ (i.toNat < l.length):=(by (try rw [w1]);all_goals exact i_dec)
  obtain ⟨k8,H⟩:=H
  have w10:(List.map Bk.a q).length = q.length:=List.length_map ..
  have i11:(decide (i.toNat < (List.map Bk.a q).length)) = true ↔ (i.toNat < q.length):=(by (try rw [w10]);all_goals exact i_dec)
  obtain ⟨k12,H⟩:=H
  refine path_wp (G:=given kp18 [(6,3,.elem (ag [vb (l.getD i.toNat default).1,AV.vec (l.getD i.toNat default).2 2 (List.map Wo.a (l.getD i.toNat default).3),AV.str (l.getD i.toNat default).4])),(6,7,.elem (ag [vb (q.getD i.toNat default).1,AV.vec (q.getD i.toNat default).2 2 (List.map Wo.a (q.getD i.toNat default).3),AV.str (q.getD i.toNat default).4])),(6,8,.call (vb (Sp.eqB (l.getD i.toNat default).1 (q.getD i.toNat default).1 (l.getD i.toNat default).3 (q.getD i.toNat default).3 (l.getD i.toNat default).4 (q.getD i.toNat default).4)) none)] []) 9 [true] ⟨(atC (cd Try.f18) [1,1,0,1,0,0,1,0,0,1]),[(0,AV.vec g 3 (List.map Bk.a l)),(1,AV.vec h 3 (List.map Bk.a q)),(5,vi i),(26,vb !Sp.eqB (l.getD i.toNat default).1 (q.getD i.toNat default).1 (l.getD i.toNat default).3 (q.getD i.toNat default).3 (l.getD i.toNat default).4 (q.getD i.toNat default).4)],[],_,[((List.map Bk.a l).get?Internal i.toNat = some (ag [vb (l.getD i.toNat default).1,AV.vec (l.getD i.toNat default).2 2 (List.map Wo.a (l.getD i.toNat default).3),AV.str (l.getD i.toNat default).4])),((List.map Bk.a q).get?Internal i.toNat = some (ag [vb (q.getD i.toNat default).1,AV.vec (q.getD i.toNat default).2 2 (List.map Wo.a (q.getD i.toNat default).3),AV.str (q.getD i.toNat default).4]))],_⟩ (by kernel_rfl) (bc (beq_t (i2.2 d3)) (bc (i_dec.2 k6) (bc (i7.2 k8) (bc (i_dec.2 k6) (bc (i11.2 k12) b0))))) (qc (el_map k8) (qc (el_map k12) q0)) (ce (@ev48 ((l.getD i.toNat default).1) ((l.getD i.toNat default).2) ((q.getD i.toNat default).1) ((q.getD i.toNat default).2) ((l.getD i.toNat default).3) ((q.getD i.toNat default).3) ((l.getD i.toNat default).4) ((q.getD i.toNat default).4) k4) c0) ?_
  rcases xm (¬(Sp.eqB (l.getD i.toNat default).1 (q.getD i.toNat default).1 (l.getD i.toNat default).3 (q.getD i.toNat default).3 (l.getD i.toNat default).4 (q.getD i.toNat default).4 = true)) with d14 | d14
  ·have H:=H.1 d14
   exact path_re (G:=given kp18 [] []) 1000 [true] (asm:=[(!Sp.eqB (l.getD i.toNat default).1 (q.getD i.toNat default).1 (l.getD i.toNat default).3 (q.getD i.toNat default).3 (l.getD i.toNat default).4 (q.getD i.toNat default).4) == true]) (vb false) (by kernel_rfl) (bc (beq_t ((i_not (i_var _)).2 d14)) b0) q0 c0 H
  ·have H:=H.2 d14
   obtain ⟨k15,H⟩:=H
   have w16:wi (i + 1) = i + 1:=wI64 k15
   exact path_wp (G:=given kp18 [] []) 1000 [false] ⟨(atC (cd Try.f18) [1,1,0,1,0,0]),[(0,AV.vec g 3 (List.map Bk.a l)),(1,AV.vec h 3 (List.map Bk.a q)),(5,vi (wi (i + 1)))],[],[(!Sp.eqB (l.getD i.toNat default).1 (q.getD i.toNat default).1 (l.getD i.toNat default).3 (q.getD i.toNat default).3 (l.getD i.toNat default).4 (q.getD i.toNat default).4) == false],[],_⟩ (by kernel_rfl) (bc (beq_f (fun h => d14 ((i_not (i_var _)).1 h))) b0) q0 c0 (by (try rw [w16]);all_goals exact H)
 ·have H:=H.2 d3
  exact path_re (G:=given kp18 [] []) 1000 [false] (vb true) (by kernel_rfl) (bc (beq_f (fun h => d3 (i2.1 h))) b0) q0 c0 H
end Go.Av

namespace Go.Av
open Go.Proofs
def Bk.key (b:Bk):Bool × List Wo × List UInt8:=(b.sk,b.ws,b.cm)
namespace Sp
def foldB (ws:List Wo):Bool:=!(mkB ws) && (!(letB ws 78) && !(hasW ws 77 98000))
def bgV (sk:Bool) (ws:List Wo) (cm:List UInt8):Int:=if plB sk ws cm = true /\ (ws.getD 0 default).l = 79 then whV (ws.getD 0 default).v else 0
def bgB (sk:Bool) (ws:List Wo) (cm:List UInt8):Bool:=if plB sk ws cm = true /\ (ws.getD 0 default).l = 79 then whB (ws.getD 0 default).v else false
def same (b c:Bk):Bool:=eqB b.sk c.sk b.ws c.ws b.cm c.cm
def sameL (l q:List Bk):Bool:=decide (l.map Bk.key = q.map Bk.key)
def okBs (l:List Bk):Prop:=l.length <= 1000000 /\ ∀ b ∈ l,okW b.ws
end Sp
theorem same_iff {b c:Bk}:Sp.same b c = true ↔ b.key = c.key:=by
 unfold Sp.same Sp.eqB Bk.key
 simp only [decide_eq_true_eq,Prod.mk.injEq]
 exact ⟨fun ⟨h1,h2,h3⟩ => ⟨h1,h3,h2⟩,fun ⟨h1,h2,h3⟩ => ⟨h1,h3,h2⟩⟩
theorem suSm_loop {g h:Bool} {l q:List Bk} {dq:AV} (hk:Sp.okBs l) (he:l.length = q.length):∀ (k i:Nat),i + k = l.length -> AV.bool (Sp.sameL (l.drop i) (q.drop i)) = dq -> suSma_at g h l q i (PureQ dq):=by
 have hl:=hk.1
 intro k
 induction k with
 | zero =>
  intro i hi hq
  rw [List.drop_eq_nil_of_le (by omega),List.drop_eq_nil_of_le (by omega)] at hq
  exact suSma _ _ _ _ _ _ ⟨fun h => by omega,fun _ => hq⟩
 | succ k ih =>
  intro i hi hq
  have hm:=hk.2 _ (getD_mem (show i < l.length by omega))
  rw [drop_getD (show i < l.length by omega),drop_getD (show i < q.length by omega)] at hq
  unfold Sp.sameL at hq
  rw [List.map_cons,List.map_cons] at hq
  refine suSma _ _ _ _ _ _ ⟨fun _ => ?_,fun h => by omega⟩
  rw [Int.toNat_natCast]
  refine ⟨hm.1,by omega,by omega,by omega,fun h => ?_,fun h => ⟨by omega,ih (i + 1) (by omega) ?_⟩⟩
  ·rw [decide_eq_false (fun e => h (same_iff.2 (List.cons.inj e).1))] at hq
   exact hq
  ·rw [<- hq]
   congr 1
   unfold Sp.sameL
   rw [decide_eq_decide]
   have:=same_iff.1 (Classical.not_not.1 h)
   rw [this];simp
theorem ev18 (g h:Bool) (l q:List Bk) (hk:Sp.okBs l):Ev M1 (.pure 18 [bsA g l,bsA h q]) (.bool (Sp.sameL l q)) []:=by
 refine call18 (suSm g h l q _ ⟨fun k => ?_,fun k => suSm_loop hk (by omega) l.length 0 (by omega) rfl⟩)
 unfold Sp.sameL
 rw [decide_eq_false (fun e => k (by have:=congrArg List.length e;simp only [List.length_map] at this;omega))]
end Go.Av

namespace Go.Av
open Go.Proofs
set_option maxRecDepth 100000
end Go.Av

namespace Go.Av
open Go.Proofs
namespace Sp
def rn (l:List Bk) (i k:Nat) (j:Nat):Bool:=foldB (l.getD (i + j) default).ws && same (l.getD (i + j) default) (l.getD (k + j) default)
def runB (l:List Bk) (i k n:Int):Bool:=(List.range' 0 n.toNat).all (rn l i.toNat k.toNat)
def runR (l:List Bk) (i k n:Int):Bool:=if k + n > (l.length:Int) then false else runB l i k n
end Sp
end Go.Av

namespace Go.Av
open Go.Proofs
set_option maxRecDepth 100000
def fi22:Fi:=⟨8,[.tmp 2]⟩
def kp22:List (Nat × List Nat):=[(0,[0]),(1,[0,4]),(2,[2]),(3,[2])]
def suKe_at (g:Bool) (Q:AV -> Heap -> Prop):Prop:=Wp M1 (.run fi22 (atC (cd Try.f22) []) [(0,.vec g 3 [])] []) Q
def suKc_at (g:Bool) (y:Bk) (l:List Bk) (Q:AV -> Heap -> Prop):Prop:=Wp M1 (.run fi22 (atC (cd Try.f22) []) [(0,.vec g 3 ((y :: l).map Bk.a))] []) Q
theorem call22 {args:List AV} {d:AV} (h:wc M1 fi22 Try.f22 args d):Ev M1 (.pure 22 args) d []:=pcl _ _ (by kernel_rfl) h
theorem suKe (g:Bool)  (dq:AV) (H :
  (Weak (AV.vnil) dq) /\
  (Weak (AV.vec true 3 []) dq)) :
 suKe_at g (PureQ dq):=by
 unfold suKe_at
 refine path_wp (G:=given kp22 [] []) 4 [] ⟨(atC (cd Try.f22) [1,0,0]),[(0,AV.vec g 3 [])],[],_,[],_⟩ (by kernel_rfl) b0 q0 c0 (wp_nil 1 [0,4] (e1:=[(0,AV.vec g 3 []),(4,vb true)]) (e2:=[(0,AV.vec g 3 []),(4,vb false)]) (L1:=[]) (L2:=[]) (a1:=[]) (a2:=[]) (v1:=[(4,[],vb true),(3,[],AV.vec g 3 []),(0,[],AV.vec g 3 [])]) (v2:=[(4,[],vb false),(3,[],AV.vec g 3 []),(0,[],AV.vec g 3 [])]) (by kernel_rfl) (by kernel_rfl) allB_nil allB_nil (by kernel_rfl) (by kernel_rfl) ?_ ?_)
 ·have H:=H.1
  exact path_rq (G:=given kp22 [] []) 1000 [true] (AV.vnil) (by kernel_rfl) (bc rfl b0) q0 c0 H
 ·have H:=H.2
  exact path_rq (G:=given kp22 [] []) 1000 [false] (AV.vec true 3 []) (by kernel_rfl) (bc rfl b0) q0 c0 H
theorem suKc (g:Bool) (y:Bk) (l:List Bk)  (dq:AV) (H :
  ((0 + (l.length + 1)) * 48 <= 1099511627776) /\
  Weak (AV.vec false 3 (ag [vb y.1,AV.vec y.2 2 (List.map Wo.a y.3),AV.str y.4] :: List.map Bk.a l)) dq) :
 suKc_at g y l (PureQ dq):=by
 unfold suKc_at
 have w1:(List.map Bk.a l).length = l.length:=List.length_map ..
 have i2:(decide ((0 + ((List.map Bk.a l).length + 1)) * 48 <= 1099511627776)) = true ↔ ((0 + (l.length + 1)) * 48 <= 1099511627776):=(by (try rw [w1]);all_goals exact i_dec)
 obtain ⟨k3,H⟩:=H
 exact path_ret (G:=given kp22 [] []) 1000 [false] (k:=((atC (cd Try.f22) [1,1,1])).tail) (env':=[(2,AV.row 0 0)]) (L':=[⟨ag [vb y.1,AV.vec y.2 2 (List.map Wo.a y.3),AV.str y.4] :: List.map Bk.a l,3,0,false,true⟩]) (asm:=[false == false,decide ((0 + ((List.map Bk.a l).length + 1)) * 48 <= 1099511627776)]) (eqs:=[]) (calls:=[]) (AV.row 0 0) (by kernel_rfl) (by kernel_rfl) (allB_cons rfl (allB_cons (i2.2 k3) allB_nil)) allP_nil allC_nil (pq_weak (d:=(AV.vec false 3 (ag [vb y.1,AV.vec y.2 2 (List.map Wo.a y.3),AV.str y.4] :: List.map Bk.a l))) (bs:=[0 == 0]) (by kernel_rfl) (by kernel_rfl) (allB_cons (beq_self_eq_true _) allB_nil) (by kernel_rfl) H)
end Go.Av

namespace Go.Av
open Go.Proofs
theorem ev22 (g:Bool) (l:List Bk) (h:Sp.few6 l.length):Ev M1 (.pure 22 [bsA g l]) (bsA false l) []:=by
 unfold Sp.few6 at h
 cases l with
 | nil => exact call22 (suKe g _ ⟨.vnil 3,.full 3 []⟩)
 | cons y l => exact call22 (suKc g y l _ ⟨by simp at h;omega,.refl _⟩)
namespace Sp
def hasRun (l:List Bk) (n i:Nat):Nat -> Nat -> Bool
 | 0,_ => false
 | c + 1,k => runB l i k n || hasRun l n i c (k + 1)
def findF (l:List Bk) (n:Nat):Nat -> Nat -> Int
 | 0,_ => -1
 | c + 1,i => if hasRun l n i (l.length + 1 - (i + 2 * n)) (i + n) = true then i else findF l n c (i + 1)
def fst (l:List Bk) (n:Int):Int:=findF l n.toNat (l.length + 1 - 2 * n.toNat) 0
end Sp
end Go.Av

namespace Go.Av
open Go.Proofs
set_option maxRecDepth 100000
end Go.Av

namespace Go.Av
open Go.Proofs
abbrev sbA (g:Bool) (s:List Sb):AV:=.vec g 2 (s.map Sb.a)
namespace Sp
def callB (m:Int):Bk:=⟨false,true,[⟨77,98000⟩,⟨80,1000 * m⟩],[]⟩
def build (l:List Bk) (m:Int) (n a:Nat):Nat -> Nat -> List Bk
 | 0,_ => []
 | f + 1,i => if i < l.length then (if runR l a i n = true then callB m :: build l m n a f (i + n) else l.getD i default :: build l m n a f (i + 1)) else []
end Sp
theorem weak_tup2' {a a' b:AV} (h:Weak a a'):Weak (.tup [a,b]) (.tup [a',b]):=by
 refine .tup _ _ rfl fun i x y hx hy => ?_
 match i with
 | 0 => simp at hx hy;subst hx;subst hy;exact h
 | 1 => simp at hx hy;subst hx;subst hy;exact .refl _
 | i + 2 => simp at hx
theorem weak_agg2 {a a' b b':AV} (h:Weak a a') (k:Weak b b'):Weak (.agg [a,b]) (.agg [a',b']):=by
 refine .agg _ _ rfl fun i x y hx hy => ?_
 match i with
 | 0 => simp at hx hy;subst hx;subst hy;exact h
 | 1 => simp at hx hy;subst hx;subst hy;exact k
 | i + 2 => simp at hx
end Go.Av

namespace Go.Av
open Go.Proofs
set_option maxRecDepth 100000
def fi23:Fi:=⟨106,[.cell 6 34,.tmp 7]⟩
end Go.Av

namespace Go.Av
open Go.RowKit
mutual
def meltA (L:Heap) (fs:List Nat):AV -> AV
 | .row r v => bif fs.contains r then (match L[r]? with
  | some row => bif row.clean then .vec false row.es row.elems else .row r v
  | none => .row r v) else .row r v
 | .agg cs => .agg (meltL L fs cs)
 | .tup cs => .tup (meltL L fs cs)
 | .any => .any | .bool b => .bool b | .int k n => .int k n | .str s => .str s | .flt b => .flt b | .nilp => .nilp | .vnil => .vnil | .nilf => .nilf | .nilm => .nilm
 | .ptr r v i j => .ptr r v i j | .eptr es xs i j => .eptr es xs i j | .vec f es xs => .vec f es xs | .ref r v lo len => .ref r v lo len | .func fn a b => .func fn a b | .mapr r => .mapr r
def meltL (L:Heap) (fs:List Nat):List AV -> List AV
 | [] => []
 | c :: r => meltA L fs c :: meltL L fs r
end
mutual
def meltT (L:Heap) (fs:List Nat):AV -> List Bool
 | .row r v => bif fs.contains r then (match L[r]? with
  | some row => [row.ver == v]
  | none => []) else []
 | .agg cs => meltTL L fs cs
 | .tup cs => meltTL L fs cs
 | _ => []
def meltTL (L:Heap) (fs:List Nat):List AV -> List Bool
 | [] => []
 | c :: r => meltT L fs c ++ meltTL L fs r
end
def meltR (L:Heap) (fs:List Nat) (row:Row):Row:=bif row.clean then row else { row with elems:=meltL L fs row.elems,clean:=cleanL (meltL L fs row.elems) }
def meltH (L:Heap) (fs:List Nat):Heap:=(freeze fs L).map (meltR L fs)
def meltV (L:Heap) (fs:List Nat) (env:Vars):Vars:=env.map fun e => (e.1,meltA L fs e.2)
def rowT (L:Heap) (fs:List Nat) (row:Row):List Bool:=bif row.clean then [] else meltTL L fs row.elems
def meltB (L:Heap) (fs:List Nat) (env:Vars):List Bool:=meltTL L fs (env.map (·.2)) ++ L.flatMap (rowT L fs)
theorem meltL_len (L:Heap) (fs:List Nat):∀ l,(meltL L fs l).length = l.length
 | [] => rfl
 | c :: l => by simp only [meltL,List.length_cons,meltL_len L fs l]
theorem meltL_get (L:Heap) (fs:List Nat):∀ (l:List AV) (i:Nat),(meltL L fs l)[i]? = l[i]?.map (meltA L fs)
 | [],i => by simp [meltL]
 | c :: l,0 => by simp [meltL]
 | c :: l,i + 1 => by simp only [meltL,List.getElem?_cons_succ];exact meltL_get L fs l i
theorem meltTL_mem {L:Heap} {fs:List Nat}:∀ {l:List AV} {i:Nat} {c:AV} {b:Bool},l[i]? = some c -> b ∈ meltT L fs c -> b ∈ meltTL L fs l
 | [],i,c,b,h,_ => by simp at h
 | x :: l,i,c,b,h,hb => by
  simp only [meltTL,List.mem_append]
  cases i with
  | zero => simp at h;subst h;exact .inl hb
  | succ i => exact .inr (meltTL_mem (by simpa using h) hb)
theorem melt_plain {L:Heap} {fs:List Nat} {a:AV} (h:a.plain = true):(meltA L fs a).plain = true:=by
 cases a with
 | row r v =>
  unfold meltA
  cases fs.contains r with
  | false => rfl
  | true =>
   simp only [cond_true]
   split
   ·rename_i row _
    cases row.clean <;> rfl
   ·rfl
 | any => exact h
 | agg cs => simp [AV.plain] at h
 | tup cs => simp [AV.plain] at h
 | _ => rfl
theorem melt_cells {L:Heap} {fs:List Nat} {x:AV} (h:x.cells.all AV.plain = true):(meltA L fs x).cells = meltL L fs x.cells:=by
 cases x with
 | agg cs => rfl
 | row r v =>
  have:(meltA L fs (.row r v)).cells = [meltA L fs (.row r v)]:=by
   unfold meltA
   cases fs.contains r with
   | false => rfl
   | true =>
    simp only [cond_true]
    split
    ·rename_i row _
     cases row.clean <;> rfl
    ·rfl
  rw [this];rfl
 | tup cs => simp [AV.cells,AV.plain] at h
 | _ => rfl
theorem drel_melt {S:St} {a:AV} {v:Value} (h:DRel S a v) (L:Heap) (fs:List Nat):meltA L fs a = a:=by
 have key:∀ (cs:List AV) (vs:List Value),cs.length = vs.length -> (∀ (i:Nat) c v,cs[i]? = some c -> vs[i]? = some v -> meltA L fs c = c) -> meltL L fs cs = cs:=by
  intro cs vs hl ih
  apply List.ext_getElem?
  intro i
  rw [meltL_get]
  cases hc:cs[i]? with
  | none => rfl
  | some c =>
   have hlt:i < vs.length:=by rw [<- hl];exact lt_of_get hc
   rw [Option.map_some,ih i c vs[i] hc (List.getElem?_eq_getElem hlt)]
 induction h with
 | agg cs vs hl _ ih => show AV.agg (meltL L fs cs) = _;rw [key cs vs hl ih]
 | tup cs vs hl _ ih => show AV.tup (meltL L fs cs) = _;rw [key cs vs hl ih]
 | _ => rfl
theorem melt_rel {S:St} (hS:HeapOk S) (fs:List Nat) {a:AV} {v:Value} (h:Rel S a v):(∀ b ∈ meltT S.L fs a,b = true) -> Rel ⟨S.base,S.acc,freeze fs S.L,S.β,S.w⟩ (meltA S.L fs a) v:=by
 have hex:=(freeze_ok fs hS).2
 induction h with
 | any v => exact fun _ => .any v
 | data a v h => 
  intro _
  rw [drel_melt h];exact .data _ _ (h.mono hex)
 | agg cs vs hl _ ih =>
  intro hb
  exact .agg _ vs (by rw [meltL_len];exact hl) fun i c v hc hv => by
   rw [meltL_get] at hc
   obtain ⟨c0,h1,rfl⟩:=Option.map_eq_some_iff.1 hc
   exact ih i c0 v h1 hv fun b hbm => hb b (meltTL_mem h1 hbm)
 | tup cs vs hl _ ih =>
  intro hb
  exact .tup _ vs (by rw [meltL_len];exact hl) fun i c v hc hv => by
   rw [meltL_get] at hc
   obtain ⟨c0,h1,rfl⟩:=Option.map_eq_some_iff.1 hc
   exact ih i c0 v h1 hv fun b hbm => hb b (meltTL_mem h1 hbm)
 | func fn a b va vb ha hb k1 k2 _ _ => exact fun _ => (Rel.func fn a b va vb ha hb k1 k2).mono hex
 | mapr r row info v h0 h3 h1 h2 => exact fun _ => (Rel.mapr r row info v h0 h3 h1 h2).mono hex
 | ptr r ver i j row info v h0 h1 h2 h3 h4 => exact fun _ => (Rel.ptr r ver i j row info v h0 h1 h2 h3 h4).mono hex
 | ref r ver lo len row info v h0 h1 h2 h3 h4 => exact fun _ => (Rel.ref r ver lo len row info v h0 h1 h2 h3 h4).mono hex
 | row r ver row info v h0 h1 h2 h3 h4 =>
  intro hb
  have same:=(Rel.row r ver row info v h0 h1 h2 h3 h4).mono hex
  unfold meltA
  cases hf:fs.contains r with
  | false => exact same
  | true =>
   simp only [cond_true,h1]
   cases hc:row.clean with
   | false => exact same
   | true =>
    simp only [cond_true]
    have hv:row.ver = ver:=by
     have:=hb (row.ver == ver) (by unfold meltT;rw [hf];simp only [cond_true,h1,List.mem_singleton])
     simpa using this
    have hm:=h0.2
    have hcap:=(hS.cells r row info h1 h2 hm).2.1
    rw [h4 hv]
    have hr:r ∈ fs:=by simpa using hf
    have:=row_data (S:=S) (S':=⟨S.base,S.acc,freeze fs S.L,S.β,S.w⟩) hS rfl (fun b off hi hb => (hex.imm b off hi hb).1) h1 h2 hm hc ((freeze_holds hS fs).sub fun q hq => by simp only [List.mem_singleton] at hq;rw [hq];exact hr) 0 row.elems.length info.cap (by omega) hcap
    simp only [Nat.zero_mul,Nat.add_zero,List.drop_zero,List.take_length] at this
    exact .data _ _ this
theorem relabel {S:St} (hS:HeapOk S) {K:Heap} (hl:K.length = S.L.length) (hK:∀ (r:Nat) row,S.L[r]? = some row -> ∃ row',K[r]? = some row' /\ row'.ver = row.ver /\ row'.elems.length = row.elems.length /\ row'.frozen = row.frozen):Ext S ⟨S.base,S.acc,K,S.β,S.w⟩:=by
 refine ⟨rfl,rfl,fun b off hi _ => ⟨⟨hi.1,fun q info hq he => ?_⟩,rfl⟩,fun q x y h1 h2 => ?_,Below.refl _ _,fun q x h => .inl ⟨q,x,h,rfl⟩,fun _ _ _ _ => rfl⟩
 ·obtain ⟨x0,a1,a2,a3,a4⟩:=hi.2 q info hq he
  obtain ⟨x,b1,_,b3,b4⟩:=hK q x0 a1
  exact ⟨x,b1,b4.trans a2,a3,by rw [b3];exact a4⟩
 ·obtain ⟨x',b1,b2,b3,_⟩:=hK q x h1
  exact ⟨x',y,b1,h2,Nat.le_of_eq b2.symm,fun _ => ⟨rfl,fun _ => b3⟩,rfl,fun _ => rfl⟩
theorem melt_ok {S:St} (hS:HeapOk S) (fs:List Nat) (hb:∀ row ∈ S.L,∀ b ∈ rowT S.L fs row,b = true):HeapOk ⟨S.base,S.acc,meltH S.L fs,S.β,S.w⟩ /\ Ext S ⟨S.base,S.acc,meltH S.L fs,S.β,S.w⟩ /\
  ∀ a v,Rel S a v -> (∀ b ∈ meltT S.L fs a,b = true) -> Rel ⟨S.base,S.acc,meltH S.L fs,S.β,S.w⟩ (meltA S.L fs a) v:=by
 obtain ⟨hF,hE⟩:=freeze_ok fs hS
 have hX:Ext ⟨S.base,S.acc,freeze fs S.L,S.β,S.w⟩ ⟨S.base,S.acc,meltH S.L fs,S.β,S.w⟩:=relabel (S:=⟨S.base,S.acc,freeze fs S.L,S.β,S.w⟩) hF (by simp [meltH]) fun r row h => by
  refine ⟨meltR S.L fs row,by simp only at h;simp [meltH,h],?_⟩
  unfold meltR
  cases row.clean with
  | true => exact ⟨rfl,rfl,rfl⟩
  | false => exact ⟨rfl,meltL_len ..,rfl⟩
 have hrel:∀ a v,Rel S a v -> (∀ b ∈ meltT S.L fs a,b = true) -> Rel ⟨S.base,S.acc,meltH S.L fs,S.β,S.w⟩ (meltA S.L fs a) v:=fun a v h hb => (melt_rel hS fs h hb).mono hX
 have back:∀ (r:Nat) row,(meltH S.L fs)[r]? = some row -> ∃ row0 f,S.L[r]? = some row0 /\ row = meltR S.L fs { row0 with frozen:=f }:=by
  intro r row h
  unfold meltH at h
  rw [List.getElem?_map] at h
  obtain ⟨x,h1,rfl⟩:=Option.map_eq_some_iff.1 h
  have hlt:r < S.L.length:=by
   have:=(List.getElem?_eq_some_iff.1 h1).1
   have hl:(freeze fs S.L).length = S.L.length:=by rw [hF.len.trans hS.len.symm]
   omega
  obtain ⟨f,g1,_⟩:=freeze_get fs S.L r _ (List.getElem?_eq_getElem hlt)
  rw [h1] at g1
  simp only [Option.some.injEq] at g1
  exact ⟨_,f,List.getElem?_eq_getElem hlt,by rw [g1]⟩
 have hboth:Ext S ⟨S.base,S.acc,meltH S.L fs,S.β,S.w⟩:=hE.trans hX
 have cell:∀ (r:Nat) row0 f,S.L[r]? = some row0 -> ∀ (i:Nat) x,(meltR S.L fs { row0 with frozen:=f }).elems[i]? = some x ->
   ∃ x0,row0.elems[i]? = some x0 /\ x.cells.length = x0.cells.length /\ x.cells.all AV.plain = true /\ ((row0.clean = true /\ x = x0) \/ (row0.clean = false /\ x = meltA S.L fs x0 /\ ∀ b ∈ meltT S.L fs x0,b = true)):=by
  intro r row0 f h0 i x hx
  unfold meltR at hx
  cases hc:row0.clean with
  | true =>
   simp only [hc,cond_true] at hx
   obtain ⟨o1,o2⟩:=hS.elems r row0 h0 i x hx
   exact ⟨x,hx,rfl,o2,.inl ⟨rfl,rfl⟩⟩
  | false =>
   simp only [hc,cond_false] at hx
   rw [meltL_get] at hx
   obtain ⟨x0,h1,rfl⟩:=Option.map_eq_some_iff.1 hx
   obtain ⟨o1,o2⟩:=hS.elems r row0 h0 i x0 h1
   refine ⟨x0,h1,by rw [melt_cells o2,meltL_len],?_,.inr ⟨rfl,rfl,fun b hbm => hb row0 (List.mem_of_getElem? h0) b (by unfold rowT;rw [hc];exact meltTL_mem h1 hbm)⟩⟩
   rw [melt_cells o2]
   refine List.all_eq_true.2 fun c hcm => ?_
   obtain ⟨k,hk⟩:=List.getElem?_of_mem hcm
   rw [meltL_get] at hk
   obtain ⟨c0,q1,rfl⟩:=Option.map_eq_some_iff.1 hk
   exact melt_plain (List.all_eq_true.1 o2 c0 (List.mem_of_getElem? q1))
 have cellr:∀ (r:Nat) row0 f info,S.L[r]? = some row0 -> S.β[r]? = some info -> ∀ (i:Nat) x (k:Nat) c cv,(meltR S.L fs { row0 with frozen:=f }).elems[i]? = some x -> x.cells[k]? = some c -> S.w.cell? ⟨info.blk,info.off + i * info.es + k,none⟩ = some cv ->
   Rel ⟨S.base,S.acc,meltH S.L fs,S.β,S.w⟩ c cv /\ ((meltR S.L fs { row0 with frozen:=f }).clean = true -> DRel ⟨S.base,S.acc,meltH S.L fs,S.β,S.w⟩ c cv):=by
  intro r row0 f info h0 hi i x k c cv hx hk hcv
  obtain ⟨x0,e1,e2,e3,e4⟩:=cell r row0 f h0 i x hx
  rcases e4 with ⟨hc,rfl⟩ | ⟨hc,rfl,hbb⟩
  ·exact ⟨(hS.rel r row0 info i x k c cv h0 hi e1 hk hcv).mono hboth,fun _ => (hS.clean r row0 info i x k c cv h0 hi hc e1 hk hcv).mono hboth⟩
  ·have o2:=(hS.elems r row0 h0 i x0 e1).2
   rw [melt_cells o2,meltL_get] at hk
   obtain ⟨c0,q1,rfl⟩:=Option.map_eq_some_iff.1 hk
   have hr:=hrel c0 cv (hS.rel r row0 info i x0 k c0 cv h0 hi e1 q1 hcv) fun b hbm => hbb b (by
    cases x0 with
    | agg cs => exact meltTL_mem q1 hbm
    | tup cs => simp [AV.cells,AV.plain] at o2
    | _ => 
     cases k with
     | zero => simp [AV.cells] at q1;subst q1;exact hbm
     | succ k => simp [AV.cells] at q1)
   refine ⟨hr,fun hcl => rel_clean hr ?_⟩
   unfold meltR at hcl hx
   simp only [hc,cond_false] at hcl hx
   have hx2:=cleanL_get hcl i _ hx
   have hc2:(meltA S.L fs x0).cells[k]? = some (meltA S.L fs c0):=by rw [melt_cells o2,meltL_get,q1];rfl
   generalize meltA S.L fs x0 = y at hx2 hc2
   cases y with
   | agg cs => exact cleanL_get (show cleanL cs = true by simpa [AV.clean] using hx2) k _ hc2
   | _ =>
    cases k with
    | zero => simp [AV.cells] at hc2;rw [<- hc2];exact hx2
    | succ k => simp [AV.cells] at hc2
 refine ⟨⟨hS.base,by simp [meltH];exact hF.len,hS.blk,hS.inj,fun r row info h h' hm => ?_,fun r row info h h' hm => ?_,fun r row h => ?_,fun r row info i x k c cv h h' hx hk hcv => ?_,fun r row info i x k c cv h h' hcl hx hk hcv => ?_,hS.acq,hS.anew⟩,hboth,hrel⟩
 ·obtain ⟨row0,f,h0,rfl⟩:=back r row h
  obtain ⟨es,c1,c2,c3,c4⟩:=hS.maps r row0 info h0 h' hm
  have hlen:(meltR S.L fs { row0 with frozen:=f }).elems.length = row0.elems.length /\ (meltR S.L fs { row0 with frozen:=f }).es = row0.es:=by
   unfold meltR
   cases row0.clean with
   | true => exact ⟨rfl,rfl⟩
   | false => exact ⟨meltL_len ..,rfl⟩
  refine ⟨es,c1,by rw [hlen.1];exact c2,by rw [hlen.2];exact c3,fun i e x he hx => ?_⟩
  obtain ⟨x0,e1,_,_,e4⟩:=cell r row0 f h0 i x hx
  obtain ⟨p1,kk,n,v,rfl,p3,p4,p5,p6⟩:=c4 i e x0 he e1
  rcases e4 with ⟨hc,rfl⟩ | ⟨hc,rfl,hbb⟩
  ·exact ⟨p1,kk,n,v,rfl,p3,p4,p5.mono hboth,fun _ => (p6 hc).mono hboth⟩
  ·have hr:=hrel v e.val p5 (fun b hbm => hbb b (meltTL_mem (l:=[.int kk n,v]) (i:=1) rfl hbm))
   refine ⟨p1,kk,n,meltA S.L fs v,rfl,p3,melt_plain p4,hr,fun hcl => rel_clean hr ?_⟩
   unfold meltR at hcl hx
   simp only [hc,cond_false] at hcl hx
   have:=cleanL_get hcl i _ hx
   simpa [meltA,meltL,AV.clean,cleanL] using this
 ·obtain ⟨row0,f,h0,rfl⟩:=back r row h
  have hlen:(meltR S.L fs { row0 with frozen:=f }).elems.length = row0.elems.length /\ (meltR S.L fs { row0 with frozen:=f }).es = row0.es:=by
   unfold meltR
   cases row0.clean with
   | true => exact ⟨rfl,rfl⟩
   | false => exact ⟨meltL_len ..,rfl⟩
  rw [hlen.1,hlen.2];exact hS.cells r row0 info h0 h' hm
 ·obtain ⟨row0,f,h0,rfl⟩:=back r row h
  intro i x hx
  obtain ⟨x0,e1,e2,e3,_⟩:=cell r row0 f h0 i x hx
  have o1:=(hS.elems r row0 h0 i x0 e1).1
  refine ⟨?_,e3⟩
  have:(meltR S.L fs { row0 with frozen:=f }).es = row0.es:=by
   unfold meltR
   cases row0.clean <;> rfl
  rw [this,e2];exact o1
 ·obtain ⟨row0,f,h0,rfl⟩:=back r row h
  exact (cellr r row0 f info h0 h' i x k c cv hx hk hcv).1
 ·obtain ⟨row0,f,h0,rfl⟩:=back r row h
  exact (cellr r row0 f info h0 h' i x k c cv hx hk hcv).2 hcl
theorem meltV_get (L:Heap) (fs:List Nat) (env:Vars) (t:Nat):(meltV L fs env).get t = meltA L fs (env.get t):=by
 induction env with
 | nil => rfl
 | cons e env ih =>
  obtain ⟨k,v⟩:=e
  simp only [meltV,List.map_cons,Vars.get]
  cases k == t with
  | true => rfl
  | false => exact ih
theorem wp_melt {M:Mach} (hm:(M.P ()).follows .mixedOrders = true) {fi:Fi} {k:List Item} {env env':Vars} {L L':Heap} {Q:AV -> Heap -> Prop} (fs:List Nat) {bs:List Bool} (he:meltV L fs env = env') (hl:meltH L fs = L') (hb:meltB L fs env = bs) (ha:allB bs)
  (h:Wp M (.run fi k env' L') Q):Wp M (.run fi k env L) Q:=by
 refine .sem fun S b a cs fn h1 h2 h3 h4 h5 h6 h7 h8 => ?_
 subst h6;subst he;subst hl;subst hb
 have ha:=(allB_iff _).1 ha
 obtain ⟨m1,m2,m3⟩:=melt_ok h5 fs fun row hr b hbm => ha b (by unfold meltB;exact List.mem_append_right _ (List.mem_flatMap.2 ⟨row,hr,hbm⟩))
 have hV:VRel ⟨S.base,S.acc,meltH S.L fs,S.β,S.w⟩ (meltV S.L fs env) a.tmps:=by
  intro t
  rw [meltV_get]
  refine m3 _ _ (h7 t) fun b hbm => ha b ?_
  unfold meltB
  refine List.mem_append_left _ ?_
  have key:∀ env:Vars,b ∈ meltT S.L fs (env.get t) -> b ∈ meltTL S.L fs (env.map (·.2)):=by
   intro env
   induction env with
   | nil => intro h;simp [Vars.get,meltT] at h
   | cons e env ih =>
    obtain ⟨k,v⟩:=e
    simp only [Vars.get,List.map_cons,meltTL,List.mem_append]
    cases k == t with
    | true => exact fun h => .inl h
    | false => exact fun h => .inr (ih h)
  exact key env hbm
 obtain ⟨a',todo',Ds,w',β',v,L1,q1,q2,q3,q4,q5,q6,q7,q8,q9⟩:=(wp_sound hm (c:=.run fi k _ _) h:RunSnd M fi k _ _ Q) ⟨S.base,S.acc,meltH S.L fs,S.β,S.w⟩ b a cs fn h1 h2 h3 h4 m1 rfl hV h8
 exact ⟨a',todo',Ds,w',β',v,L1,q1,q2,q3,q4,q5,q6,q7,q8,m2.trans q9⟩
end Go.Av

namespace Go.Av
open Go.Proofs
noncomputable def ops20:Array Oper:=match atC (cd Try.f23) [1,1,0,1,0,0,1,0,0,1,1,1,1,1,0] with
 | .code (.region _ ops _) :: _ => ops
 | _ => #[]
noncomputable def st20 (g:Bool) (l:List AV) (m n i j:Int) (b:Bool) (q:List AV) (v:Nat):RS:=⟨lift [(0,AV.vec g 3 l),(1,.int .i64 m),(2,.int .i64 n),(6,AV.ptr 0 0 0 0),(8,.int .i64 i),(11,AV.ptr 1 0 0 0),(12,.int .i64 j),(57,AV.bool b)],[{ elems:=[AV.agg [AV.vnil,AV.vnil]],es:=2,ver:=0,frozen:=false,clean:=false },{ elems:=[AV.agg [AV.row 2 v,AV.vnil]],es:=2,ver:=0,frozen:=false,clean:=false },{ elems:=q,es:=3,ver:=v,frozen:=false,clean:=true }],[],[],[]⟩
noncomputable def s20 (g:Bool) (l:List AV) (m n i j:Int) (b:Bool) (q:List AV) (v:Nat):RS:=(runOps M1.P M1.inl (fun _ _ _ => none) fi23.n ops20 (keepAns [10]) (fun _ => 2) (List.range 8) (st20 g l m n i j b q v)).getD ⟨[],[],[],[],[]⟩
noncomputable def r20 (g:Bool) (l:List AV) (m n i j:Int) (b:Bool) (q:List AV) (v:Nat) (D:List AV):Option RS:=runOps M1.P M1.inl (fun _ _ _ => none) fi23.n ops20 (keepAns [10]) (fun _ => 2) [8,9,10,11,12] ⟨(96,[],.vec (g && false) 3 D) :: (s20 g l m n i j b q v).env.tail,(s20 g l m n i j b q v).L,(s20 g l m n i j b q v).asm,[],[]⟩
noncomputable def f20 (g:Bool) (l:List AV) (m n i j:Int) (b:Bool) (q:List AV) (v:Nat) (y:AV) (ys:List AV):RS:=(r20 g l m n i j b q v (y :: ys)).getD ⟨[],[],[],[],[]⟩
end Go.Av

namespace Go.Av
open Go.Proofs
end Go.Av

namespace Go.Av
open Go.Proofs
set_option maxRecDepth 100000
end Go.Av

namespace Go.Av
open Go.Proofs
abbrev pgA (g h:Bool) (l:List Bk) (s:List Sb):AV:=.agg [bsA g l,sbA h s]
def Sb.key (s:Sb):Int × List (Bool × List Wo × List UInt8):=(s.n,s.bl.map Bk.key)
namespace Sp
end Sp
end Go.Av

namespace Go.Av
open Go.Proofs
set_option maxRecDepth 100000
end Go.Av

namespace Go.Av
open Go.Proofs
theorem okBs_sub {l:List Bk} (h:Sp.okBs l) (a b:Nat):Sp.okBs ((l.take b).drop a):=by
 obtain ⟨h1,h2⟩:=h
 refine ⟨by simp;omega,fun x hx => h2 x (List.mem_of_mem_take (List.mem_of_mem_drop hx))⟩
theorem vals_okBs {l:List Bk} {m:Int} (h:Sp.vals l m = true) (hm:m <= 1000000):Sp.okBs l:=by
 obtain ⟨h1,h2⟩:=vals_at h
 exact ⟨by omega,fun b hb => valB_okW (h2 b hb)⟩
end Go.Av

namespace Go.Av
open Go.Proofs
set_option maxRecDepth 100000
end Go.Av

namespace Go.Av
open Go.Proofs
namespace Sp
def pEnd (b:Bk):Bool:=endB b.ws
def pStop (b:Bk):Bool:=plB b.sk b.ws b.cm && backB b.ws
def pMk (b:Bk):Bool:=mkB b.ws
def idxF {α:Type} (p:α -> Bool):List α -> Int -> Int
 | [],_ => -1
 | b :: r,i => if p b = true then i else idxF p r (i + 1)
def idxP {α:Type} (p:α -> Bool) (l:List α):Int:=idxF p l 0
def anyP {α:Type} (p:α -> Bool) (l:List α):Bool:=l.any p
end Sp
theorem idxF_ge {α:Type} (p:α -> Bool):∀ (l:List α) (i:Int),0 <= i -> (Sp.idxF p l i = -1 /\ l.any p = false) \/ (i <= Sp.idxF p l i /\ Sp.idxF p l i < i + l.length /\ l.any p = true)
 | [],i,_ => .inl ⟨rfl,rfl⟩
 | b :: r,i,hi => by
  rw [Sp.idxF,List.any_cons]
  cases hb:p b with
  | true => right;simp;omega
  | false =>
   rw [if_neg (by simp),Bool.false_or]
   rcases idxF_ge p r (i + 1) (by omega) with ⟨h1,h2⟩ | ⟨h1,h2,h3⟩
   ·exact .inl ⟨h1,h2⟩
   ·right;simp only [List.length_cons];exact ⟨by omega,by omega,h3⟩
end Go.Av

namespace Go.Av
open Go.Proofs
set_option maxRecDepth 100000
def fi56:Fi:=⟨19,[.tmp 4]⟩
def kp56:List (Nat × List Nat):=[(0,[0,1]),(1,[0,1,7,8]),(2,[0,1,7,8,9]),(3,[0,1,5,7,8]),(4,[0,1,5,7,8,16]),(5,[4]),(6,[0,1,7,8]),(7,[4])]
def svIm_at (g:Bool) (l:List Bk) (Q:AV -> Heap -> Prop):Prop:=Wp M1 (.run fi56 (atC (cd Try.f56) []) [(0,.vec g 3 (l.map Bk.a)),(1,.func (.func 77) [] [])] []) Q
def svIma_at (g:Bool) (l:List Bk) (n i:Int) (Q:AV -> Heap -> Prop):Prop:=Wp M1 (.run fi56 (atC (cd Try.f56) [1,0,1,0,0]) [(0,.vec g 3 (l.map Bk.a)),(1,.func (.func 77) [] []),(7,.int .i64 n),(8,.int .i64 i)] []) Q
theorem call56 {args:List AV} {d:AV} (h:wc M1 fi56 Try.f56 args d):Ev M1 (.pure 56 args) d []:=pcl _ _ (by kernel_rfl) h
theorem svIm (g:Bool) (l:List Bk)  (dq:AV) (H :
  svIma_at (g) (l) ((↑l.length:Int)) (0) (PureQ dq)) :
 svIm_at g l (PureQ dq):=by
 unfold svIm_at
 have w1:(List.map Bk.a l).length = l.length:=List.length_map ..
 exact path_wp (G:=given kp56 [] []) 1000 [] ⟨(atC (cd Try.f56) [1,0,1,0,0]),[(0,AV.vec g 3 (List.map Bk.a l)),(1,AV.func (Fn.func 77) [] []),(7,vi (↑(List.map Bk.a l).length:Int)),(8,vi 0)],[],_,[],_⟩ (by kernel_rfl) b0 q0 c0 (by (try rw [w1]);all_goals exact H)
theorem svIma (g:Bool) (l:List Bk) (n i:Int)  (dq:AV) (H :
  ((i < n) -> (Sp.few6 (l.getD i.toNat default).3.length) /\
   (0 <= i) /\
   (i.toNat < l.length) /\
   ((Sp.mkB (l.getD i.toNat default).3 = true) -> vi i = dq) /\
   (¬(Sp.mkB (l.getD i.toNat default).3 = true) -> (-9223372036854775808 <= i + 1 /\ i + 1 <= 9223372036854775807) /\
    svIma_at (g) (l) (n) (i + 1) (PureQ dq))) /\
  (¬(i < n) -> vi (-1) = dq)) :
 svIma_at g l n i (PureQ dq):=by
 unfold svIma_at
 rcases xm (i < n) with d2 | d2
 ·have H:=H.1 d2
  obtain ⟨k3,H⟩:=H
  obtain ⟨k5,H⟩:=H
  have w6:(List.map Bk.a l).length = l.length:=List.length_map ..
  have i7:(decide (i.toNat < (List.map Bk.a l).length)) = true ↔ (i.toNat < l.length):=(by (try rw [w6]);all_goals exact i_dec)
  obtain ⟨k8,H⟩:=H
  refine path_wp (G:=given kp56 [(4,4,.elem (ag [vb (l.getD i.toNat default).1,AV.vec (l.getD i.toNat default).2 2 (List.map Wo.a (l.getD i.toNat default).3),AV.str (l.getD i.toNat default).4])),(4,5,.call (vb (Sp.mkB (l.getD i.toNat default).3)) none)] []) 11 [true] ⟨(atC (cd Try.f56) [1,0,1,0,0,1,1,0,0,1,1]),[(0,AV.vec g 3 (List.map Bk.a l)),(1,AV.func (Fn.func 77) [] []),(5,vi i),(7,vi n),(8,vi i),(16,vb (Sp.mkB (l.getD i.toNat default).3))],[],_,[((List.map Bk.a l).get?Internal i.toNat = some (ag [vb (l.getD i.toNat default).1,AV.vec (l.getD i.toNat default).2 2 (List.map Wo.a (l.getD i.toNat default).3),AV.str (l.getD i.toNat default).4]))],_⟩ (by kernel_rfl) (bc (beq_t (i_dec.2 d2)) (bc (i_dec.2 k5) (bc (i7.2 k8) b0))) (qc (el_map k8) q0) (ce (@ev77 ((l.getD i.toNat default).1) ((l.getD i.toNat default).2) ((l.getD i.toNat default).3) ((l.getD i.toNat default).4) k3) c0) ?_
  rcases xm (Sp.mkB (l.getD i.toNat default).3 = true) with d10 | d10
  ·have H:=H.1 d10
   exact path_re (G:=given kp56 [] []) 1000 [true] (asm:=[(Sp.mkB (l.getD i.toNat default).3) == true]) (vi i) (by kernel_rfl) (bc (beq_t ((i_var _).2 d10)) b0) q0 c0 H
  ·have H:=H.2 d10
   obtain ⟨k11,H⟩:=H
   have w12:wi (i + 1) = i + 1:=wI64 k11
   exact path_wp (G:=given kp56 [] []) 1000 [false] ⟨(atC (cd Try.f56) [1,0,1,0,0]),[(0,AV.vec g 3 (List.map Bk.a l)),(1,AV.func (Fn.func 77) [] []),(7,vi n),(8,vi (wi (i + 1)))],[],[(Sp.mkB (l.getD i.toNat default).3) == false],[],_⟩ (by kernel_rfl) (bc (beq_f (fun h => d10 ((i_var _).1 h))) b0) q0 c0 (by (try rw [w12]);all_goals exact H)
 ·have H:=H.2 d2
  exact path_re (G:=given kp56 [] []) 1000 [false] (vi (-1)) (by kernel_rfl) (bc (beq_f (fun h => d2 (i_dec.1 h))) b0) q0 c0 H
end Go.Av

namespace Go.Av
open Go.Proofs
theorem svIm_loop {g:Bool} {l:List Bk} {dq:AV} (hk:Sp.okBs l):∀ (c i:Nat),i + c = l.length -> AV.int .i64 (Sp.idxF Sp.pMk (l.drop i) i) = dq -> svIma_at g l l.length i (PureQ dq):=by
 have hl:=hk.1
 intro c
 induction c with
 | zero =>
  intro i hi hq
  rw [List.drop_eq_nil_of_le (by omega)] at hq
  exact svIma _ _ _ _ _ ⟨fun h => by omega,fun _ => hq⟩
 | succ c ih =>
  intro i hi hq
  have hm:=hk.2 _ (getD_mem (show i < l.length by omega))
  rw [drop_getD (show i < l.length by omega),Sp.idxF] at hq
  refine svIma _ _ _ _ _ ⟨fun _ => ?_,fun h => by omega⟩
  rw [Int.toNat_natCast]
  refine ⟨hm.1,by omega,by omega,fun h => ?_,fun h => ⟨by omega,ih (i + 1) (by omega) ?_⟩⟩
  ·rw [if_pos (show Sp.pMk (l.getD i default) = true from h)] at hq
   exact hq
  ·rw [if_neg (show ¬Sp.pMk (l.getD i default) = true from h)] at hq
   exact hq
theorem ev56_c (g:Bool) (l:List Bk) (hk:Sp.okBs l):Ev M1 (.pure 56 [bsA g l,.func (.func 77) [] []]) (.int .i64 (Sp.idxP Sp.pMk l)) []:=
 call56 (svIm g l _ (svIm_loop hk l.length 0 (by omega) rfl))
end Go.Av

namespace Go.Av
open Go.Proofs
set_option maxRecDepth 100000
def fi27:Fi:=⟨9,[.tmp 4]⟩
def kp27:List (Nat × List Nat):=[(0,[0,1]),(1,[4])]
def svXm_at (g:Bool) (l:List Bk) (Q:AV -> Heap -> Prop):Prop:=Wp M1 (.run fi27 (atC (cd Try.f27) []) [(0,.vec g 3 (l.map Bk.a)),(1,.func (.func 77) [] [])] []) Q
theorem call27 {args:List AV} {d:AV} (h:wc M1 fi27 Try.f27 args d):Ev M1 (.pure 27 args) d []:=pcl _ _ (by kernel_rfl) h
theorem svXm (g:Bool) (l:List Bk)  (dq:AV) (H :
  (Sp.okBs l) /\
  vb (decide (Sp.idxP Sp.pMk l >= 0)) = dq) :
 svXm_at g l (PureQ dq):=by
 unfold svXm_at
 obtain ⟨k1,H⟩:=H
 exact path_re (G:=given kp27 [(1,2,.call (vi (Sp.idxP Sp.pMk l)) none)] []) 1000 [] (vb (decide (Sp.idxP Sp.pMk l >= 0))) (by kernel_rfl) b0 q0 (ce (@ev56_c (g) (l) k1) c0) H
end Go.Av

namespace Go.Av
open Go.Proofs
theorem any_idx {α:Type} (p:α -> Bool) (l:List α):decide (Sp.idxP p l >= 0) = Sp.anyP p l:=by
 unfold Sp.idxP Sp.anyP
 rcases idxF_ge p l 0 (by omega) with ⟨h1,h2⟩ | ⟨h1,h2,h3⟩
 ·rw [h1,h2];rfl
 ·rw [h3];exact decide_eq_true h1
theorem ev27_a (g:Bool) (l:List Bk) (hk:Sp.okBs l):Ev M1 (.pure 27 [bsA g l,.func (.func 77) [] []]) (.bool (Sp.anyP Sp.pMk l)) []:=
 call27 (svXm g l _ ⟨hk,congrArg AV.bool (any_idx ..)⟩)
end Go.Av

namespace Go.Av
open Go.Proofs
set_option maxRecDepth 100000
def fi79:Fi:=⟨6,[.tmp 2]⟩
def kp79:List (Nat × List Nat):=[(0,[1]),(1,[2])]
def fi80:Fi:=⟨9,[.tmp 3]⟩
def kp80:List (Nat × List Nat):=[(0,[1,2]),(1,[3])]
def svO1_at (n:Int) (f:Bool) (l:List Bk) (Q:AV -> Heap -> Prop):Prop:=Wp M1 (.run fi79 (atC (cd Try.f79) []) [(0,.agg [.int .i64 n,.vec f 3 (l.map Bk.a)])] []) Q
def svR1_at (n m:Int) (f g:Bool) (l q:List Bk) (Q:AV -> Heap -> Prop):Prop:=Wp M1 (.run fi80 (atC (cd Try.f80) []) [(0,.agg [.int .i64 n,.vec f 3 (l.map Bk.a)]),(1,.eptr 2 [.agg [.int .i64 m,.vec g 3 (q.map Bk.a)]] 0 0)] []) Q
theorem call79 {args:List AV} {d:AV} (h:wc M1 fi79 Try.f79 args d):Ev M1 (.pure 79 args) d []:=pcl _ _ (by kernel_rfl) h
theorem call80 {args:List AV} {d:AV} (h:wc M1 fi80 Try.f80 args d):Ev M1 (.pure 80 args) d []:=pcl _ _ (by kernel_rfl) h
theorem svO1 (n:Int) (f:Bool) (l:List Bk)  (dq:AV) (H :
  (Sp.okBs l) /\
  vb (Sp.anyP Sp.pMk l) = dq) :
 svO1_at n f l (PureQ dq):=by
 unfold svO1_at
 obtain ⟨k1,H⟩:=H
 exact path_re (G:=given kp79 [(1,2,.call (vb (Sp.anyP Sp.pMk l)) none)] []) 1000 [] (vb (Sp.anyP Sp.pMk l)) (by kernel_rfl) (bc rfl b0) q0 (ce (@ev27_a (f) (l) k1) c0) H
theorem svR1 (n m:Int) (f g:Bool) (l q:List Bk)  (dq:AV) (H :
  vb (m == n) = dq) :
 svR1_at n m f g l q (PureQ dq):=by
 unfold svR1_at
 exact path_re (G:=given kp80 [] []) 1000 [] (vb (m == n)) (by kernel_rfl) (bc rfl b0) q0 c0 H
end Go.Av

namespace Go.Av
open Go.Proofs
namespace Sp
def eqI (m n:Int):Bool:=m == n
def sMk (s:Sb):Bool:=anyP pMk s.bl
def sIs (m:Int) (s:Sb):Bool:=eqI m s.n
end Sp
theorem ev79 (n:Int) (f:Bool) (l:List Bk) (hk:Sp.okBs l):Ev M1 (.pure 79 [.agg [.int .i64 n,.vec f 3 (l.map Bk.a)]]) (.bool (Sp.anyP Sp.pMk l)) []:=
 call79 (svO1 n f l _ ⟨hk,rfl⟩)
theorem ev80 (n m:Int) (f g:Bool) (l q:List Bk):Ev M1 (.pure 80 [.agg [.int .i64 n,.vec f 3 (l.map Bk.a)],.eptr 2 [.agg [.int .i64 m,.vec g 3 (q.map Bk.a)]] 0 0]) (.bool (Sp.eqI m n)) []:=
 call80 (svR1 n m f g l q _ rfl)
end Go.Av

namespace Go.Av
open Go.Proofs
set_option maxRecDepth 100000
def fi86:Fi:=⟨19,[.tmp 4]⟩
def kp86:List (Nat × List Nat):=[(0,[0,1]),(1,[0,1,7,8]),(2,[0,1,7,8,9]),(3,[0,1,5,7,8]),(4,[0,1,5,7,8,16]),(5,[4]),(6,[0,1,7,8]),(7,[4])]
def svJo_at (h:Bool) (s:List Sb) (Q:AV -> Heap -> Prop):Prop:=Wp M1 (.run fi86 (atC (cd Try.f86) []) [(0,.vec h 2 (s.map Sb.a)),(1,.func (.func 79) [] [])] []) Q
def svJoa_at (h:Bool) (s:List Sb) (n i:Int) (Q:AV -> Heap -> Prop):Prop:=Wp M1 (.run fi86 (atC (cd Try.f86) [1,0,1,0,0]) [(0,.vec h 2 (s.map Sb.a)),(1,.func (.func 79) [] []),(7,.int .i64 n),(8,.int .i64 i)] []) Q
def svJr_at (h:Bool) (s:List Sb) (m:Int) (f:Bool) (q:List Bk) (Q:AV -> Heap -> Prop):Prop:=Wp M1 (.run fi86 (atC (cd Try.f86) []) [(0,.vec h 2 (s.map Sb.a)),(1,.func (.func 80) [] [.eptr 2 [.agg [.int .i64 m,.vec f 3 (q.map Bk.a)]] 0 0])] []) Q
def svJra_at (h:Bool) (s:List Sb) (m:Int) (f:Bool) (q:List Bk) (n i:Int) (Q:AV -> Heap -> Prop):Prop:=Wp M1 (.run fi86 (atC (cd Try.f86) [1,0,1,0,0]) [(0,.vec h 2 (s.map Sb.a)),(1,.func (.func 80) [] [.eptr 2 [.agg [.int .i64 m,.vec f 3 (q.map Bk.a)]] 0 0]),(7,.int .i64 n),(8,.int .i64 i)] []) Q
theorem call86 {args:List AV} {d:AV} (h:wc M1 fi86 Try.f86 args d):Ev M1 (.pure 86 args) d []:=pcl _ _ (by kernel_rfl) h
theorem svJo (h:Bool) (s:List Sb)  (dq:AV) (H :
  svJoa_at (h) (s) ((↑s.length:Int)) (0) (PureQ dq)) :
 svJo_at h s (PureQ dq):=by
 unfold svJo_at
 have w1:(List.map Sb.a s).length = s.length:=List.length_map ..
 exact path_wp (G:=given kp86 [] []) 1000 [] ⟨(atC (cd Try.f86) [1,0,1,0,0]),[(0,AV.vec h 2 (List.map Sb.a s)),(1,AV.func (Fn.func 79) [] []),(7,vi (↑(List.map Sb.a s).length:Int)),(8,vi 0)],[],_,[],_⟩ (by kernel_rfl) b0 q0 c0 (by (try rw [w1]);all_goals exact H)
theorem svJoa (h:Bool) (s:List Sb) (n i:Int)  (dq:AV) (H :
  ((i < n) -> (Sp.okBs (s.getD i.toNat default).3) /\
   (0 <= i) /\
   (i.toNat < s.length) /\
   ((Sp.anyP Sp.pMk (s.getD i.toNat default).3 = true) -> vi i = dq) /\
   (¬(Sp.anyP Sp.pMk (s.getD i.toNat default).3 = true) -> (-9223372036854775808 <= i + 1 /\ i + 1 <= 9223372036854775807) /\
    svJoa_at (h) (s) (n) (i + 1) (PureQ dq))) /\
  (¬(i < n) -> vi (-1) = dq)) :
 svJoa_at h s n i (PureQ dq):=by
 unfold svJoa_at
 rcases xm (i < n) with d2 | d2
 ·have H:=H.1 d2
  obtain ⟨k3,H⟩:=H
  obtain ⟨k5,H⟩:=H
  have w6:(List.map Sb.a s).length = s.length:=List.length_map ..
  have i7:(decide (i.toNat < (List.map Sb.a s).length)) = true ↔ (i.toNat < s.length):=(by (try rw [w6]);all_goals exact i_dec)
  obtain ⟨k8,H⟩:=H
  refine path_wp (G:=given kp86 [(4,4,.elem (ag [vi (s.getD i.toNat default).n,AV.vec (s.getD i.toNat default).2 3 (List.map Bk.a (s.getD i.toNat default).3)])),(4,5,.call (vb (Sp.anyP Sp.pMk (s.getD i.toNat default).3)) none)] []) 11 [true] ⟨(atC (cd Try.f86) [1,0,1,0,0,1,1,0,0,1,1]),[(0,AV.vec h 2 (List.map Sb.a s)),(1,AV.func (Fn.func 79) [] []),(5,vi i),(7,vi n),(8,vi i),(16,vb (Sp.anyP Sp.pMk (s.getD i.toNat default).3))],[],_,[((List.map Sb.a s).get?Internal i.toNat = some (ag [vi (s.getD i.toNat default).n,AV.vec (s.getD i.toNat default).2 3 (List.map Bk.a (s.getD i.toNat default).3)]))],_⟩ (by kernel_rfl) (bc (beq_t (i_dec.2 d2)) (bc (i_dec.2 k5) (bc (i7.2 k8) b0))) (qc (el_map k8) q0) (ce (@ev79 ((s.getD i.toNat default).n) ((s.getD i.toNat default).2) ((s.getD i.toNat default).3) k3) c0) ?_
  rcases xm (Sp.anyP Sp.pMk (s.getD i.toNat default).3 = true) with d10 | d10
  ·have H:=H.1 d10
   exact path_re (G:=given kp86 [] []) 1000 [true] (asm:=[(Sp.anyP Sp.pMk (s.getD i.toNat default).3) == true]) (vi i) (by kernel_rfl) (bc (beq_t ((i_var _).2 d10)) b0) q0 c0 H
  ·have H:=H.2 d10
   obtain ⟨k11,H⟩:=H
   have w12:wi (i + 1) = i + 1:=wI64 k11
   exact path_wp (G:=given kp86 [] []) 1000 [false] ⟨(atC (cd Try.f86) [1,0,1,0,0]),[(0,AV.vec h 2 (List.map Sb.a s)),(1,AV.func (Fn.func 79) [] []),(7,vi n),(8,vi (wi (i + 1)))],[],[(Sp.anyP Sp.pMk (s.getD i.toNat default).3) == false],[],_⟩ (by kernel_rfl) (bc (beq_f (fun h => d10 ((i_var _).1 h))) b0) q0 c0 (by (try rw [w12]);all_goals exact H)
 ·have H:=H.2 d2
  exact path_re (G:=given kp86 [] []) 1000 [false] (vi (-1)) (by kernel_rfl) (bc (beq_f (fun h => d2 (i_dec.1 h))) b0) q0 c0 H
theorem svJr (h:Bool) (s:List Sb) (m:Int) (f:Bool) (q:List Bk)  (dq:AV) (H :
  svJra_at (h) (s) (m) (f) (q) ((↑s.length:Int)) (0) (PureQ dq)) :
 svJr_at h s m f q (PureQ dq):=by
 unfold svJr_at
 have w1:(List.map Sb.a s).length = s.length:=List.length_map ..
 exact path_wp (G:=given kp86 [] []) 1000 [] ⟨(atC (cd Try.f86) [1,0,1,0,0]),[(0,AV.vec h 2 (List.map Sb.a s)),(1,AV.func (Fn.func 80) [] [AV.eptr 2 [ag [vi m,AV.vec f 3 (List.map Bk.a q)]] 0 0]),(7,vi (↑(List.map Sb.a s).length:Int)),(8,vi 0)],[],_,[],_⟩ (by kernel_rfl) b0 q0 c0 (by (try rw [w1]);all_goals exact H)
theorem svJra (h:Bool) (s:List Sb) (m:Int) (f:Bool) (q:List Bk) (n i:Int)  (dq:AV) (H :
  ((i < n) -> (0 <= i) /\
   (i.toNat < s.length) /\
   ((Sp.eqI m (s.getD i.toNat default).n = true) -> vi i = dq) /\
   (¬(Sp.eqI m (s.getD i.toNat default).n = true) -> (-9223372036854775808 <= i + 1 /\ i + 1 <= 9223372036854775807) /\
    svJra_at (h) (s) (m) (f) (q) (n) (i + 1) (PureQ dq))) /\
  (¬(i < n) -> vi (-1) = dq)) :
 svJra_at h s m f q n i (PureQ dq):=by
 unfold svJra_at
 rcases xm (i < n) with d2 | d2
 ·have H:=H.1 d2
  obtain ⟨k4,H⟩:=H
  have w5:(List.map Sb.a s).length = s.length:=List.length_map ..
  have i6:(decide (i.toNat < (List.map Sb.a s).length)) = true ↔ (i.toNat < s.length):=(by (try rw [w5]);all_goals exact i_dec)
  obtain ⟨k7,H⟩:=H
  refine path_wp (G:=given kp86 [(4,4,.elem (ag [vi (s.getD i.toNat default).n,AV.vec (s.getD i.toNat default).2 3 (List.map Bk.a (s.getD i.toNat default).3)])),(4,5,.call (vb (Sp.eqI m (s.getD i.toNat default).n)) none)] []) 11 [true] ⟨(atC (cd Try.f86) [1,0,1,0,0,1,1,0,0,1,1]),[(0,AV.vec h 2 (List.map Sb.a s)),(1,AV.func (Fn.func 80) [] [AV.eptr 2 [ag [vi m,AV.vec f 3 (List.map Bk.a q)]] 0 0]),(5,vi i),(7,vi n),(8,vi i),(16,vb (Sp.eqI m (s.getD i.toNat default).n))],[],_,[((List.map Sb.a s).get?Internal i.toNat = some (ag [vi (s.getD i.toNat default).n,AV.vec (s.getD i.toNat default).2 3 (List.map Bk.a (s.getD i.toNat default).3)]))],_⟩ (by kernel_rfl) (bc (beq_t (i_dec.2 d2)) (bc (i_dec.2 k4) (bc (i6.2 k7) b0))) (qc (el_map k7) q0) (ce (@ev80 ((s.getD i.toNat default).n) (m) ((s.getD i.toNat default).2) (f) ((s.getD i.toNat default).3) (q)) c0) ?_
  rcases xm (Sp.eqI m (s.getD i.toNat default).n = true) with d9 | d9
  ·have H:=H.1 d9
   exact path_re (G:=given kp86 [] []) 1000 [true] (asm:=[(Sp.eqI m (s.getD i.toNat default).n) == true]) (vi i) (by kernel_rfl) (bc (beq_t ((i_var _).2 d9)) b0) q0 c0 H
  ·have H:=H.2 d9
   obtain ⟨k10,H⟩:=H
   have w11:wi (i + 1) = i + 1:=wI64 k10
   exact path_wp (G:=given kp86 [] []) 1000 [false] ⟨(atC (cd Try.f86) [1,0,1,0,0]),[(0,AV.vec h 2 (List.map Sb.a s)),(1,AV.func (Fn.func 80) [] [AV.eptr 2 [ag [vi m,AV.vec f 3 (List.map Bk.a q)]] 0 0]),(7,vi n),(8,vi (wi (i + 1)))],[],[(Sp.eqI m (s.getD i.toNat default).n) == false],[],_⟩ (by kernel_rfl) (bc (beq_f (fun h => d9 ((i_var _).1 h))) b0) q0 c0 (by (try rw [w11]);all_goals exact H)
 ·have H:=H.2 d2
  exact path_re (G:=given kp86 [] []) 1000 [false] (vi (-1)) (by kernel_rfl) (bc (beq_f (fun h => d2 (i_dec.1 h))) b0) q0 c0 H
end Go.Av

namespace Go.Av
open Go.Proofs
theorem svJo_loop {h:Bool} {s:List Sb} {dq:AV} (hk:s.length <= 1000000 /\ ∀ x ∈ s,Sp.okBs x.bl):∀ (c i:Nat),i + c = s.length -> AV.int .i64 (Sp.idxF Sp.sMk (s.drop i) i) = dq -> svJoa_at h s s.length i (PureQ dq):=by
 have hl:s.length <= 1000000:=hk.1
 intro c
 induction c with
 | zero =>
  intro i hi hq
  rw [List.drop_eq_nil_of_le (by omega)] at hq
  exact svJoa _ _ _ _ _ ⟨fun h => by omega,fun _ => hq⟩
 | succ c ih =>
  intro i hi hq
  have hm:=hk.2 _ (getD_mem (show i < s.length by omega))
  rw [drop_getD (show i < s.length by omega),Sp.idxF] at hq
  refine svJoa _ _ _ _ _ ⟨fun _ => ?_,fun h => by omega⟩
  rw [Int.toNat_natCast]
  refine ⟨hm,by omega,by omega,fun h => ?_,fun h => ⟨by omega,ih (i + 1) (by omega) ?_⟩⟩
  ·rw [if_pos (show Sp.sMk (s.getD i default) = true from h)] at hq
   exact hq
  ·rw [if_neg (show ¬Sp.sMk (s.getD i default) = true from h)] at hq
   exact hq
theorem ev86_a (h:Bool) (s:List Sb) (hk:s.length <= 1000000 /\ ∀ x ∈ s,Sp.okBs x.bl):Ev M1 (.pure 86 [sbA h s,.func (.func 79) [] []]) (.int .i64 (Sp.idxP Sp.sMk s)) []:=
 call86 (svJo h s _ (svJo_loop hk s.length 0 (by omega) rfl))
theorem svJr_loop {h:Bool} {s:List Sb} {m:Int} {f:Bool} {q:List Bk} {dq:AV} (hk:s.length <= 1000000):∀ (c i:Nat),i + c = s.length -> AV.int .i64 (Sp.idxF (Sp.sIs m) (s.drop i) i) = dq -> svJra_at h s m f q s.length i (PureQ dq):=by
 have hl:s.length <= 1000000:=hk
 intro c
 induction c with
 | zero =>
  intro i hi hq
  rw [List.drop_eq_nil_of_le (by omega)] at hq
  exact svJra _ _ _ _ _ _ _ _ ⟨fun h => by omega,fun _ => hq⟩
 | succ c ih =>
  intro i hi hq
  rw [drop_getD (show i < s.length by omega),Sp.idxF] at hq
  refine svJra _ _ _ _ _ _ _ _ ⟨fun _ => ?_,fun h => by omega⟩
  rw [Int.toNat_natCast]
  refine ⟨by omega,by omega,fun h => ?_,fun h => ⟨by omega,ih (i + 1) (by omega) ?_⟩⟩
  ·rw [if_pos (show (Sp.sIs m) (s.getD i default) = true from h)] at hq
   exact hq
  ·rw [if_neg (show ¬(Sp.sIs m) (s.getD i default) = true from h)] at hq
   exact hq
theorem ev86_b (h:Bool) (s:List Sb) (m:Int) (f:Bool) (q:List Bk) (hk:s.length <= 1000000):Ev M1 (.pure 86 [sbA h s,.func (.func 80) [] [.eptr 2 [.agg [.int .i64 m,.vec f 3 (q.map Bk.a)]] 0 0]]) (.int .i64 (Sp.idxP (Sp.sIs m) s)) []:=
 call86 (svJr h s m f q _ (svJr_loop hk s.length 0 (by omega) rfl))
end Go.Av

namespace Go.Av
open Go.Proofs
set_option maxRecDepth 100000
def fi78:Fi:=⟨9,[.tmp 4]⟩
def kp78:List (Nat × List Nat):=[(0,[0,1]),(1,[4])]
def svKo_at (h:Bool) (s:List Sb) (Q:AV -> Heap -> Prop):Prop:=Wp M1 (.run fi78 (atC (cd Try.f78) []) [(0,.vec h 2 (s.map Sb.a)),(1,.func (.func 79) [] [])] []) Q
def svKr_at (h:Bool) (s:List Sb) (m:Int) (f:Bool) (q:List Bk) (Q:AV -> Heap -> Prop):Prop:=Wp M1 (.run fi78 (atC (cd Try.f78) []) [(0,.vec h 2 (s.map Sb.a)),(1,.func (.func 80) [] [.eptr 2 [.agg [.int .i64 m,.vec f 3 (q.map Bk.a)]] 0 0])] []) Q
theorem call78 {args:List AV} {d:AV} (h:wc M1 fi78 Try.f78 args d):Ev M1 (.pure 78 args) d []:=pcl _ _ (by kernel_rfl) h
theorem svKo (h:Bool) (s:List Sb)  (dq:AV) (H :
  (s.length <= 1000000 /\ ∀ (x:Sb),x ∈ s -> Sp.okBs x.bl) /\
  vb (decide (Sp.idxP Sp.sMk s >= 0)) = dq) :
 svKo_at h s (PureQ dq):=by
 unfold svKo_at
 obtain ⟨k1,H⟩:=H
 exact path_re (G:=given kp78 [(1,2,.call (vi (Sp.idxP Sp.sMk s)) none)] []) 1000 [] (vb (decide (Sp.idxP Sp.sMk s >= 0))) (by kernel_rfl) b0 q0 (ce (@ev86_a (h) (s) k1) c0) H
theorem svKr (h:Bool) (s:List Sb) (m:Int) (f:Bool) (q:List Bk)  (dq:AV) (H :
  (s.length <= 1000000) /\
  vb (decide (Sp.idxP (Sp.sIs m) s >= 0)) = dq) :
 svKr_at h s m f q (PureQ dq):=by
 unfold svKr_at
 obtain ⟨k1,H⟩:=H
 exact path_re (G:=given kp78 [(1,2,.call (vi (Sp.idxP (Sp.sIs m) s)) none)] []) 1000 [] (vb (decide (Sp.idxP (Sp.sIs m) s >= 0))) (by kernel_rfl) b0 q0 (ce (@ev86_b (h) (s) (m) (f) (q) k1) c0) H
end Go.Av

namespace Go.Av
open Go.Proofs
theorem ev78_a (h:Bool) (s:List Sb) (hk:s.length <= 1000000 /\ ∀ x ∈ s,Sp.okBs x.bl):Ev M1 (.pure 78 [sbA h s,.func (.func 79) [] []]) (.bool (Sp.anyP Sp.sMk s)) []:=
 call78 (svKo h s _ ⟨hk,congrArg AV.bool (any_idx ..)⟩)
theorem ev78_b (h:Bool) (s:List Sb) (m:Int) (f:Bool) (q:List Bk) (hk:s.length <= 1000000):Ev M1 (.pure 78 [sbA h s,.func (.func 80) [] [.eptr 2 [.agg [.int .i64 m,.vec f 3 (q.map Bk.a)]] 0 0]]) (.bool (Sp.anyP (Sp.sIs m) s)) []:=
 call78 (svKr h s m f q _ ⟨hk,congrArg AV.bool (any_idx ..)⟩)
end Go.Av

namespace Go.Av
open Go.Proofs
set_option maxRecDepth 100000
def fi62:Fi:=⟨48,[.tmp 2]⟩
def kp62:List (Nat × List Nat):=[(0,[1]),(1,[1,3]),(2,[1,43]),(3,[2]),(4,[2])]
def fi63:Fi:=⟨18,[.tmp 2]⟩
def kp63:List (Nat × List Nat):=[(0,[0]),(1,[0,5,6,7]),(2,[0,5,6,7,8]),(3,[0,3,4,5,6,7]),(4,[0,5,6,7,16]),(5,[2]),(6,[0,5,6,7]),(7,[2])]
def svRp_at (h:Bool) (s:List Sb) (Q:AV -> Heap -> Prop):Prop:=Wp M1 (.run fi63 (atC (cd Try.f63) []) [(0,.vec h 2 (s.map Sb.a))] []) Q
def svRpa_at (h:Bool) (s:List Sb) (n i:Int) (Q:AV -> Heap -> Prop):Prop:=Wp M1 (.run fi63 (atC (cd Try.f63) [1,0,1,0,0]) [(0,.vec h 2 (s.map Sb.a)),(5,.vec h 2 (s.map Sb.a)),(6,.int .i64 n),(7,.int .i64 i)] []) Q
def svOd_at (g:Bool) (l:List Bk) (h:Bool) (s:List Sb) (Q:AV -> Heap -> Prop):Prop:=Wp M1 (.run fi62 (atC (cd Try.f62) []) [(0,.agg [.vec g 3 (l.map Bk.a),.vec h 2 (s.map Sb.a)])] []) Q
theorem call62 {args:List AV} {d:AV} (h:wc M1 fi62 Try.f62 args d):Ev M1 (.pure 62 args) d []:=pcl _ _ (by kernel_rfl) h
theorem call63 {args:List AV} {d:AV} (h:wc M1 fi63 Try.f63 args d):Ev M1 (.pure 63 args) d []:=pcl _ _ (by kernel_rfl) h
theorem svRp (h:Bool) (s:List Sb)  (dq:AV) (H :
  svRpa_at (h) (s) ((↑s.length:Int)) (0) (PureQ dq)) :
 svRp_at h s (PureQ dq):=by
 unfold svRp_at
 have w1:(List.map Sb.a s).length = s.length:=List.length_map ..
 exact path_wp (G:=given kp63 [] []) 1000 [] ⟨(atC (cd Try.f63) [1,0,1,0,0]),[(0,AV.vec h 2 (List.map Sb.a s)),(5,AV.vec h 2 (List.map Sb.a s)),(6,vi (↑(List.map Sb.a s).length:Int)),(7,vi 0)],[],_,[],_⟩ (by kernel_rfl) b0 q0 c0 (by (try rw [w1]);all_goals exact H)
noncomputable abbrev zSpT1 (s:List Sb) (i:Int):=Sp.anyP (Sp.sIs (s.getD i.toNat default).n) (List.drop 0 (List.take i.toNat s))
theorem svRpa (h:Bool) (s:List Sb) (n i:Int)  (dq:AV) (H :
  ((i < n) -> (0 <= i) /\
   (i.toNat < s.length) /\
   ((List.drop 0 (List.take i.toNat s)).length <= 1000000) /\
   (0 <= i.toNat) /\
   (i.toNat <= s.length) /\
   ((Sp.anyP (Sp.sIs (s.getD i.toNat default).n) (List.drop 0 (List.take i.toNat s)) = true) -> vb true = dq) /\
   (¬(Sp.anyP (Sp.sIs (s.getD i.toNat default).n) (List.drop 0 (List.take i.toNat s)) = true) -> (-9223372036854775808 <= i + 1 /\ i + 1 <= 9223372036854775807) /\
    svRpa_at (h) (s) (n) (i + 1) (PureQ dq))) /\
  (¬(i < n) -> vb false = dq)) :
 svRpa_at h s n i (PureQ dq):=by
 unfold svRpa_at
 rcases xm (i < n) with d2 | d2
 ·have H:=H.1 d2
  obtain ⟨k4,H⟩:=H
  have w5:(List.map Sb.a s).length = s.length:=List.length_map ..
  have i6:(decide (i.toNat < (List.map Sb.a s).length)) = true ↔ (i.toNat < s.length):=(by (try rw [w5]);all_goals exact i_dec)
  obtain ⟨k7,H⟩:=H
  have w8:List.take i.toNat (List.map Sb.a s) = List.map Sb.a (List.take i.toNat s):=(lm_take rfl)
  have w9:List.drop 0 (List.map Sb.a (List.take i.toNat s)) = List.map Sb.a (List.drop 0 (List.take i.toNat s)):=(lm_drop rfl)
  obtain ⟨k10,H⟩:=H
  obtain ⟨k13,H⟩:=H
  have i14:(decide (i.toNat <= (List.map Sb.a s).length)) = true ↔ (i.toNat <= s.length):=(by (try rw [w5]);all_goals exact i_dec)
  obtain ⟨k15,H⟩:=H
  refine path_wp (G:=given kp63 [(3,2,.elem (ag [vi (s.getD i.toNat default).n,AV.vec (s.getD i.toNat default).2 3 (List.map Bk.a (s.getD i.toNat default).3)])),(4,4,.call (vb (zSpT1 s i)) none)] []) 11 [true] ⟨(atC (cd Try.f63) [1,0,1,0,0,1,1,0,0,1,1]),[(0,AV.vec h 2 (List.map Sb.a s)),(5,AV.vec h 2 (List.map Sb.a s)),(6,vi n),(7,vi i),(16,vb (zSpT1 s i))],[⟨[ag [vi (s.getD i.toNat default).n,AV.vec (s.getD i.toNat default).2 3 (List.map Bk.a (s.getD i.toNat default).3)]],2,0,false,false⟩],_,[((List.map Sb.a s).get?Internal i.toNat = some (ag [vi (s.getD i.toNat default).n,AV.vec (s.getD i.toNat default).2 3 (List.map Bk.a (s.getD i.toNat default).3)]))],[pc 78 [AV.vec (h && false) 2 (List.drop 0 (List.take i.toNat (List.map Sb.a s))),AV.func (Fn.func 80) [] [AV.eptr 2 [ag [vi (s.getD i.toNat default).n,AV.vec (s.getD i.toNat default).2 3 (List.map Bk.a (s.getD i.toNat default).3)]] 0 0]] (vb (zSpT1 s i))]⟩ (by kernel_rfl) (bc (beq_t (i_dec.2 d2)) (bc (i_dec.2 k4) (bc (i6.2 k7) (bc rfl (bc (i_dec.2 k4) (bc (i_dec.2 k13) (bc (i14.2 k15) (bc rfl b0)))))))) (qc (el_map k7) q0) (ce (by (try rw [w8]);(try rw [w9]);all_goals exact (@ev78_b (h && false) (List.drop 0 (List.take i.toNat s)) ((s.getD i.toNat default).n) ((s.getD i.toNat default).2) ((s.getD i.toNat default).3) k10)) c0) ?_
  rcases xm (Sp.anyP (Sp.sIs (s.getD i.toNat default).n) (List.drop 0 (List.take i.toNat s)) = true) with d17 | d17
  ·have H:=H.1 d17
   exact path_re (G:=given kp63 [] []) 1000 [true] (asm:=[(zSpT1 s i) == true]) (vb true) (by kernel_rfl) (bc (beq_t ((i_var _).2 d17)) b0) q0 c0 H
  ·have H:=H.2 d17
   obtain ⟨k18,H⟩:=H
   have w19:wi (i + 1) = i + 1:=wI64 k18
   exact path_wp (G:=given kp63 [] []) 1000 [false] ⟨(atC (cd Try.f63) [1,0,1,0,0]),[(0,AV.vec h 2 (List.map Sb.a s)),(5,AV.vec h 2 (List.map Sb.a s)),(6,vi n),(7,vi (wi (i + 1)))],[⟨[ag [vi (s.getD i.toNat default).n,AV.vec (s.getD i.toNat default).2 3 (List.map Bk.a (s.getD i.toNat default).3)]],2,0,false,false⟩],[(zSpT1 s i) == false],[],_⟩ (by kernel_rfl) (bc (beq_f (fun h => d17 ((i_var _).1 h))) b0) q0 c0 (by (try rw [w19]);all_goals exact wp_narrow [] (by kernel_rfl) H)
 ·have H:=H.2 d2
  exact path_re (G:=given kp63 [] []) 1000 [false] (vb false) (by kernel_rfl) (bc (beq_f (fun h => d2 (i_dec.1 h))) b0) q0 c0 H
noncomputable abbrev zSpT2 (l:List Bk):=Sp.hasW (l.getD ((↑l.length:Int) - 1).toNat default).3 77 30000 = true
noncomputable abbrev zSpT3 (l:List Bk):=(↑(Sp.codes (l.getD ((↑l.length:Int) - 1).toNat default).3 79).length:Int) > 0
noncomputable abbrev zSpT4 (l:List Bk):=List.drop 0 (List.take ((↑l.length:Int) - 1).toNat l)
noncomputable abbrev zSpT5 (l:List Bk):=Sp.hasW (l.getD ((↑l.length:Int) - 1).toNat default).3 77 99000 = true
noncomputable abbrev zSpT6 (l:List Bk):=Sp.hasW (l.getD ((↑l.length:Int) - 1).toNat default).3 77 30000
noncomputable abbrev zSpT7 (l:List Bk):=Sp.hasW (l.getD ((↑l.length:Int) - 1).toNat default).3 77 99000
noncomputable abbrev zSpT8 (l:List Bk):=vf (List.map (vi) (Sp.codes (l.getD ((↑l.length:Int) - 1).toNat default).3 79))
theorem svOd (g:Bool) (l:List Bk) (h:Bool) (s:List Sb)  (dq:AV) (H :
  (-9223372036854775808 <= (↑l.length:Int) - 1 /\ (↑l.length:Int) - 1 <= 9223372036854775807) /\
  ((¬((↑l.length:Int) - 1 < 0)) -> (Sp.few6 (l.getD ((↑l.length:Int) - 1).toNat default).3.length)) /\
  ((¬(((↑l.length:Int) - 1 < 0) \/ (¬(Sp.hasW (l.getD ((↑l.length:Int) - 1).toNat default).3 77 30000 = true)))) -> (Sp.few6 (l.getD ((↑l.length:Int) - 1).toNat default).3.length)) /\
  ((¬((((↑l.length:Int) - 1 < 0) \/ (¬(Sp.hasW (l.getD ((↑l.length:Int) - 1).toNat default).3 77 30000 = true))) \/ ((↑(Sp.codes (l.getD ((↑l.length:Int) - 1).toNat default).3 79).length:Int) > 0))) -> (Sp.few6 (l.getD ((↑l.length:Int) - 1).toNat default).3.length)) /\
  ((¬(((((↑l.length:Int) - 1 < 0) \/ (¬(Sp.hasW (l.getD ((↑l.length:Int) - 1).toNat default).3 77 30000 = true))) \/ ((↑(Sp.codes (l.getD ((↑l.length:Int) - 1).toNat default).3 79).length:Int) > 0)) \/ (Sp.hasW (l.getD ((↑l.length:Int) - 1).toNat default).3 77 99000 = true))) -> (Sp.okBs (List.drop 0 (List.take ((↑l.length:Int) - 1).toNat l)))) /\
  ((¬((↑l.length:Int) - 1 < 0)) -> (0 <= (↑l.length:Int) - 1)) /\
  ((¬((↑l.length:Int) - 1 < 0)) -> (((↑l.length:Int) - 1).toNat < l.length)) /\
  ((¬(((↑l.length:Int) - 1 < 0) \/ (¬(Sp.hasW (l.getD ((↑l.length:Int) - 1).toNat default).3 77 30000 = true)))) -> (0 <= (↑l.length:Int) - 1)) /\
  ((¬(((↑l.length:Int) - 1 < 0) \/ (¬(Sp.hasW (l.getD ((↑l.length:Int) - 1).toNat default).3 77 30000 = true)))) -> (((↑l.length:Int) - 1).toNat < l.length)) /\
  ((¬((((↑l.length:Int) - 1 < 0) \/ (¬(Sp.hasW (l.getD ((↑l.length:Int) - 1).toNat default).3 77 30000 = true))) \/ ((↑(Sp.codes (l.getD ((↑l.length:Int) - 1).toNat default).3 79).length:Int) > 0))) -> (0 <= (↑l.length:Int) - 1)) /\
  ((¬((((↑l.length:Int) - 1 < 0) \/ (¬(Sp.hasW (l.getD ((↑l.length:Int) - 1).toNat default).3 77 30000 = true))) \/ ((↑(Sp.codes (l.getD ((↑l.length:Int) - 1).toNat default).3 79).length:Int) > 0))) -> (((↑l.length:Int) - 1).toNat < l.length)) /\
  ((¬(((((↑l.length:Int) - 1 < 0) \/ (¬(Sp.hasW (l.getD ((↑l.length:Int) - 1).toNat default).3 77 30000 = true))) \/ ((↑(Sp.codes (l.getD ((↑l.length:Int) - 1).toNat default).3 79).length:Int) > 0)) \/ (Sp.hasW (l.getD ((↑l.length:Int) - 1).toNat default).3 77 99000 = true))) -> (0 <= (↑l.length:Int) - 1)) /\
  ((¬(((((↑l.length:Int) - 1 < 0) \/ (¬(Sp.hasW (l.getD ((↑l.length:Int) - 1).toNat default).3 77 30000 = true))) \/ ((↑(Sp.codes (l.getD ((↑l.length:Int) - 1).toNat default).3 79).length:Int) > 0)) \/ (Sp.hasW (l.getD ((↑l.length:Int) - 1).toNat default).3 77 99000 = true))) -> (0 <= ((↑l.length:Int) - 1).toNat)) /\
  ((¬(((((↑l.length:Int) - 1 < 0) \/ (¬(Sp.hasW (l.getD ((↑l.length:Int) - 1).toNat default).3 77 30000 = true))) \/ ((↑(Sp.codes (l.getD ((↑l.length:Int) - 1).toNat default).3 79).length:Int) > 0)) \/ (Sp.hasW (l.getD ((↑l.length:Int) - 1).toNat default).3 77 99000 = true))) -> (((↑l.length:Int) - 1).toNat <= l.length)) /\
  (((((((↑l.length:Int) - 1 < 0) \/ (¬(Sp.hasW (l.getD ((↑l.length:Int) - 1).toNat default).3 77 30000 = true))) \/ ((↑(Sp.codes (l.getD ((↑l.length:Int) - 1).toNat default).3 79).length:Int) > 0)) \/ (Sp.hasW (l.getD ((↑l.length:Int) - 1).toNat default).3 77 99000 = true)) \/ (Sp.anyP Sp.pMk (List.drop 0 (List.take ((↑l.length:Int) - 1).toNat l)) = true)) -> vb false = dq) /\
  (¬((((((↑l.length:Int) - 1 < 0) \/ (¬(Sp.hasW (l.getD ((↑l.length:Int) - 1).toNat default).3 77 30000 = true))) \/ ((↑(Sp.codes (l.getD ((↑l.length:Int) - 1).toNat default).3 79).length:Int) > 0)) \/ (Sp.hasW (l.getD ((↑l.length:Int) - 1).toNat default).3 77 99000 = true)) \/ (Sp.anyP Sp.pMk (List.drop 0 (List.take ((↑l.length:Int) - 1).toNat l)) = true)) -> (s.length <= 1000000 /\ ∀ (x:Sb),x ∈ s -> Sp.okBs x.bl) /\
   (vb !Sp.anyP Sp.sMk s) = dq)) :
 svOd_at g l h s (PureQ dq):=by
 unfold svOd_at
 have w1:(List.map Bk.a l).length = l.length:=List.length_map ..
 obtain ⟨k2,H⟩:=H
 have w3:wi ((↑l.length:Int) - 1) = (↑l.length:Int) - 1:=wI64 k2
 have i4:(decide (wi ((↑(List.map Bk.a l).length:Int) - 1) < 0) == false && true && true) = true ↔ (¬((↑l.length:Int) - 1 < 0)):=(by (try rw [w1]);(try rw [w3]);all_goals exact (i_at (i_at (i_bf i_dec))))
 obtain ⟨k5,H⟩:=H
 have i6:((bif decide (wi ((↑(List.map Bk.a l).length:Int) - 1) < 0) then true else !Sp.hasW (l.getD ((↑l.length:Int) - 1).toNat default).3 77 30000) == false && true && true) = true ↔ (¬(((↑l.length:Int) - 1 < 0) \/ (¬(zSpT2 l)))):=(by (try rw [w1]);(try rw [w3]);all_goals exact (i_at (i_at (i_bf (i_bor i_dec (i_not (i_var _)))))))
 obtain ⟨k7,H⟩:=H
 have w8:(List.map (vi) (Sp.codes (l.getD ((↑l.length:Int) - 1).toNat default).3 79)).length = (Sp.codes (l.getD ((↑l.length:Int) - 1).toNat default).3 79).length:=List.length_map ..
 have i9:((bif bif decide (wi ((↑(List.map Bk.a l).length:Int) - 1) < 0) then true else !Sp.hasW (l.getD ((↑l.length:Int) - 1).toNat default).3 77 30000 then true else decide ((↑(List.map (vi) (Sp.codes (l.getD ((↑l.length:Int) - 1).toNat default).3 79)).length:Int) > 0)) == false && true && true) = true ↔ (¬((((↑l.length:Int) - 1 < 0) \/ (¬(zSpT2 l))) \/ (zSpT3 l))):=(by (try rw [w1]);(try rw [w3]);(try rw [w8]);all_goals exact (i_at (i_at (i_bf (i_bor (i_bor i_dec (i_not (i_var _))) i_dec)))))
 obtain ⟨k10,H⟩:=H
 have w11:List.take ((↑l.length:Int) - 1).toNat (List.map Bk.a l) = List.map Bk.a (List.take ((↑l.length:Int) - 1).toNat l):=(lm_take rfl)
 have w12:List.drop 0 (List.map Bk.a (List.take ((↑l.length:Int) - 1).toNat l)) = List.map Bk.a (zSpT4 l):=(lm_drop rfl)
 have i13:((bif bif bif decide (wi ((↑(List.map Bk.a l).length:Int) - 1) < 0) then true else !Sp.hasW (l.getD ((↑l.length:Int) - 1).toNat default).3 77 30000 then true else decide ((↑(List.map (vi) (Sp.codes (l.getD ((↑l.length:Int) - 1).toNat default).3 79)).length:Int) > 0) then true else Sp.hasW (l.getD ((↑l.length:Int) - 1).toNat default).3 77 99000) == false && true && true) = true ↔ (¬(((((↑l.length:Int) - 1 < 0) \/ (¬(zSpT2 l))) \/ (zSpT3 l)) \/ (zSpT5 l))):=(by (try rw [w1]);(try rw [w3]);(try rw [w8]);all_goals exact (i_at (i_at (i_bf (i_bor (i_bor (i_bor i_dec (i_not (i_var _))) i_dec) (i_var _))))))
 obtain ⟨k14,H⟩:=H
 have i15:(!(decide (wi ((↑(List.map Bk.a l).length:Int) - 1) < 0) == false && true) || decide (0 <= wi ((↑(List.map Bk.a l).length:Int) - 1))) = true ↔ ((¬((↑l.length:Int) - 1 < 0)) -> (0 <= (↑l.length:Int) - 1)):=(by (try rw [w1]);(try rw [w3]);all_goals exact (i_imp (i_at (i_bf i_dec)) i_dec))
 obtain ⟨k16,H⟩:=H
 have i17:(!(decide (wi ((↑(List.map Bk.a l).length:Int) - 1) < 0) == false && true) || decide ((wi ((↑(List.map Bk.a l).length:Int) - 1)).toNat < (List.map Bk.a l).length)) = true ↔ ((¬((↑l.length:Int) - 1 < 0)) -> (((↑l.length:Int) - 1).toNat < l.length)):=(by (try rw [w1]);(try rw [w3]);all_goals exact (i_imp (i_at (i_bf i_dec)) i_dec))
 obtain ⟨k18,H⟩:=H
 have i19:(!((bif decide (wi ((↑(List.map Bk.a l).length:Int) - 1) < 0) then true else !Sp.hasW (l.getD ((↑l.length:Int) - 1).toNat default).3 77 30000) == false && true) || decide (0 <= wi ((↑(List.map Bk.a l).length:Int) - 1))) = true ↔ ((¬(((↑l.length:Int) - 1 < 0) \/ (¬(zSpT2 l)))) -> (0 <= (↑l.length:Int) - 1)):=(by (try rw [w1]);(try rw [w3]);all_goals exact (i_imp (i_at (i_bf (i_bor i_dec (i_not (i_var _))))) i_dec))
 obtain ⟨k20,H⟩:=H
 have i21:(!((bif decide (wi ((↑(List.map Bk.a l).length:Int) - 1) < 0) then true else !Sp.hasW (l.getD ((↑l.length:Int) - 1).toNat default).3 77 30000) == false && true) || decide ((wi ((↑(List.map Bk.a l).length:Int) - 1)).toNat < (List.map Bk.a l).length)) = true ↔ ((¬(((↑l.length:Int) - 1 < 0) \/ (¬(zSpT2 l)))) -> (((↑l.length:Int) - 1).toNat < l.length)):=(by (try rw [w1]);(try rw [w3]);all_goals exact (i_imp (i_at (i_bf (i_bor i_dec (i_not (i_var _))))) i_dec))
 obtain ⟨k22,H⟩:=H
 have i23:(!((bif bif decide (wi ((↑(List.map Bk.a l).length:Int) - 1) < 0) then true else !Sp.hasW (l.getD ((↑l.length:Int) - 1).toNat default).3 77 30000 then true else decide ((↑(List.map (vi) (Sp.codes (l.getD ((↑l.length:Int) - 1).toNat default).3 79)).length:Int) > 0)) == false && true) || decide (0 <= wi ((↑(List.map Bk.a l).length:Int) - 1))) = true ↔ ((¬((((↑l.length:Int) - 1 < 0) \/ (¬(zSpT2 l))) \/ (zSpT3 l))) -> (0 <= (↑l.length:Int) - 1)):=(by (try rw [w1]);(try rw [w3]);(try rw [w8]);all_goals exact (i_imp (i_at (i_bf (i_bor (i_bor i_dec (i_not (i_var _))) i_dec))) i_dec))
 obtain ⟨k24,H⟩:=H
 have i25:(!((bif bif decide (wi ((↑(List.map Bk.a l).length:Int) - 1) < 0) then true else !Sp.hasW (l.getD ((↑l.length:Int) - 1).toNat default).3 77 30000 then true else decide ((↑(List.map (vi) (Sp.codes (l.getD ((↑l.length:Int) - 1).toNat default).3 79)).length:Int) > 0)) == false && true) || decide ((wi ((↑(List.map Bk.a l).length:Int) - 1)).toNat < (List.map Bk.a l).length)) = true ↔ ((¬((((↑l.length:Int) - 1 < 0) \/ (¬(zSpT2 l))) \/ (zSpT3 l))) -> (((↑l.length:Int) - 1).toNat < l.length)):=(by (try rw [w1]);(try rw [w3]);(try rw [w8]);all_goals exact (i_imp (i_at (i_bf (i_bor (i_bor i_dec (i_not (i_var _))) i_dec))) i_dec))
 obtain ⟨k26,H⟩:=H
 have i27:(!((bif bif bif decide (wi ((↑(List.map Bk.a l).length:Int) - 1) < 0) then true else !Sp.hasW (l.getD ((↑l.length:Int) - 1).toNat default).3 77 30000 then true else decide ((↑(List.map (vi) (Sp.codes (l.getD ((↑l.length:Int) - 1).toNat default).3 79)).length:Int) > 0) then true else Sp.hasW (l.getD ((↑l.length:Int) - 1).toNat default).3 77 99000) == false && true) || decide (0 <= wi ((↑(List.map Bk.a l).length:Int) - 1))) = true ↔ ((¬(((((↑l.length:Int) - 1 < 0) \/ (¬(zSpT2 l))) \/ (zSpT3 l)) \/ (zSpT5 l))) -> (0 <= (↑l.length:Int) - 1)):=(by (try rw [w1]);(try rw [w3]);(try rw [w8]);all_goals exact (i_imp (i_at (i_bf (i_bor (i_bor (i_bor i_dec (i_not (i_var _))) i_dec) (i_var _)))) i_dec))
 obtain ⟨k28,H⟩:=H
 have i29:(!((bif bif bif decide (wi ((↑(List.map Bk.a l).length:Int) - 1) < 0) then true else !Sp.hasW (l.getD ((↑l.length:Int) - 1).toNat default).3 77 30000 then true else decide ((↑(List.map (vi) (Sp.codes (l.getD ((↑l.length:Int) - 1).toNat default).3 79)).length:Int) > 0) then true else Sp.hasW (l.getD ((↑l.length:Int) - 1).toNat default).3 77 99000) == false && true) || decide (0 <= (wi ((↑(List.map Bk.a l).length:Int) - 1)).toNat)) = true ↔ ((¬(((((↑l.length:Int) - 1 < 0) \/ (¬(zSpT2 l))) \/ (zSpT3 l)) \/ (zSpT5 l))) -> (0 <= ((↑l.length:Int) - 1).toNat)):=(by (try rw [w1]);(try rw [w3]);(try rw [w8]);all_goals exact (i_imp (i_at (i_bf (i_bor (i_bor (i_bor i_dec (i_not (i_var _))) i_dec) (i_var _)))) i_dec))
 obtain ⟨k30,H⟩:=H
 have i31:(!((bif bif bif decide (wi ((↑(List.map Bk.a l).length:Int) - 1) < 0) then true else !Sp.hasW (l.getD ((↑l.length:Int) - 1).toNat default).3 77 30000 then true else decide ((↑(List.map (vi) (Sp.codes (l.getD ((↑l.length:Int) - 1).toNat default).3 79)).length:Int) > 0) then true else Sp.hasW (l.getD ((↑l.length:Int) - 1).toNat default).3 77 99000) == false && true) || decide ((wi ((↑(List.map Bk.a l).length:Int) - 1)).toNat <= (List.map Bk.a l).length)) = true ↔ ((¬(((((↑l.length:Int) - 1 < 0) \/ (¬(zSpT2 l))) \/ (zSpT3 l)) \/ (zSpT5 l))) -> (((↑l.length:Int) - 1).toNat <= l.length)):=(by (try rw [w1]);(try rw [w3]);(try rw [w8]);all_goals exact (i_imp (i_at (i_bf (i_bor (i_bor (i_bor i_dec (i_not (i_var _))) i_dec) (i_var _)))) i_dec))
 obtain ⟨k32,H⟩:=H
 have i36:(bif bif bif bif decide (wi ((↑(List.map Bk.a l).length:Int) - 1) < 0) then true else !Sp.hasW (l.getD ((↑l.length:Int) - 1).toNat default).3 77 30000 then true else decide ((↑(List.map (vi) (Sp.codes (l.getD ((↑l.length:Int) - 1).toNat default).3 79)).length:Int) > 0) then true else Sp.hasW (l.getD ((↑l.length:Int) - 1).toNat default).3 77 99000 then true else Sp.anyP Sp.pMk (zSpT4 l)) = true ↔ ((((((↑l.length:Int) - 1 < 0) \/ (¬(zSpT2 l))) \/ (zSpT3 l)) \/ (zSpT5 l)) \/ (Sp.anyP Sp.pMk (zSpT4 l) = true)):=(by (try rw [w1]);(try rw [w3]);(try rw [w8]);all_goals exact (i_bor (i_bor (i_bor (i_bor i_dec (i_not (i_var _))) i_dec) (i_var _)) (i_var _)))
 refine path_wp (G:=given kp62 [(2,7,.elem (ag [vb (l.getD ((↑l.length:Int) - 1).toNat default).1,AV.vec (l.getD ((↑l.length:Int) - 1).toNat default).2 2 (List.map Wo.a (l.getD ((↑l.length:Int) - 1).toNat default).3),AV.str (l.getD ((↑l.length:Int) - 1).toNat default).4])),(2,8,.call (vb (zSpT6 l)) none),(2,16,.elem (ag [vb (l.getD ((↑l.length:Int) - 1).toNat default).1,AV.vec (l.getD ((↑l.length:Int) - 1).toNat default).2 2 (List.map Wo.a (l.getD ((↑l.length:Int) - 1).toNat default).3),AV.str (l.getD ((↑l.length:Int) - 1).toNat default).4])),(2,17,.call (zSpT8 l) none),(2,26,.elem (ag [vb (l.getD ((↑l.length:Int) - 1).toNat default).1,AV.vec (l.getD ((↑l.length:Int) - 1).toNat default).2 2 (List.map Wo.a (l.getD ((↑l.length:Int) - 1).toNat default).3),AV.str (l.getD ((↑l.length:Int) - 1).toNat default).4])),(2,27,.call (vb (zSpT7 l)) none),(2,34,.call (vb (Sp.anyP Sp.pMk (zSpT4 l))) none)] []) 7 [] ⟨(atC (cd Try.f62) [1,1,0,1]),[(1,AV.ptr 0 0 0 0),(43,vb (bif bif bif bif decide (wi ((↑(List.map Bk.a l).length:Int) - 1) < 0) then true else !Sp.hasW (l.getD ((↑l.length:Int) - 1).toNat default).3 77 30000 then true else decide ((↑(List.map (vi) (Sp.codes (l.getD ((↑l.length:Int) - 1).toNat default).3 79)).length:Int) > 0) then true else Sp.hasW (l.getD ((↑l.length:Int) - 1).toNat default).3 77 99000 then true else Sp.anyP Sp.pMk (zSpT4 l)))],[⟨[ag [AV.vec g 3 (List.map Bk.a l),AV.vec h 2 (List.map Sb.a s)]],2,0,false,false⟩],[true,!(decide (wi ((↑(List.map Bk.a l).length:Int) - 1) < 0) == false && true) || true,!(decide (wi ((↑(List.map Bk.a l).length:Int) - 1) < 0) == false && true) || decide (0 <= wi ((↑(List.map Bk.a l).length:Int) - 1)),!(decide (wi ((↑(List.map Bk.a l).length:Int) - 1) < 0) == false && true) || decide ((wi ((↑(List.map Bk.a l).length:Int) - 1)).toNat < (List.map Bk.a l).length),!((bif decide (wi ((↑(List.map Bk.a l).length:Int) - 1) < 0) then true else !Sp.hasW (l.getD ((↑l.length:Int) - 1).toNat default).3 77 30000) == false && true) || true,!((bif decide (wi ((↑(List.map Bk.a l).length:Int) - 1) < 0) then true else !Sp.hasW (l.getD ((↑l.length:Int) - 1).toNat default).3 77 30000) == false && true) || decide (0 <= wi ((↑(List.map Bk.a l).length:Int) - 1)),!((bif decide (wi ((↑(List.map Bk.a l).length:Int) - 1) < 0) then true else !Sp.hasW (l.getD ((↑l.length:Int) - 1).toNat default).3 77 30000) == false && true) || decide ((wi ((↑(List.map Bk.a l).length:Int) - 1)).toNat < (List.map Bk.a l).length),!((bif bif decide (wi ((↑(List.map Bk.a l).length:Int) - 1) < 0) then true else !Sp.hasW (l.getD ((↑l.length:Int) - 1).toNat default).3 77 30000 then true else decide ((↑(List.map (vi) (Sp.codes (l.getD ((↑l.length:Int) - 1).toNat default).3 79)).length:Int) > 0)) == false && true) || true,!((bif bif decide (wi ((↑(List.map Bk.a l).length:Int) - 1) < 0) then true else !Sp.hasW (l.getD ((↑l.length:Int) - 1).toNat default).3 77 30000 then true else decide ((↑(List.map (vi) (Sp.codes (l.getD ((↑l.length:Int) - 1).toNat default).3 79)).length:Int) > 0)) == false && true) || decide (0 <= wi ((↑(List.map Bk.a l).length:Int) - 1)),!((bif bif decide (wi ((↑(List.map Bk.a l).length:Int) - 1) < 0) then true else !Sp.hasW (l.getD ((↑l.length:Int) - 1).toNat default).3 77 30000 then true else decide ((↑(List.map (vi) (Sp.codes (l.getD ((↑l.length:Int) - 1).toNat default).3 79)).length:Int) > 0)) == false && true) || decide ((wi ((↑(List.map Bk.a l).length:Int) - 1)).toNat < (List.map Bk.a l).length),!((bif bif bif decide (wi ((↑(List.map Bk.a l).length:Int) - 1) < 0) then true else !Sp.hasW (l.getD ((↑l.length:Int) - 1).toNat default).3 77 30000 then true else decide ((↑(List.map (vi) (Sp.codes (l.getD ((↑l.length:Int) - 1).toNat default).3 79)).length:Int) > 0) then true else Sp.hasW (l.getD ((↑l.length:Int) - 1).toNat default).3 77 99000) == false && true) || true,!((bif bif bif decide (wi ((↑(List.map Bk.a l).length:Int) - 1) < 0) then true else !Sp.hasW (l.getD ((↑l.length:Int) - 1).toNat default).3 77 30000 then true else decide ((↑(List.map (vi) (Sp.codes (l.getD ((↑l.length:Int) - 1).toNat default).3 79)).length:Int) > 0) then true else Sp.hasW (l.getD ((↑l.length:Int) - 1).toNat default).3 77 99000) == false && true) || decide (0 <= wi ((↑(List.map Bk.a l).length:Int) - 1)),!((bif bif bif decide (wi ((↑(List.map Bk.a l).length:Int) - 1) < 0) then true else !Sp.hasW (l.getD ((↑l.length:Int) - 1).toNat default).3 77 30000 then true else decide ((↑(List.map (vi) (Sp.codes (l.getD ((↑l.length:Int) - 1).toNat default).3 79)).length:Int) > 0) then true else Sp.hasW (l.getD ((↑l.length:Int) - 1).toNat default).3 77 99000) == false && true) || decide (0 <= (wi ((↑(List.map Bk.a l).length:Int) - 1)).toNat),!((bif bif bif decide (wi ((↑(List.map Bk.a l).length:Int) - 1) < 0) then true else !Sp.hasW (l.getD ((↑l.length:Int) - 1).toNat default).3 77 30000 then true else decide ((↑(List.map (vi) (Sp.codes (l.getD ((↑l.length:Int) - 1).toNat default).3 79)).length:Int) > 0) then true else Sp.hasW (l.getD ((↑l.length:Int) - 1).toNat default).3 77 99000) == false && true) || decide ((wi ((↑(List.map Bk.a l).length:Int) - 1)).toNat <= (List.map Bk.a l).length)],[((decide (wi ((↑(List.map Bk.a l).length:Int) - 1) < 0) == false && true) = true -> (List.map Bk.a l).get?Internal (wi ((↑(List.map Bk.a l).length:Int) - 1)).toNat = some (ag [vb (l.getD ((↑l.length:Int) - 1).toNat default).1,AV.vec (l.getD ((↑l.length:Int) - 1).toNat default).2 2 (List.map Wo.a (l.getD ((↑l.length:Int) - 1).toNat default).3),AV.str (l.getD ((↑l.length:Int) - 1).toNat default).4])),(((bif decide (wi ((↑(List.map Bk.a l).length:Int) - 1) < 0) then true else !Sp.hasW (l.getD ((↑l.length:Int) - 1).toNat default).3 77 30000) == false && true) = true -> (List.map Bk.a l).get?Internal (wi ((↑(List.map Bk.a l).length:Int) - 1)).toNat = some (ag [vb (l.getD ((↑l.length:Int) - 1).toNat default).1,AV.vec (l.getD ((↑l.length:Int) - 1).toNat default).2 2 (List.map Wo.a (l.getD ((↑l.length:Int) - 1).toNat default).3),AV.str (l.getD ((↑l.length:Int) - 1).toNat default).4])),(((bif bif decide (wi ((↑(List.map Bk.a l).length:Int) - 1) < 0) then true else !Sp.hasW (l.getD ((↑l.length:Int) - 1).toNat default).3 77 30000 then true else decide ((↑(List.map (vi) (Sp.codes (l.getD ((↑l.length:Int) - 1).toNat default).3 79)).length:Int) > 0)) == false && true) = true -> (List.map Bk.a l).get?Internal (wi ((↑(List.map Bk.a l).length:Int) - 1)).toNat = some (ag [vb (l.getD ((↑l.length:Int) - 1).toNat default).1,AV.vec (l.getD ((↑l.length:Int) - 1).toNat default).2 2 (List.map Wo.a (l.getD ((↑l.length:Int) - 1).toNat default).3),AV.str (l.getD ((↑l.length:Int) - 1).toNat default).4]))],[⟨decide (wi ((↑(List.map Bk.a l).length:Int) - 1) < 0) == false && true && true,false,40,[ag [vb (l.getD ((↑l.length:Int) - 1).toNat default).1,AV.vec (l.getD ((↑l.length:Int) - 1).toNat default).2 2 (List.map Wo.a (l.getD ((↑l.length:Int) - 1).toNat default).3),AV.str (l.getD ((↑l.length:Int) - 1).toNat default).4],AV.int IntKind.u8 77,vi 30000],[],vb (zSpT6 l),[]⟩,⟨(bif decide (wi ((↑(List.map Bk.a l).length:Int) - 1) < 0) then true else !Sp.hasW (l.getD ((↑l.length:Int) - 1).toNat default).3 77 30000) == false && true && true,false,70,[ag [vb (l.getD ((↑l.length:Int) - 1).toNat default).1,AV.vec (l.getD ((↑l.length:Int) - 1).toNat default).2 2 (List.map Wo.a (l.getD ((↑l.length:Int) - 1).toNat default).3),AV.str (l.getD ((↑l.length:Int) - 1).toNat default).4],AV.int IntKind.u8 79],[],vf (List.map (vi) (Sp.codes (l.getD ((↑l.length:Int) - 1).toNat default).3 79)),[]⟩,⟨(bif bif decide (wi ((↑(List.map Bk.a l).length:Int) - 1) < 0) then true else !Sp.hasW (l.getD ((↑l.length:Int) - 1).toNat default).3 77 30000 then true else decide ((↑(List.map (vi) (Sp.codes (l.getD ((↑l.length:Int) - 1).toNat default).3 79)).length:Int) > 0)) == false && true && true,false,40,[ag [vb (l.getD ((↑l.length:Int) - 1).toNat default).1,AV.vec (l.getD ((↑l.length:Int) - 1).toNat default).2 2 (List.map Wo.a (l.getD ((↑l.length:Int) - 1).toNat default).3),AV.str (l.getD ((↑l.length:Int) - 1).toNat default).4],AV.int IntKind.u8 77,vi 99000],[],vb (zSpT7 l),[]⟩,⟨(bif bif bif decide (wi ((↑(List.map Bk.a l).length:Int) - 1) < 0) then true else !Sp.hasW (l.getD ((↑l.length:Int) - 1).toNat default).3 77 30000 then true else decide ((↑(List.map (vi) (Sp.codes (l.getD ((↑l.length:Int) - 1).toNat default).3 79)).length:Int) > 0) then true else Sp.hasW (l.getD ((↑l.length:Int) - 1).toNat default).3 77 99000) == false && true && true,false,27,[AV.vec (g && false) 3 (List.drop 0 (List.take (wi ((↑(List.map Bk.a l).length:Int) - 1)).toNat (List.map Bk.a l))),AV.func (Fn.func 77) [] []],[],vb (Sp.anyP Sp.pMk (zSpT4 l)),[]⟩]⟩ (by kernel_rfl) (bc rfl (bc (Bool.or_true _) (bc (i15.2 k16) (bc (i17.2 k18) (bc (Bool.or_true _) (bc (i19.2 k20) (bc (i21.2 k22) (bc (Bool.or_true _) (bc (i23.2 k24) (bc (i25.2 k26) (bc (Bool.or_true _) (bc (i27.2 k28) (bc (i29.2 k30) (bc (i31.2 k32) b0)))))))))))))) (qc (by (try rw [w1]);(try rw [w3]);all_goals exact (fun h => el_map (k18 ((i_at (i_bf i_dec)).1 h)))) (qc (by (try rw [w1]);(try rw [w3]);all_goals exact (fun h => el_map (k22 ((i_at (i_bf (i_bor i_dec (i_not (i_var _))))).1 h)))) (qc (by (try rw [w1]);(try rw [w3]);(try rw [w8]);all_goals exact (fun h => el_map (k26 ((i_at (i_bf (i_bor (i_bor i_dec (i_not (i_var _))) i_dec))).1 h)))) q0))) (cc (fun hc => ((@ev40 ((l.getD ((↑l.length:Int) - 1).toNat default).1) ((l.getD ((↑l.length:Int) - 1).toNat default).2) ((l.getD ((↑l.length:Int) - 1).toNat default).3) ((l.getD ((↑l.length:Int) - 1).toNat default).4) (77) (30000) (k5 (i4.1 hc))):Ev M1 (Conf.pure 40 [ag [vb (l.getD ((↑l.length:Int) - 1).toNat default).1,AV.vec (l.getD ((↑l.length:Int) - 1).toNat default).2 2 (List.map Wo.a (l.getD ((↑l.length:Int) - 1).toNat default).3),AV.str (l.getD ((↑l.length:Int) - 1).toNat default).4],AV.int IntKind.u8 77,vi 30000]) (vb (zSpT6 l)) [])) (cc (fun hc => ((@ev70 ((l.getD ((↑l.length:Int) - 1).toNat default).1) ((l.getD ((↑l.length:Int) - 1).toNat default).2) ((l.getD ((↑l.length:Int) - 1).toNat default).3) ((l.getD ((↑l.length:Int) - 1).toNat default).4) (79) (k7 (i6.1 hc))):Ev M1 (Conf.pure 70 [ag [vb (l.getD ((↑l.length:Int) - 1).toNat default).1,AV.vec (l.getD ((↑l.length:Int) - 1).toNat default).2 2 (List.map Wo.a (l.getD ((↑l.length:Int) - 1).toNat default).3),AV.str (l.getD ((↑l.length:Int) - 1).toNat default).4],AV.int IntKind.u8 79]) (zSpT8 l) [])) (cc (fun hc => ((@ev40 ((l.getD ((↑l.length:Int) - 1).toNat default).1) ((l.getD ((↑l.length:Int) - 1).toNat default).2) ((l.getD ((↑l.length:Int) - 1).toNat default).3) ((l.getD ((↑l.length:Int) - 1).toNat default).4) (77) (99000) (k10 (i9.1 hc))):Ev M1 (Conf.pure 40 [ag [vb (l.getD ((↑l.length:Int) - 1).toNat default).1,AV.vec (l.getD ((↑l.length:Int) - 1).toNat default).2 2 (List.map Wo.a (l.getD ((↑l.length:Int) - 1).toNat default).3),AV.str (l.getD ((↑l.length:Int) - 1).toNat default).4],AV.int IntKind.u8 77,vi 99000]) (vb (zSpT7 l)) [])) (cc (fun hc => ((by (try rw [w1]);(try rw [w3]);(try rw [w11]);(try rw [w12]);all_goals exact (@ev27_a (g && false) (zSpT4 l) (k14 (i13.1 hc)))):Ev M1 (Conf.pure 27 [AV.vec (g && false) 3 (List.drop 0 (List.take (wi ((↑(List.map Bk.a l).length:Int) - 1)).toNat (List.map Bk.a l))),AV.func (Fn.func 77) [] []]) (vb (Sp.anyP Sp.pMk (zSpT4 l))) [])) c0)))) ?_
 rcases xm ((((((↑l.length:Int) - 1 < 0) \/ (¬(zSpT2 l))) \/ (zSpT3 l)) \/ (zSpT5 l)) \/ (Sp.anyP Sp.pMk (zSpT4 l) = true)) with d37 | d37
 ·have H:=H.1 d37
  exact path_re (G:=given kp62 [] []) 1000 [true] (vb false) (by kernel_rfl) (bc (beq_t (i36.2 d37)) b0) q0 c0 H
 ·have H:=H.2 d37
  obtain ⟨k38,H⟩:=H
  exact path_re (G:=given kp62 [(4,2,.call (vb (Sp.anyP Sp.sMk s)) none)] []) 1000 [false] (vb !Sp.anyP Sp.sMk s) (by kernel_rfl) (bc (beq_f (fun h => d37 (i36.1 h))) (bc rfl b0)) q0 (ce (@ev78_a (h) (s) k38) c0) H
end Go.Av

namespace Go.Av
open Go.Proofs
namespace Sp
def repB (s:List Sb):Bool:=(List.range' 0 s.length).any fun i => anyP (sIs (s.getD i default).n) (s.take i)
def lastB (l:List Bk):Bk:=l.getD (l.length - 1) default
def ordB (l:List Bk) (s:List Sb):Bool:=decide (0 < l.length) && (endB (lastB l).ws && (!(letB (lastB l).ws 79) && (!(backB (lastB l).ws) && (!(anyP pMk (l.take (l.length - 1))) && !(anyP sMk s)))))
def okSs (s:List Sb):Prop:=s.length <= 1000000 /\ ∀ x ∈ s,okBs x.bl
end Sp
theorem svRpa_loop {h:Bool} {s:List Sb} {dq:AV} (hl:s.length <= 1000000):∀ (c i:Nat),i + c = s.length -> AV.bool ((List.range' i c).any fun i => Sp.anyP (Sp.sIs (s.getD i default).n) (s.take i)) = dq -> svRpa_at h s s.length i (PureQ dq):=by
 intro c
 induction c with
 | zero =>
  intro i hi hq
  exact svRpa _ _ _ _ _ ⟨fun h => by omega,fun _ => hq⟩
 | succ c ih =>
  intro i hi hq
  rw [List.range'_succ,List.any_cons] at hq
  refine svRpa _ _ _ _ _ ⟨fun _ => ?_,fun h => by omega⟩
  rw [Int.toNat_natCast,List.drop_zero]
  refine ⟨by omega,by omega,by simp;omega,by omega,by omega,fun h => ?_,fun h => ⟨by omega,ih (i + 1) (by omega) ?_⟩⟩
  ·rw [h,Bool.true_or] at hq
   exact hq
  ·rw [Bool.eq_false_iff.2 h,Bool.false_or] at hq
   exact hq
theorem ev63 (h:Bool) (s:List Sb) (hl:s.length <= 1000000):Ev M1 (.pure 63 [sbA h s]) (.bool (Sp.repB s)) []:=
 call63 (svRp h s _ (svRpa_loop hl s.length 0 (by omega) rfl))
theorem ev62 (g:Bool) (l:List Bk) (h:Bool) (s:List Sb) (hk:Sp.okBs l /\ Sp.okSs s):Ev M1 (.pure 62 [pgA g h l s]) (.bool (Sp.ordB l s)) []:=by
 obtain ⟨hk,hs⟩:=hk
 have hl:=hk.1
 by_cases h0:l.length = 0
 ·refine call62 (svOd g l h s _ ?_)
  have c:(l.length:Int) - 1 < 0:=by omega
  refine ⟨by omega,fun x => absurd c x,fun x => absurd (.inl c) x,fun x => absurd (.inl (.inl c)) x,fun x => absurd (.inl (.inl (.inl c))) x,fun x => absurd c x,fun x => absurd c x,fun x => absurd (.inl c) x,fun x => absurd (.inl c) x,fun x => absurd (.inl (.inl c)) x,fun x => absurd (.inl (.inl c)) x,fun x => absurd (.inl (.inl (.inl c))) x,fun x => absurd (.inl (.inl (.inl c))) x,fun x => absurd (.inl (.inl (.inl c))) x,fun _ => ?_,fun x => absurd (.inl (.inl (.inl (.inl c)))) x⟩
  unfold Sp.ordB
  rw [decide_eq_false (by omega),Bool.false_and]
 ·have e:(l.length:Int) - 1 = ((l.length - 1:Nat):Int):=by omega
  have hm:=hk.2 _ (getD_mem (show l.length - 1 < l.length by omega))
  have hsub:Sp.okBs (List.drop 0 (List.take (l.length - 1) l)):=okBs_sub hk 0 (l.length - 1)
  refine call62 (svOd g l h s _ ?_)
  rw [e,Int.toNat_natCast]
  refine ⟨by omega,fun _ => hm.1,fun _ => hm.1,fun _ => hm.1,fun _ => hsub,fun _ => by omega,fun _ => by omega,fun _ => by omega,fun _ => by omega,fun _ => by omega,fun _ => by omega,fun _ => by omega,fun _ => by omega,fun _ => by omega,fun x => ?_,fun x => ⟨hs,?_⟩⟩
  ·congr 1
   unfold Sp.ordB Sp.endB Sp.backB Sp.lastB
   rw [List.drop_zero] at x
   rw [decide_eq_true (show 0 < l.length by omega),Bool.true_and,Eq.comm]
   rcases x with (((x | x) | x) | x) | x
   ·omega
   ·rw [Bool.eq_false_iff.2 x,Bool.false_and]
   ·rw [show Sp.letB (l.getD (l.length - 1) default).ws 79 = true from decide_eq_true (by omega),Bool.not_true,Bool.false_and,Bool.and_false]
   ·rw [x,Bool.not_true,Bool.false_and,Bool.and_false,Bool.and_false]
   ·rw [x,Bool.not_true,Bool.false_and,Bool.and_false,Bool.and_false,Bool.and_false]
  ·congr 1
   unfold Sp.ordB Sp.endB Sp.backB Sp.lastB
   rw [List.drop_zero] at x
   have x1:Sp.hasW (l.getD (l.length - 1) default).ws 77 30000 = true:=Classical.byContradiction fun y => x (.inl (.inl (.inl (.inr y))))
   have x2:Sp.letB (l.getD (l.length - 1) default).ws 79 = false:=decide_eq_false fun y => x (.inl (.inl (.inr (by omega))))
   have x3:Sp.hasW (l.getD (l.length - 1) default).ws 77 99000 = false:=Bool.eq_false_iff.2 fun y => x (.inl (.inr y))
   have x4:Sp.anyP Sp.pMk (l.take (l.length - 1)) = false:=Bool.eq_false_iff.2 fun y => x (.inr y)
   rw [decide_eq_true (show 0 < l.length by omega),x1,x2,x3,x4]
   rfl
end Go.Av

namespace Go.Av
open Go.Proofs
set_option maxRecDepth 100000
def fi83:Fi:=⟨29,[.tmp 2]⟩
def kp83:List (Nat × List Nat):=[(0,[1]),(1,[1,6,7,8]),(2,[1,6,7,8,9]),(3,[1,4,6,7,8]),(4,[1,6,7,8,19]),(5,[2]),(6,[1,6,7,8]),(7,[2])]
def svPr_at (g:Bool) (l:List Bk) (h:Bool) (s:List Sb) (Q:AV -> Heap -> Prop):Prop:=Wp M1 (.run fi83 (atC (cd Try.f83) []) [(0,.agg [.vec g 3 (l.map Bk.a),.vec h 2 (s.map Sb.a)])] []) Q
def svPra_at (g:Bool) (l:List Bk) (h:Bool) (s:List Sb) (n i:Int) (Q:AV -> Heap -> Prop):Prop:=Wp M1 (.run fi83 (atC (cd Try.f83) [1,0,1,0,0]) [(1,.ptr 0 0 0 0),(6,.vec h 2 (s.map Sb.a)),(7,.int .i64 n),(8,.int .i64 i)] [⟨[.agg [.vec g 3 (l.map Bk.a),.vec h 2 (s.map Sb.a)]],2,0,false,false⟩]) Q
theorem call83 {args:List AV} {d:AV} (h:wc M1 fi83 Try.f83 args d):Ev M1 (.pure 83 args) d []:=pcl _ _ (by kernel_rfl) h
theorem svPr (g:Bool) (l:List Bk) (h:Bool) (s:List Sb)  (dq:AV) (H :
  svPra_at (g) (l) (h) (s) ((↑s.length:Int)) (0) (PureQ dq)) :
 svPr_at g l h s (PureQ dq):=by
 unfold svPr_at
 have w1:(List.map Sb.a s).length = s.length:=List.length_map ..
 exact path_wp (G:=given kp83 [] []) 1000 [] ⟨(atC (cd Try.f83) [1,0,1,0,0]),[(1,AV.ptr 0 0 0 0),(6,AV.vec h 2 (List.map Sb.a s)),(7,vi (↑(List.map Sb.a s).length:Int)),(8,vi 0)],[⟨[ag [AV.vec g 3 (List.map Bk.a l),AV.vec h 2 (List.map Sb.a s)]],2,0,false,false⟩],_,[],_⟩ (by kernel_rfl) (bc rfl b0) q0 c0 (by (try rw [w1]);all_goals exact H)
theorem svPra (g:Bool) (l:List Bk) (h:Bool) (s:List Sb) (n i:Int)  (dq:AV) (H :
  ((i < n) -> (0 <= i) /\
   (i.toNat < s.length) /\
   ((((s.getD i.toNat default).n < 1) \/ ((s.getD i.toNat default).n > 9999)) -> vb false = dq) /\
   (¬(((s.getD i.toNat default).n < 1) \/ ((s.getD i.toNat default).n > 9999)) -> (-9223372036854775808 <= i + 1 /\ i + 1 <= 9223372036854775807) /\
    svPra_at (g) (l) (h) (s) (n) (i + 1) (PureQ dq))) /\
  (¬(i < n) -> (Sp.okBs l /\ Sp.okSs s) /\
   ((Sp.ordB l s = true) -> (s.length <= 1000000)) /\
   (vb (bif Sp.ordB l s then !Sp.repB s else false)) = dq)) :
 svPra_at g l h s n i (PureQ dq):=by
 unfold svPra_at
 rcases xm (i < n) with d2 | d2
 ·have H:=H.1 d2
  obtain ⟨k4,H⟩:=H
  have w5:(List.map Sb.a s).length = s.length:=List.length_map ..
  have i6:(decide (i.toNat < (List.map Sb.a s).length)) = true ↔ (i.toNat < s.length):=(by (try rw [w5]);all_goals exact i_dec)
  obtain ⟨k7,H⟩:=H
  refine path_wp (G:=given kp83 [(3,1,.elem (ag [vi (s.getD i.toNat default).n,AV.vec (s.getD i.toNat default).2 3 (List.map Bk.a (s.getD i.toNat default).3)]))] []) 11 [true] ⟨(atC (cd Try.f83) [1,0,1,0,0,1,1,0,0,1,1]),[(1,AV.ptr 0 0 0 0),(6,AV.vec h 2 (List.map Sb.a s)),(7,vi n),(8,vi i),(19,vb (bif decide ((s.getD i.toNat default).n < 1) then true else decide ((s.getD i.toNat default).n > 9999)))],[⟨[ag [AV.vec g 3 (List.map Bk.a l),AV.vec h 2 (List.map Sb.a s)]],2,0,false,false⟩,⟨[ag [vi (s.getD i.toNat default).n,AV.vec (s.getD i.toNat default).2 3 (List.map Bk.a (s.getD i.toNat default).3)]],2,0,false,false⟩],[(decide (i < n)) == true,decide (0 <= i),decide (i.toNat < (List.map Sb.a s).length),true,true,!(decide ((s.getD i.toNat default).n < 1) == false && true) || true],[((List.map Sb.a s).get?Internal i.toNat = some (ag [vi (s.getD i.toNat default).n,AV.vec (s.getD i.toNat default).2 3 (List.map Bk.a (s.getD i.toNat default).3)]))],_⟩ (by kernel_rfl) (bc (beq_t (i_dec.2 d2)) (bc (i_dec.2 k4) (bc (i6.2 k7) (bc rfl (bc rfl (bc (Bool.or_true _) b0)))))) (qc (el_map k7) q0) c0 ?_
  rcases xm (((s.getD i.toNat default).n < 1) \/ ((s.getD i.toNat default).n > 9999)) with d9 | d9
  ·have H:=H.1 d9
   exact path_re (G:=given kp83 [] []) 1000 [true] (vb false) (by kernel_rfl) (bc (beq_t ((i_bor i_dec i_dec).2 d9)) b0) q0 c0 H
  ·have H:=H.2 d9
   obtain ⟨k10,H⟩:=H
   have w11:wi (i + 1) = i + 1:=wI64 k10
   exact path_wp (G:=given kp83 [] []) 1000 [false] ⟨(atC (cd Try.f83) [1,0,1,0,0]),[(1,AV.ptr 0 0 0 0),(6,AV.vec h 2 (List.map Sb.a s)),(7,vi n),(8,vi (wi (i + 1)))],[⟨[ag [AV.vec g 3 (List.map Bk.a l),AV.vec h 2 (List.map Sb.a s)]],2,0,false,false⟩,⟨[ag [vi (s.getD i.toNat default).n,AV.vec (s.getD i.toNat default).2 3 (List.map Bk.a (s.getD i.toNat default).3)]],2,0,false,false⟩],_,[],_⟩ (by kernel_rfl) (bc (beq_f (fun h => d9 ((i_bor i_dec i_dec).1 h))) b0) q0 c0 (by (try rw [w11]);all_goals exact wp_narrow [0] (by kernel_rfl) H)
 ·have H:=H.2 d2
  obtain ⟨k12,H⟩:=H
  obtain ⟨k14,H⟩:=H
  exact path_re (G:=given kp83 [(7,1,.call (vb (Sp.ordB l s)) none),(7,5,.call (vb (Sp.repB s)) none)] []) 1000 [false] (asm:=[(decide (i < n)) == false,true,!(Sp.ordB l s == true && true) || true]) (calls:=[⟨true,false,62,[ag [AV.vec g 3 (List.map Bk.a l),AV.vec h 2 (List.map Sb.a s)]],[],vb (Sp.ordB l s),[]⟩,⟨Sp.ordB l s == true && true && true,false,63,[AV.vec h 2 (List.map Sb.a s)],[],vb (Sp.repB s),[]⟩]) (vb (bif Sp.ordB l s then !Sp.repB s else false)) (by kernel_rfl) (bc (beq_f (fun h => d2 (i_dec.1 h))) (bc rfl (bc (Bool.or_true _) b0))) q0 (cc (fun _ => (@ev62 (g) (l) (h) (s) k12)) (cc (fun hc => ((@ev63 (h) (s) (k14 ((i_at (i_at (i_bt (i_var _)))).1 hc))):Ev M1 (Conf.pure 63 [AV.vec h 2 (List.map Sb.a s)]) (vb (Sp.repB s)) [])) c0)) H
end Go.Av

namespace Go.Av
open Go.RowKit
theorem ev_weak {M:Mach} (hm:(M.P ()).follows .mixedOrders = true) {f:FuncId} {args args':List AV} {d:AV} (h:Ev M (.pure f args') d []) (hl:args.length = args'.length) (hc:cleanL args = true) (hw:∀ (i:Nat) a a',args[i]? = some a -> args'[i]? = some a' -> Weak a a'):Ev M (.pure f args) d []:=by
 refine .sem fun base acc w cargs h1 h2 h3 => (wp_sound hm (c:=.pure f args') h:PureR M f args' _) base acc w cargs h1 h2 ⟨hl.symm.trans h3.1,fun i c v hi hv => ?_⟩
 have hlt:i < args.length:=by rw [hl];exact lt_of_get hi
 have ha:args[i]? = some args[i]:=List.getElem?_eq_getElem hlt
 exact .data _ _ (weak_rel (hw i _ _ ha hi) (rel_clean (h3.2 i _ v ha hv) (cleanL_get hc i _ ha)))
end Go.Av

namespace Go.Av
open Go.Proofs
namespace Sp
def numB (s:List Sb):Bool:=s.all fun x => decide (1 <= x.n /\ x.n <= 9999)
def prpB (l:List Bk) (s:List Sb):Bool:=numB s && (ordB l s && !(repB s))
def spl (l:List Bk):Nat -> List Bk -> List Sb -> List Bk × List Sb × Int
 | 0,_,_ => ([],[],1)
 | f + 1,r,s =>
  if r.length = 0 then (if ordB l s = true then (if repB s = true then ([],[],5) else (l,s,0)) else ([],[],1))
  else if bgB (r.getD 0 default).sk (r.getD 0 default).ws (r.getD 0 default).cm = true /\ ¬idxP pStop r < 0 then
   spl l f (r.drop (idxP pStop r + 1).toNat) (s ++ [⟨bgV (r.getD 0 default).sk (r.getD 0 default).ws (r.getD 0 default).cm,false,(r.take (idxP pStop r).toNat).drop 1⟩])
  else ([],[],1)
def split (l:List Bk):List Bk × List Sb × Int:=
 if idxP pEnd l < 0 then ([],[],1) else spl (l.take (idxP pEnd l + 1).toNat) (l.length + 1) (l.drop (idxP pEnd l + 1).toNat) []
end Sp
theorem svPra_loop {g h:Bool} {l:List Bk} {s:List Sb} {dq:AV} (hk:Sp.okBs l /\ Sp.okSs s):∀ (c i:Nat),i + c = s.length -> AV.bool ((s.drop i).all (fun x => decide (1 <= x.n /\ x.n <= 9999)) && (Sp.ordB l s && !(Sp.repB s))) = dq -> svPra_at g l h s s.length i (PureQ dq):=by
 have hl:=hk.2.1
 intro c
 induction c with
 | zero =>
  intro i hi hq
  rw [List.drop_eq_nil_of_le (by omega)] at hq
  refine svPra _ _ _ _ _ _ _ ⟨fun h => by omega,fun _ => ⟨hk,fun _ => hl,?_⟩⟩
  rw [<- hq]
  cases Sp.ordB l s <;> rfl
 | succ c ih =>
  intro i hi hq
  rw [drop_getD (show i < s.length by omega),List.all_cons] at hq
  refine svPra _ _ _ _ _ _ _ ⟨fun _ => ?_,fun h => by omega⟩
  rw [Int.toNat_natCast]
  refine ⟨by omega,by omega,fun h => ?_,fun h => ⟨by omega,ih (i + 1) (by omega) ?_⟩⟩
  ·rw [decide_eq_false (by omega),Bool.false_and,Bool.false_and] at hq
   exact hq
  ·rw [decide_eq_true (by omega),Bool.true_and] at hq
   exact hq
theorem ev83 (g h:Bool) (l:List Bk) (s:List Sb) (hk:Sp.okBs l /\ Sp.okSs s):Ev M1 (.pure 83 [pgA g h l s]) (.bool (Sp.prpB l s)) []:=
 call83 (svPr g l h s _ (svPra_loop hk s.length 0 (by omega) rfl))
end Go.Av

namespace Go.Av
open Go.Proofs
set_option maxRecDepth 100000
def fi19:Fi:=⟨22,[.tmp 4]⟩
def kp19:List (Nat × List Nat):=[(0,[1,2]),(1,[1,2,5]),(2,[1,2,5,10]),(3,[1,2,5]),(4,[1,2,5,20]),(5,[4]),(6,[4])]
def svFn_at (g:Bool) (l:List Bk) (h:Bool) (s:List Sb) (m:Int) (Q:AV -> Heap -> Prop):Prop:=Wp M1 (.run fi19 (atC (cd Try.f19) []) [(0,.agg [.vec g 3 (l.map Bk.a),.vec h 2 (s.map Sb.a)]),(1,.int .i64 m)] []) Q
def svFna_at (g:Bool) (l:List Bk) (h:Bool) (s:List Sb) (m i:Int) (Q:AV -> Heap -> Prop):Prop:=Wp M1 (.run fi19 (atC (cd Try.f19) [1,0,1,0,0]) [(1,.int .i64 m),(2,.ptr 0 0 0 0),(5,.int .i64 i)] [⟨[.agg [.vec g 3 (l.map Bk.a),.vec h 2 (s.map Sb.a)]],2,0,false,false⟩]) Q
theorem call19 {args:List AV} {d:AV} (h:wc M1 fi19 Try.f19 args d):Ev M1 (.pure 19 args) d []:=pcl _ _ (by kernel_rfl) h
theorem svFn (g:Bool) (l:List Bk) (h:Bool) (s:List Sb) (m:Int)  (dq:AV) (H :
  svFna_at (g) (l) (h) (s) (m) (0) (PureQ dq)) :
 svFn_at g l h s m (PureQ dq):=by
 unfold svFn_at
 exact path_wp (G:=given kp19 [] []) 1000 [] ⟨(atC (cd Try.f19) [1,0,1,0,0]),[(1,vi m),(2,AV.ptr 0 0 0 0),(5,vi 0)],[⟨[ag [AV.vec g 3 (List.map Bk.a l),AV.vec h 2 (List.map Sb.a s)]],2,0,false,false⟩],_,[],_⟩ (by kernel_rfl) b0 q0 c0 (H)
theorem svFna (g:Bool) (l:List Bk) (h:Bool) (s:List Sb) (m i:Int)  (dq:AV) (H :
  ((i < (↑s.length:Int)) -> (0 <= i) /\
   (i.toNat < s.length) /\
   (((s.getD i.toNat default).n = m) -> vi i = dq) /\
   (¬((s.getD i.toNat default).n = m) -> (-9223372036854775808 <= i + 1 /\ i + 1 <= 9223372036854775807) /\
    svFna_at (g) (l) (h) (s) (m) (i + 1) (PureQ dq))) /\
  (¬(i < (↑s.length:Int)) -> vi (-1) = dq)) :
 svFna_at g l h s m i (PureQ dq):=by
 unfold svFna_at
 have w1:(List.map Sb.a s).length = s.length:=List.length_map ..
 have i2:(decide (i < (↑(List.map Sb.a s).length:Int))) = true ↔ (i < (↑s.length:Int)):=(by (try rw [w1]);all_goals exact i_dec)
 rcases xm (i < (↑s.length:Int)) with d3 | d3
 ·have H:=H.1 d3
  obtain ⟨k5,H⟩:=H
  have i6:(decide (i.toNat < (List.map Sb.a s).length)) = true ↔ (i.toNat < s.length):=(by (try rw [w1]);all_goals exact i_dec)
  obtain ⟨k7,H⟩:=H
  refine path_wp (G:=given kp19 [(4,5,.elem (ag [vi (s.getD i.toNat default).n,AV.vec (s.getD i.toNat default).2 3 (List.map Bk.a (s.getD i.toNat default).3)]))] []) 9 [true] ⟨(atC (cd Try.f19) [1,0,1,0,0,1,0,0,1]),[(1,vi m),(2,AV.ptr 0 0 0 0),(5,vi i),(20,vb ((s.getD i.toNat default).n == m))],[⟨[ag [AV.vec g 3 (List.map Bk.a l),AV.vec h 2 (List.map Sb.a s)]],2,0,false,false⟩],_,[((List.map Sb.a s).get?Internal i.toNat = some (ag [vi (s.getD i.toNat default).n,AV.vec (s.getD i.toNat default).2 3 (List.map Bk.a (s.getD i.toNat default).3)]))],_⟩ (by kernel_rfl) (bc rfl (bc (beq_t (i2.2 d3)) (bc rfl (bc (i_dec.2 k5) (bc (i6.2 k7) b0))))) (qc (el_map k7) q0) c0 ?_
  rcases xm ((s.getD i.toNat default).n = m) with d9 | d9
  ·have H:=H.1 d9
   exact path_re (G:=given kp19 [] []) 1000 [true] (vi i) (by kernel_rfl) (bc (beq_t (i_eq.2 d9)) b0) q0 c0 H
  ·have H:=H.2 d9
   obtain ⟨k10,H⟩:=H
   have w11:wi (i + 1) = i + 1:=wI64 k10
   exact path_wp (G:=given kp19 [] []) 1000 [false] ⟨(atC (cd Try.f19) [1,0,1,0,0]),[(1,vi m),(2,AV.ptr 0 0 0 0),(5,vi (wi (i + 1)))],[⟨[ag [AV.vec g 3 (List.map Bk.a l),AV.vec h 2 (List.map Sb.a s)]],2,0,false,false⟩],_,[],_⟩ (by kernel_rfl) (bc (beq_f (fun h => d9 (i_eq.1 h))) b0) q0 c0 (by (try rw [w11]);all_goals exact H)
 ·have H:=H.2 d3
  exact path_re (G:=given kp19 [] []) 1000 [false] (vi (-1)) (by kernel_rfl) (bc rfl (bc (beq_f (fun h => d3 (i2.1 h))) b0)) q0 c0 H
end Go.Av

namespace Go.Av
open Go.Proofs
namespace Sp
def isN (m:Int) (x:Sb):Bool:=decide (x.n = m)
def fnd (s:List Sb) (m:Int):Int:=idxP (isN m) s
end Sp
theorem svFna_loop {g h:Bool} {l:List Bk} {s:List Sb} {m:Int} {dq:AV} (hl:s.length <= 1000000):∀ (c i:Nat),i + c = s.length -> AV.int .i64 (Sp.idxF (Sp.isN m) (s.drop i) i) = dq -> svFna_at g l h s m i (PureQ dq):=by
 intro c
 induction c with
 | zero =>
  intro i hi hq
  rw [List.drop_eq_nil_of_le (by omega)] at hq
  exact svFna _ _ _ _ _ _ _ ⟨fun h => by omega,fun _ => hq⟩
 | succ c ih =>
  intro i hi hq
  rw [drop_getD (show i < s.length by omega),Sp.idxF] at hq
  refine svFna _ _ _ _ _ _ _ ⟨fun _ => ?_,fun h => by omega⟩
  rw [Int.toNat_natCast]
  refine ⟨by omega,by omega,fun h => ?_,fun h => ⟨by omega,ih (i + 1) (by omega) ?_⟩⟩
  ·rw [if_pos (show Sp.isN m (s.getD i default) = true from decide_eq_true h)] at hq
   exact hq
  ·rw [if_neg (show ¬Sp.isN m (s.getD i default) = true from by rw [show Sp.isN m (s.getD i default) = false from decide_eq_false h];simp)] at hq
   exact hq
theorem ev19 (g h:Bool) (l:List Bk) (s:List Sb) (m:Int) (hl:s.length <= 1000000):Ev M1 (.pure 19 [pgA g h l s,.int .i64 m]) (.int .i64 (Sp.fnd s m)) []:=
 call19 (svFn g l h s m _ (svFna_loop hl s.length 0 (by omega) rfl))
end Go.Av

namespace Go.Av
open Go.Proofs
set_option maxRecDepth 100000
end Go.Av

namespace Go.Av
open Go.Proofs
namespace Sp
end Sp
theorem fnd_any (s:List Sb) (m:Int):decide (Sp.fnd s m >= 0) = Sp.anyP (Sp.isN m) s:=by
 unfold Sp.fnd Sp.idxP Sp.anyP
 rcases idxF_ge (Sp.isN m) s 0 (by omega) with ⟨h1,h2⟩ | ⟨h1,_,h2⟩
 ·rw [h1,h2];rfl
 ·rw [h2];exact decide_eq_true h1
theorem any_congr' {α:Type} {l:List α} {p q:α -> Bool} (h:∀ x ∈ l,p x = q x):l.any p = l.any q:=by
 induction l with
 | nil => rfl
 | cons a l ih => rw [List.any_cons,List.any_cons,h a (by simp),ih fun x hx => h x (by simp [hx])]
end Go.Av

namespace Go.Av
open Go.RowKit
end Go.Av

namespace Go.Av
open Go.Proofs
end Go.Av

namespace Go.Av
open Go.RowKit
theorem wp_vnil {M:Mach} (hm:(M.P ()).follows .mixedOrders = true) {fi:Fi} {k:List Item} {env:Vars} {L:Heap} {Q:AV -> Heap -> Prop} {es:Nat} (h:Wp M (.run fi k env L) fun v L => Q v L \/ (v = .vnil /\ Q (.vec true es []) L)):Wp M (.run fi k env L) Q:=by
 refine .sem fun S b a cs fn h1 h2 h3 h4 h5 h6 h7 h8 => ?_
 obtain ⟨a',todo',Ds,w',β',v,L1,q1,q2,q3,q4,q5,q6,q7,q8,q9⟩:=(wp_sound hm (c:=.run fi k _ _) h:RunSnd M fi k _ _ _) S b a cs fn h1 h2 h3 h4 h5 h6 h7 h8
 rcases q1 with q1 | ⟨rfl,hQ⟩
 ·exact ⟨a',todo',Ds,w',β',v,L1,q1,q2,q3,q4,q5,q6,q7,q8,q9⟩
 ·refine ⟨a',todo',Ds,w',β',.vec true es [],L1,hQ,q2,q3,q4,q5,q6,fun w'' hn => ?_,q8,q9⟩
  obtain ⟨cv,c1,c2⟩:=q7 w'' hn
  refine ⟨cv,c1,?_⟩
  cases c2 with
  | data _ _ h => cases h;exact .data _ _ (.vecE true es none 0 fun _ => rfl)
end Go.Av

namespace Go.Av
open Go.Proofs
noncomputable def M2:Mach:=⟨fun _ => Try.prog,fun f => [22].contains f || M1.inl f⟩
theorem hm2:(M2.P ()).follows .mixedOrders = true:=by kernel_rfl
end Go.Av

namespace Go.Av
open Go.Proofs
set_option maxRecDepth 100000
def fi17:Fi:=⟨30,[.cell 2 40]⟩
def kp17:List (Nat × List Nat):=[(0,[1,2]),(1,[1,2,3]),(2,[2,3,11,12,13]),(3,[2,3,11,12,13,14]),(4,[2,3,5,11,12,13]),(5,[2,3,11,12,13]),(6,[2,3,11,12,13]),(7,[2])]
def fi44:Fi:=⟨47,[.tmp 2]⟩
def kp44:List (Nat × List Nat):=[(0,[1]),(1,[1,13]),(2,[2]),(3,[1,3]),(4,[1,3,18]),(5,[1,3]),(6,[1,3,46]),(7,[2]),(8,[2])]
def svOw_at (g:Bool) (l:List Bk) (h:Bool) (s:List Sb) (Q:AV -> Heap -> Prop):Prop:=Wp M1 (.run fi17 (atC (cd Try.f17) []) [(0,.agg [.vec g 3 (l.map Bk.a),.vec h 2 (s.map Sb.a)])] []) Q
def svOwz_at (l:List Bk) (h:Bool) (s:List Sb) (n i:Int) (Q:AV -> Heap -> Prop):Prop:=Wp M1 (.run fi17 (atC (cd Try.f17) [1,1,0,1,0,0]) [(2,.ptr 0 0 0 0),(3,.ptr 1 0 0 0),(11,.vec h 2 (s.map Sb.a)),(12,.int .i64 n),(13,.int .i64 i)] [⟨[.agg [.vnil,.vnil]],2,0,false,false⟩,⟨[.agg [.vec false 3 (l.map Bk.a),.vnil]],2,0,false,false⟩]) Q
def svOwa_at (l:List Bk) (h:Bool) (s:List Sb) (n i:Int) (o:List Sb) (v:Nat) (Q:AV -> Heap -> Prop):Prop:=Wp M1 (.run fi17 (atC (cd Try.f17) [1,1,0,1,0,0]) [(2,.ptr 0 0 0 0),(3,.ptr 1 0 0 0),(11,.vec h 2 (s.map Sb.a)),(12,.int .i64 n),(13,.int .i64 i)] [⟨[.agg [.vnil,.vnil]],2,0,false,false⟩,⟨[.agg [.vec false 3 (l.map Bk.a),.row 2 v]],2,0,false,false⟩,⟨o.map Sb.a,2,v,false,true⟩]) Q
def svFw_at (g:Bool) (l:List Bk) (h:Bool) (s:List Sb) (Q:AV -> Heap -> Prop):Prop:=Wp M1 (.run fi44 (atC (cd Try.f44) []) [(0,.agg [.vec g 3 (l.map Bk.a),.vec h 2 (s.map Sb.a)])] []) Q
def svFwa_at (g:Bool) (l:List Bk) (h:Bool) (s:List Sb) (i:Int) (Q:AV -> Heap -> Prop):Prop:=Wp M1 (.run fi44 (atC (cd Try.f44) [1,1,0,1,0,0]) [(1,.ptr 0 0 0 0),(3,.int .i64 i)] [⟨[.agg [.vec g 3 (l.map Bk.a),.vec h 2 (s.map Sb.a)]],2,0,false,false⟩]) Q
theorem call17 {args:List AV} {d:AV} (h:wc M1 fi17 Try.f17 args d):Ev M1 (.pure 17 args) d []:=pcl _ _ (by kernel_rfl) h
theorem call44 {args:List AV} {d:AV} (h:wc M1 fi44 Try.f44 args d):Ev M1 (.pure 44 args) d []:=pcl _ _ (by kernel_rfl) h
theorem svOw (g:Bool) (l:List Bk) (h:Bool) (s:List Sb)  (dq:AV) (H :
  (Sp.few6 l.length) /\
  svOwz_at (l) (h) (s) ((↑s.length:Int)) (0) (PureQ dq)) :
 svOw_at g l h s (PureQ dq):=by
 unfold svOw_at
 obtain ⟨k1,H⟩:=H
 have w2:(List.map Sb.a s).length = s.length:=List.length_map ..
 exact path_wp (G:=given kp17 [(1,2,.call (AV.vec false 3 (List.map Bk.a l)) none)] []) 1000 [] ⟨(atC (cd Try.f17) [1,1,0,1,0,0]),[(2,AV.ptr 1 0 0 0),(3,AV.ptr 2 0 0 0),(11,AV.vec h 2 (List.map Sb.a s)),(12,vi (↑(List.map Sb.a s).length:Int)),(13,vi 0)],[⟨[ag [AV.vec g 3 (List.map Bk.a l),AV.vec h 2 (List.map Sb.a s)]],2,0,false,false⟩,⟨[ag [AV.vnil,AV.vnil]],2,0,false,false⟩,⟨[ag [AV.vec false 3 (List.map Bk.a l),AV.vnil]],2,0,false,false⟩],_,[],_⟩ (by kernel_rfl) (bc rfl (bc rfl (bc rfl b0))) q0 (ce (@ev22 (g) (l) k1) c0) (by (try rw [w2]);all_goals exact wp_narrow [1,2] (by kernel_rfl) H)
theorem svOwz (l:List Bk) (h:Bool) (s:List Sb) (n i:Int)  (dq:AV) (H :
  ((i < n) -> (0 <= i) /\
   (i.toNat < s.length) /\
   (Sp.few6 (s.getD i.toNat default).3.length) /\
   (-9223372036854775808 <= i + 1 /\ i + 1 <= 9223372036854775807) /\
   svOwa_at (l) (h) (s) (n) (i + 1) ([{ n:=(s.getD i.toNat default).n,f:=false,bl:=(s.getD i.toNat default).3 }]) (0) (PureQ dq)) /\
  (¬(i < n) -> Weak (ag [AV.vec false 3 (List.map Bk.a l),AV.vnil]) dq)) :
 svOwz_at l h s n i (PureQ dq):=by
 unfold svOwz_at
 rcases xm (i < n) with d2 | d2
 ·have H:=H.1 d2
  obtain ⟨k4,H⟩:=H
  have w5:(List.map Sb.a s).length = s.length:=List.length_map ..
  have i6:(decide (i.toNat < (List.map Sb.a s).length)) = true ↔ (i.toNat < s.length):=(by (try rw [w5]);all_goals exact i_dec)
  obtain ⟨k7,H⟩:=H
  obtain ⟨k8,H⟩:=H
  obtain ⟨k9,H⟩:=H
  have w10:wi (i + 1) = i + 1:=wI64 k9
  have w11:[ag [vi (s.getD i.toNat default).n,AV.vec false 3 (List.map Bk.a (s.getD i.toNat default).3)]] = List.map Sb.a [{ n:=(s.getD i.toNat default).n,f:=false,bl:=(s.getD i.toNat default).3 }]:=rfl
  exact path_wp (G:=given kp17 [(4,1,.elem (ag [vi (s.getD i.toNat default).n,AV.vec (s.getD i.toNat default).2 3 (List.map Bk.a (s.getD i.toNat default).3)])),(5,6,.call (AV.vec false 3 (List.map Bk.a (s.getD i.toNat default).3)) none)] []) 1000 [true] ⟨(atC (cd Try.f17) [1,1,0,1,0,0]),[(2,AV.ptr 0 0 0 0),(3,AV.ptr 1 0 0 0),(11,AV.vec h 2 (List.map Sb.a s)),(12,vi n),(13,vi (wi (i + 1)))],[⟨[ag [AV.vnil,AV.vnil]],2,0,false,false⟩,⟨[ag [AV.vec false 3 (List.map Bk.a l),AV.row 3 0]],2,0,false,false⟩,⟨[ag [vi (s.getD i.toNat default).n,AV.vec (s.getD i.toNat default).2 3 (List.map Bk.a (s.getD i.toNat default).3)]],2,0,false,false⟩,⟨[ag [vi (s.getD i.toNat default).n,AV.vec false 3 (List.map Bk.a (s.getD i.toNat default).3)]],2,0,false,true⟩],_,[((List.map Sb.a s).get?Internal i.toNat = some (ag [vi (s.getD i.toNat default).n,AV.vec (s.getD i.toNat default).2 3 (List.map Bk.a (s.getD i.toNat default).3)]))],_⟩ (by kernel_rfl) (bc (beq_t (i_dec.2 d2)) (bc (i_dec.2 k4) (bc (i6.2 k7) (bc rfl (bc rfl (bc rfl (bc rfl (bc rfl (bc rfl b0))))))))) (qc (el_map k7) q0) (ce (@ev22 ((s.getD i.toNat default).2) ((s.getD i.toNat default).3) k8) c0) (by (try rw [w10]);(try rw [w11]);all_goals exact wp_narrow [0,1,3] (by kernel_rfl) H)
 ·have H:=H.2 d2
  exact path_rq (G:=given kp17 [] []) 1000 [false] (ag [AV.vec false 3 (List.map Bk.a l),AV.vnil]) (by kernel_rfl) (bc (beq_f (fun h => d2 (i_dec.1 h))) (bc rfl (bc rfl b0))) q0 c0 H
theorem svOwa (l:List Bk) (h:Bool) (s:List Sb) (n i:Int) (o:List Sb) (v:Nat)  (dq:AV) (H :
  ((i < n) -> (0 <= i) /\
   (i.toNat < s.length) /\
   (Sp.few6 (s.getD i.toNat default).3.length) /\
   ((o.length + 1) * 32 <= 1099511627776) /\
   (-9223372036854775808 <= i + 1 /\ i + 1 <= 9223372036854775807) /\
   svOwa_at (l) (h) (s) (n) (i + 1) (o ++ [{ n:=(s.getD i.toNat default).n,f:=false,bl:=(s.getD i.toNat default).3 }]) (v + 1) (PureQ dq)) /\
  (¬(i < n) -> Weak (ag [AV.vec false 3 (List.map Bk.a l),AV.vec false 2 (List.map Sb.a o)]) dq)) :
 svOwa_at l h s n i o v (PureQ dq):=by
 unfold svOwa_at
 rcases xm (i < n) with d2 | d2
 ·have H:=H.1 d2
  obtain ⟨k4,H⟩:=H
  have w5:(List.map Sb.a s).length = s.length:=List.length_map ..
  have i6:(decide (i.toNat < (List.map Sb.a s).length)) = true ↔ (i.toNat < s.length):=(by (try rw [w5]);all_goals exact i_dec)
  obtain ⟨k7,H⟩:=H
  obtain ⟨k8,H⟩:=H
  have w9:(List.map Sb.a o).length = o.length:=List.length_map ..
  have i10:(decide (((List.map Sb.a o).length + 1) * 32 <= 1099511627776)) = true ↔ ((o.length + 1) * 32 <= 1099511627776):=(by (try rw [w9]);all_goals exact i_dec)
  obtain ⟨k11,H⟩:=H
  have w12:List.map Sb.a o ++ [ag [vi (s.getD i.toNat default).n,AV.vec false 3 (List.map Bk.a (s.getD i.toNat default).3)]] = List.map Sb.a (o ++ [{ n:=(s.getD i.toNat default).n,f:=false,bl:=(s.getD i.toNat default).3 }]):=(lm_app rfl rfl)
  obtain ⟨k13,H⟩:=H
  have w14:wi (i + 1) = i + 1:=wI64 k13
  exact path_wp (G:=given kp17 [(4,1,.elem (ag [vi (s.getD i.toNat default).n,AV.vec (s.getD i.toNat default).2 3 (List.map Bk.a (s.getD i.toNat default).3)])),(5,6,.call (AV.vec false 3 (List.map Bk.a (s.getD i.toNat default).3)) none)] []) 1000 [true] ⟨(atC (cd Try.f17) [1,1,0,1,0,0]),[(2,AV.ptr 0 0 0 0),(3,AV.ptr 1 0 0 0),(11,AV.vec h 2 (List.map Sb.a s)),(12,vi n),(13,vi (wi (i + 1)))],[⟨[ag [AV.vnil,AV.vnil]],2,0,false,false⟩,⟨[ag [AV.vec false 3 (List.map Bk.a l),AV.row 2 (v + 1)]],2,0,false,false⟩,⟨List.map Sb.a o ++ [ag [vi (s.getD i.toNat default).n,AV.vec false 3 (List.map Bk.a (s.getD i.toNat default).3)]],2,v + 1,false,true⟩,⟨[ag [vi (s.getD i.toNat default).n,AV.vec (s.getD i.toNat default).2 3 (List.map Bk.a (s.getD i.toNat default).3)]],2,0,false,false⟩],[(decide (i < n)) == true,decide (0 <= i),decide (i.toNat < (List.map Sb.a s).length),true,true,true,true,v == v,decide (((List.map Sb.a o).length + 1) * 32 <= 1099511627776),true],[((List.map Sb.a s).get?Internal i.toNat = some (ag [vi (s.getD i.toNat default).n,AV.vec (s.getD i.toNat default).2 3 (List.map Bk.a (s.getD i.toNat default).3)]))],_⟩ (by kernel_rfl) (bc (beq_t (i_dec.2 d2)) (bc (i_dec.2 k4) (bc (i6.2 k7) (bc rfl (bc rfl (bc rfl (bc rfl (bc (beq_self_eq_true _) (bc (i10.2 k11) (bc rfl b0)))))))))) (qc (el_map k7) q0) (ce (@ev22 ((s.getD i.toNat default).2) ((s.getD i.toNat default).3) k8) c0) (by (try rw [w12]);(try rw [w14]);all_goals exact wp_narrow [0,1,2] (by kernel_rfl) H)
 ·have H:=H.2 d2
  exact path_ret (G:=given kp17 [] []) 1000 [false] (k:=((atC (cd Try.f17) [1,1,1,1])).tail) (env':=[(2,AV.ptr 0 0 0 0)]) (L':=[⟨[ag [AV.vec false 3 (List.map Bk.a l),AV.row 2 v]],2,0,false,false⟩,⟨[ag [AV.vec false 3 (List.map Bk.a l),AV.row 2 v]],2,0,false,false⟩,⟨List.map Sb.a o,2,v,false,true⟩]) (asm:=[(decide (i < n)) == false,true,true]) (eqs:=[]) (calls:=[]) (ag [AV.vec false 3 (List.map Bk.a l),AV.row 2 v]) (by kernel_rfl) (by kernel_rfl) (allB_cons (beq_f (fun h => d2 (i_dec.1 h))) (allB_cons rfl (allB_cons rfl allB_nil))) allP_nil allC_nil (pq_weak (d:=(ag [AV.vec false 3 (List.map Bk.a l),AV.vec false 2 (List.map Sb.a o)])) (bs:=[v == v]) (by kernel_rfl) (by kernel_rfl) (allB_cons (beq_self_eq_true _) allB_nil) (by kernel_rfl) H)
theorem svFw (g:Bool) (l:List Bk) (h:Bool) (s:List Sb)  (dq:AV) (H :
  ((¬((↑s.length:Int) > 12)) -> (Sp.mO 40)) /\
  ((((↑s.length:Int) > 12) \/ (¬(Sp.fewB l 40 = true))) -> vb false = dq) /\
  (¬(((↑s.length:Int) > 12) \/ (¬(Sp.fewB l 40 = true))) -> svFwa_at (g) (l) (h) (s) (0) (PureQ dq))) :
 svFw_at g l h s (PureQ dq):=by
 unfold svFw_at
 have w1:(List.map Sb.a s).length = s.length:=List.length_map ..
 have i2:(decide ((↑(List.map Sb.a s).length:Int) > 12) == false && true && true) = true ↔ (¬((↑s.length:Int) > 12)):=(by (try rw [w1]);all_goals exact (i_at (i_at (i_bf i_dec))))
 obtain ⟨k3,H⟩:=H
 have i4:(bif decide ((↑(List.map Sb.a s).length:Int) > 12) then true else !Sp.fewB l 40) = true ↔ (((↑s.length:Int) > 12) \/ (¬(Sp.fewB l 40 = true))):=(by (try rw [w1]);all_goals exact (i_bor i_dec (i_not (i_var _))))
 refine path_wp (G:=given kp44 [(1,7,.call (vb (Sp.fewB l 40)) none)] []) 5 [] ⟨(atC (cd Try.f44) [1,0,1]),[(1,AV.ptr 0 0 0 0),(13,vb (bif decide ((↑(List.map Sb.a s).length:Int) > 12) then true else !Sp.fewB l 40))],[⟨[ag [AV.vec g 3 (List.map Bk.a l),AV.vec h 2 (List.map Sb.a s)]],2,0,false,false⟩],[true,!(decide ((↑(List.map Sb.a s).length:Int) > 12) == false && true) || true],[],[⟨decide ((↑(List.map Sb.a s).length:Int) > 12) == false && true && true,false,38,[AV.vec g 3 (List.map Bk.a l),vi 40],[],vb (Sp.fewB l 40),[]⟩]⟩ (by kernel_rfl) (bc rfl (bc (Bool.or_true _) b0)) q0 (cc (fun hc => ((@ev38 (g) (l) (40) (k3 (i2.1 hc))):Ev M1 (Conf.pure 38 [AV.vec g 3 (List.map Bk.a l),vi 40]) (vb (Sp.fewB l 40)) [])) c0) ?_
 rcases xm (((↑s.length:Int) > 12) \/ (¬(Sp.fewB l 40 = true))) with d5 | d5
 ·have H:=H.1 d5
  exact path_re (G:=given kp44 [] []) 1000 [true] (vb false) (by kernel_rfl) (bc (beq_t (i4.2 d5)) b0) q0 c0 H
 ·have H:=H.2 d5
  exact path_wp (G:=given kp44 [] []) 1000 [false] ⟨(atC (cd Try.f44) [1,1,0,1,0,0]),[(1,AV.ptr 0 0 0 0),(3,vi 0)],[⟨[ag [AV.vec g 3 (List.map Bk.a l),AV.vec h 2 (List.map Sb.a s)]],2,0,false,false⟩],_,[],_⟩ (by kernel_rfl) (bc (beq_f (fun h => d5 (i4.1 h))) b0) q0 c0 (H)
noncomputable abbrev zSpY1 (s:List Sb) (i:Int):=bif !Sp.fewB (s.getD i.toNat default).3 40 then true else decide ((s.getD i.toNat default).n > 1000000)
noncomputable abbrev zSpY2 (s:List Sb) (i:Int):=bif bif !Sp.fewB (s.getD i.toNat default).3 40 then true else decide ((s.getD i.toNat default).n > 1000000) then true else decide ((s.getD i.toNat default).n < -1000000)
theorem svFwa (g:Bool) (l:List Bk) (h:Bool) (s:List Sb) (i:Int)  (dq:AV) (H :
  ((i < (↑s.length:Int)) -> (Sp.mO 40) /\
   (0 <= i) /\
   (i.toNat < s.length) /\
   ((((¬(Sp.fewB (s.getD i.toNat default).3 40 = true)) \/ ((s.getD i.toNat default).n > 1000000)) \/ ((s.getD i.toNat default).n < -1000000)) -> vb false = dq) /\
   (¬(((¬(Sp.fewB (s.getD i.toNat default).3 40 = true)) \/ ((s.getD i.toNat default).n > 1000000)) \/ ((s.getD i.toNat default).n < -1000000)) -> (-9223372036854775808 <= i + 1 /\ i + 1 <= 9223372036854775807) /\
    svFwa_at (g) (l) (h) (s) (i + 1) (PureQ dq))) /\
  (¬(i < (↑s.length:Int)) -> vb true = dq)) :
 svFwa_at g l h s i (PureQ dq):=by
 unfold svFwa_at
 have w1:(List.map Sb.a s).length = s.length:=List.length_map ..
 have i2:(decide (i < (↑(List.map Sb.a s).length:Int))) = true ↔ (i < (↑s.length:Int)):=(by (try rw [w1]);all_goals exact i_dec)
 rcases xm (i < (↑s.length:Int)) with d3 | d3
 ·have H:=H.1 d3
  obtain ⟨k4,H⟩:=H
  obtain ⟨k6,H⟩:=H
  have i7:(decide (i.toNat < (List.map Sb.a s).length)) = true ↔ (i.toNat < s.length):=(by (try rw [w1]);all_goals exact i_dec)
  obtain ⟨k8,H⟩:=H
  have i10:(!((!Sp.fewB (s.getD i.toNat default).3 40) == false && true) || decide (i.toNat < (List.map Sb.a s).length)) = true ↔ ((¬(¬(Sp.fewB (s.getD i.toNat default).3 40 = true))) -> (i.toNat < s.length)):=(by (try rw [w1]);all_goals exact (i_imp (i_at (i_bf (i_not (i_var _)))) i_dec))
  have i12:(!((zSpY1 s i) == false && true) || decide (i.toNat < (List.map Sb.a s).length)) = true ↔ ((¬((¬(Sp.fewB (s.getD i.toNat default).3 40 = true)) \/ ((s.getD i.toNat default).n > 1000000))) -> (i.toNat < s.length)):=(by (try rw [w1]);all_goals exact (i_imp (i_at (i_bf (i_bor (i_not (i_var _)) i_dec))) i_dec))
  refine path_wp (G:=given kp44 [(6,5,.elem (ag [vi (s.getD i.toNat default).n,AV.vec (s.getD i.toNat default).2 3 (List.map Bk.a (s.getD i.toNat default).3)])),(6,6,.call (vb (Sp.fewB (s.getD i.toNat default).3 40)) none),(6,14,.elem (ag [vi (s.getD i.toNat default).n,AV.vec (s.getD i.toNat default).2 3 (List.map Bk.a (s.getD i.toNat default).3)])),(6,23,.elem (ag [vi (s.getD i.toNat default).n,AV.vec (s.getD i.toNat default).2 3 (List.map Bk.a (s.getD i.toNat default).3)]))] []) 9 [true] ⟨(atC (cd Try.f44) [1,1,0,1,0,0,1,0,0,1]),[(1,AV.ptr 0 0 0 0),(3,vi i),(46,vb (zSpY2 s i))],[⟨[ag [AV.vec g 3 (List.map Bk.a l),AV.vec h 2 (List.map Sb.a s)]],2,0,false,false⟩],[true,(decide (i < (↑(List.map Sb.a s).length:Int))) == true,true,decide (0 <= i),decide (i.toNat < (List.map Sb.a s).length),!((!Sp.fewB (s.getD i.toNat default).3 40) == false && true) || true,!((!Sp.fewB (s.getD i.toNat default).3 40) == false && true) || decide (0 <= i),!((!Sp.fewB (s.getD i.toNat default).3 40) == false && true) || decide (i.toNat < (List.map Sb.a s).length),!((zSpY1 s i) == false && true) || true,!((zSpY1 s i) == false && true) || decide (0 <= i),!((zSpY1 s i) == false && true) || decide (i.toNat < (List.map Sb.a s).length)],[((List.map Sb.a s).get?Internal i.toNat = some (ag [vi (s.getD i.toNat default).n,AV.vec (s.getD i.toNat default).2 3 (List.map Bk.a (s.getD i.toNat default).3)])),(((!Sp.fewB (s.getD i.toNat default).3 40) == false && true) = true -> (List.map Sb.a s).get?Internal i.toNat = some (ag [vi (s.getD i.toNat default).n,AV.vec (s.getD i.toNat default).2 3 (List.map Bk.a (s.getD i.toNat default).3)])),(((zSpY1 s i) == false && true) = true -> (List.map Sb.a s).get?Internal i.toNat = some (ag [vi (s.getD i.toNat default).n,AV.vec (s.getD i.toNat default).2 3 (List.map Bk.a (s.getD i.toNat default).3)]))],_⟩ (by kernel_rfl) (bc rfl (bc (beq_t (i2.2 d3)) (bc rfl (bc (i_dec.2 k6) (bc (i7.2 k8) (bc (Bool.or_true _) (bc ((i_imp (i_at (i_bf (i_not (i_var _)))) i_dec).2 (fun _ => k6)) (bc (i10.2 (fun _ => k8)) (bc (Bool.or_true _) (bc ((i_imp (i_at (i_bf (i_bor (i_not (i_var _)) i_dec))) i_dec).2 (fun _ => k6)) (bc (i12.2 (fun _ => k8)) b0))))))))))) (qc (el_map k8) (qc (fun h => el_map k8) (qc (fun h => el_map k8) q0))) (ce (@ev38 ((s.getD i.toNat default).2) ((s.getD i.toNat default).3) (40) k4) c0) ?_
  rcases xm (((¬(Sp.fewB (s.getD i.toNat default).3 40 = true)) \/ ((s.getD i.toNat default).n > 1000000)) \/ ((s.getD i.toNat default).n < -1000000)) with d16 | d16
  ·have H:=H.1 d16
   exact path_re (G:=given kp44 [] []) 1000 [true] (asm:=[(zSpY2 s i) == true]) (vb false) (by kernel_rfl) (bc (beq_t ((i_bor (i_bor (i_not (i_var _)) i_dec) i_dec).2 d16)) b0) q0 c0 H
  ·have H:=H.2 d16
   obtain ⟨k17,H⟩:=H
   have w18:wi (i + 1) = i + 1:=wI64 k17
   exact path_wp (G:=given kp44 [] []) 1000 [false] ⟨(atC (cd Try.f44) [1,1,0,1,0,0]),[(1,AV.ptr 0 0 0 0),(3,vi (wi (i + 1)))],[⟨[ag [AV.vec g 3 (List.map Bk.a l),AV.vec h 2 (List.map Sb.a s)]],2,0,false,false⟩],[(zSpY2 s i) == false],[],_⟩ (by kernel_rfl) (bc (beq_f (fun h => d16 ((i_bor (i_bor (i_not (i_var _)) i_dec) i_dec).1 h))) b0) q0 c0 (by (try rw [w18]);all_goals exact H)
 ·have H:=H.2 d3
  exact path_re (G:=given kp44 [] []) 1000 [false] (vb true) (by kernel_rfl) (bc rfl (bc (beq_f (fun h => d3 (i2.1 h))) b0)) q0 c0 H
end Go.Av

namespace Go.Av
open Go.Proofs
set_option maxRecDepth 100000
end Go.Av

namespace Go.Av
open Go.Proofs
namespace Sp
def oB (m:Int):Bk:=⟨false,true,[⟨79,1000 * m⟩],[]⟩
def mB:Bk:=⟨false,true,[⟨77,99000⟩],[]⟩
def one (x:Sb):List Bk:=oB x.n :: x.bl ++ [mB]
def joinS (s:List Sb):List Bk:=s.flatMap one
def own (s:List Sb):List Sb:=s.map fun x => ⟨x.n,false,x.bl⟩
def fewP (l:List Bk) (s:List Sb):Bool:=decide ((s.length:Int) <= 12) && (fewB l 40 && s.all fun x => fewB x.bl 40 && decide (-1000000 <= x.n /\ x.n <= 1000000))
end Sp
theorem own_snoc {s:List Sb} {i:Nat} (hi:i < s.length):Sp.own (s.take i) ++ [⟨(s.getD i default).n,false,(s.getD i default).bl⟩] = Sp.own (s.take (i + 1)):=by
 unfold Sp.own
 rw [List.take_add_one,List.map_append,List.getD_eq_getElem?_getD,List.getElem?_eq_getElem hi];rfl
theorem svOwa_loop {h:Bool} {l:List Bk} {s:List Sb} {dq:AV} (hs:s.length <= 1000000) (hk:∀ x ∈ s,x.bl.length <= 1000000) (hq:pgA false false l (Sp.own s) = dq):∀ (c i v:Nat),i + c = s.length -> svOwa_at l h s s.length i (Sp.own (s.take i)) v (PureQ dq):=by
 intro c
 induction c with
 | zero =>
  intro i v hi
  rw [List.take_of_length_le (by omega)]
  exact svOwa _ _ _ _ _ _ _ _ ⟨fun h => by omega,fun _ => by rw [<- hq];exact .refl _⟩
 | succ c ih =>
  intro i v hi
  refine svOwa _ _ _ _ _ _ _ _ ⟨fun _ => ?_,fun h => by omega⟩
  rw [Int.toNat_natCast]
  refine ⟨by omega,by omega,hk _ (getD_mem (show i < s.length by omega)),by unfold Sp.own;simp;omega,by omega,?_⟩
  rw [own_snoc (by omega)]
  exact ih (i + 1) (v + 1) (by omega)
theorem ev17 (g h:Bool) (l:List Bk) (s:List Sb) (hk:l.length <= 1000000 /\ s.length <= 1000000 /\ ∀ x ∈ s,x.bl.length <= 1000000):Ev M1 (.pure 17 [pgA g h l s]) (pgA false false l (Sp.own s)) []:=by
 obtain ⟨hl,hs,hk⟩:=hk
 refine call17 (svOw _ _ _ _ _ ⟨hl,svOwz _ _ _ _ _ _ ?_⟩)
 by_cases h0:s.length = 0
 ·rw [List.length_eq_zero_iff.1 h0]
  exact ⟨fun h => by simp at h,fun _ => weak_agg2 (.refl _) (.vnil 2)⟩
 ·refine ⟨fun _ => ⟨by omega,by simp;omega,hk _ (getD_mem (by simp;omega)),by omega,?_⟩,fun h => by omega⟩
  have e:=own_snoc (s:=s) (i:=0) (by omega)
  rw [List.take_zero,show Sp.own [] = [] from rfl,List.nil_append] at e
  have:=svOwa_loop (h:=h) (l:=l) hs hk rfl (s.length - 1) 1 0 (by omega)
  rw [<- e] at this
  exact this
theorem svFwa_loop {g h:Bool} {l:List Bk} {s:List Sb} {dq:AV} (hs:s.length <= 12):∀ (c i:Nat),i + c = s.length -> AV.bool ((s.drop i).all fun x => Sp.fewB x.bl 40 && decide (-1000000 <= x.n /\ x.n <= 1000000)) = dq -> svFwa_at g l h s i (PureQ dq):=by
 intro c
 induction c with
 | zero =>
  intro i hi hq
  rw [List.drop_eq_nil_of_le (by omega)] at hq
  exact svFwa _ _ _ _ _ _ ⟨fun h => by omega,fun _ => hq⟩
 | succ c ih =>
  intro i hi hq
  rw [drop_getD (show i < s.length by omega),List.all_cons] at hq
  refine svFwa _ _ _ _ _ _ ⟨fun _ => ?_,fun h => by omega⟩
  rw [Int.toNat_natCast]
  refine ⟨show (40:Int) <= 1000000 by omega,by omega,by omega,fun k => ?_,fun k => ⟨by omega,ih (i + 1) (by omega) ?_⟩⟩
  ·rw [<- hq]
   congr 1
   rcases k with (k | k) | k
   ·rw [Bool.eq_false_iff.2 k];rfl
   ·rw [decide_eq_false (by omega),Bool.and_false];rfl
   ·rw [decide_eq_false (by omega),Bool.and_false];rfl
  ·rw [<- hq,decide_eq_true (p:=-1000000 <= (s.getD i default).n /\ (s.getD i default).n <= 1000000) ⟨by
    have:¬((s.getD i default).n < -1000000):=fun y => k (.inr y)
    omega,by
    have:¬((s.getD i default).n > 1000000):=fun y => k (.inl (.inr y))
    omega⟩,Classical.byContradiction (p:=Sp.fewB (s.getD i default).bl 40 = true) fun y => k (.inl (.inl y))]
   simp
theorem ev44 (g h:Bool) (l:List Bk) (s:List Sb):Ev M1 (.pure 44 [pgA g h l s]) (.bool (Sp.fewP l s)) []:=by
 refine call44 (svFw _ _ _ _ _ ⟨fun _ => show (40:Int) <= 1000000 by omega,fun k => ?_,fun k => ?_⟩)
 ·unfold Sp.fewP
  congr 1
  rcases k with k | k
  ·rw [decide_eq_false (by omega),Bool.false_and]
  ·rw [Bool.eq_false_iff.2 k,Bool.false_and,Bool.and_false]
 ·have k1:¬((s.length:Int) > 12):=fun y => k (.inl y)
  have k2:Sp.fewB l 40 = true:=Classical.byContradiction fun y => k (.inr y)
  refine svFwa_loop (by omega) s.length 0 (by omega) ?_
  unfold Sp.fewP
  rw [decide_eq_true (show (s.length:Int) <= 12 by omega),k2,List.drop_zero,Bool.true_and,Bool.true_and]
end Go.Av

namespace Go.Av
open Go.Proofs
set_option maxRecDepth 100000
def fi15:Fi:=⟨26,[.tmp 2]⟩
def kp15:List (Nat × List Nat):=[(0,[1]),(1,[1,13]),(2,[2]),(3,[15,16,17]),(4,[15,16,17,18]),(5,[4,15,16,17]),(6,[15,16,17,24]),(7,[2]),(8,[15,16,17]),(9,[2])]
def svFl_at (g:Bool) (l:List Bk) (h:Bool) (s:List Sb) (Q:AV -> Heap -> Prop):Prop:=Wp M1 (.run fi15 (atC (cd Try.f15) []) [(0,.agg [.vec g 3 (l.map Bk.a),.vec h 2 (s.map Sb.a)])] []) Q
def svFla_at (h:Bool) (s:List Sb) (n i:Int) (Q:AV -> Heap -> Prop):Prop:=Wp M1 (.run fi15 (atC (cd Try.f15) [1,1,0,1,0,0]) [(15,.vec h 2 (s.map Sb.a)),(16,.int .i64 n),(17,.int .i64 i)] []) Q
theorem call15 {args:List AV} {d:AV} (h:wc M1 fi15 Try.f15 args d):Ev M1 (.pure 15 args) d []:=pcl _ _ (by kernel_rfl) h
theorem svFl (g:Bool) (l:List Bk) (h:Bool) (s:List Sb)  (dq:AV) (H :
  ((¬(¬(Sp.fewP l s = true))) -> (Sp.mO 40)) /\
  (((¬(Sp.fewP l s = true)) \/ (¬(Sp.vals l 40 = true))) -> vb false = dq) /\
  (¬((¬(Sp.fewP l s = true)) \/ (¬(Sp.vals l 40 = true))) -> svFla_at (h) (s) ((↑s.length:Int)) (0) (PureQ dq))) :
 svFl_at g l h s (PureQ dq):=by
 unfold svFl_at
 obtain ⟨k2,H⟩:=H
 refine path_wp (G:=given kp15 [(1,1,.call (vb (Sp.fewP l s)) none),(1,6,.call (vb (Sp.vals l 40)) none)] []) 5 [] ⟨(atC (cd Try.f15) [1,0,1]),[(1,AV.ptr 0 0 0 0),(13,vb (bif !Sp.fewP l s then true else !Sp.vals l 40))],[⟨[ag [AV.vec g 3 (List.map Bk.a l),AV.vec h 2 (List.map Sb.a s)]],2,0,false,false⟩],[true,!((!Sp.fewP l s) == false && true) || true],[],[⟨true,false,44,[ag [AV.vec g 3 (List.map Bk.a l),AV.vec h 2 (List.map Sb.a s)]],[],vb (Sp.fewP l s),[]⟩,⟨(!Sp.fewP l s) == false && true && true,false,12,[AV.vec g 3 (List.map Bk.a l),vi 40],[],vb (Sp.vals l 40),[]⟩]⟩ (by kernel_rfl) (bc rfl (bc (Bool.or_true _) b0)) q0 (cc (fun _ => (@ev44 (g) (h) (l) (s))) (cc (fun hc => ((@ev12 (g) (l) (40) (k2 ((i_at (i_at (i_bf (i_not (i_var _))))).1 hc))):Ev M1 (Conf.pure 12 [AV.vec g 3 (List.map Bk.a l),vi 40]) (vb (Sp.vals l 40)) [])) c0)) ?_
 rcases xm ((¬(Sp.fewP l s = true)) \/ (¬(Sp.vals l 40 = true))) with d4 | d4
 ·have H:=H.1 d4
  exact path_re (G:=given kp15 [] []) 1000 [true] (asm:=[(bif !Sp.fewP l s then true else !Sp.vals l 40) == true]) (vb false) (by kernel_rfl) (bc (beq_t ((i_bor (i_not (i_var _)) (i_not (i_var _))).2 d4)) b0) q0 c0 H
 ·have H:=H.2 d4
  have w5:(List.map Sb.a s).length = s.length:=List.length_map ..
  exact path_wp (G:=given kp15 [] []) 1000 [false] ⟨(atC (cd Try.f15) [1,1,0,1,0,0]),[(15,AV.vec h 2 (List.map Sb.a s)),(16,vi (↑(List.map Sb.a s).length:Int)),(17,vi 0)],[⟨[ag [AV.vec g 3 (List.map Bk.a l),AV.vec h 2 (List.map Sb.a s)]],2,0,false,false⟩],[(bif !Sp.fewP l s then true else !Sp.vals l 40) == false,true],[],_⟩ (by kernel_rfl) (bc (beq_f (fun h => d4 ((i_bor (i_not (i_var _)) (i_not (i_var _))).1 h))) (bc rfl b0)) q0 c0 (by (try rw [w5]);all_goals exact wp_narrow [] (by kernel_rfl) H)
theorem svFla (h:Bool) (s:List Sb) (n i:Int)  (dq:AV) (H :
  ((i < n) -> (0 <= i) /\
   (i.toNat < s.length) /\
   (Sp.mO 40) /\
   ((¬(Sp.vals (s.getD i.toNat default).3 40 = true)) -> vb false = dq) /\
   (¬(¬(Sp.vals (s.getD i.toNat default).3 40 = true)) -> (-9223372036854775808 <= i + 1 /\ i + 1 <= 9223372036854775807) /\
    svFla_at (h) (s) (n) (i + 1) (PureQ dq))) /\
  (¬(i < n) -> vb true = dq)) :
 svFla_at h s n i (PureQ dq):=by
 unfold svFla_at
 rcases xm (i < n) with d2 | d2
 ·have H:=H.1 d2
  obtain ⟨k4,H⟩:=H
  have w5:(List.map Sb.a s).length = s.length:=List.length_map ..
  have i6:(decide (i.toNat < (List.map Sb.a s).length)) = true ↔ (i.toNat < s.length):=(by (try rw [w5]);all_goals exact i_dec)
  obtain ⟨k7,H⟩:=H
  obtain ⟨k8,H⟩:=H
  refine path_wp (G:=given kp15 [(5,1,.elem (ag [vi (s.getD i.toNat default).n,AV.vec (s.getD i.toNat default).2 3 (List.map Bk.a (s.getD i.toNat default).3)])),(6,2,.call (vb (Sp.vals (s.getD i.toNat default).3 40)) none)] []) 11 [true] ⟨(atC (cd Try.f15) [1,1,0,1,0,0,1,1,0,0,1,1]),[(15,AV.vec h 2 (List.map Sb.a s)),(16,vi n),(17,vi i),(24,vb !Sp.vals (s.getD i.toNat default).3 40)],[⟨[ag [vi (s.getD i.toNat default).n,AV.vec (s.getD i.toNat default).2 3 (List.map Bk.a (s.getD i.toNat default).3)]],2,0,false,false⟩],_,[((List.map Sb.a s).get?Internal i.toNat = some (ag [vi (s.getD i.toNat default).n,AV.vec (s.getD i.toNat default).2 3 (List.map Bk.a (s.getD i.toNat default).3)]))],_⟩ (by kernel_rfl) (bc (beq_t (i_dec.2 d2)) (bc (i_dec.2 k4) (bc (i6.2 k7) (bc rfl (bc rfl b0))))) (qc (el_map k7) q0) (ce (@ev12 ((s.getD i.toNat default).2) ((s.getD i.toNat default).3) (40) k8) c0) ?_
  rcases xm (¬(Sp.vals (s.getD i.toNat default).3 40 = true)) with d10 | d10
  ·have H:=H.1 d10
   exact path_re (G:=given kp15 [] []) 1000 [true] (asm:=[(!Sp.vals (s.getD i.toNat default).3 40) == true]) (vb false) (by kernel_rfl) (bc (beq_t ((i_not (i_var _)).2 d10)) b0) q0 c0 H
  ·have H:=H.2 d10
   obtain ⟨k11,H⟩:=H
   have w12:wi (i + 1) = i + 1:=wI64 k11
   exact path_wp (G:=given kp15 [] []) 1000 [false] ⟨(atC (cd Try.f15) [1,1,0,1,0,0]),[(15,AV.vec h 2 (List.map Sb.a s)),(16,vi n),(17,vi (wi (i + 1)))],[⟨[ag [vi (s.getD i.toNat default).n,AV.vec (s.getD i.toNat default).2 3 (List.map Bk.a (s.getD i.toNat default).3)]],2,0,false,false⟩],[(!Sp.vals (s.getD i.toNat default).3 40) == false],[],_⟩ (by kernel_rfl) (bc (beq_f (fun h => d10 ((i_not (i_var _)).1 h))) b0) q0 c0 (by (try rw [w12]);all_goals exact wp_narrow [] (by kernel_rfl) H)
 ·have H:=H.2 d2
  exact path_re (G:=given kp15 [] []) 1000 [false] (vb true) (by kernel_rfl) (bc (beq_f (fun h => d2 (i_dec.1 h))) b0) q0 c0 H
end Go.Av

namespace Go.Av
open Go.Proofs
def Sb.fine (x:Sb):Prop:=Sp.okBs x.bl /\ 1 <= x.n /\ x.n <= 9999
structure Fine (m:List Bk) (N:Nat) (k:List (Bool × List Wo × List UInt8)) (z:List Bk × List Sb × Int):Prop where
 main:z.1 = [] \/ z.1 = m
 len:z.2.1.length <= N
 sub:∀ x ∈ z.2.1,x.fine
 key:z.2.2 = 0 -> z.1 = m /\ (Sp.joinS z.2.1).map Bk.key = k
end Go.Av

namespace Go.Av
open Go.Proofs
theorem svFla_loop {h:Bool} {s:List Sb} {dq:AV} (hs:s.length <= 1000000):∀ (c i:Nat),i + c = s.length -> AV.bool ((s.drop i).all fun x => Sp.vals x.bl 40) = dq -> svFla_at h s s.length i (PureQ dq):=by
 intro c
 induction c with
 | zero =>
  intro i hi hq
  rw [List.drop_eq_nil_of_le (by omega)] at hq
  exact svFla _ _ _ _ _ ⟨fun h => by omega,fun _ => hq⟩
 | succ c ih =>
  intro i hi hq
  rw [drop_getD (show i < s.length by omega),List.all_cons] at hq
  refine svFla _ _ _ _ _ ⟨fun _ => ?_,fun h => by omega⟩
  rw [Int.toNat_natCast]
  refine ⟨by omega,by omega,show (40:Int) <= 1000000 by omega,fun k => ?_,fun k => ⟨by omega,ih (i + 1) (by omega) ?_⟩⟩
  ·rw [<- hq,Bool.eq_false_iff.2 k];rfl
  ·rw [<- hq,Classical.not_not.1 k];rfl
namespace Sp
def fewA (l:List Bk) (s:List Sb):Bool:=fewP l s && (vals l 40 && s.all fun x => vals x.bl 40)
end Sp
theorem ev15 (g h:Bool) (l:List Bk) (s:List Sb):Ev M1 (.pure 15 [pgA g h l s]) (.bool (Sp.fewA l s)) []:=by
 refine call15 (svFl _ _ _ _ _ ⟨fun _ => show (40:Int) <= 1000000 by omega,fun k => ?_,fun k => ?_⟩)
 ·unfold Sp.fewA
  congr 1
  rcases k with k | k
  ·rw [Bool.eq_false_iff.2 k];rfl
  ·rw [Bool.eq_false_iff.2 k,Bool.false_and,Bool.and_false]
 ·have k1:Sp.fewP l s = true:=Classical.byContradiction fun y => k (.inl y)
  have k2:Sp.vals l 40 = true:=Classical.byContradiction fun y => k (.inr y)
  refine svFla_loop ?_ s.length 0 (by omega) ?_
  ·unfold Sp.fewP at k1
   simp only [Bool.and_eq_true] at k1
   have:=of_decide_eq_true k1.1
   omega
  ·unfold Sp.fewA
   rw [k1,k2,List.drop_zero,Bool.true_and,Bool.true_and]
end Go.Av

namespace Go.Av
open Go.Proofs
set_option maxRecDepth 100000
end Go.Av

namespace Go.Av
open Go.Proofs
namespace Sp
def blks (l:List Bk) (s:List Sb):List Bk:=l ++ s.flatMap (·.bl)
end Sp
end Go.Av

namespace Go.Av
open Go.Proofs
set_option maxRecDepth 100000
end Go.Av

namespace Go.Av
open Go.Proofs
namespace Sp
def cap (x:Int):Int:=if x < 20001 then x else 20001
def mx (a b:Int):Int:=if a > b then a else b
def found (s:List Sb) (b:List Bk):Prop:=∀ x ∈ b,cIs x.ws = true -> 0 <= fnd s (cN x.ws)
end Sp
theorem lastD_mem:∀ (l:List Int) (d:Int),Sp.lastD l d = d \/ Sp.lastD l d ∈ l:=by
 intro l
 unfold Sp.lastD
 induction l with
 | nil => intro d;exact .inl rfl
 | cons x l ih =>
  intro d
  rw [List.foldl_cons]
  rcases ih x with h | h
  ·right;rw [h];exact List.mem_cons_self
  ·right;exact List.mem_cons_of_mem _ h
theorem whB_rng {x:Int} (h:Sp.whB x = true):1 <= Sp.whV x /\ Sp.whV x <= 9999:=by
 unfold Sp.whB at h
 exact (of_decide_eq_true h).2
theorem codes_mem {ws:List Wo} {c x:Int} (h:x ∈ Sp.codes ws c):∃ w ∈ ws,w.l = c /\ w.v = x:=by
 unfold Sp.codes at h
 obtain ⟨w,h1,h2⟩:=List.mem_map.1 h
 obtain ⟨h3,h4⟩:=List.mem_filter.1 h1
 exact ⟨w,h3,of_decide_eq_true h4,h2⟩
theorem cIs_at {ws:List Wo} (h:Sp.cIs ws = true):(1 <= Sp.cT ws /\ Sp.cT ws <= 9999) /\ (1 <= Sp.cN ws /\ Sp.cN ws <= 9999):=by
 unfold Sp.cT Sp.cN
 rw [if_pos h,if_pos h]
 unfold Sp.cIs Sp.okC at h
 simp only [Bool.and_eq_true] at h
 obtain ⟨_,h1,h2⟩:=h
 have h2:=of_decide_eq_true h2
 rw [List.all_eq_true] at h1
 have key:∀ (c d:Int),(c = 80 \/ c = 76) -> Sp.whB d = true \/ 0 < (Sp.codes ws c).length -> 1 <= Sp.whV (Sp.lastD (Sp.codes ws c) d) /\ Sp.whV (Sp.lastD (Sp.codes ws c) d) <= 9999:=by
  intro c d hc hd
  have inl:Sp.lastD (Sp.codes ws c) d ∈ Sp.codes ws c -> 1 <= Sp.whV (Sp.lastD (Sp.codes ws c) d) /\ Sp.whV (Sp.lastD (Sp.codes ws c) d) <= 9999:=fun hm => by
   obtain ⟨w,k1,k2,k3⟩:=codes_mem hm
   have:=h1 w k1
   unfold Sp.okL at this
   rw [if_pos (by rw [k2];exact hc),k3] at this
   exact whB_rng this
  rcases hd with hd | hd
  ·rcases lastD_mem (Sp.codes ws c) d with e | e
   ·rw [e];exact whB_rng hd
   ·exact inl e
  ·match hl:Sp.codes ws c,hd with
   | x :: r,_ =>
    rw [hl] at inl
    refine inl ?_
    unfold Sp.lastD
    rw [List.foldl_cons]
    rcases lastD_mem r x with e | e
    ·unfold Sp.lastD at e;rw [e];exact List.mem_cons_self
    ·unfold Sp.lastD at e;exact List.mem_cons_of_mem _ e
 refine ⟨key 76 1000 (.inr rfl) (.inl (by decide)),key 80 0 (.inl rfl) (.inr ?_)⟩
 have:=h2.2.1
 unfold Sp.cnt at this
 omega
theorem fnd_len (s:List Sb) (m:Int):Sp.fnd s m < s.length:=by
 unfold Sp.fnd Sp.idxP
 rcases idxF_ge (Sp.isN m) s 0 (by omega) with ⟨h,_⟩ | ⟨_,h,_⟩ <;> omega
theorem cap_le (x:Int):Sp.cap x <= 20001:=by unfold Sp.cap;split <;> omega
theorem cap_ge {x:Int} (h:0 <= x):0 <= Sp.cap x:=by unfold Sp.cap;split <;> omega
theorem mul_rng {x t:Int} (h1:0 <= x) (h2:x <= 20001) (h3:1 <= t) (h4:t <= 9999):0 <= x * t /\ x * t <= 200000000:=by
 have h5:0 <= x * t:=Int.mul_nonneg h1 (by omega)
 have h6:x * t <= 20001 * 9999:=Int.mul_le_mul h2 h4 (by omega) (by omega)
 omega
end Go.Av

namespace Go.Av
open Go.Proofs
set_option maxRecDepth 100000
end Go.Av

namespace Go.Av
open Go.RowKit
end Go.Av

namespace Go.Av
open Go.Proofs
end Go.Av

namespace Go.Av
open Go.Proofs
namespace Sp
def badB (x:Bk):Bool:=decide (¬cE x.ws = 0)
def lostB (s:List Sb) (x:Bk):Bool:=cIs x.ws && decide (fnd s (cN x.ws) < 0)
end Sp
theorem found_of {s:List Sb} {b:List Bk} (h:b.any (Sp.lostB s) = false):Sp.found s b:=fun x hx k => by
 rw [List.any_eq_false] at h
 have:=h x hx
 unfold Sp.lostB at this
 rw [k,Bool.true_and] at this
 simpa using this
theorem blks_any {l:List Bk} {s:List Sb} {p:Bk -> Bool}:(Sp.blks l s).any p = (l.any p || s.any fun x => x.bl.any p):=by
 unfold Sp.blks
 rw [List.any_append,List.any_flatMap]
def Sp.okC1 (l:List Bk) (s:List Sb):Prop:=Sp.okBs l /\ s.length <= 100 /\ l.length <= 1000 /\ ∀ x ∈ s,Sp.okBs x.bl /\ x.bl.length <= 1000
theorem blks_ok {l:List Bk} {s:List Sb} (h:Sp.okC1 l s):Sp.okBs (Sp.blks l s):=by
 obtain ⟨h1,h2,h3,h4⟩:=h
 unfold Sp.blks
 refine ⟨?_,fun b hb => ?_⟩
 ·have:∀ (s:List Sb),(∀ x ∈ s,Sp.okBs x.bl /\ x.bl.length <= 1000) -> (s.flatMap (·.bl)).length <= 1000 * s.length:=by
   intro s
   induction s with
   | nil => intro _;simp
   | cons x s ih =>
    intro h
    have:=ih fun y hy => h y (List.mem_cons_of_mem _ hy)
    have:=(h x (by simp)).2
    rw [List.flatMap_cons,List.length_append,List.length_cons]
    omega
  have:=this s h4
  rw [List.length_append]
  omega
 ·rcases List.mem_append.1 hb with hb | hb
  ·exact h1.2 b hb
  ·obtain ⟨x,hx,hb⟩:=List.mem_flatMap.1 hb
   exact (h4 x hx).1.2 b hb
end Go.Av

namespace Go.Av
open Go.Proofs
set_option maxRecDepth 100000
end Go.Av

namespace Go.Av
open Go.Proofs
theorem own_rep (s:List Sb):Sp.repB (Sp.own s) = Sp.repB s:=by
 unfold Sp.repB
 rw [show (Sp.own s).length = s.length from by unfold Sp.own;simp]
 refine any_congr' fun i hi => ?_
 rw [List.mem_range'_1] at hi
 unfold Sp.own Sp.anyP
 rw [<- List.map_take,List.any_map,List.getD_eq_getElem?_getD,List.getElem?_map,List.getD_eq_getElem?_getD,List.getElem?_eq_getElem (show i < s.length by omega)]
 rfl
theorem fewA_at {l:List Bk} {s:List Sb} (h:Sp.fewA l s = true):s.length <= 12 /\ Sp.okBs l /\ l.length <= 40 /\ ∀ x ∈ s,(Sp.okBs x.bl /\ x.bl.length <= 40) /\ -1000000 <= x.n /\ x.n <= 1000000:=by
 unfold Sp.fewA Sp.fewP at h
 simp only [Bool.and_eq_true,List.all_eq_true,decide_eq_true_eq] at h
 obtain ⟨⟨h1,_,h2⟩,h3,h4⟩:=h
 refine ⟨by omega,vals_okBs h3 (by omega),by have:=(vals_at h3).1;omega,fun x hx => ⟨⟨vals_okBs (h4 x hx) (by omega),by have:=(vals_at (h4 x hx)).1;omega⟩,(h2 x hx).2⟩⟩
theorem own_mem {s:List Sb} {p:Int -> List Bk -> Prop} (h:∀ x ∈ s,p x.n x.bl):∀ x ∈ Sp.own s,p x.n x.bl:=by
 intro x hx
 unfold Sp.own at hx
 obtain ⟨y,hy,rfl⟩:=List.mem_map.1 hx
 exact h y hy
theorem own_len (s:List Sb):(Sp.own s).length = s.length:=by unfold Sp.own;simp
end Go.Av

namespace Go.Av
open Go.Proofs
set_option maxRecDepth 100000
def fi72:Fi:=⟨56,[.tmp 4,.tmp 5]⟩
def kp72:List (Nat × List Nat):=[(0,[0,1]),(1,[0,1,6,7]),(2,[0,6,7,14,15,16]),(3,[0,6,7,14,15,16,17]),(4,[0,6,7,9,14,15,16]),(5,[0,6,7,10,11,12,14,15,16]),(6,[0,6,7,10,11,14,15,16,28]),(7,[0,6,7,14,15,16]),(8,[0,6,7,10,11,14,15,16]),(9,[0,6,7,14,15,16]),(10,[0,6,7,14,15,16]),(11,[0,6,7,14,15,16]),(12,[4,5])]
def tvSm_at (sm st dp sz dn:List AV) (g:Bool) (l:List Bk) (Q:AV -> Heap -> Prop):Prop:=Wp M1 (.run fi72 (atC (cd Try.f72) []) [(0,.ptr 0 0 0 0),(1,.vec g 3 (l.map Bk.a))] [⟨[.agg [.mapr 1,.mapr 2,.mapr 3,.mapr 4,.mapr 5]],5,0,false,false⟩,⟨sm,2,0,false,true⟩,⟨st,2,0,false,true⟩,⟨dp,2,0,false,true⟩,⟨sz,2,0,false,true⟩,⟨dn,2,0,false,true⟩]) Q
def tvSma_at (sm st dp sz dn:List AV) (g:Bool) (l:List Bk) (d z n i:Int) (Q:AV -> Heap -> Prop):Prop:=Wp M1 (.run fi72 (atC (cd Try.f72) [1,1,0,1,0,0]) [(0,.ptr 0 0 0 0),(6,.int .i64 d),(7,.int .i64 z),(14,.vec g 3 (l.map Bk.a)),(15,.int .i64 n),(16,.int .i64 i)] [⟨[.agg [.mapr 1,.mapr 2,.mapr 3,.mapr 4,.mapr 5]],5,0,false,false⟩,⟨sm,2,0,false,true⟩,⟨st,2,0,false,true⟩,⟨dp,2,0,false,true⟩,⟨sz,2,0,false,true⟩,⟨dn,2,0,false,true⟩]) Q
theorem keepcall72 {args:List AV} {L:Heap} {v:AV} {K:Heap} (hk:keepOk L.length v K = true) (h:Wp M1 (.run fi72 [.code (cd Try.f72)] (argVars 0 args) L) (KeepQ v K)):Ev M1 (.own 72 args L) v K:=
 own_keep Try.f72 fi72 (by kernel_rfl) (by kernel_rfl) (by kernel_rfl) (by kernel_rfl) hk h
theorem tvSm (sm st dp sz dn:List AV) (g:Bool) (l:List Bk)  (dv:AV) (dK:Heap) (_:keepOk 6 dv dK = true) (H :
  tvSma_at (sm) (st) (dp) (sz) (dn) (g) (l) (0) (0) ((↑l.length:Int)) (0) (KeepQ dv dK)) :
 tvSm_at sm st dp sz dn g l (KeepQ dv dK):=by
 unfold tvSm_at
 have w1:(List.map Bk.a l).length = l.length:=List.length_map ..
 exact path_wp (G:=given kp72 [] []) 1000 [] ⟨(atC (cd Try.f72) [1,1,0,1,0,0]),[(0,AV.ptr 0 0 0 0),(6,vi 0),(7,vi 0),(14,AV.vec g 3 (List.map Bk.a l)),(15,vi (↑(List.map Bk.a l).length:Int)),(16,vi 0)],[⟨[ag [AV.mapr 1,AV.mapr 2,AV.mapr 3,AV.mapr 4,AV.mapr 5]],5,0,false,false⟩,⟨sm,2,0,false,true⟩,⟨st,2,0,false,true⟩,⟨dp,2,0,false,true⟩,⟨sz,2,0,false,true⟩,⟨dn,2,0,false,true⟩],_,[],_⟩ (by kernel_rfl) b0 q0 c0 (by (try rw [w1]);all_goals exact H)
noncomputable abbrev zTpF1:=ag [AV.mapr 1,AV.mapr 2,AV.mapr 3,AV.mapr 4,AV.mapr 5]
theorem tvSma (sm st dp sz dn:List AV) (g:Bool) (l:List Bk) (d z n i:Int)  (dv:AV) (dK:Heap) (hk:keepOk 6 dv dK = true) (H :
  ((i < n) -> (0 <= i) /\
   (i.toNat < l.length) /\
   (Sp.okW (l.getD i.toNat default).3) /\
   ((¬(Sp.cIs (l.getD i.toNat default).3 = true)) -> (-9223372036854775808 <= z + 1 /\ z + 1 <= 9223372036854775807) /\
    (-9223372036854775808 <= i + 1 /\ i + 1 <= 9223372036854775807) /\
    tvSma_at (sm) (st) (dp) (sz) (dn) (g) (l) (d) (if 20001 < z + 1 then 20001 else z + 1) (n) (i + 1) (KeepQ dv dK)) /\
   (¬(¬(Sp.cIs (l.getD i.toNat default).3 = true)) -> (mapKeys IntKind.i64 dp = true) /\
    (mapIs IntKind.i64 dp = true) /\
    (-9223372036854775808 <= 1 + mapI (Sp.cN (l.getD i.toNat default).3) dp /\ 1 + mapI (Sp.cN (l.getD i.toNat default).3) dp <= 9223372036854775807) /\
    (mapKeys IntKind.i64 sz = true) /\
    (mapIs IntKind.i64 sz = true) /\
    (-9223372036854775808 <= Sp.cT (l.getD i.toNat default).3 * mapI (Sp.cN (l.getD i.toNat default).3) sz /\ Sp.cT (l.getD i.toNat default).3 * mapI (Sp.cN (l.getD i.toNat default).3) sz <= 9223372036854775807) /\
    (-9223372036854775808 <= (z + if 20001 < Sp.cT (l.getD i.toNat default).3 * mapI (Sp.cN (l.getD i.toNat default).3) sz then 20001 else Sp.cT (l.getD i.toNat default).3 * mapI (Sp.cN (l.getD i.toNat default).3) sz) /\ (z + if 20001 < Sp.cT (l.getD i.toNat default).3 * mapI (Sp.cN (l.getD i.toNat default).3) sz then 20001 else Sp.cT (l.getD i.toNat default).3 * mapI (Sp.cN (l.getD i.toNat default).3) sz) <= 9223372036854775807) /\
    (-9223372036854775808 <= i + 1 /\ i + 1 <= 9223372036854775807) /\
    tvSma_at (sm) (st) (dp) (sz) (dn) (g) (l) (if 1 + mapI (Sp.cN (l.getD i.toNat default).3) dp > d then 1 + mapI (Sp.cN (l.getD i.toNat default).3) dp else d) (if 20001 < z + if 20001 < Sp.cT (l.getD i.toNat default).3 * mapI (Sp.cN (l.getD i.toNat default).3) sz then 20001 else Sp.cT (l.getD i.toNat default).3 * mapI (Sp.cN (l.getD i.toNat default).3) sz then 20001 else z + if 20001 < Sp.cT (l.getD i.toNat default).3 * mapI (Sp.cN (l.getD i.toNat default).3) sz then 20001 else Sp.cT (l.getD i.toNat default).3 * mapI (Sp.cN (l.getD i.toNat default).3) sz) (n) (i + 1) (KeepQ dv dK))) /\
  (¬(i < n) -> (KeepQ dv dK) (tu [vi d,vi z]) [{ elems:=[ag [AV.mapr 1,AV.mapr 2,AV.mapr 3,AV.mapr 4,AV.mapr 5]],es:=5,ver:=0,frozen:=false,clean:=false },{ elems:=sm,es:=2,ver:=0,frozen:=false,clean:=true },{ elems:=st,es:=2,ver:=0,frozen:=false,clean:=true },{ elems:=dp,es:=2,ver:=0,frozen:=false,clean:=true },{ elems:=sz,es:=2,ver:=0,frozen:=false,clean:=true },{ elems:=dn,es:=2,ver:=0,frozen:=false,clean:=true }])) :
 tvSma_at sm st dp sz dn g l d z n i (KeepQ dv dK):=by
 unfold tvSma_at
 rcases xm (i < n) with d2 | d2
 ·have H:=H.1 d2
  obtain ⟨k4,H⟩:=H
  have w5:(List.map Bk.a l).length = l.length:=List.length_map ..
  have i6:(decide (i.toNat < (List.map Bk.a l).length)) = true ↔ (i.toNat < l.length):=(by (try rw [w5]);all_goals exact i_dec)
  obtain ⟨k7,H⟩:=H
  obtain ⟨k8,H⟩:=H
  refine path_wp (G:=given kp72 [(4,1,.elem (ag [vb (l.getD i.toNat default).1,AV.vec (l.getD i.toNat default).2 2 (List.map Wo.a (l.getD i.toNat default).3),AV.str (l.getD i.toNat default).4])),(5,1,.call (tu [vi (Sp.cN (l.getD i.toNat default).3),vi (Sp.cT (l.getD i.toNat default).3),vb (Sp.cIs (l.getD i.toNat default).3),vi (Sp.cE (l.getD i.toNat default).3)]) none)] []) 14 [true] ⟨(atC (cd Try.f72) [1,1,0,1,0,0,1,1,0,0,1,1,0,1]),[(0,AV.ptr 0 0 0 0),(6,vi d),(7,vi z),(10,vi (Sp.cN (l.getD i.toNat default).3)),(11,vi (Sp.cT (l.getD i.toNat default).3)),(14,AV.vec g 3 (List.map Bk.a l)),(15,vi n),(16,vi i),(28,vb !Sp.cIs (l.getD i.toNat default).3)],[⟨[zTpF1],5,0,false,false⟩,⟨sm,2,0,false,true⟩,⟨st,2,0,false,true⟩,⟨dp,2,0,false,true⟩,⟨sz,2,0,false,true⟩,⟨dn,2,0,false,true⟩,⟨[ag [vb (l.getD i.toNat default).1,AV.vec (l.getD i.toNat default).2 2 (List.map Wo.a (l.getD i.toNat default).3),AV.str (l.getD i.toNat default).4]],3,0,false,false⟩],_,[((List.map Bk.a l).get?Internal i.toNat = some (ag [vb (l.getD i.toNat default).1,AV.vec (l.getD i.toNat default).2 2 (List.map Wo.a (l.getD i.toNat default).3),AV.str (l.getD i.toNat default).4]))],_⟩ (by kernel_rfl) (bc (beq_t (i_dec.2 d2)) (bc (i_dec.2 k4) (bc (i6.2 k7) (bc rfl (bc rfl b0))))) (qc (el_map k7) q0) (ce (@ev13 ((l.getD i.toNat default).1) ((l.getD i.toNat default).2) ((l.getD i.toNat default).3) ((l.getD i.toNat default).4) k8) c0) ?_
  rcases xm (¬(Sp.cIs (l.getD i.toNat default).3 = true)) with d10 | d10
  ·have H:=H.1 d10
   obtain ⟨k11,H⟩:=H
   have w12:wi (z + 1) = z + 1:=wI64 k11
   obtain ⟨k13,H⟩:=H
   have w14:wi (i + 1) = i + 1:=wI64 k13
   exact path_wp (G:=given kp72 [] []) 1000 [true] ⟨(atC (cd Try.f72) [1,1,0,1,0,0]),[(0,AV.ptr 0 0 0 0),(6,vi d),(7,vi (if 20001 < wi (z + 1) then 20001 else wi (z + 1))),(14,AV.vec g 3 (List.map Bk.a l)),(15,vi n),(16,vi (wi (i + 1)))],[⟨[zTpF1],5,0,false,false⟩,⟨sm,2,0,false,true⟩,⟨st,2,0,false,true⟩,⟨dp,2,0,false,true⟩,⟨sz,2,0,false,true⟩,⟨dn,2,0,false,true⟩,⟨[ag [vb (l.getD i.toNat default).1,AV.vec (l.getD i.toNat default).2 2 (List.map Wo.a (l.getD i.toNat default).3),AV.str (l.getD i.toNat default).4]],3,0,false,false⟩],[(!Sp.cIs (l.getD i.toNat default).3) == true],[],_⟩ (by kernel_rfl) (bc (beq_t ((i_not (i_var _)).2 d10)) b0) q0 c0 (by (try rw [w12]);(try rw [w14]);all_goals exact wp_narrow_keep 6 hk (by kernel_rfl) H)
  ·have H:=H.2 d10
   obtain ⟨k16,H⟩:=H
   obtain ⟨k18,H⟩:=H
   obtain ⟨k19,H⟩:=H
   have w20:wi (1 + mapI (Sp.cN (l.getD i.toNat default).3) dp) = 1 + mapI (Sp.cN (l.getD i.toNat default).3) dp:=wI64 k19
   obtain ⟨k22,H⟩:=H
   obtain ⟨k24,H⟩:=H
   obtain ⟨k25,H⟩:=H
   have w26:wi (Sp.cT (l.getD i.toNat default).3 * mapI (Sp.cN (l.getD i.toNat default).3) sz) = Sp.cT (l.getD i.toNat default).3 * mapI (Sp.cN (l.getD i.toNat default).3) sz:=wI64 k25
   obtain ⟨k27,H⟩:=H
   have w28:wi (z + if 20001 < Sp.cT (l.getD i.toNat default).3 * mapI (Sp.cN (l.getD i.toNat default).3) sz then 20001 else Sp.cT (l.getD i.toNat default).3 * mapI (Sp.cN (l.getD i.toNat default).3) sz) = z + if 20001 < Sp.cT (l.getD i.toNat default).3 * mapI (Sp.cN (l.getD i.toNat default).3) sz then 20001 else Sp.cT (l.getD i.toNat default).3 * mapI (Sp.cN (l.getD i.toNat default).3) sz:=wI64 k27
   obtain ⟨k29,H⟩:=H
   have w30:wi (i + 1) = i + 1:=wI64 k29
   exact path_wp (G:=given kp72 [] []) 1000 [false] ⟨(atC (cd Try.f72) [1,1,0,1,0,0]),[(0,AV.ptr 0 0 0 0),(6,vi (if wi (1 + mapI (Sp.cN (l.getD i.toNat default).3) dp) > d then wi (1 + mapI (Sp.cN (l.getD i.toNat default).3) dp) else d)),(7,vi (if 20001 < wi (z + if 20001 < wi (Sp.cT (l.getD i.toNat default).3 * mapI (Sp.cN (l.getD i.toNat default).3) sz) then 20001 else wi (Sp.cT (l.getD i.toNat default).3 * mapI (Sp.cN (l.getD i.toNat default).3) sz)) then 20001 else wi (z + if 20001 < wi (Sp.cT (l.getD i.toNat default).3 * mapI (Sp.cN (l.getD i.toNat default).3) sz) then 20001 else wi (Sp.cT (l.getD i.toNat default).3 * mapI (Sp.cN (l.getD i.toNat default).3) sz)))),(14,AV.vec g 3 (List.map Bk.a l)),(15,vi n),(16,vi (wi (i + 1)))],[⟨[zTpF1],5,0,false,false⟩,⟨sm,2,0,false,true⟩,⟨st,2,0,false,true⟩,⟨dp,2,0,false,true⟩,⟨sz,2,0,false,true⟩,⟨dn,2,0,false,true⟩,⟨[ag [vb (l.getD i.toNat default).1,AV.vec (l.getD i.toNat default).2 2 (List.map Wo.a (l.getD i.toNat default).3),AV.str (l.getD i.toNat default).4]],3,0,false,false⟩],[(!Sp.cIs (l.getD i.toNat default).3) == false,true,mapKeys IntKind.i64 dp,mapIs IntKind.i64 dp,true,mapKeys IntKind.i64 sz,mapIs IntKind.i64 sz],[],_⟩ (by kernel_rfl) (bc (beq_f (fun h => d10 ((i_not (i_var _)).1 h))) (bc rfl (bc ((i_var _).2 k16) (bc ((i_var _).2 k18) (bc rfl (bc ((i_var _).2 k22) (bc ((i_var _).2 k24) b0))))))) q0 c0 (by (try rw [w20]);(try rw [w26]);(try rw [w28]);(try rw [w30]);all_goals exact wp_narrow_keep 6 hk (by kernel_rfl) H)
 ·have H:=H.2 d2
  exact path_ret (G:=given kp72 [] []) 1000 [false] (k:=((atC (cd Try.f72) [1,1,1,1])).tail) (env':=[(4,vi d),(5,vi z)]) (L':=[⟨[zTpF1],5,0,false,false⟩,⟨sm,2,0,false,true⟩,⟨st,2,0,false,true⟩,⟨dp,2,0,false,true⟩,⟨sz,2,0,false,true⟩,⟨dn,2,0,false,true⟩]) (asm:=[(decide (i < n)) == false]) (eqs:=[]) (calls:=[]) (tu [vi d,vi z]) (by kernel_rfl) (by kernel_rfl) (allB_cons (beq_f (fun h => d2 (i_dec.1 h))) allB_nil) allP_nil allC_nil H
end Go.Av

namespace Go.Av
open Go.Proofs
def XH (sm st dp sz dn:List AV):Heap:=[⟨[.agg [.mapr 1,.mapr 2,.mapr 3,.mapr 4,.mapr 5]],5,0,false,false⟩,⟨sm,2,0,false,true⟩,⟨st,2,0,false,true⟩,⟨dp,2,0,false,true⟩,⟨sz,2,0,false,true⟩,⟨dn,2,0,false,true⟩]
def IntM (ms:List AV):Prop:=mapKeys .i64 ms = true /\ mapIs .i64 ms = true
namespace Sp
def sumP (D Z:Int -> Int):List Bk -> Int -> Int -> Int × Int
 | [],d,z => (d,z)
 | x :: r,d,z =>
  if cIs x.ws = true then sumP D Z r (mx (1 + D (cN x.ws)) d) (cap (z + cap (cT x.ws * Z (cN x.ws))))
  else sumP D Z r d (cap (z + 1))
end Sp
theorem cap_min (x:Int):(if 20001 < x then 20001 else x) = Sp.cap x:=by unfold Sp.cap;split <;> split <;> omega
theorem tvSma_loop {sm st dp sz dn:List AV} {g:Bool} {l:List Bk} {dv:AV} (hl:Sp.okBs l) (hd:IntM dp) (hz:IntM sz) (hD:∀ n,0 <= mapI n dp /\ mapI n dp <= 1000000) (hZ:∀ n,0 <= mapI n sz /\ mapI n sz <= 20001):∀ (c i:Nat) (d z:Int),i + c = l.length -> 0 <= z -> z <= 20001 ->
  (∀ r,r = Sp.sumP (fun n => mapI n dp) (fun n => mapI n sz) (l.drop i) d z -> AV.tup [.int .i64 r.1,.int .i64 r.2] = dv) -> (keepOk 6 dv (XH sm st dp sz dn) = true) -> tvSma_at sm st dp sz dn g l d z l.length i (KeepQ dv (XH sm st dp sz dn)):=by
 have hll:=hl.1
 intro c
 induction c with
 | zero =>
  intro i d z hi _ _ hq hk
  rw [List.drop_eq_nil_of_le (by omega)] at hq
  refine tvSma _ _ _ _ _ _ _ _ _ _ _ _ _ hk ⟨fun h => by omega,fun _ => ?_⟩
  rw [<- hq _ rfl]
  exact ⟨rfl,rfl⟩
 | succ c ih =>
  intro i d z hi h1 h2 hq hk
  rw [drop_getD (show i < l.length by omega),Sp.sumP] at hq
  have hm:=hl.2 _ (getD_mem (show i < l.length by omega))
  refine tvSma _ _ _ _ _ _ _ _ _ _ _ _ _ hk ⟨fun _ => ?_,fun h => by omega⟩
  rw [Int.toNat_natCast]
  refine ⟨by omega,by omega,hm,fun k => ⟨by omega,by omega,?_⟩,fun k => ?_⟩
  ·rw [if_neg k] at hq
   rw [cap_min]
   exact ih (i + 1) _ _ (by omega) (cap_ge (by omega)) (cap_le _) hq hk
  ·have k1:=Classical.not_not.1 k
   rw [if_pos k1] at hq
   have hDn:=hD (Sp.cN (l.getD i default).ws)
   have hZn:=hZ (Sp.cN (l.getD i default).ws)
   have hct:=(cIs_at k1).1
   have hr:=mul_rng hZn.1 hZn.2 hct.1 hct.2
   rw [Int.mul_comm] at hr
   have hc0:=cap_ge hr.1
   have hc1:=cap_le (Sp.cT (l.getD i default).ws * mapI (Sp.cN (l.getD i default).ws) sz)
   rw [cap_min,cap_min]
   refine ⟨hd.1,hd.2,by omega,hz.1,hz.2,by omega,by omega,by omega,ih (i + 1) _ _ (by omega) (cap_ge (by omega)) (cap_le _) hq hk⟩
theorem evo72 (sm st dp sz dn:List AV) (g:Bool) (l:List Bk) (h:Sp.okBs l /\ IntM dp /\ IntM sz /\ (∀ n,0 <= mapI n dp /\ mapI n dp <= 1000000) /\ ∀ n,0 <= mapI n sz /\ mapI n sz <= 20001) :
  Ev M1 (.own 72 [.ptr 0 0 0 0,bsA g l] [⟨[.agg [.mapr 1,.mapr 2,.mapr 3,.mapr 4,.mapr 5]],5,0,false,false⟩,⟨sm,2,0,false,true⟩,⟨st,2,0,false,true⟩,⟨dp,2,0,false,true⟩,⟨sz,2,0,false,true⟩,⟨dn,2,0,false,true⟩])
   (.tup [.int .i64 (Sp.sumP (fun n => mapI n dp) (fun n => mapI n sz) l 0 0).1,.int .i64 (Sp.sumP (fun n => mapI n dp) (fun n => mapI n sz) l 0 0).2])
   [⟨[.agg [.mapr 1,.mapr 2,.mapr 3,.mapr 4,.mapr 5]],5,0,false,false⟩,⟨sm,2,0,false,true⟩,⟨st,2,0,false,true⟩,⟨dp,2,0,false,true⟩,⟨sz,2,0,false,true⟩,⟨dn,2,0,false,true⟩]:=by
 obtain ⟨h1,h2,h3,h4,h5⟩:=h
 refine keepcall72 rfl (tvSm _ _ _ _ _ _ _ _ _ rfl ?_)
 exact tvSma_loop h1 h2 h3 h4 h5 l.length 0 0 0 (by omega) (by omega) (by omega) (fun r hr => by rw [hr,List.drop_zero]) rfl
end Go.Av

namespace Go.Av
open Go.Proofs
set_option maxRecDepth 100000
def fi84:Fi:=⟨78,[.tmp 4]⟩
def kp84:List (Nat × List Nat):=[(0,[0,1]),(1,[0,1,16]),(2,[0,1,16,17]),(3,[4]),(4,[0,1,19]),(5,[4]),(6,[0,1]),(7,[0,1,31,32,33]),(8,[0,1,31,32,33,34]),(9,[0,1,6,31,32,33]),(10,[0,1,7,9,31,32,33]),(11,[0,1,31,32,33,50]),(12,[4]),(13,[0,1,31,32,33]),(14,[0,1]),(15,[]),(16,[4])]
def tvMs_at (sm st dp sz dn:List AV) (n:Int) (Q:AV -> Heap -> Prop):Prop:=Wp M1 (.run fi84 (atC (cd Try.f84) []) [(0,.ptr 0 0 0 0),(1,.int .i64 n)] [⟨[.agg [.mapr 1,.mapr 2,.mapr 3,.mapr 4,.mapr 5]],5,0,false,false⟩,⟨sm,2,0,false,true⟩,⟨st,2,0,false,true⟩,⟨dp,2,0,false,true⟩,⟨sz,2,0,false,true⟩,⟨dn,2,0,false,true⟩]) Q
def tvMsa_at (sm st dp sz dn:List AV) (n:Int) (bf:Bool) (b:List Bk) (m i:Int) (Q:AV -> Heap -> Prop):Prop:=Wp M1 (.run fi84 (atC (cd Try.f84) [1,1,1,0,1,0,0]) [(0,.ptr 0 0 0 0),(1,.int .i64 n),(31,.vec bf 3 (b.map Bk.a)),(32,.int .i64 m),(33,.int .i64 i)] [⟨[.agg [.mapr 1,.mapr 2,.mapr 3,.mapr 4,.mapr 5]],5,0,false,false⟩,⟨sm,2,0,false,true⟩,⟨st,2,0,false,true⟩,⟨dp,2,0,false,true⟩,⟨sz,2,0,false,true⟩,⟨dn,2,0,false,true⟩]) Q
def tvMsc_at (sm st dp sz dn:List AV) (n:Int) (bf:Bool) (b:List Bk) (m i:Int) (q:Int) (c:Bool) (Q:AV -> Heap -> Prop):Prop:=Wp M1 (.run fi84 (atC (cd Try.f84) [1,1,1,0,1,0,0,1,1,0,0,1,1,0]) [(0,.ptr 0 0 0 0),(1,.int .i64 n),(7,.int .i64 q),(9,.bool c),(31,.vec bf 3 (b.map Bk.a)),(32,.int .i64 m),(33,.int .i64 i)] [⟨[.agg [.mapr 1,.mapr 2,.mapr 3,.mapr 4,.mapr 5]],5,0,false,false⟩,⟨sm,2,0,false,true⟩,⟨st,2,0,false,true⟩,⟨dp,2,0,false,true⟩,⟨sz,2,0,false,true⟩,⟨dn,2,0,false,true⟩]) Q
def tvMscT_at (sm st dp sz dn:List AV) (n:Int) (bf:Bool) (b:List Bk) (m i:Int) (q:Int) (Q:AV -> Heap -> Prop):Prop:=Wp M1 (.run fi84 (atC (cd Try.f84) [1,1,1,0,1,0,0,1,1,0,0,1,1,0]) [(0,.ptr 0 0 0 0),(1,.int .i64 n),(7,.int .i64 q),(9,.bool true),(31,.vec bf 3 (b.map Bk.a)),(32,.int .i64 m),(33,.int .i64 i)] [⟨[.agg [.mapr 1,.mapr 2,.mapr 3,.mapr 4,.mapr 5]],5,0,false,false⟩,⟨sm,2,0,false,true⟩,⟨st,2,0,false,true⟩,⟨dp,2,0,false,true⟩,⟨sz,2,0,false,true⟩,⟨dn,2,0,false,true⟩]) Q
def tvMscF_at (sm st dp sz dn:List AV) (n:Int) (bf:Bool) (b:List Bk) (m i:Int) (q:Int) (Q:AV -> Heap -> Prop):Prop:=Wp M1 (.run fi84 (atC (cd Try.f84) [1,1,1,0,1,0,0,1,1,0,0,1,1,0]) [(0,.ptr 0 0 0 0),(1,.int .i64 n),(7,.int .i64 q),(9,.bool false),(31,.vec bf 3 (b.map Bk.a)),(32,.int .i64 m),(33,.int .i64 i)] [⟨[.agg [.mapr 1,.mapr 2,.mapr 3,.mapr 4,.mapr 5]],5,0,false,false⟩,⟨sm,2,0,false,true⟩,⟨st,2,0,false,true⟩,⟨dp,2,0,false,true⟩,⟨sz,2,0,false,true⟩,⟨dn,2,0,false,true⟩]) Q
theorem keepcall84 {args:List AV} {L:Heap} {v:AV} {K:Heap} (hk:keepOk L.length v K = true) (h:Wp M1 (.run fi84 [.code (cd Try.f84)] (argVars 0 args) L) (KeepQ v K)):Ev M1 (.own 84 args L) v K:=
 own_keep Try.f84 fi84 (by kernel_rfl) (by kernel_rfl) (by kernel_rfl) (by kernel_rfl) hk h
noncomputable abbrev zTpG1:=ag [AV.mapr 1,AV.mapr 2,AV.mapr 3,AV.mapr 4,AV.mapr 5]
theorem tvMs (sm st dp sz dn:List AV) (n:Int) (bf:Bool) (b:List Bk) (dv:AV) (dK:Heap) (_:keepOk 6 dv dK = true) (H :
  (mapKeys IntKind.i64 st = true) /\
  (mapIs IntKind.i64 st = true) /\
  ((mapI n st = 1) -> (KeepQ dv dK) (vb false) [{ elems:=[ag [AV.mapr 1,AV.mapr 2,AV.mapr 3,AV.mapr 4,AV.mapr 5]],es:=5,ver:=0,frozen:=false,clean:=false },{ elems:=sm,es:=2,ver:=0,frozen:=false,clean:=true },{ elems:=st,es:=2,ver:=0,frozen:=false,clean:=true },{ elems:=dp,es:=2,ver:=0,frozen:=false,clean:=true },{ elems:=sz,es:=2,ver:=0,frozen:=false,clean:=true },{ elems:=dn,es:=2,ver:=0,frozen:=false,clean:=true }]) /\
  (¬(mapI n st = 1) -> ((mapI n st = 2) -> (KeepQ dv dK) (vb true) [{ elems:=[ag [AV.mapr 1,AV.mapr 2,AV.mapr 3,AV.mapr 4,AV.mapr 5]],es:=5,ver:=0,frozen:=false,clean:=false },{ elems:=sm,es:=2,ver:=0,frozen:=false,clean:=true },{ elems:=st,es:=2,ver:=0,frozen:=false,clean:=true },{ elems:=dp,es:=2,ver:=0,frozen:=false,clean:=true },{ elems:=sz,es:=2,ver:=0,frozen:=false,clean:=true },{ elems:=dn,es:=2,ver:=0,frozen:=false,clean:=true }]) /\
   (¬(mapI n st = 2) -> (mapKeys IntKind.i64 sm = true) /\
    (mapVal (ofC (Value.slice none 0 0)) n sm = AV.vec bf 3 (List.map Bk.a b)) /\
    tvMsa_at (sm) (mapPut IntKind.i64 n (vi 1) st) (dp) (sz) (dn) (n) (bf) (b) ((↑b.length:Int)) (0) (KeepQ dv dK)))) :
 tvMs_at sm st dp sz dn n (KeepQ dv dK):=by
 unfold tvMs_at
 obtain ⟨k2,H⟩:=H
 obtain ⟨k4,H⟩:=H
 rcases xm (mapI n st = 1) with d6 | d6
 ·have H:=H.1 d6
  exact path_ret (G:=given kp84 [] []) 1000 [true] (k:=((atC (cd Try.f84) [1,0,1,0,1,0,1])).tail) (env':=[(4,vb false)]) (L':=[⟨[zTpG1],5,0,false,false⟩,⟨sm,2,0,false,true⟩,⟨st,2,0,false,true⟩,⟨dp,2,0,false,true⟩,⟨sz,2,0,false,true⟩,⟨dn,2,0,false,true⟩]) (asm:=[true,mapKeys IntKind.i64 st,mapIs IntKind.i64 st,(mapI n st == 1) == true]) (eqs:=[]) (calls:=[]) (vb false) (by kernel_rfl) (by kernel_rfl) (allB_cons rfl (allB_cons ((i_var _).2 k2) (allB_cons ((i_var _).2 k4) (allB_cons (beq_t (i_eq.2 d6)) allB_nil)))) allP_nil allC_nil H
 ·have H:=H.2 d6
  rcases xm (mapI n st = 2) with d8 | d8
  ·have H:=H.1 d8
   exact path_ret (G:=given kp84 [] []) 1000 [false,true] (k:=((atC (cd Try.f84) [1,0,1,0,1,1,1,0,1])).tail) (env':=[(4,vb true)]) (L':=[⟨[zTpG1],5,0,false,false⟩,⟨sm,2,0,false,true⟩,⟨st,2,0,false,true⟩,⟨dp,2,0,false,true⟩,⟨sz,2,0,false,true⟩,⟨dn,2,0,false,true⟩]) (asm:=[true,mapKeys IntKind.i64 st,mapIs IntKind.i64 st,(mapI n st == 1) == false,(mapI n st == 2) == true]) (eqs:=[]) (calls:=[]) (vb true) (by kernel_rfl) (by kernel_rfl) (allB_cons rfl (allB_cons ((i_var _).2 k2) (allB_cons ((i_var _).2 k4) (allB_cons (beq_f (fun h => d6 (i_eq.1 h))) (allB_cons (beq_t (i_eq.2 d8)) allB_nil))))) allP_nil allC_nil H
  ·have H:=H.2 d8
   obtain ⟨k11,H⟩:=H
   obtain ⟨k12,H⟩:=H
   have w13:(List.map Bk.a b).length = b.length:=List.length_map ..
   exact path_wp (G:=given kp84 [(7,5,(.elem (.vec bf 3 (b.map Bk.a)):Ans))] []) 1000 [false,false] ⟨(atC (cd Try.f84) [1,1,1,0,1,0,0]),[(0,AV.ptr 0 0 0 0),(1,vi n),(31,AV.vec bf 3 (List.map Bk.a b)),(32,vi (↑(List.map Bk.a b).length:Int)),(33,vi 0)],[⟨[zTpG1],5,0,false,false⟩,⟨sm,2,0,false,true⟩,⟨mapPut IntKind.i64 n (vi 1) st,2,0,false,true⟩,⟨dp,2,0,false,true⟩,⟨sz,2,0,false,true⟩,⟨dn,2,0,false,true⟩],[true,mapKeys IntKind.i64 st,mapIs IntKind.i64 st,(mapI n st == 1) == false,(mapI n st == 2) == false,true,mapKeys IntKind.i64 st,true,mapKeys IntKind.i64 sm],[(mapVal (ofC (Value.slice none 0 0)) n sm = AV.vec bf 3 (List.map Bk.a b))],_⟩ (by kernel_rfl) (bc rfl (bc ((i_var _).2 k2) (bc ((i_var _).2 k4) (bc (beq_f (fun h => d6 (i_eq.1 h))) (bc (beq_f (fun h => d8 (i_eq.1 h))) (bc rfl (bc ((i_var _).2 k2) (bc rfl (bc ((i_var _).2 k11) b0))))))))) (qc k12 q0) c0 (by (try rw [w13]);all_goals exact H)
noncomputable abbrev zTpG2:=ag [AV.mapr 1,AV.mapr 2,AV.mapr 3,AV.mapr 4,AV.mapr 5]
theorem tvMsa (sm st dp sz dn:List AV) (n:Int) (bf:Bool) (b:List Bk) (m i:Int)  (dv:AV) (dK:Heap) (hk:keepOk 6 dv dK = true) (H :
  ((i < m) -> (0 <= i) /\
   (i.toNat < b.length) /\
   (Sp.okW (b.getD i.toNat default).3) /\
   tvMsc_at (sm) (st) (dp) (sz) (dn) (n) (bf) (b) (m) (i) (Sp.cN (b.getD i.toNat default).3) (Sp.cIs (b.getD i.toNat default).3) (KeepQ dv dK)) /\
  (¬(i < m) -> (mapKeys IntKind.i64 st = true) /\
   (Sp.okBs b /\ IntM dp /\ IntM sz /\ (∀ (n:Int),0 <= mapI n dp /\ mapI n dp <= 1000000) /\ ∀ (n:Int),0 <= mapI n sz /\ mapI n sz <= 20001) /\
   (mapKeys IntKind.i64 sm = true) /\
   (mapKeys IntKind.i64 dp = true) /\
   (mapKeys IntKind.i64 sz = true) /\
   (mapVal (ofC (Value.slice none 0 0)) n sm = AV.vec bf 3 (List.map Bk.a b)) /\
   (KeepQ dv dK) (vb true) [{ elems:=[ag [AV.mapr 1,AV.mapr 2,AV.mapr 3,AV.mapr 4,AV.mapr 5]],es:=5,ver:=0,frozen:=false,clean:=false },{ elems:=sm,es:=2,ver:=0,frozen:=false,clean:=true },{ elems:=mapPut IntKind.i64 n (vi 2) st,es:=2,ver:=0,frozen:=false,clean:=true },{ elems:=mapPut IntKind.i64 n (vi (Sp.sumP (fun n => mapI n dp) (fun n => mapI n sz) b 0 0).fst) dp,es:=2,ver:=0,frozen:=false,clean:=true },{ elems:=mapPut IntKind.i64 n (vi (Sp.sumP (fun n => mapI n dp) (fun n => mapI n sz) b 0 0).snd) sz,es:=2,ver:=0,frozen:=false,clean:=true },{ elems:=dn,es:=2,ver:=0,frozen:=false,clean:=true }])) :
 tvMsa_at sm st dp sz dn n bf b m i (KeepQ dv dK):=by
 unfold tvMsa_at
 rcases xm (i < m) with d2 | d2
 ·have H:=H.1 d2
  obtain ⟨k4,H⟩:=H
  have w5:(List.map Bk.a b).length = b.length:=List.length_map ..
  have i6:(decide (i.toNat < (List.map Bk.a b).length)) = true ↔ (i.toNat < b.length):=(by (try rw [w5]);all_goals exact i_dec)
  obtain ⟨k7,H⟩:=H
  obtain ⟨k8,H⟩:=H
  exact path_wp (G:=given kp84 [(9,1,.elem (ag [vb (b.getD i.toNat default).1,AV.vec (b.getD i.toNat default).2 2 (List.map Wo.a (b.getD i.toNat default).3),AV.str (b.getD i.toNat default).4])),(10,1,.call (tu [vi (Sp.cN (b.getD i.toNat default).3),vi (Sp.cT (b.getD i.toNat default).3),vb (Sp.cIs (b.getD i.toNat default).3),vi (Sp.cE (b.getD i.toNat default).3)]) none)] []) 12 [true] ⟨(atC (cd Try.f84) [1,1,1,0,1,0,0,1,1,0,0,1,1,0]),[(0,AV.ptr 0 0 0 0),(1,vi n),(7,vi (Sp.cN (b.getD i.toNat default).3)),(9,vb (Sp.cIs (b.getD i.toNat default).3)),(31,AV.vec bf 3 (List.map Bk.a b)),(32,vi m),(33,vi i)],[⟨[zTpG2],5,0,false,false⟩,⟨sm,2,0,false,true⟩,⟨st,2,0,false,true⟩,⟨dp,2,0,false,true⟩,⟨sz,2,0,false,true⟩,⟨dn,2,0,false,true⟩,⟨[ag [vb (b.getD i.toNat default).1,AV.vec (b.getD i.toNat default).2 2 (List.map Wo.a (b.getD i.toNat default).3),AV.str (b.getD i.toNat default).4]],3,0,false,false⟩],_,[((List.map Bk.a b).get?Internal i.toNat = some (ag [vb (b.getD i.toNat default).1,AV.vec (b.getD i.toNat default).2 2 (List.map Wo.a (b.getD i.toNat default).3),AV.str (b.getD i.toNat default).4]))],_⟩ (by kernel_rfl) (bc (beq_t (i_dec.2 d2)) (bc (i_dec.2 k4) (bc (i6.2 k7) (bc rfl (bc rfl b0))))) (qc (el_map k7) q0) (ce (@ev13 ((b.getD i.toNat default).1) ((b.getD i.toNat default).2) ((b.getD i.toNat default).3) ((b.getD i.toNat default).4) k8) c0) (wp_narrow_keep 6 hk (by kernel_rfl) H)
 ·have H:=H.2 d2
  obtain ⟨k10,H⟩:=H
  obtain ⟨k11,H⟩:=H
  obtain ⟨k13,H⟩:=H
  obtain ⟨k15,H⟩:=H
  obtain ⟨k17,H⟩:=H
  obtain ⟨k18,H⟩:=H
  exact path_ret (G:=given kp84 [(15,16,(.elem (.vec bf 3 (b.map Bk.a)):Ans)),(15,17,.call (tu [vi (Sp.sumP (fun n => mapI n dp) (fun n => mapI n sz) b 0 0).fst,vi (Sp.sumP (fun n => mapI n dp) (fun n => mapI n sz) b 0 0).snd]) none)] [(15,[1017])]) 1000 [false] (k:=((atC (cd Try.f84) [1,1,1,1,1,1,1])).tail) (env':=[(4,vb true)]) (L':=[⟨[zTpG2],5,0,false,false⟩,⟨sm,2,0,false,true⟩,⟨mapPut IntKind.i64 n (vi 2) st,2,0,false,true⟩,⟨mapPut IntKind.i64 n (vi (Sp.sumP (fun n => mapI n dp) (fun n => mapI n sz) b 0 0).fst) dp,2,0,false,true⟩,⟨mapPut IntKind.i64 n (vi (Sp.sumP (fun n => mapI n dp) (fun n => mapI n sz) b 0 0).snd) sz,2,0,false,true⟩,⟨dn,2,0,false,true⟩]) (asm:=[(decide (i < m)) == false,true,mapKeys IntKind.i64 st,true,true,true,mapKeys IntKind.i64 sm,mapKeys IntKind.i64 dp,mapKeys IntKind.i64 sz]) (eqs:=[(mapVal (ofC (Value.slice none 0 0)) n sm = AV.vec bf 3 (List.map Bk.a b))]) (calls:=[⟨true,true,72,[AV.ptr 0 0 0 0,AV.vec bf 3 (List.map Bk.a b)],[⟨[zTpG2],5,0,false,false⟩,⟨sm,2,0,false,true⟩,⟨mapPut IntKind.i64 n (vi 2) st,2,0,false,true⟩,⟨dp,2,0,false,true⟩,⟨sz,2,0,false,true⟩,⟨dn,2,0,false,true⟩],tu [vi (Sp.sumP (fun n => mapI n dp) (fun n => mapI n sz) b 0 0).fst,vi (Sp.sumP (fun n => mapI n dp) (fun n => mapI n sz) b 0 0).snd],[⟨[zTpG2],5,0,false,false⟩,⟨sm,2,0,false,true⟩,⟨mapPut IntKind.i64 n (vi 2) st,2,0,false,true⟩,⟨dp,2,0,false,true⟩,⟨sz,2,0,false,true⟩,⟨dn,2,0,false,true⟩]⟩]) (vb true) (by kernel_rfl) (by kernel_rfl) (allB_cons (beq_f (fun h => d2 (i_dec.1 h))) (allB_cons rfl (allB_cons ((i_var _).2 k10) (allB_cons rfl (allB_cons rfl (allB_cons rfl (allB_cons ((i_var _).2 k13) (allB_cons ((i_var _).2 k15) (allB_cons ((i_var _).2 k17) allB_nil))))))))) (allP_cons k18 allP_nil) (allC_cons (fun _ => (@evo72 (sm) (mapPut IntKind.i64 n (vi 2) st) (dp) (sz) (dn) (bf) (b) k11)) allC_nil) H
noncomputable abbrev zTpG3:=ag [AV.mapr 1,AV.mapr 2,AV.mapr 3,AV.mapr 4,AV.mapr 5]
theorem tvMscT (sm st dp sz dn:List AV) (n:Int) (bf:Bool) (b:List Bk) (m i:Int) (q:Int) (r:Bool) (st1 dp1 sz1:List AV) (dv:AV) (dK:Heap) (_:keepOk 6 dv dK = true) (H :
  ((true = true) -> (Ev M1 (Conf.own 84 [AV.ptr 0 0 0 0,vi q] [{ elems:=[ag [AV.mapr 1,AV.mapr 2,AV.mapr 3,AV.mapr 4,AV.mapr 5]],es:=5,ver:=0,frozen:=false,clean:=false },{ elems:=sm,es:=2,ver:=0,frozen:=false,clean:=true },{ elems:=st,es:=2,ver:=0,frozen:=false,clean:=true },{ elems:=dp,es:=2,ver:=0,frozen:=false,clean:=true },{ elems:=sz,es:=2,ver:=0,frozen:=false,clean:=true },{ elems:=dn,es:=2,ver:=0,frozen:=false,clean:=true }]) (vb r) [{ elems:=[ag [AV.mapr 1,AV.mapr 2,AV.mapr 3,AV.mapr 4,AV.mapr 5]],es:=5,ver:=0,frozen:=false,clean:=false },{ elems:=sm,es:=2,ver:=0,frozen:=false,clean:=true },{ elems:=st1,es:=2,ver:=0,frozen:=false,clean:=true },{ elems:=dp1,es:=2,ver:=0,frozen:=false,clean:=true },{ elems:=sz1,es:=2,ver:=0,frozen:=false,clean:=true },{ elems:=dn,es:=2,ver:=0,frozen:=false,clean:=true }])) /\
  ((¬(r = true)) -> (KeepQ dv dK) (vb false) [{ elems:=[ag [AV.mapr 1,AV.mapr 2,AV.mapr 3,AV.mapr 4,AV.mapr 5]],es:=5,ver:=0,frozen:=false,clean:=false },{ elems:=sm,es:=2,ver:=0,frozen:=false,clean:=true },{ elems:=st1,es:=2,ver:=0,frozen:=false,clean:=true },{ elems:=dp1,es:=2,ver:=0,frozen:=false,clean:=true },{ elems:=sz1,es:=2,ver:=0,frozen:=false,clean:=true },{ elems:=dn,es:=2,ver:=0,frozen:=false,clean:=true }]) /\
  (¬(¬(r = true)) -> (-9223372036854775808 <= i + 1 /\ i + 1 <= 9223372036854775807) /\
   tvMsa_at (sm) (st1) (dp1) (sz1) (dn) (n) (bf) (b) (m) (i + 1) (KeepQ dv dK))) :
 tvMscT_at sm st dp sz dn n bf b m i q (KeepQ dv dK):=by
 unfold tvMscT_at
 obtain ⟨k2,H⟩:=H
 refine path_wp (G:=given kp84 [(11,4,(.call (.bool r) (some [⟨[.agg [.mapr 1,.mapr 2,.mapr 3,.mapr 4,.mapr 5]],5,0,false,false⟩,⟨sm,2,0,false,true⟩,⟨st1,2,0,false,true⟩,⟨dp1,2,0,false,true⟩,⟨sz1,2,0,false,true⟩,⟨dn,2,0,false,true⟩]):Ans))] []) 1 [] ⟨(atC (cd Try.f84) [1,1,1,0,1,0,0,1,1,0,0,1,1,1]),[(0,AV.ptr 0 0 0 0),(1,vi n),(31,AV.vec bf 3 (List.map Bk.a b)),(32,vi m),(33,vi i),(50,vb !r)],[⟨[zTpG3],5,0,false,false⟩,⟨sm,2,0,false,true⟩,⟨st1,2,0,false,true⟩,⟨dp1,2,0,false,true⟩,⟨sz1,2,0,false,true⟩,⟨dn,2,0,false,true⟩],_,[],[⟨true == true && true && true,true,84,[AV.ptr 0 0 0 0,vi q],[⟨[zTpG3],5,0,false,false⟩,⟨sm,2,0,false,true⟩,⟨st,2,0,false,true⟩,⟨dp,2,0,false,true⟩,⟨sz,2,0,false,true⟩,⟨dn,2,0,false,true⟩],vb r,[⟨[zTpG3],5,0,false,false⟩,⟨sm,2,0,false,true⟩,⟨st1,2,0,false,true⟩,⟨dp1,2,0,false,true⟩,⟨sz1,2,0,false,true⟩,⟨dn,2,0,false,true⟩]⟩]⟩ (by kernel_rfl) b0 q0 (cc (fun hc => ((k2 ((i_at (i_at (i_bt (i_var _)))).1 hc)):Ev M1 (Conf.own 84 [AV.ptr 0 0 0 0,vi q] [⟨[zTpG3],5,0,false,false⟩,⟨sm,2,0,false,true⟩,⟨st,2,0,false,true⟩,⟨dp,2,0,false,true⟩,⟨sz,2,0,false,true⟩,⟨dn,2,0,false,true⟩]) (vb r) [⟨[zTpG3],5,0,false,false⟩,⟨sm,2,0,false,true⟩,⟨st1,2,0,false,true⟩,⟨dp1,2,0,false,true⟩,⟨sz1,2,0,false,true⟩,⟨dn,2,0,false,true⟩])) c0) ?_
 rcases xm (¬(r = true)) with d4 | d4
 ·have H:=H.1 d4
  exact path_ret (G:=given kp84 [] []) 1000 [true] (k:=((atC (cd Try.f84) [1,1,1,0,1,0,0,1,1,0,0,1,1,1,0,1])).tail) (env':=[(4,vb false)]) (L':=[⟨[zTpG3],5,0,false,false⟩,⟨sm,2,0,false,true⟩,⟨st1,2,0,false,true⟩,⟨dp1,2,0,false,true⟩,⟨sz1,2,0,false,true⟩,⟨dn,2,0,false,true⟩]) (asm:=[(!r) == true]) (eqs:=[]) (calls:=[]) (vb false) (by kernel_rfl) (by kernel_rfl) (allB_cons (beq_t ((i_not (i_var _)).2 d4)) allB_nil) allP_nil allC_nil H
 ·have H:=H.2 d4
  obtain ⟨k5,H⟩:=H
  have w6:wi (i + 1) = i + 1:=wI64 k5
  exact path_wp (G:=given kp84 [] []) 1000 [false] ⟨(atC (cd Try.f84) [1,1,1,0,1,0,0]),[(0,AV.ptr 0 0 0 0),(1,vi n),(31,AV.vec bf 3 (List.map Bk.a b)),(32,vi m),(33,vi (wi (i + 1)))],[⟨[zTpG3],5,0,false,false⟩,⟨sm,2,0,false,true⟩,⟨st1,2,0,false,true⟩,⟨dp1,2,0,false,true⟩,⟨sz1,2,0,false,true⟩,⟨dn,2,0,false,true⟩],[(!r) == false],[],_⟩ (by kernel_rfl) (bc (beq_f (fun h => d4 ((i_not (i_var _)).1 h))) b0) q0 c0 (by (try rw [w6]);all_goals exact H)
noncomputable abbrev zTpG4:=ag [AV.mapr 1,AV.mapr 2,AV.mapr 3,AV.mapr 4,AV.mapr 5]
theorem tvMscF (sm st dp sz dn:List AV) (n:Int) (bf:Bool) (b:List Bk) (m i:Int) (q:Int) (r:Bool) (st1 dp1 sz1:List AV) (dv:AV) (dK:Heap) (_:keepOk 6 dv dK = true) (H :
  ((false = true) -> (Ev M1 (Conf.own 84 [AV.ptr 0 0 0 0,vi q] [{ elems:=[ag [AV.mapr 1,AV.mapr 2,AV.mapr 3,AV.mapr 4,AV.mapr 5]],es:=5,ver:=0,frozen:=false,clean:=false },{ elems:=sm,es:=2,ver:=0,frozen:=false,clean:=true },{ elems:=st,es:=2,ver:=0,frozen:=false,clean:=true },{ elems:=dp,es:=2,ver:=0,frozen:=false,clean:=true },{ elems:=sz,es:=2,ver:=0,frozen:=false,clean:=true },{ elems:=dn,es:=2,ver:=0,frozen:=false,clean:=true }]) (vb r) [{ elems:=[ag [AV.mapr 1,AV.mapr 2,AV.mapr 3,AV.mapr 4,AV.mapr 5]],es:=5,ver:=0,frozen:=false,clean:=false },{ elems:=sm,es:=2,ver:=0,frozen:=false,clean:=true },{ elems:=st1,es:=2,ver:=0,frozen:=false,clean:=true },{ elems:=dp1,es:=2,ver:=0,frozen:=false,clean:=true },{ elems:=sz1,es:=2,ver:=0,frozen:=false,clean:=true },{ elems:=dn,es:=2,ver:=0,frozen:=false,clean:=true }])) /\
  (-9223372036854775808 <= i + 1 /\ i + 1 <= 9223372036854775807) /\
  tvMsa_at (sm) (st) (dp) (sz) (dn) (n) (bf) (b) (m) (i + 1) (KeepQ dv dK)) :
 tvMscF_at sm st dp sz dn n bf b m i q (KeepQ dv dK):=by
 unfold tvMscF_at
 obtain ⟨k2,H⟩:=H
 obtain ⟨k3,H⟩:=H
 have w4:wi (i + 1) = i + 1:=wI64 k3
 exact path_wp (G:=given kp84 [(11,4,(.call (.bool r) (some [⟨[.agg [.mapr 1,.mapr 2,.mapr 3,.mapr 4,.mapr 5]],5,0,false,false⟩,⟨sm,2,0,false,true⟩,⟨st1,2,0,false,true⟩,⟨dp1,2,0,false,true⟩,⟨sz1,2,0,false,true⟩,⟨dn,2,0,false,true⟩]):Ans))] []) 1000 [false] ⟨(atC (cd Try.f84) [1,1,1,0,1,0,0]),[(0,AV.ptr 0 0 0 0),(1,vi n),(31,AV.vec bf 3 (List.map Bk.a b)),(32,vi m),(33,vi (wi (i + 1)))],[⟨[zTpG4],5,0,false,false⟩,⟨sm,2,0,false,true⟩,⟨st,2,0,false,true⟩,⟨dp,2,0,false,true⟩,⟨sz,2,0,false,true⟩,⟨dn,2,0,false,true⟩],_,[],[⟨false == true && true && true,true,84,[AV.ptr 0 0 0 0,vi q],[⟨[zTpG4],5,0,false,false⟩,⟨sm,2,0,false,true⟩,⟨st,2,0,false,true⟩,⟨dp,2,0,false,true⟩,⟨sz,2,0,false,true⟩,⟨dn,2,0,false,true⟩],vb r,[⟨[zTpG4],5,0,false,false⟩,⟨sm,2,0,false,true⟩,⟨st1,2,0,false,true⟩,⟨dp1,2,0,false,true⟩,⟨sz1,2,0,false,true⟩,⟨dn,2,0,false,true⟩]⟩]⟩ (by kernel_rfl) (bc rfl b0) q0 (cc (fun hc => ((k2 ((i_at (i_at (i_bt (i_var _)))).1 hc)):Ev M1 (Conf.own 84 [AV.ptr 0 0 0 0,vi q] [⟨[zTpG4],5,0,false,false⟩,⟨sm,2,0,false,true⟩,⟨st,2,0,false,true⟩,⟨dp,2,0,false,true⟩,⟨sz,2,0,false,true⟩,⟨dn,2,0,false,true⟩]) (vb r) [⟨[zTpG4],5,0,false,false⟩,⟨sm,2,0,false,true⟩,⟨st1,2,0,false,true⟩,⟨dp1,2,0,false,true⟩,⟨sz1,2,0,false,true⟩,⟨dn,2,0,false,true⟩])) c0) (by (try rw [w4]);all_goals exact H)
end Go.Av

namespace Go.Av
open Go.Proofs
theorem intM_put {n x:Int}:∀ {ms:List AV},IntM ms -> IntM (mapPut .i64 n (.int .i64 x) ms) /\ ∀ c,mapI c (mapPut .i64 n (.int .i64 x) ms) = if c = n then x else mapI c ms
 | [],_ => ⟨⟨by simp [mapPut,mapKeys],by simp [mapPut,mapIs]⟩,fun c => by
   simp only [mapPut,mapI]
   by_cases h:c = n
   ·subst h;simp
   ·rw [if_neg h,show (c == n) = false by simpa using h];rfl⟩
 | y :: l,h => by
  obtain ⟨h1,h2⟩:=h
  unfold mapIs at h2
  split at h2
  ·rename_i e;cases e
  ·rename_i k' m j b l' e
   simp only [List.cons.injEq] at e
   obtain ⟨rfl,rfl⟩:=e
   simp only [mapKeys,Bool.and_eq_true,decide_eq_true_eq] at h1
   obtain ⟨rfl,h1⟩:=h1
   simp only [Bool.and_eq_true,decide_eq_true_eq] at h2
   obtain ⟨rfl,h2⟩:=h2
   simp only [mapPut]
   by_cases hn:n = m
   ·subst hn
    simp only [beq_self_eq_true,cond_true]
    refine ⟨⟨by simp [mapKeys,h1],by simp [mapIs,h2]⟩,fun c => ?_⟩
    simp only [mapI]
    by_cases h:c = n
    ·subst h;simp
    ·rw [if_neg h,show (c == n) = false by simpa using h];rfl
   ·have e:(n == m) = false:=by simpa using hn
    rw [e,cond_false]
    obtain ⟨⟨q1,q2⟩,q3⟩:=intM_put (n:=n) (x:=x) ⟨h1,h2⟩
    refine ⟨⟨by simp [mapKeys,q1],by simp [mapIs,q2]⟩,fun c => ?_⟩
    simp only [mapI]
    by_cases h:c = m
    ·subst h
     have:(c == c) = true:=by simp
     rw [this,cond_true,cond_true,if_neg (fun e => hn e.symm)]
    ·have:(c == m) = false:=by simpa using h
     rw [this,cond_false,cond_false,q3]
  ·cases h2
namespace Sp
def allD (E:Int -> Option (Int × Int)) (l:List Bk):Bool:=l.all fun b => !cIs b.ws || (E (cN b.ws)).isSome
def sumE (E:Int -> Option (Int × Int)) (l:List Bk):Int × Int:=sumP (fun m => ((E m).getD (0,0)).1) (fun m => ((E m).getD (0,0)).2) l 0 0
def V (S:Int -> List Bk):Nat -> Int -> Option (Int × Int)
 | 0,_ => none
 | k + 1,n => if allD (V S k) (S n) = true then some (sumE (V S k) (S n)) else none
end Sp
theorem allD_iff {E:Int -> Option (Int × Int)} {l:List Bk}:Sp.allD E l = true ↔ ∀ x ∈ l,Sp.cIs x.ws = true -> (E (Sp.cN x.ws)).isSome = true:=by
 unfold Sp.allD
 rw [List.all_eq_true]
 refine ⟨fun h x hx k => ?_,fun h x hx => ?_⟩
 ·have:=h x hx
  rw [k,Bool.not_true,Bool.false_or] at this
  exact this
 ·cases k:Sp.cIs x.ws with
  | false => rfl
  | true => rw [h x hx k];rfl
theorem sumP_congr {D Z D' Z':Int -> Int}:∀ (l:List Bk) (d z:Int),(∀ x ∈ l,Sp.cIs x.ws = true -> D (Sp.cN x.ws) = D' (Sp.cN x.ws) /\ Z (Sp.cN x.ws) = Z' (Sp.cN x.ws)) -> Sp.sumP D Z l d z = Sp.sumP D' Z' l d z
 | [],_,_,_ => rfl
 | x :: r,d,z,h => by
  have hr:=fun y hy => h y (List.mem_cons_of_mem _ hy)
  rw [Sp.sumP,Sp.sumP]
  split
  ·rename_i k
   obtain ⟨h1,h2⟩:=h x (by simp) k
   rw [h1,h2]
   exact sumP_congr r _ _ hr
  ·exact sumP_congr r _ _ hr
theorem V_succ {S:Int -> List Bk} {k:Nat} {n:Int}:(Sp.V S (k + 1) n).isSome = true ↔ ∀ x ∈ S n,Sp.cIs x.ws = true -> (Sp.V S k (Sp.cN x.ws)).isSome = true:=by
 rw [<- allD_iff,Sp.V]
 split
 ·rename_i h;simp [h]
 ·rename_i h;simp [h]
theorem V_mono1 {S:Int -> List Bk}:∀ (k:Nat) (n:Int) (v:Int × Int),Sp.V S k n = some v -> Sp.V S (k + 1) n = some v:=by
 intro k
 induction k with
 | zero => intro n v h;simp [Sp.V] at h
 | succ k ih =>
  intro n v h
  rw [Sp.V] at h
  split at h
  ·rename_i hd
   have hd':=allD_iff.1 hd
   have hd2:Sp.allD (Sp.V S (k + 1)) (S n) = true:=allD_iff.2 fun x hx y => by
    have:=hd' x hx y
    obtain ⟨w,hw⟩:=Option.isSome_iff_exists.1 this
    rw [ih _ _ hw];rfl
   rw [Sp.V,if_pos hd2,<- h]
   congr 1
   unfold Sp.sumE
   refine sumP_congr _ _ _ fun x hx y => ?_
   obtain ⟨w,hw⟩:=Option.isSome_iff_exists.1 (hd' x hx y)
   rw [ih _ _ hw,hw];exact ⟨rfl,rfl⟩
  ·cases h
theorem V_mono {S:Int -> List Bk} {k j:Nat} {n:Int} {v:Int × Int} (h:Sp.V S k n = some v) (hk:k <= j):Sp.V S j n = some v:=by
 obtain ⟨c,rfl⟩:=Nat.exists_eq_add_of_le hk
 induction c with
 | zero => exact h
 | succ c ih => exact V_mono1 _ _ _ (ih (by omega))
theorem V_some {S:Int -> List Bk} {k j:Nat} {n:Int} (h:(Sp.V S k n).isSome = true) (hk:k <= j):(Sp.V S j n).isSome = true:=by
 obtain ⟨w,hw⟩:=Option.isSome_iff_exists.1 h
 rw [V_mono hw hk];rfl
theorem V_eq {S:Int -> List Bk} {k j:Nat} {n:Int} {v w:Int × Int} (h:Sp.V S k n = some v) (h':Sp.V S j n = some w):v = w:=by
 have h1:=V_mono h (Nat.le_max_left k j)
 rw [V_mono h' (Nat.le_max_right k j)] at h1
 exact (Option.some.inj h1).symm
theorem countP_lt {p q:Int -> Bool}:∀ {l:List Int},(∀ n ∈ l,p n = true -> q n = true) -> (∃ n ∈ l,q n = true /\ p n = false) -> l.countP p < l.countP q
 | [],_,h => by obtain ⟨n,hn,_⟩:=h;cases hn
 | x :: l,h,he => by
  have hl:=fun n hn => h n (List.mem_cons_of_mem _ hn)
  have hle:l.countP p <= l.countP q:=List.countP_mono_left hl
  have h0:=h x (by simp)
  rw [List.countP_cons,List.countP_cons]
  obtain ⟨n,hn,h1,h2⟩:=he
  rcases List.mem_cons.1 hn with rfl | hn
  ·rw [h1,h2,if_pos rfl,if_neg (by simp)];omega
  ·have:=countP_lt hl ⟨n,hn,h1,h2⟩
   cases hp:p x with
   | false => rw [if_neg (by simp)];omega
   | true => rw [h0 hp,if_pos rfl];omega
def Sp.closed (S:Int -> List Bk) (ns:List Int):Prop:=∀ n ∈ ns,∀ x ∈ S n,Sp.cIs x.ws = true -> Sp.cN x.ws ∈ ns
theorem V_pig {S:Int -> List Bk} {ns:List Int} (hc:Sp.closed S ns) {k:Nat} {n:Int} (hn:n ∈ ns) (h:(Sp.V S k n).isSome = true):(Sp.V S ns.length n).isSome = true:=by
 have hs:∃ j,j <= ns.length /\ ∀ n ∈ ns,(Sp.V S (j + 1) n).isSome = true -> (Sp.V S j n).isSome = true:=by
  refine Classical.byContradiction fun hx => ?_
  have hx':∀ j,j <= ns.length -> ∃ n ∈ ns,(Sp.V S (j + 1) n).isSome = true /\ (Sp.V S j n).isSome = false:=fun j hj => by
   refine Classical.byContradiction fun y => hx ⟨j,hj,fun n hn h1 => ?_⟩
   cases h2:(Sp.V S j n).isSome with
   | true => rfl
   | false => exact (y ⟨n,hn,h1,h2⟩).elim
  have hcnt:∀ j,j <= ns.length + 1 -> j <= ns.countP fun n => (Sp.V S j n).isSome:=by
   intro j
   induction j with
   | zero => intro _;omega
   | succ j ih =>
    intro hj
    have:=ih (by omega)
    have:=countP_lt (p:=fun n => (Sp.V S j n).isSome) (q:=fun n => (Sp.V S (j + 1) n).isSome) (fun n _ h => V_some h (by omega)) (hx' j (by omega))
    omega
  have h1:=hcnt (ns.length + 1) (by omega)
  have h2:=List.countP_le_length (p:=fun n => (Sp.V S (ns.length + 1) n).isSome) (l:=ns)
  omega
 obtain ⟨j,hj,hst⟩:=hs
 have hall:∀ i,∀ n ∈ ns,(Sp.V S (j + i) n).isSome = true -> (Sp.V S j n).isSome = true:=by
  intro i
  induction i with
  | zero => intro n _ h;exact h
  | succ i ih =>
   intro n hn h
   refine hst n hn (V_succ.2 fun x hx y => ?_)
   exact ih _ (hc n hn x hx y) (V_succ.1 h x hx y)
 exact V_some (hall k n hn (V_some h (by omega))) hj
theorem sumP_rng {D Z:Int -> Int} {t:Int}:∀ (l:List Bk) (d z:Int),(∀ x ∈ l,Sp.cIs x.ws = true -> (0 <= D (Sp.cN x.ws) /\ D (Sp.cN x.ws) <= t) /\ 0 <= Z (Sp.cN x.ws) /\ Z (Sp.cN x.ws) <= 20001) -> 0 <= d -> d <= t + 1 -> 0 <= z -> z <= 20001 ->
  (0 <= (Sp.sumP D Z l d z).1 /\ (Sp.sumP D Z l d z).1 <= t + 1) /\ 0 <= (Sp.sumP D Z l d z).2 /\ (Sp.sumP D Z l d z).2 <= 20001
 | [],_,_,_,h1,h2,h3,h4 => ⟨⟨h1,h2⟩,h3,h4⟩
 | x :: r,d,z,h,h1,h2,h3,h4 => by
  have hr:=fun y hy => h y (List.mem_cons_of_mem _ hy)
  rw [Sp.sumP]
  split
  ·rename_i k
   obtain ⟨⟨a1,a2⟩,a3,a4⟩:=h x (by simp) k
   have hct:=(cIs_at k).1
   have hr':=mul_rng a3 a4 hct.1 hct.2
   rw [Int.mul_comm] at hr'
   have hc0:=cap_ge hr'.1
   refine sumP_rng r _ _ hr ?_ ?_ (cap_ge (by omega)) (cap_le _)
   ·unfold Sp.mx;split <;> omega
   ·unfold Sp.mx;split <;> omega
  ·exact sumP_rng r _ _ hr h1 h2 (cap_ge (by omega)) (cap_le _)
theorem V_rng {S:Int -> List Bk}:∀ (k:Nat) (n:Int) (v:Int × Int),Sp.V S k n = some v -> (0 <= v.1 /\ v.1 <= k) /\ 0 <= v.2 /\ v.2 <= 20001:=by
 intro k
 induction k with
 | zero => intro n v h;simp [Sp.V] at h
 | succ k ih =>
  intro n v h
  rw [Sp.V] at h
  split at h
  ·rename_i hd
   have hd':=allD_iff.1 hd
   rw [<- Option.some.inj h]
   have:=sumP_rng (D:=fun m => ((Sp.V S k m).getD (0,0)).1) (Z:=fun m => ((Sp.V S k m).getD (0,0)).2) (t:=k) (S n) 0 0 (fun x hx y => by
    obtain ⟨w,hw⟩:=Option.isSome_iff_exists.1 (hd' x hx y)
    have:=ih _ _ hw
    simp only [hw,Option.getD_some];exact this) (by omega) (by omega) (by omega) (by omega)
   unfold Sp.sumE
   refine ⟨⟨this.1.1,by have:=this.1.2;omega⟩,this.2⟩
  ·cases h
def MInv (S:Int -> List Bk) (st dp sz:List AV):Prop:=(IntM st /\ IntM dp /\ IntM sz) /\ (∀ n,0 <= mapI n dp /\ mapI n dp <= 1000000) /\ (∀ n,0 <= mapI n sz /\ mapI n sz <= 20001) /\ ∀ n,mapI n st = 2 -> ∃ k,Sp.V S k n = some (mapI n dp,mapI n sz)
def MSub (S:Int -> List Bk) (ns:List Int) (sm:List AV):Prop:=mapKeys .i64 sm = true /\ ns.length <= 1000 /\ Sp.closed S ns /\ ∀ n ∈ ns,Sp.okBs (S n) /\ ∃ bf,mapVal (ofC (Value.slice none 0 0)) n sm = .vec bf 3 ((S n).map Bk.a)
def MRes (S:Int -> List Bk) (n:Int) (st st1:List AV) (r:Bool):Prop:=
 (r = true -> mapI n st1 = 2 /\ (∀ m,mapI m st ≠ 0 -> mapI m st1 = mapI m st) /\ ∀ m,mapI m st1 = 1 -> mapI m st = 1) /\
 (r = false -> ∀ k,(Sp.V S k n).isSome = true -> ∃ m,mapI m st = 1 /\ (Sp.V S k m).isSome = true)
theorem measure_loop {S:Int -> List Bk} {ns:List Int} {sm dn:List AV} (hs:MSub S ns sm) {F:Nat} {n:Int} {bf:Bool} (hn:n ∈ ns) (hv:mapVal (ofC (Value.slice none 0 0)) n sm = .vec bf 3 ((S n).map Bk.a))
  (ih:∀ st dp sz n,MInv S st dp sz -> (∀ m,mapI m st = 0 \/ mapI m st = 1 \/ mapI m st = 2) -> n ∈ ns -> (ns.countP fun m => mapI m st == 0) <= F -> ∃ r st1 dp1 sz1,Ev M1 (.own 84 [.ptr 0 0 0 0,.int .i64 n] (XH sm st dp sz dn)) (.bool r) (XH sm st1 dp1 sz1 dn) /\ MInv S st1 dp1 sz1 /\ (∀ m,mapI m st1 = 0 \/ mapI m st1 = 1 \/ mapI m st1 = 2) /\ MRes S n st st1 r) :
  ∀ (c i:Nat) (st dp sz:List AV),i + c = (S n).length -> MInv S st dp sz -> (∀ m,mapI m st = 0 \/ mapI m st = 1 \/ mapI m st = 2) -> mapI n st = 1 -> (ns.countP fun m => mapI m st == 0) <= F -> (∀ x ∈ (S n).take i,Sp.cIs x.ws = true -> mapI (Sp.cN x.ws) st = 2) ->
  ∃ r st1 dp1 sz1,tvMsa_at sm st dp sz dn n bf (S n) (S n).length i (KeepQ (.bool r) (XH sm st1 dp1 sz1 dn)) /\ MInv S st1 dp1 sz1 /\ (∀ m,mapI m st1 = 0 \/ mapI m st1 = 1 \/ mapI m st1 = 2) /\
   (r = true -> mapI n st1 = 2 /\ (∀ m,m ≠ n -> mapI m st ≠ 0 -> mapI m st1 = mapI m st) /\ ∀ m,mapI m st1 = 1 -> mapI m st = 1 /\ m ≠ n) /\
   (r = false -> ∃ x ∈ S n,Sp.cIs x.ws = true /\ ∀ k,(Sp.V S k (Sp.cN x.ws)).isSome = true -> ∃ m,mapI m st = 1 /\ (Sp.V S k m).isSome = true):=by
 obtain ⟨hs1,hs2,hs3,hs4⟩:=hs
 obtain ⟨hb,-⟩:=hs4 n hn
 have hbl:=hb.1
 intro c
 induction c with
 | zero =>
  intro i st dp sz hi hm h3 hg hF hp
  obtain ⟨⟨m1,m2,m3⟩,m4,m5,m6⟩:=hm
  rw [List.take_of_length_le (by omega)] at hp
  have hV:∀ x ∈ S n,Sp.cIs x.ws = true -> Sp.V S ns.length (Sp.cN x.ws) = some (mapI (Sp.cN x.ws) dp,mapI (Sp.cN x.ws) sz):=fun x hx k => by
   obtain ⟨j,hj⟩:=m6 _ (hp x hx k)
   have:=V_pig hs3 (hs3 n hn x hx k) (by rw [hj];rfl:(Sp.V S j _).isSome = true)
   obtain ⟨w,hw⟩:=Option.isSome_iff_exists.1 this
   rw [hw,V_eq hw hj]
  have hVn:Sp.V S (ns.length + 1) n = some (Sp.sumP (fun n => mapI n dp) (fun n => mapI n sz) (S n) 0 0):=by
   rw [Sp.V,if_pos (allD_iff.2 fun x hx k => by rw [hV x hx k];rfl)]
   unfold Sp.sumE
   congr 1
   exact sumP_congr _ _ _ fun x hx k => by rw [hV x hx k];exact ⟨rfl,rfl⟩
  have hr:=V_rng _ _ _ hVn
  obtain ⟨i1,i2⟩:=intM_put (n:=n) (x:=2) m1
  obtain ⟨j1,j2⟩:=intM_put (n:=n) (x:=(Sp.sumP (fun n => mapI n dp) (fun n => mapI n sz) (S n) 0 0).1) m2
  obtain ⟨l1,l2⟩:=intM_put (n:=n) (x:=(Sp.sumP (fun n => mapI n dp) (fun n => mapI n sz) (S n) 0 0).2) m3
  refine ⟨true,mapPut .i64 n (.int .i64 2) st,mapPut .i64 n (.int .i64 (Sp.sumP (fun n => mapI n dp) (fun n => mapI n sz) (S n) 0 0).1) dp,mapPut .i64 n (.int .i64 (Sp.sumP (fun n => mapI n dp) (fun n => mapI n sz) (S n) 0 0).2) sz,?_,⟨⟨i1,j1,l1⟩,fun m => ?_,fun m => ?_,fun m hm => ?_⟩,fun m => ?_,fun _ => ⟨?_,fun m hm _ => ?_,fun m hm => ?_⟩,fun h => by cases h⟩
  ·exact tvMsa _ _ _ _ _ _ _ _ _ _ _ _ rfl ⟨fun h => by omega,fun _ => ⟨m1.1,⟨hb,m2,m3,m4,m5⟩,hs1,m2.1,m3.1,hv,rfl,rfl⟩⟩
  ·rw [j2];split
   ·omega
   ·exact m4 m
  ·rw [l2];split
   ·exact hr.2
   ·exact m5 m
  ·rw [i2] at hm
   rw [j2,l2]
   split at hm
   ·rename_i e;rw [if_pos e,if_pos e,e];exact ⟨_,hVn⟩
   ·rename_i e;rw [if_neg e,if_neg e];exact m6 m hm
  ·rw [i2];split
   ·omega
   ·exact h3 m
  ·rw [i2,if_pos rfl]
  ·rw [i2,if_neg hm]
  ·rw [i2] at hm
   split at hm
   ·omega
   ·rename_i e;exact ⟨hm,e⟩
 | succ c ihc =>
  intro i st dp sz hi hm h3 hg hF hp
  have hx:(S n).getD i default ∈ S n:=getD_mem (by omega)
  have hw:=hb.2 _ hx
  have hstep:∀ {Q:AV × Heap},(tvMsc_at sm st dp sz dn n bf (S n) (S n).length i (Sp.cN ((S n).getD i default).ws) (Sp.cIs ((S n).getD i default).ws) (KeepQ Q.1 Q.2)) -> keepOk 6 Q.1 Q.2 = true -> tvMsa_at sm st dp sz dn n bf (S n) (S n).length i (KeepQ Q.1 Q.2):=fun {Q} h hk => by
   refine tvMsa _ _ _ _ _ _ _ _ _ _ _ _ hk ⟨fun _ => ?_,fun h => by omega⟩
   rw [Int.toNat_natCast]
   exact ⟨by omega,by omega,hw,h⟩
  cases k:Sp.cIs ((S n).getD i default).ws with
  | false =>
   obtain ⟨r,st1,dp1,sz1,q1,q2,q3,q4,q5⟩:=ihc (i + 1) st dp sz (by omega) hm h3 hg hF (fun x hx' kx => by
    rw [List.take_succ_eq_append_getElem (show i < (S n).length by omega)] at hx'
    rcases List.mem_append.1 hx' with hx' | hx'
    ·exact hp x hx' kx
    ·rw [List.mem_singleton] at hx'
     rw [List.getD_eq_getElem?_getD,List.getElem?_eq_getElem (show i < (S n).length by omega)] at k
     rw [hx'] at kx
     simp only [Option.getD_some] at k
     rw [k] at kx;cases kx)
   refine ⟨r,st1,dp1,sz1,hstep (Q:=(_,_)) ?_ rfl,q2,q3,q4,q5⟩
   rw [k]
   exact tvMscF _ _ _ _ _ _ _ _ _ _ _ true [] [] [] _ _ rfl ⟨fun h => (by cases h),by omega,q1⟩
  | true =>
   have hcn:=hs3 n hn _ hx k
   obtain ⟨r,sa,da,za,a1,a2,a3,a4,a5⟩:=ih st dp sz _ hm h3 hcn hF
   cases r with
   | false =>
    refine ⟨false,sa,da,za,hstep (Q:=(_,_)) ?_ rfl,a2,a3,fun h => (by cases h),fun _ => ⟨_,hx,k,a5 rfl⟩⟩
    rw [k]
    exact tvMscT _ _ _ _ _ _ _ _ _ _ _ false sa da za _ _ rfl ⟨fun _ => a1,fun _ => ⟨rfl,rfl⟩,fun h => (h (by simp)).elim⟩
   | true =>
    obtain ⟨b1,b2,b3⟩:=a4 rfl
    have hF':(ns.countP fun m => mapI m sa == 0) <= F:=by
     refine Nat.le_trans (List.countP_mono_left fun m _ h => ?_) hF
     simp only [beq_iff_eq] at h ⊢
     refine Classical.byContradiction fun y => ?_
     rw [b2 m y] at h;exact y h
    obtain ⟨r,st1,dp1,sz1,q1,q2,q3,q4,q5⟩:=ihc (i + 1) sa da za (by omega) a2 a3 (by rw [b2 n (by omega)];exact hg) hF' (fun x hx' kx => by
     rw [List.take_succ_eq_append_getElem (show i < (S n).length by omega)] at hx'
     rcases List.mem_append.1 hx' with hx' | hx'
     ·have:=hp x hx' kx
      rw [b2 _ (by omega)];exact this
     ·rw [List.mem_singleton] at hx'
      rw [List.getD_eq_getElem?_getD,List.getElem?_eq_getElem (show i < (S n).length by omega)] at b1
      rw [hx']
      exact b1)
    refine ⟨r,st1,dp1,sz1,hstep (Q:=(_,_)) ?_ rfl,q2,q3,fun hr => ?_,fun hr => ?_⟩
    ·rw [k]
     exact tvMscT _ _ _ _ _ _ _ _ _ _ _ true sa da za _ _ rfl ⟨fun _ => a1,fun h => (h rfl).elim,fun _ => ⟨by omega,q1⟩⟩
    ·obtain ⟨c1,c2,c3⟩:=q4 hr
     refine ⟨c1,fun m hm h0 => ?_,fun m hm => ?_⟩
     ·have:=b2 m h0
      rw [c2 m hm (by omega),this]
     ·have:=c3 m hm
      exact ⟨b3 m this.1,this.2⟩
    ·obtain ⟨x,d1,d2,d3⟩:=q5 hr
     exact ⟨x,d1,d2,fun k hk => by
      obtain ⟨m,e1,e2⟩:=d3 k hk
      exact ⟨m,b3 m e1,e2⟩⟩
theorem measure_ev {S:Int -> List Bk} {ns:List Int} {sm dn:List AV} (hs:MSub S ns sm):∀ (F:Nat) (st dp sz:List AV) (n:Int),MInv S st dp sz -> (∀ m,mapI m st = 0 \/ mapI m st = 1 \/ mapI m st = 2) -> n ∈ ns -> (ns.countP fun m => mapI m st == 0) <= F ->
  ∃ r st1 dp1 sz1,Ev M1 (.own 84 [.ptr 0 0 0 0,.int .i64 n] (XH sm st dp sz dn)) (.bool r) (XH sm st1 dp1 sz1 dn) /\ MInv S st1 dp1 sz1 /\ (∀ m,mapI m st1 = 0 \/ mapI m st1 = 1 \/ mapI m st1 = 2) /\ MRes S n st st1 r:=by
 intro F
 induction F with
 | zero =>
  intro st dp sz n hm h3 hn hF
  have hst:=hm.1.1
  have h0:mapI n st ≠ 0:=fun h => by
   have:=List.countP_pos_iff (p:=fun m => mapI m st == 0).2 ⟨n,hn,by simp [h]⟩
   omega
  have hvn:=hs.2.2.2 n hn
  rcases h3 n with h | h | h
  ·exact (h0 h).elim
  ·refine ⟨false,st,dp,sz,?_,hm,h3,fun h => (by cases h),fun _ k hk => ⟨n,h,hk⟩⟩
   exact keepcall84 rfl (tvMs _ _ _ _ _ _ true [] _ _ rfl ⟨hst.1,hst.2,fun _ => ⟨rfl,rfl⟩,fun y => (y h).elim⟩)
  ·refine ⟨true,st,dp,sz,?_,hm,h3,fun _ => ⟨h,fun _ _ => rfl,fun _ h => h⟩,fun h => (by cases h)⟩
   exact keepcall84 rfl (tvMs _ _ _ _ _ _ true [] _ _ rfl ⟨hst.1,hst.2,fun y => by omega,fun _ => ⟨fun _ => ⟨rfl,rfl⟩,fun y => (y h).elim⟩⟩)
 | succ F ih =>
  intro st dp sz n hm h3 hn hF
  have hst:=hm.1.1
  obtain ⟨hb,bf,hv⟩:=hs.2.2.2 n hn
  rcases h3 n with h | h | h
  ·obtain ⟨i1,i2⟩:=intM_put (n:=n) (x:=1) hst
   obtain ⟨r,st1,dp1,sz1,q1,q2,q3,q4,q5⟩:=measure_loop (dn:=dn) hs hn hv ih (S n).length 0 (mapPut .i64 n (.int .i64 1) st) dp sz (by omega) ⟨⟨i1,hm.1.2⟩,hm.2.1,hm.2.2.1,fun m hm2 => by
     rw [i2] at hm2
     split at hm2
     ·omega
     ·exact hm.2.2.2 m hm2⟩ (fun m => by
     rw [i2];split
     ·omega
     ·exact h3 m) (by rw [i2,if_pos rfl]) (by
     have:=countP_lt (p:=fun m => mapI m (mapPut .i64 n (.int .i64 1) st) == 0) (q:=fun m => mapI m st == 0) (l:=ns) (fun m _ hm0 => by
      simp only [beq_iff_eq] at hm0 ⊢
      rw [i2] at hm0
      split at hm0
      ·omega
      ·exact hm0) ⟨n,hn,by simp [h],by rw [i2,if_pos rfl];rfl⟩
     omega) (fun x hx => by simp at hx)
   refine ⟨r,st1,dp1,sz1,?_,q2,q3,fun hr => ?_,fun hr k hk => ?_⟩
   ·exact keepcall84 rfl (tvMs _ _ _ _ _ _ bf (S n) _ _ rfl ⟨hst.1,hst.2,fun y => by omega,fun _ => ⟨fun y => by omega,fun _ => ⟨hs.1,hv,q1⟩⟩⟩)
   ·obtain ⟨c1,c2,c3⟩:=q4 hr
    refine ⟨c1,fun m h0 => ?_,fun m h1 => ?_⟩
    ·have hmn:m ≠ n:=fun e => h0 (by rw [e];exact h)
     have:=c2 m hmn (by rw [i2,if_neg hmn];exact h0)
     rw [this,i2,if_neg hmn]
    ·obtain ⟨d1,d2⟩:=c3 m h1
     rw [i2,if_neg d2] at d1;exact d1
   ·obtain ⟨x,d1,d2,d3⟩:=q5 hr
    have hex:∃ j,j < k /\ (Sp.V S (j + 1) n).isSome = true /\ (Sp.V S j n).isSome = false:=by
     clear d3 q1
     induction k with
     | zero => simp [Sp.V] at hk
     | succ k ihk =>
      cases hk0:(Sp.V S k n).isSome with
      | false => exact ⟨k,by omega,hk,hk0⟩
      | true =>
       obtain ⟨j,e1,e2⟩:=ihk hk0
       exact ⟨j,by omega,e2⟩
    obtain ⟨j,e1,e2,e3⟩:=hex
    obtain ⟨m,f1,f2⟩:=d3 j (V_succ.1 e2 x d1 d2)
    have hmn:m ≠ n:=fun e => by rw [e,e3] at f2;cases f2
    rw [i2,if_neg hmn] at f1
    exact ⟨m,f1,V_some f2 (by omega)⟩
  ·refine ⟨false,st,dp,sz,?_,hm,h3,fun h => (by cases h),fun _ k hk => ⟨n,h,hk⟩⟩
   exact keepcall84 rfl (tvMs _ _ _ _ _ _ true [] _ _ rfl ⟨hst.1,hst.2,fun _ => ⟨rfl,rfl⟩,fun y => (y h).elim⟩)
  ·refine ⟨true,st,dp,sz,?_,hm,h3,fun _ => ⟨h,fun _ _ => rfl,fun _ h => h⟩,fun h => (by cases h)⟩
   exact keepcall84 rfl (tvMs _ _ _ _ _ _ true [] _ _ rfl ⟨hst.1,hst.2,fun y => by omega,fun _ => ⟨fun _ => ⟨rfl,rfl⟩,fun y => (y h).elim⟩⟩)
end Go.Av

namespace Go.Av
open Go.Proofs
structure Bl where
 f:Bool
 bl:List Bk
 deriving Inhabited
def Bl.a (x:Bl):AV:=.vec x.f 3 (x.bl.map Bk.a)
end Go.Av

namespace Go.Av
open Go.Proofs
set_option maxRecDepth 100000
def fi49:Fi:=⟨27,[.tmp 4]⟩
def kp49:List (Nat × List Nat):=[(0,[0,1]),(1,[0,1,6]),(2,[0,1]),(3,[0,1]),(4,[0,1,16]),(5,[0]),(6,[4])]
def svGw_at (n:Int) (Q:AV -> Heap -> Prop):Prop:=Wp M1 (.run fi49 (atC (cd Try.f49) []) [(0,.vnil),(1,.int .i64 n)] []) Q
theorem owncall49 {args:List AV} {L:Heap} {Q:AV -> Heap -> Prop} (h:Wp M1 (.run fi49 [.code (cd Try.f49)] (argVars 0 args) L) Q):Wp M1 (.own 49 args L) Q:=
 own_wp Try.f49 fi49 (by kernel_rfl) (by kernel_rfl) (by kernel_rfl) (by kernel_rfl) h
theorem svGw (n:Int)  (Q:AV -> Heap -> Prop) (H :
  ((n < 0) -> False) /\
  (¬(n < 0) -> (-9223372036854775808 <= n - 0 /\ n - 0 <= 9223372036854775807) /\
   ((n - 0 > 0) -> (0 < n - 0) /\
    ((n - 0).toNat * 48 <= 1099511627776) /\
    (0 <= (List.replicate (n - 0).toNat (ag [vb false,AV.vnil,AV.str []])).length) /\
    Q (AV.ref 0 0 0 0) [{ elems:=List.replicate (n - 0).toNat (ag [vb false,AV.vnil,AV.str []]),es:=3,ver:=0,frozen:=false,clean:=true }]) /\
   (¬(n - 0 > 0) -> Q (AV.vnil) []))) :
 svGw_at n Q:=by
 unfold svGw_at
 rcases xm (n < 0) with d2 | d2
 ·have H:=H.1 d2
  exact False.elim H
 ·have H:=H.2 d2
  obtain ⟨k3,H⟩:=H
  have w4:wi (n - 0) = n - 0:=wI64 k3
  have i5:(decide (wi (n - 0) > 0)) = true ↔ (n - 0 > 0):=(by (try rw [w4]);all_goals exact i_dec)
  rcases xm (n - 0 > 0) with d6 | d6
  ·have H:=H.1 d6
   have i7:(decide (0 < wi (n - 0))) = true ↔ (0 < n - 0):=(by (try rw [w4]);all_goals exact i_dec)
   obtain ⟨k8,H⟩:=H
   have i9:(decide ((wi (n - 0)).toNat * 48 <= 1099511627776)) = true ↔ ((n - 0).toNat * 48 <= 1099511627776):=(by (try rw [w4]);all_goals exact i_dec)
   obtain ⟨k10,H⟩:=H
   have i11:(decide (0 <= (List.replicate (wi (n - 0)).toNat (ag [vb false,AV.vnil,AV.str []])).length)) = true ↔ (0 <= (List.replicate (n - 0).toNat (ag [vb false,AV.vnil,AV.str []])).length):=(by (try rw [w4]);all_goals exact i_dec)
   obtain ⟨k12,H⟩:=H
   exact path_ret (G:=given kp49 [] []) 1000 [false,true] (k:=((atC (cd Try.f49) [1,1,1,1])).tail) (env':=[(4,AV.ref 0 0 0 0)]) (L':=[⟨List.replicate (wi (n - 0)).toNat (ag [vb false,AV.vnil,AV.str []]),3,0,false,true⟩]) (asm:=[(decide (n < 0)) == false,(decide (wi (n - 0) > 0)) == true,true,true,true,true,true,decide (0 < wi (n - 0)),decide ((wi (n - 0)).toNat * 48 <= 1099511627776),true,true,true,decide (0 <= (List.replicate (wi (n - 0)).toNat (ag [vb false,AV.vnil,AV.str []])).length)]) (eqs:=[]) (calls:=[]) (AV.ref 0 0 0 0) (by kernel_rfl) (by kernel_rfl) (allB_cons (beq_f (fun h => d2 (i_dec.1 h))) (allB_cons (beq_t (i5.2 d6)) (allB_cons rfl (allB_cons rfl (allB_cons rfl (allB_cons rfl (allB_cons rfl (allB_cons (i7.2 k8) (allB_cons (i9.2 k10) (allB_cons rfl (allB_cons rfl (allB_cons rfl (allB_cons (i11.2 k12) allB_nil))))))))))))) allP_nil allC_nil (by (try rw [w4]);all_goals exact H)
  ·have H:=H.2 d6
   exact path_ret (G:=given kp49 [] []) 1000 [false,false] (k:=((atC (cd Try.f49) [1,1,1,1])).tail) (env':=[(4,AV.vnil)]) (L':=[]) (asm:=[(decide (n < 0)) == false,(decide (wi (n - 0) > 0)) == false]) (eqs:=[]) (calls:=[]) (AV.vnil) (by kernel_rfl) (by kernel_rfl) (allB_cons (beq_f (fun h => d2 (i_dec.1 h))) (allB_cons (beq_f (fun h => d6 (i5.1 h))) allB_nil)) allP_nil allC_nil H
end Go.Av

namespace Go.Av
open Go.Proofs
def Sp.zbk:AV:=.agg [.bool false,.vnil,.str []]
theorem evo49_y (n:Int) (h:0 < n /\ n <= 1000000) (c:n > 0):Ev M1 (.own 49 [.vnil,.int .i64 n] []) (.ref 0 0 0 0) [⟨List.replicate n.toNat Sp.zbk,3,0,false,true⟩]:=by
 refine owncall49 (svGw n _ ⟨fun k => by omega,fun k => ⟨by omega,fun _ => ⟨by omega,by omega,by omega,?_⟩,fun k => by omega⟩⟩)
 rw [Int.sub_zero];exact ⟨rfl,rfl⟩
theorem evo49_n (n:Int) (h:0 <= n) (c:¬n > 0):Ev M1 (.own 49 [.vnil,.int .i64 n] []) .vnil []:=
 owncall49 (svGw n _ ⟨fun k => by omega,fun k => ⟨by omega,fun k => by omega,fun _ => ⟨rfl,rfl⟩⟩⟩)
end Go.Av
