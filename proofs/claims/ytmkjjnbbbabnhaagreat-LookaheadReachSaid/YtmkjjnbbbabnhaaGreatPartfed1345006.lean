/- PART 6 of the texts of a claim, joined by a program: what each part shows stands at its head. -/
import Derived.Test.YtmkjjnbbbabnhaaGreatPart116279146b

namespace Go.Av
open Go.Proofs
set_option maxRecDepth 100000
def fi7:Fi:=⟨76,[.tmp 0]⟩
def kp7:List (Nat × List Nat):=[(0,[]),(1,[1,2]),(2,[1,2,3,4]),(3,[1,2,3,4,5,6]),(4,[1,2,3,4,5,6,7,8]),(5,[1,2,3,4,5,6,7,8,9,10]),(6,[0])]
def kAwake_at  (Q:AV -> Heap -> Prop):Prop:=Wp M1 (.run fi7 (atC (cd Tryz.f7) []) [] []) Q
theorem call7 {args:List AV} {d:AV} (h:wc M1 fi7 Tryz.f7 args d):Ev M1 (.pure 7 args) d []:=pcl _ _ (by kernel_rfl) h
noncomputable abbrev zNzJ1:=ag [vb (Sp.isNeg (Sp.reR 2000 1000 1000).num),vf (us (Sp.limI (Sp.reR 2000 1000 1000).num)),vb false,vf (us (Sp.limI (↑(Sp.reR 2000 1000 1000).den:Int)))]
noncomputable abbrev zNzJ2 (n1:Int) (b3:Bool):=bif bif bif bif bif bif n1 == 0 then true else false then false else false then true else false then Sp.fastV 0 500 1000 == 1000 else false then b3 else false then Sp.cor 1 0 0 0 1 0 500 == 500 else false
noncomputable abbrev zNzJ3 (n1:Int) (b1:Bool):=bif bif bif bif bif bif n1 == 0 then true else false then true else false then true else false then Sp.fastV 0 500 1000 == 1000 else false then b1 else false then Sp.cor 1 0 0 0 1 0 500 == 500 else false
noncomputable abbrev zNzJ4:=ag [vb false,vf [],vb false,vf []]
noncomputable abbrev zNzJ5:=tu [vi (Sp.cor 1 0 0 0 1 0 500),vi 0]
noncomputable abbrev zNzJ6:=tu [vi (Sp.str 1000 1000 1000),vi 0]
noncomputable abbrev zNzJ7:=tu [vi (Sp.fastV 0 500 1000),vi 0]
noncomputable abbrev zNzJ8 (l1:List (Int)) (n1:Int):=tu [vf (List.map (vi) l1),vi n1]
theorem kAwake   (dq:AV) (H :
  ∃ (l1:List (Int)) (n1:Int),
  (Ev M1 (Conf.pure 22 [AV.vec true 3 [ag [vi 500,vi 2000,vi 600],ag [vi 500,vi 2000,vi 2000]],vi 1000]) (tu [vf (List.map (vi) l1),vi n1]) []) /\
  ((Sp.okRe 2000 1000 1000) -> ∃ (b1:Bool),
   ((((((n1 = 0) \/ (false = true)) \/ (false = true)) \/ (false = true)) /\ (Sp.fastV 0 500 1000 = 1000)) -> (Ev M1 (Conf.pure 23 [vf (List.map (vi) l1),AV.vec true 1 [vi 0,vi 600,vi 0]]) (vb b1) [])) /\
   ((((((((n1 = 0) \/ (false = true)) \/ (false = true)) \/ (false = true)) /\ (Sp.fastV 0 500 1000 = 1000)) /\ (b1 = true)) /\ (Sp.cor 1 0 0 0 1 0 500 = 500)) -> (Sp.inI 1000)) /\
   ∃ (b2:Bool),
   ((((((((n1 = 0) \/ (false = true)) \/ (false = true)) \/ (false = true)) /\ (Sp.fastV 0 500 1000 = 1000)) /\ (b1 = true)) /\ (Sp.cor 1 0 0 0 1 0 500 = 500)) -> (Ev M1 (Conf.pure 15 [ag [vb (Sp.isNeg (Sp.reR 2000 1000 1000).num),vf (us (Sp.limI (Sp.reR 2000 1000 1000).num)),vb false,vf (us (Sp.limI (↑(Sp.reR 2000 1000 1000).den:Int)))],ratA false false (Sp.qi 1000)]) (vb b2) [])) /\
   vb (bif bif bif bif bif bif bif bif n1 == 0 then true else false then true else false then true else false then Sp.fastV 0 500 1000 == 1000 else false then b1 else false then Sp.cor 1 0 0 0 1 0 500 == 500 else false then b2 else false then Sp.str 1000 1000 1000 == 2000 else false) = dq) /\
  (¬(Sp.okRe 2000 1000 1000) -> ∃ (b3:Bool),
   ((((((n1 = 0) \/ (false = true)) /\ (false = true)) \/ (false = true)) /\ (Sp.fastV 0 500 1000 = 1000)) -> (Ev M1 (Conf.pure 23 [vf (List.map (vi) l1),AV.vec true 1 [vi 0,vi 600,vi 0]]) (vb b3) [])) /\
   ((((((((n1 = 0) \/ (false = true)) /\ (false = true)) \/ (false = true)) /\ (Sp.fastV 0 500 1000 = 1000)) /\ (b3 = true)) /\ (Sp.cor 1 0 0 0 1 0 500 = 500)) -> (Sp.inI 1000)) /\
   ∃ (b4:Bool),
   ((((((((n1 = 0) \/ (false = true)) /\ (false = true)) \/ (false = true)) /\ (Sp.fastV 0 500 1000 = 1000)) /\ (b3 = true)) /\ (Sp.cor 1 0 0 0 1 0 500 = 500)) -> (Ev M1 (Conf.pure 15 [ag [vb false,vf [],vb false,vf []],ratA false false (Sp.qi 1000)]) (vb b4) [])) /\
   vb (bif bif bif bif bif bif bif bif n1 == 0 then true else false then false else false then true else false then Sp.fastV 0 500 1000 == 1000 else false then b3 else false then Sp.cor 1 0 0 0 1 0 500 == 500 else false then b4 else false then Sp.str 1000 1000 1000 == 2000 else false) = dq)) :
 kAwake_at  (PureQ dq):=by
 unfold kAwake_at
 obtain ⟨l1,n1,H⟩:=H
 obtain ⟨k1,H⟩:=H
 rcases xm (Sp.okRe 2000 1000 1000) with d2 | d2
 ·have H:=H.1 d2
  obtain ⟨b1,H⟩:=H
  obtain ⟨k4,H⟩:=H
  obtain ⟨k6,H⟩:=H
  obtain ⟨b2,H⟩:=H
  obtain ⟨k8,H⟩:=H
  exact path_re (G:=given kp7 [(1,0,.call (zNzJ7) none),(2,3,.call ((zNzJ8 l1 n1)) none),(3,2,.call (zNzJ5) none),(4,0,.call (tu [zNzJ1,vi 0]) none),(5,0,.call (zNzJ6) none),(6,25,.call (vb b1) none),(6,33,.call (ratA false false (Sp.qi 1000)) none),(6,34,.call (vb b2) none)] []) 1000 [] (asm:=[true,!((zNzJ3 n1 b1) == true && true) || true]) (calls:=[⟨true,false,21,[vi 0,vi 500,vi 1000],[],zNzJ7,[]⟩,⟨true,false,22,[AV.vec true 3 [ag [vi 500,vi 2000,vi 600],ag [vi 500,vi 2000,vi 2000]],vi 1000],[],(zNzJ8 l1 n1),[]⟩,⟨true,false,8,[ag [vi 1,vi 0,vi 0],ag [vi 0,vi 1,vi 0],vi 500],[],zNzJ5,[]⟩,⟨true,false,12,[vi 2000,vi 1000,vi 1000],[],tu [zNzJ1,vi 0],[]⟩,⟨true,false,17,[vi 1000,vi 1000,vi 1000],[],zNzJ6,[]⟩,⟨(bif bif bif bif n1 == 0 then true else false then true else false then true else false then Sp.fastV 0 500 1000 == 1000 else false) == true && true && true,false,23,[vf (List.map (vi) l1),AV.vec true 1 [vi 0,vi 600,vi 0]],[],vb b1,[]⟩,⟨(zNzJ3 n1 b1) == true && true && true,false,24,[vi 1000],[],ratA false false (Sp.qi 1000),[]⟩,⟨(zNzJ3 n1 b1) == true && true && true,false,15,[zNzJ1,ratA false false (Sp.qi 1000)],[],vb b2,[]⟩]) (vb (bif bif bif bif bif bif bif bif n1 == 0 then true else false then true else false then true else false then Sp.fastV 0 500 1000 == 1000 else false then b1 else false then Sp.cor 1 0 0 0 1 0 500 == 500 else false then b2 else false then Sp.str 1000 1000 1000 == 2000 else false)) (by kernel_rfl) (bc rfl (bc (Bool.or_true _) b0)) q0 (cc (fun _ => (@ev21 (0) (500) (1000))) (cc (fun _ => k1) (cc (fun _ => (@ev8 (1) (0) (0) (0) (1) (0) (500))) (cc (fun _ => (@ev12_y (2000) (1000) (1000) d2)) (cc (fun _ => (@ev17 (1000) (1000) (1000))) (cc (fun hc => ((k4 ((i_at (i_at (i_bt (i_band (i_bor (i_bor (i_bor i_eq (i_var _)) (i_var _)) (i_var _)) i_eq)))).1 hc)):Ev M1 (Conf.pure 23 [vf (List.map (vi) l1),AV.vec true 1 [vi 0,vi 600,vi 0]]) (vb b1) [])) (cc (fun hc => ((@ev24 (1000) (k6 ((i_at (i_at (i_bt (i_band (i_band (i_band (i_bor (i_bor (i_bor i_eq (i_var _)) (i_var _)) (i_var _)) i_eq) (i_var _)) i_eq)))).1 hc))):Ev M1 (Conf.pure 24 [vi 1000]) (ratA false false (Sp.qi 1000)) [])) (cc (fun hc => ((k8 ((i_at (i_at (i_bt (i_band (i_band (i_band (i_bor (i_bor (i_bor i_eq (i_var _)) (i_var _)) (i_var _)) i_eq) (i_var _)) i_eq)))).1 hc)):Ev M1 (Conf.pure 15 [zNzJ1,ratA false false (Sp.qi 1000)]) (vb b2) [])) c0)))))))) H
 ·have H:=H.2 d2
  obtain ⟨b3,H⟩:=H
  obtain ⟨k10,H⟩:=H
  obtain ⟨k12,H⟩:=H
  obtain ⟨b4,H⟩:=H
  obtain ⟨k14,H⟩:=H
  exact path_re (G:=given kp7 [(1,0,.call (zNzJ7) none),(2,3,.call ((zNzJ8 l1 n1)) none),(3,2,.call (zNzJ5) none),(4,0,.call (tu [zNzJ4,vi 1]) none),(5,0,.call (zNzJ6) none),(6,25,.call (vb b3) none),(6,33,.call (ratA false false (Sp.qi 1000)) none),(6,34,.call (vb b4) none)] []) 1000 [] (asm:=[true,!((zNzJ2 n1 b3) == true && true) || true]) (calls:=[⟨true,false,21,[vi 0,vi 500,vi 1000],[],zNzJ7,[]⟩,⟨true,false,22,[AV.vec true 3 [ag [vi 500,vi 2000,vi 600],ag [vi 500,vi 2000,vi 2000]],vi 1000],[],(zNzJ8 l1 n1),[]⟩,⟨true,false,8,[ag [vi 1,vi 0,vi 0],ag [vi 0,vi 1,vi 0],vi 500],[],zNzJ5,[]⟩,⟨true,false,12,[vi 2000,vi 1000,vi 1000],[],tu [zNzJ4,vi 1],[]⟩,⟨true,false,17,[vi 1000,vi 1000,vi 1000],[],zNzJ6,[]⟩,⟨(bif bif bif bif n1 == 0 then true else false then false else false then true else false then Sp.fastV 0 500 1000 == 1000 else false) == true && true && true,false,23,[vf (List.map (vi) l1),AV.vec true 1 [vi 0,vi 600,vi 0]],[],vb b3,[]⟩,⟨(zNzJ2 n1 b3) == true && true && true,false,24,[vi 1000],[],ratA false false (Sp.qi 1000),[]⟩,⟨(zNzJ2 n1 b3) == true && true && true,false,15,[zNzJ4,ratA false false (Sp.qi 1000)],[],vb b4,[]⟩]) (vb (bif bif bif bif bif bif bif bif n1 == 0 then true else false then false else false then true else false then Sp.fastV 0 500 1000 == 1000 else false then b3 else false then Sp.cor 1 0 0 0 1 0 500 == 500 else false then b4 else false then Sp.str 1000 1000 1000 == 2000 else false)) (by kernel_rfl) (bc rfl (bc (Bool.or_true _) b0)) q0 (cc (fun _ => (@ev21 (0) (500) (1000))) (cc (fun _ => k1) (cc (fun _ => (@ev8 (1) (0) (0) (0) (1) (0) (500))) (cc (fun _ => (@ev12_n (2000) (1000) (1000) d2)) (cc (fun _ => (@ev17 (1000) (1000) (1000))) (cc (fun hc => ((k10 ((i_at (i_at (i_bt (i_band (i_bor (i_band (i_bor i_eq (i_var _)) (i_var _)) (i_var _)) i_eq)))).1 hc)):Ev M1 (Conf.pure 23 [vf (List.map (vi) l1),AV.vec true 1 [vi 0,vi 600,vi 0]]) (vb b3) [])) (cc (fun hc => ((@ev24 (1000) (k12 ((i_at (i_at (i_bt (i_band (i_band (i_band (i_bor (i_band (i_bor i_eq (i_var _)) (i_var _)) (i_var _)) i_eq) (i_var _)) i_eq)))).1 hc))):Ev M1 (Conf.pure 24 [vi 1000]) (ratA false false (Sp.qi 1000)) [])) (cc (fun hc => ((k14 ((i_at (i_at (i_bt (i_band (i_band (i_band (i_bor (i_band (i_bor i_eq (i_var _)) (i_var _)) (i_var _)) i_eq) (i_var _)) i_eq)))).1 hc)):Ev M1 (Conf.pure 15 [zNzJ4,ratA false false (Sp.qi 1000)]) (vb b4) [])) c0)))))))) H
end Go.Av

namespace Go.Av
open Go.Proofs
theorem ev7:Ev M1 (.pure 7 []) (.bool true) []:=by
 have s:=ev22 true exL 1000
 rw [ex_valid,ex_spds] at s
 have q:=ev23 false true [0,600,0] [0,600,0] (by decide)
 rw [decide_eq_true rfl] at q
 have k:=ev15 false false false false (Sp.reR 2000 1000 1000) (Sp.qi 1000) ⟨okT_R (okT_re ex_okRe) (by omega),okT_R (okT_int (by unfold Sp.inI;omega)) (by omega)⟩
 rw [decide_eq_true ex_re] at k
 refine call7 (kAwake _ ⟨[0,600,0],0,s,fun _ => ⟨true,fun _ => q,fun _ => by unfold Sp.inI;omega,true,fun _ => k,?_⟩,fun x => absurd ex_okRe x⟩)
 rw [ex_fast.1,ex_cor.1,ex_str.1]
 rfl
end Go.Av

namespace Go.Av
open Go.Proofs
set_option maxRecDepth 100000
end Go.Av

namespace Go.Av
open Go.Proofs
end Go.Av

namespace Go.Av
open Go.Proofs
set_option maxRecDepth 100000
def fi41:Fi:=⟨40,[.cell 6 36]⟩
def kp41:List (Nat × List Nat):=[(0,[0,1,2,6]),(1,[6,7,8,9]),(2,[6,7,8,9,23]),(3,[6]),(4,[6])]
def kReachR_at (t v a:Int) (Q:AV -> Heap -> Prop):Prop:=Wp M1 (.run fi41 (atC (cd Tryz.f41) []) [(0,.int .i64 t),(1,.int .i64 v),(2,.int .i64 a)] []) Q
theorem call41 {args:List AV} {d:AV} (h:wc M1 fi41 Tryz.f41 args d):Ev M1 (.pure 41 args) d []:=pcl _ _ (by kernel_rfl) h
noncomputable abbrev zNzH3 (t:Int) (a:Int) (v:Int):=Sp.sgnI ((Sp.qf t 1000 * Sp.qi a).num * (↑(Sp.qi v + Sp.qi v).den:Int) - (Sp.qi v + Sp.qi v).num * (↑(Sp.qf t 1000 * Sp.qi a).den:Int)) >= 0
theorem kReachR (t v a:Int)  (dq:AV) (H :
  (Sp.okF t 1000) /\
  (Sp.inI v) /\
  (Sp.inI a) /\
  (Sp.okR (Sp.qf t 1000) /\ Sp.okR (Sp.qi a)) /\
  (Sp.okR (Sp.qi v) /\ Sp.okR (Sp.qi v)) /\
  (Sp.okR (Sp.qf t 1000 * Sp.qi a) /\ Sp.okR (Sp.qi v + Sp.qi v)) /\
  ((Sp.sgnI ((Sp.qf t 1000 * Sp.qi a).num * (↑(Sp.qi v + Sp.qi v).den:Int) - (Sp.qi v + Sp.qi v).num * (↑(Sp.qf t 1000 * Sp.qi a).den:Int)) >= 0) -> (Sp.okR (Sp.qi v) /\ Sp.okR (Sp.qf t 1000)) /\
   (Sp.okR (Sp.qi v * Sp.qi v) /\ Sp.okR (Sp.qi a) /\ (Sp.qi a).num ≠ 0) /\
   (Sp.okR (Sp.qi v * Sp.qf t 1000) /\ Sp.okR (Sp.qi v * Sp.qi v / Sp.qi a)) /\
   Weak (ratA false false (Sp.qi v * Sp.qf t 1000 - Sp.qi v * Sp.qi v / Sp.qi a)) dq) /\
  (¬(Sp.sgnI ((Sp.qf t 1000 * Sp.qi a).num * (↑(Sp.qi v + Sp.qi v).den:Int) - (Sp.qi v + Sp.qi v).num * (↑(Sp.qf t 1000 * Sp.qi a).den:Int)) >= 0) -> (Sp.okF 1 4) /\
   (Sp.okR (Sp.qi a) /\ Sp.okR (Sp.qf 1 4)) /\
   (Sp.okR (Sp.qf t 1000) /\ Sp.okR (Sp.qf t 1000)) /\
   (Sp.okR (Sp.qi a * Sp.qf 1 4) /\ Sp.okR (Sp.qf t 1000 * Sp.qf t 1000)) /\
   Weak (ratA false false (Sp.qi a * Sp.qf 1 4 * (Sp.qf t 1000 * Sp.qf t 1000))) dq)) :
 kReachR_at t v a (PureQ dq):=by
 unfold kReachR_at
 obtain ⟨k1,H⟩:=H
 obtain ⟨k2,H⟩:=H
 obtain ⟨k3,H⟩:=H
 obtain ⟨k4,H⟩:=H
 obtain ⟨k5,H⟩:=H
 obtain ⟨k6,H⟩:=H
 refine path_wp (G:=given kp41 [(1,1,.call (ratA false false (Sp.qf t 1000)) none),(1,3,.call (ratA false false (Sp.qi v)) none),(1,5,.call (ratA false false (Sp.qi a)) none),(2,2,.call (ratA false false (Sp.qf t 1000 * Sp.qi a)) none),(2,5,.call (ratA false false (Sp.qi v + Sp.qi v)) none),(2,6,.call (vi (Sp.sgnI ((Sp.qf t 1000 * Sp.qi a).num * (↑(Sp.qi v + Sp.qi v).den:Int) - (Sp.qi v + Sp.qi v).num * (↑(Sp.qf t 1000 * Sp.qi a).den:Int)))) none)] []) 7 [] ⟨(atC (cd Tryz.f41) [1,1,0,1]),[(6,AV.ptr 0 0 0 0),(7,AV.ptr 1 0 0 0),(8,AV.ptr 2 0 0 0),(9,AV.ptr 3 0 0 0),(23,vb (decide (zNzH3 t a v)))],[⟨[ag [vb false,AV.vnil,vb false,AV.vnil]],4,0,false,false⟩,⟨[ratA false false (Sp.qf t 1000)],4,0,false,false⟩,⟨[ratA false false (Sp.qi v)],4,0,false,false⟩,⟨[ratA false false (Sp.qi a)],4,0,false,false⟩],_,[],_⟩ (by kernel_rfl) (bc rfl (bc rfl (bc rfl (bc rfl (bc rfl (bc rfl (bc rfl b0))))))) q0 (ce (@ev79 (t) (1000) k1) (ce (@ev51 (v) k2) (ce (@ev51 (a) k3) (ce (@ev68 (false) (false) (false) (false) (Sp.qf t 1000) (Sp.qi a) k4) (ce (@ev65 (false) (false) (false) (false) (Sp.qi v) (Sp.qi v) k5) (ce (@ev16 (false) (false) (false) (false) (Sp.qf t 1000 * Sp.qi a) (Sp.qi v + Sp.qi v) k6) c0)))))) ?_
 rcases xm (zNzH3 t a v) with d8 | d8
 ·have H:=H.1 d8
  obtain ⟨k9,H⟩:=H
  obtain ⟨k10,H⟩:=H
  obtain ⟨k11,H⟩:=H
  exact path_rq (G:=given kp41 [(3,2,.call (ratA false false (Sp.qi v * Sp.qf t 1000)) none),(3,5,.call (ratA false false (Sp.qi v * Sp.qi v)) none),(3,7,.call (ratA false false (Sp.qi v * Sp.qi v / Sp.qi a)) none),(3,8,.call (ratA false false (Sp.qi v * Sp.qf t 1000 - Sp.qi v * Sp.qi v / Sp.qi a)) none)] []) 1000 [true] (ratA false false (Sp.qi v * Sp.qf t 1000 - Sp.qi v * Sp.qi v / Sp.qi a)) (by kernel_rfl) (bc (beq_t (i_dec.2 d8)) (bc rfl (bc rfl (bc rfl (bc rfl (bc rfl (bc rfl b0))))))) q0 (ce (@ev68 (false) (false) (false) (false) (Sp.qi v) (Sp.qf t 1000) k9) (ce (@ev68 (false) (false) (false) (false) (Sp.qi v) (Sp.qi v) k5) (ce (@ev66 (false) (false) (false) (false) (Sp.qi v * Sp.qi v) (Sp.qi a) k10) (ce (@ev67 (false) (false) (false) (false) (Sp.qi v * Sp.qf t 1000) (Sp.qi v * Sp.qi v / Sp.qi a) k11) c0)))) H
 ·have H:=H.2 d8
  obtain ⟨k12,H⟩:=H
  obtain ⟨k13,H⟩:=H
  obtain ⟨k14,H⟩:=H
  obtain ⟨k15,H⟩:=H
  exact path_rq (G:=given kp41 [(4,1,.call (ratA false false (Sp.qf 1 4)) none),(4,2,.call (ratA false false (Sp.qi a * Sp.qf 1 4)) none),(4,5,.call (ratA false false (Sp.qf t 1000 * Sp.qf t 1000)) none),(4,6,.call (ratA false false (Sp.qi a * Sp.qf 1 4 * (Sp.qf t 1000 * Sp.qf t 1000))) none)] []) 1000 [false] (ratA false false (Sp.qi a * Sp.qf 1 4 * (Sp.qf t 1000 * Sp.qf t 1000))) (by kernel_rfl) (bc (beq_f (fun h => d8 (i_dec.1 h))) (bc rfl (bc rfl (bc rfl (bc rfl b0))))) q0 (ce (@ev79 (1) (4) k12) (ce (@ev68 (false) (false) (false) (false) (Sp.qi a) (Sp.qf 1 4) k13) (ce (@ev68 (false) (false) (false) (false) (Sp.qf t 1000) (Sp.qf t 1000) k14) (ce (@ev68 (false) (false) (false) (false) (Sp.qi a * Sp.qf 1 4) (Sp.qf t 1000 * Sp.qf t 1000) k15) c0)))) H
end Go.Av

namespace Go.Av
open Go.Proofs
theorem ev41 (t v a:Int) (k:Sp.okRe t v a):Ev M1 (.pure 41 [.int .i64 t,.int .i64 v,.int .i64 a]) (ratA false false (Sp.reR t v a)) []:=by
 obtain ⟨h1,h2,h3⟩:=k
 unfold Sp.isAcc at h3
 have ia:Sp.inI a:=by unfold Sp.inI;omega
 have iv:Sp.inI v:=by unfold Sp.inI;omega
 have ft:Sp.okF t 1000:=⟨by unfold Sp.inI;omega,by unfold Sp.inI;omega,by omega⟩
 have f4:Sp.okF 1 4:=⟨by unfold Sp.inI;omega,by unfold Sp.inI;omega,by omega⟩
 have qt:=okT_qf ft
 have qv:=okT_int iv
 have qa:=okT_int ia
 have pa:=qi_pos h3.1
 have na:(Sp.qi a).num ≠ 0:=fun e => by rw [Rat.num_eq_zero] at e;grind
 refine call41 (kReachR _ _ _ _ ⟨ft,iv,ia,⟨okT_R qt (by omega),okT_R qa (by omega)⟩,⟨okT_R qv (by omega),okT_R qv (by omega)⟩,⟨okT_R (okT_mul qt qa) (by omega),okT_R (okT_add qv qv) (by omega)⟩,fun x => ?_,fun x => ?_⟩)
 ·rw [cmp_ge] at x
  rw [show Sp.reR t v a = Sp.qi v * Sp.qf t 1000 - Sp.qi v * Sp.qi v / Sp.qi a by unfold Sp.reR Sp.rch;rw [if_pos x]]
  exact ⟨⟨okT_R qv (by omega),okT_R qt (by omega)⟩,⟨okT_R (okT_mul qv qv) (by omega),okT_R qa (by omega),na⟩,⟨okT_R (okT_mul qv qt) (by omega),okT_R (okT_div (okT_mul qv qv) qa na) (by omega)⟩,.refl _⟩
 ·rw [cmp_ge] at x
  have e:Sp.qi a * Sp.qf 1 4 = Sp.qf a 4:=by
   rw [qf_div _ (by omega),qf_div _ (by omega),Rat.div_def,Rat.div_def,qi1];grind
  rw [reach_n x,e]
  refine ⟨f4,⟨okT_R qa (by omega),okT_R (okT_qf f4) (by omega)⟩,⟨okT_R qt (by omega),okT_R qt (by omega)⟩,⟨?_,okT_R (okT_mul qt qt) (by omega)⟩,.refl _⟩
  exact okT_R (okT_qf (show Sp.okF a 4 from ⟨ia,by unfold Sp.inI;omega,by omega⟩)) (by omega)
end Go.Av

namespace Go.Av
open Go.Proofs
set_option maxRecDepth 100000
def fi13:Fi:=⟨33,[.cell 6 36,.tmp 7]⟩
def kp13:List (Nat × List Nat):=[(0,[0,1,2,6]),(1,[0,1,2,6,27]),(2,[6,7]),(3,[6,7])]
def kReaR_at (t v a:Int) (Q:AV -> Heap -> Prop):Prop:=Wp M1 (.run fi13 (atC (cd Tryz.f13) []) [(0,.int .i64 t),(1,.int .i64 v),(2,.int .i64 a)] []) Q
theorem call13 {args:List AV} {d:AV} (h:wc M1 fi13 Tryz.f13 args d):Ev M1 (.pure 13 args) d []:=pcl _ _ (by kernel_rfl) h
theorem kReaR (t v a:Int)  (dq:AV) (H :
  ((((((t < 0) \/ (t > 1000000000000)) \/ (¬(Sp.isV v))) \/ (v < 1)) \/ (¬(Sp.isAcc a))) -> Weak (tu [ag [vb false,AV.vnil,vb false,AV.vnil],vi 1]) dq) /\
  (¬(((((t < 0) \/ (t > 1000000000000)) \/ (¬(Sp.isV v))) \/ (v < 1)) \/ (¬(Sp.isAcc a))) -> (Sp.okRe t v a) /\
   Weak (tu [ratA false false (Sp.reR t v a),vi 0]) dq)) :
 kReaR_at t v a (PureQ dq):=by
 unfold kReaR_at
 refine path_wp (G:=given kp13 [(1,8,.call (vb (decide (Sp.isV v))) none),(1,17,.call (vb (decide (Sp.isAcc a))) none)] []) 5 [] ⟨(atC (cd Tryz.f13) [1,0,1]),[(0,vi t),(1,vi v),(2,vi a),(6,AV.ptr 0 0 0 0),(27,vb (bif bif bif bif decide (t < 0) then true else decide (t > 1000000000000) then true else !decide (Sp.isV v) then true else decide (v < 1) then true else !decide (Sp.isAcc a)))],[⟨[ag [vb false,AV.vnil,vb false,AV.vnil]],4,0,false,false⟩],_,[],[⟨(bif decide (t < 0) then true else decide (t > 1000000000000)) == false && true && true,false,10,[vi v],[],vb (decide (Sp.isV v)),[]⟩,⟨(bif bif bif decide (t < 0) then true else decide (t > 1000000000000) then true else !decide (Sp.isV v) then true else decide (v < 1)) == false && true && true,false,40,[vi a],[],vb (decide (Sp.isAcc a)),[]⟩]⟩ (by kernel_rfl) b0 q0 (cc (fun hc => ((@ev10 (v)):Ev M1 (Conf.pure 10 [vi v]) (vb (decide (Sp.isV v))) [])) (cc (fun hc => ((@ev40 (a)):Ev M1 (Conf.pure 40 [vi a]) (vb (decide (Sp.isAcc a))) [])) c0)) ?_
 rcases xm (((((t < 0) \/ (t > 1000000000000)) \/ (¬(Sp.isV v))) \/ (v < 1)) \/ (¬(Sp.isAcc a))) with d4 | d4
 ·have H:=H.1 d4
  exact path_rq (G:=given kp13 [] []) 1000 [true] (tu [ag [vb false,AV.vnil,vb false,AV.vnil],vi 1]) (by kernel_rfl) (bc (beq_t ((i_bor (i_bor (i_bor (i_bor i_dec i_dec) (i_not i_dec)) i_dec) (i_not i_dec)).2 d4)) (bc rfl b0)) q0 c0 H
 ·have H:=H.2 d4
  obtain ⟨k5,H⟩:=H
  exact path_rq (G:=given kp13 [(3,3,.call (ratA false false (Sp.reR t v a)) none)] []) 1000 [false] (tu [ratA false false (Sp.reR t v a),vi 0]) (by kernel_rfl) (bc (beq_f (fun h => d4 ((i_bor (i_bor (i_bor (i_bor i_dec i_dec) (i_not i_dec)) i_dec) (i_not i_dec)).1 h))) (bc rfl b0)) q0 (ce (@ev41 (t) (v) (a) k5) c0) H
end Go.Av

namespace Go.Av
open Go.Proofs
namespace Sp
end Sp
theorem ev13_y (t v a:Int) (k:Sp.okRe t v a):Ev M1 (.pure 13 [.int .i64 t,.int .i64 v,.int .i64 a]) (.tup [ratA false false (Sp.reR t v a),.int .i64 0]) []:=by
 refine call13 (kReaR _ _ _ _ ⟨fun x => ?_,fun _ => ⟨k,.refl _⟩⟩)
 unfold Sp.okRe Sp.isAcc at k
 unfold Sp.isV Sp.isAcc at x
 omega
theorem ev13_n (t v a:Int) (k:¬(Sp.okRe t v a)):Ev M1 (.pure 13 [.int .i64 t,.int .i64 v,.int .i64 a]) (.tup [noR,.int .i64 1]) []:=by
 refine call13 (kReaR _ _ _ _ ⟨fun _ => weak_two weak_nr (.refl _),fun x => ?_⟩)
 exfalso
 refine k ?_
 unfold Sp.okRe Sp.isAcc
 unfold Sp.isV Sp.isAcc at x
 omega
end Go.Av

namespace Go.Av
open Go.Proofs
structure Mo where
 ax:Int
 ay:Int
 az:Int
 bx:Int
 by_:Int
 bz:Int
 rate:Int
 tool:Int
 blk:Int
 deriving Inhabited
def Mo.a (p:Mo):AV:=.agg [.int .i64 p.ax,.int .i64 p.ay,.int .i64 p.az,.int .i64 p.bx,.int .i64 p.by_,.int .i64 p.bz,.int .i64 p.rate,.int .i64 p.tool,.int .i64 p.blk]
end Go.Av

namespace Go.Av
open Go.Proofs
set_option maxRecDepth 100000
def fi4:Fi:=⟨84,[.tmp 6]⟩
def kp4:List (Nat × List Nat):=[(0,[0,1,2]),(1,[0,1,2,16]),(2,[6]),(3,[0,1,2,7,8]),(4,[0,1,2,7,8,9,10]),(5,[0,1,2,7,8,9,33]),(6,[6]),(7,[0,1,2,7,9,35]),(8,[6]),(9,[0,1,2,7,49]),(10,[6]),(11,[0,1,2,7,11,12]),(12,[7,11,12,13,14]),(13,[6])]
def lRea_at (n u v:Int) (Q:AV -> Heap -> Prop):Prop:=Wp M1 (.run fi4 (atC (cd Tryz.f4) []) [(0,.int .i64 n),(1,.int .i64 u),(2,.int .i64 v)] []) Q
theorem call4 {args:List AV} {d:AV} (h:wc M1 fi4 Tryz.f4 args d):Ev M1 (.pure 4 args) d []:=pcl _ _ (by kernel_rfl) h
noncomputable abbrev zNzM14:=ag [vb false,vf [],vb false,vf []]
noncomputable abbrev zNzM15 (n:Int) (u:Int) (v:Int):=bif !Sp.valB (Sp.isNeg (Sp.reR n u v).num) (Sp.limI (Sp.reR n u v).num) (Sp.isNeg (↑(Sp.reR n u v).den:Int)) (Sp.limI (↑(Sp.reR n u v).den:Int)) then true else !decide (Sp.reR n u v = Sp.reR n u v)
noncomputable abbrev zNzM16 (n:Int) (u:Int) (v:Int):=Sp.sgnI ((Sp.reR (n + 1) u v).num * (↑(Sp.reR n u v).den:Int) - (Sp.reR n u v).num * (↑(Sp.reR (n + 1) u v).den:Int))
noncomputable abbrev zNzM17 (n:Int) (u:Int) (v:Int):=Sp.sgnI ((Sp.reR (n + 1) u v).num * (↑(Sp.reR n u v).den:Int) - (Sp.reR n u v).num * (↑(Sp.reR (n + 1) u v).den:Int)) > 0
noncomputable abbrev zNzM18 (n:Int) (u:Int) (v:Int):=Sp.sgnI ((Sp.reR n (u + 1) v).num * (↑(Sp.reR n u v).den:Int) - (Sp.reR n u v).num * (↑(Sp.reR n (u + 1) v).den:Int))
noncomputable abbrev zNzM19 (n:Int) (u:Int) (v:Int):=Sp.valB (Sp.isNeg (Sp.reR n u v).num) (Sp.limI (Sp.reR n u v).num) (Sp.isNeg (↑(Sp.reR n u v).den:Int)) (Sp.limI (↑(Sp.reR n u v).den:Int))
noncomputable abbrev zNzM20 (n:Int) (u:Int) (v:Int):=Sp.sgnI ((Sp.reR n (u + 1) v).num * (↑(Sp.reR n u v).den:Int) - (Sp.reR n u v).num * (↑(Sp.reR n (u + 1) v).den:Int)) >= 0
theorem lRea (n u v:Int)  (dq:AV) (H :
  ((Sp.okRe n u v) -> (Sp.okA (Sp.limI (Sp.reR n u v).num) (Sp.limI (↑(Sp.reR n u v).den:Int))) /\
   ((¬(¬(Sp.valB (Sp.isNeg (Sp.reR n u v).num) (Sp.limI (Sp.reR n u v).num) (Sp.isNeg (↑(Sp.reR n u v).den:Int)) (Sp.limI (↑(Sp.reR n u v).den:Int)) = true))) -> (Sp.okR (Sp.reR n u v) /\ Sp.okR (Sp.reR n u v))) /\
   (((¬(Sp.valB (Sp.isNeg (Sp.reR n u v).num) (Sp.limI (Sp.reR n u v).num) (Sp.isNeg (↑(Sp.reR n u v).den:Int)) (Sp.limI (↑(Sp.reR n u v).den:Int)) = true)) \/ (¬(Sp.reR n u v = Sp.reR n u v))) -> vb false = dq) /\
   (¬((¬(Sp.valB (Sp.isNeg (Sp.reR n u v).num) (Sp.limI (Sp.reR n u v).num) (Sp.isNeg (↑(Sp.reR n u v).den:Int)) (Sp.limI (↑(Sp.reR n u v).den:Int)) = true)) \/ (¬(Sp.reR n u v = Sp.reR n u v))) -> (-9223372036854775808 <= n + 1 /\ n + 1 <= 9223372036854775807) /\
    ((Sp.okRe (n + 1) u v) -> (-9223372036854775808 <= u + 1 /\ u + 1 <= 9223372036854775807) /\
     ((Sp.okRe n (u + 1) v) -> ((¬(false = true)) -> (Sp.okR (Sp.reR (n + 1) u v) /\ Sp.okR (Sp.reR n u v))) /\
      ((Sp.sgnI ((Sp.reR (n + 1) u v).num * (↑(Sp.reR n u v).den:Int) - (Sp.reR n u v).num * (↑(Sp.reR (n + 1) u v).den:Int)) > 0) -> (Sp.okR (Sp.reR n (u + 1) v) /\ Sp.okR (Sp.reR n u v))) /\
      vb (bif decide (Sp.sgnI ((Sp.reR (n + 1) u v).num * (↑(Sp.reR n u v).den:Int) - (Sp.reR n u v).num * (↑(Sp.reR (n + 1) u v).den:Int)) > 0) then decide (Sp.sgnI ((Sp.reR n (u + 1) v).num * (↑(Sp.reR n u v).den:Int) - (Sp.reR n u v).num * (↑(Sp.reR n (u + 1) v).den:Int)) >= 0) else false) = dq) /\
     (¬(Sp.okRe n (u + 1) v) -> ((¬(false = true)) -> (Sp.okR (Sp.reR (n + 1) u v) /\ Sp.okR (Sp.reR n u v))) /\
      ∃ (n1:Int),
      ((false = true) -> (Ev M1 (Conf.pure 16 [ag [vb false,vf [],vb false,vf []],ratA false false (Sp.reR n u v)]) (vi n1) [])) /\
      vb (bif decide (Sp.sgnI ((Sp.reR (n + 1) u v).num * (↑(Sp.reR n u v).den:Int) - (Sp.reR n u v).num * (↑(Sp.reR (n + 1) u v).den:Int)) > 0) then true else false) = dq)) /\
    (¬(Sp.okRe (n + 1) u v) -> (-9223372036854775808 <= u + 1 /\ u + 1 <= 9223372036854775807) /\
     ((Sp.okRe n (u + 1) v) -> ∃ (n2:Int),
      ((¬(true = true)) -> (Ev M1 (Conf.pure 16 [ag [vb false,vf [],vb false,vf []],ratA false false (Sp.reR n u v)]) (vi n2) [])) /\
      (Sp.okR (Sp.reR n (u + 1) v) /\ Sp.okR (Sp.reR n u v)) /\
      vb (decide (Sp.sgnI ((Sp.reR n (u + 1) v).num * (↑(Sp.reR n u v).den:Int) - (Sp.reR n u v).num * (↑(Sp.reR n (u + 1) v).den:Int)) >= 0)) = dq) /\
     (¬(Sp.okRe n (u + 1) v) -> ∃ (n3:Int),
      ((¬(true = true)) -> (Ev M1 (Conf.pure 16 [ag [vb false,vf [],vb false,vf []],ratA false false (Sp.reR n u v)]) (vi n3) [])) /\
      ∃ (n4:Int),
      ((false = true) -> (Ev M1 (Conf.pure 16 [ag [vb false,vf [],vb false,vf []],ratA false false (Sp.reR n u v)]) (vi n4) [])) /\
      vb true = dq)))) /\
  (¬(Sp.okRe n u v) -> vb true = dq)) :
 lRea_at n u v (PureQ dq):=by
 unfold lRea_at
 rcases xm (Sp.okRe n u v) with d1 | d1
 ·have H:=H.1 d1
  obtain ⟨k2,H⟩:=H
  obtain ⟨k4,H⟩:=H
  refine path_wp (G:=given kp4 [(1,0,.call (vb true) none),(3,3,.call (tu [ratA false false (Sp.reR n u v),vi 0]) none),(4,3,.call (tu [ratA false false (Sp.reR n u v),vi 0]) none),(9,1,.call (vb (zNzM19 n u v)) none),(9,6,.call (vb (decide (Sp.reR n u v = Sp.reR n u v))) none)] []) 24 [false,false,false] ⟨(atC (cd Tryz.f4) [1,1,1,1,1,1,0,1]),[(0,vi n),(1,vi u),(2,vi v),(7,AV.ptr 0 0 0 0),(49,vb (zNzM15 n u v))],[⟨[ratA false false (Sp.reR n u v)],4,0,false,false⟩,⟨[ratA false false (Sp.reR n u v)],4,0,false,false⟩],[false == false,true,true,false == false,false == false,true,!((!Sp.valB (Sp.isNeg (Sp.reR n u v).num) (Sp.limI (Sp.reR n u v).num) (Sp.isNeg (↑(Sp.reR n u v).den:Int)) (Sp.limI (↑(Sp.reR n u v).den:Int))) == false && true) || true,!((!Sp.valB (Sp.isNeg (Sp.reR n u v).num) (Sp.limI (Sp.reR n u v).num) (Sp.isNeg (↑(Sp.reR n u v).den:Int)) (Sp.limI (↑(Sp.reR n u v).den:Int))) == false && true) || true],[],[⟨true,false,7,[],[],vb true,[]⟩,⟨true,false,12,[vi n,vi u,vi v],[],tu [ratA false false (Sp.reR n u v),vi 0],[]⟩,⟨true,false,13,[vi n,vi u,vi v],[],tu [ratA false false (Sp.reR n u v),vi 0],[]⟩,⟨true,false,14,[ratA false false (Sp.reR n u v)],[],vb (zNzM19 n u v),[]⟩,⟨(!Sp.valB (Sp.isNeg (Sp.reR n u v).num) (Sp.limI (Sp.reR n u v).num) (Sp.isNeg (↑(Sp.reR n u v).den:Int)) (Sp.limI (↑(Sp.reR n u v).den:Int))) == false && true && true,false,15,[ratA false false (Sp.reR n u v),ratA false false (Sp.reR n u v)],[],vb (decide (Sp.reR n u v = Sp.reR n u v)),[]⟩]⟩ (by kernel_rfl) (bc rfl (bc rfl (bc rfl (bc rfl (bc rfl (bc rfl (bc (Bool.or_true _) (bc (Bool.or_true _) b0)))))))) q0 (cc (fun _ => (@ev7 )) (cc (fun _ => (@ev12_y (n) (u) (v) d1)) (cc (fun _ => (@ev13_y (n) (u) (v) d1)) (cc (fun _ => (@ev14 (Sp.isNeg (Sp.reR n u v).num) (false) (Sp.isNeg (↑(Sp.reR n u v).den:Int)) (false) (Sp.limI (Sp.reR n u v).num) (Sp.limI (↑(Sp.reR n u v).den:Int)) k2)) (cc (fun hc => ((@ev15 (false) (false) (false) (false) (Sp.reR n u v) (Sp.reR n u v) (k4 ((i_at (i_at (i_bf (i_not (i_var _))))).1 hc))):Ev M1 (Conf.pure 15 [ratA false false (Sp.reR n u v),ratA false false (Sp.reR n u v)]) (vb (decide (Sp.reR n u v = Sp.reR n u v))) [])) c0))))) ?_
  rcases xm ((¬(Sp.valB (Sp.isNeg (Sp.reR n u v).num) (Sp.limI (Sp.reR n u v).num) (Sp.isNeg (↑(Sp.reR n u v).den:Int)) (Sp.limI (↑(Sp.reR n u v).den:Int)) = true)) \/ (¬(Sp.reR n u v = Sp.reR n u v))) with d6 | d6
  ·have H:=H.1 d6
   exact path_re (G:=given kp4 [] []) 1000 [true] (asm:=[(zNzM15 n u v) == true]) (vb false) (by kernel_rfl) (bc (beq_t ((i_bor (i_not (i_var _)) (i_not i_dec)).2 d6)) b0) q0 c0 H
  ·have H:=H.2 d6
   obtain ⟨k7,H⟩:=H
   have w8:wi (n + 1) = n + 1:=wI64 k7
   rcases xm (Sp.okRe (n + 1) u v) with d9 | d9
   ·have H:=H.1 d9
    obtain ⟨k10,H⟩:=H
    have w11:wi (u + 1) = u + 1:=wI64 k10
    rcases xm (Sp.okRe n (u + 1) v) with d12 | d12
    ·have H:=H.1 d12
     obtain ⟨k14,H⟩:=H
     obtain ⟨k16,H⟩:=H
     exact path_re (G:=given kp4 [(11,4,.call (tu [ratA false false (Sp.reR (n + 1) u v),vi 0]) none),(12,4,.call (tu [ratA false false (Sp.reR n (u + 1) v),vi 0]) none),(13,5,.call (vi (zNzM16 n u v)) none),(13,14,.call (vi (zNzM18 n u v)) none)] []) 1000 [false] (asm:=[(zNzM15 n u v) == false,true,true,true,true,!(decide (zNzM17 n u v) == true && true) || true,!(decide (zNzM17 n u v) == true && true) || true]) (calls:=[⟨true,false,12,[vi (wi (n + 1)),vi u,vi v],[],tu [ratA false false (Sp.reR (n + 1) u v),vi 0],[]⟩,⟨true,false,12,[vi n,vi (wi (u + 1)),vi v],[],tu [ratA false false (Sp.reR n (u + 1) v),vi 0],[]⟩,⟨false == false && true && true,false,16,[ratA false false (Sp.reR (n + 1) u v),ratA false false (Sp.reR n u v)],[],vi (zNzM16 n u v),[]⟩,⟨decide (zNzM17 n u v) == true && true && true,false,16,[ratA false false (Sp.reR n (u + 1) v),ratA false false (Sp.reR n u v)],[],vi (zNzM18 n u v),[]⟩]) (vb (bif decide (zNzM17 n u v) then decide (zNzM20 n u v) else false)) (by kernel_rfl) (bc (beq_f (fun h => d6 ((i_bor (i_not (i_var _)) (i_not i_dec)).1 h))) (bc rfl (bc rfl (bc rfl (bc rfl (bc (Bool.or_true _) (bc (Bool.or_true _) b0))))))) q0 (cc (fun _ => (by (try rw [w8]);all_goals exact (@ev12_y (n + 1) (u) (v) d9))) (cc (fun _ => (by (try rw [w11]);all_goals exact (@ev12_y (n) (u + 1) (v) d12))) (cc (fun hc => ((@ev16 (false) (false) (false) (false) (Sp.reR (n + 1) u v) (Sp.reR n u v) (k14 ((i_at (i_at (i_bf (i_var _)))).1 hc))):Ev M1 (Conf.pure 16 [ratA false false (Sp.reR (n + 1) u v),ratA false false (Sp.reR n u v)]) (vi (zNzM16 n u v)) [])) (cc (fun hc => ((@ev16 (false) (false) (false) (false) (Sp.reR n (u + 1) v) (Sp.reR n u v) (k16 ((i_at (i_at (i_bt i_dec))).1 hc))):Ev M1 (Conf.pure 16 [ratA false false (Sp.reR n (u + 1) v),ratA false false (Sp.reR n u v)]) (vi (zNzM18 n u v)) [])) c0)))) H
    ·have H:=H.2 d12
     obtain ⟨k18,H⟩:=H
     obtain ⟨n1,H⟩:=H
     obtain ⟨k20,H⟩:=H
     exact path_re (G:=given kp4 [(11,4,.call (tu [ratA false false (Sp.reR (n + 1) u v),vi 0]) none),(12,4,.call (tu [zNzM14,vi 1]) none),(13,5,.call (vi (zNzM16 n u v)) none),(13,14,.call (vi n1) none)] []) 1000 [false] (asm:=[(zNzM15 n u v) == false,true,true,true,true,true,true]) (calls:=[⟨true,false,12,[vi (wi (n + 1)),vi u,vi v],[],tu [ratA false false (Sp.reR (n + 1) u v),vi 0],[]⟩,⟨true,false,12,[vi n,vi (wi (u + 1)),vi v],[],tu [zNzM14,vi 1],[]⟩,⟨false == false && true && true,false,16,[ratA false false (Sp.reR (n + 1) u v),ratA false false (Sp.reR n u v)],[],vi (zNzM16 n u v),[]⟩,⟨false,false,16,[zNzM14,ratA false false (Sp.reR n u v)],[],vi n1,[]⟩]) (vb (bif decide (zNzM17 n u v) then true else false)) (by kernel_rfl) (bc (beq_f (fun h => d6 ((i_bor (i_not (i_var _)) (i_not i_dec)).1 h))) (bc rfl (bc rfl (bc rfl (bc rfl (bc rfl (bc rfl b0))))))) q0 (cc (fun _ => (by (try rw [w8]);all_goals exact (@ev12_y (n + 1) (u) (v) d9))) (cc (fun _ => (by (try rw [w11]);all_goals exact (@ev12_n (n) (u + 1) (v) d12))) (cc (fun hc => ((@ev16 (false) (false) (false) (false) (Sp.reR (n + 1) u v) (Sp.reR n u v) (k18 ((i_at (i_at (i_bf (i_var _)))).1 hc))):Ev M1 (Conf.pure 16 [ratA false false (Sp.reR (n + 1) u v),ratA false false (Sp.reR n u v)]) (vi (zNzM16 n u v)) [])) (cc (fun hc => ((k20 ((i_var _).1 hc)):Ev M1 (Conf.pure 16 [zNzM14,ratA false false (Sp.reR n u v)]) (vi n1) [])) c0)))) H
   ·have H:=H.2 d9
    obtain ⟨k21,H⟩:=H
    have w22:wi (u + 1) = u + 1:=wI64 k21
    rcases xm (Sp.okRe n (u + 1) v) with d23 | d23
    ·have H:=H.1 d23
     obtain ⟨n2,H⟩:=H
     obtain ⟨k25,H⟩:=H
     obtain ⟨k26,H⟩:=H
     exact path_re (G:=given kp4 [(11,4,.call (tu [zNzM14,vi 1]) none),(12,4,.call (tu [ratA false false (Sp.reR n (u + 1) v),vi 0]) none),(13,5,.call (vi n2) none),(13,14,.call (vi (zNzM18 n u v)) none)] []) 1000 [false] (asm:=[(zNzM15 n u v) == false,true,true,true,true,true,true]) (calls:=[⟨true,false,12,[vi (wi (n + 1)),vi u,vi v],[],tu [zNzM14,vi 1],[]⟩,⟨true,false,12,[vi n,vi (wi (u + 1)),vi v],[],tu [ratA false false (Sp.reR n (u + 1) v),vi 0],[]⟩,⟨true == false && true && true,false,16,[zNzM14,ratA false false (Sp.reR n u v)],[],vi n2,[]⟩,⟨true,false,16,[ratA false false (Sp.reR n (u + 1) v),ratA false false (Sp.reR n u v)],[],vi (zNzM18 n u v),[]⟩]) (vb (decide (zNzM20 n u v))) (by kernel_rfl) (bc (beq_f (fun h => d6 ((i_bor (i_not (i_var _)) (i_not i_dec)).1 h))) (bc rfl (bc rfl (bc rfl (bc rfl (bc rfl (bc rfl b0))))))) q0 (cc (fun _ => (by (try rw [w8]);all_goals exact (@ev12_n (n + 1) (u) (v) d9))) (cc (fun _ => (by (try rw [w22]);all_goals exact (@ev12_y (n) (u + 1) (v) d23))) (cc (fun hc => ((k25 ((i_at (i_at (i_bf (i_var _)))).1 hc)):Ev M1 (Conf.pure 16 [zNzM14,ratA false false (Sp.reR n u v)]) (vi n2) [])) (cc (fun _ => (@ev16 (false) (false) (false) (false) (Sp.reR n (u + 1) v) (Sp.reR n u v) k26)) c0)))) H
    ·have H:=H.2 d23
     obtain ⟨n3,H⟩:=H
     obtain ⟨k28,H⟩:=H
     obtain ⟨n4,H⟩:=H
     obtain ⟨k30,H⟩:=H
     exact path_re (G:=given kp4 [(11,4,.call (tu [zNzM14,vi 1]) none),(12,4,.call (tu [zNzM14,vi 1]) none),(13,5,.call (vi n3) none),(13,14,.call (vi n4) none)] []) 1000 [false] (asm:=[(zNzM15 n u v) == false,true,true,true,true,true,true]) (calls:=[⟨true,false,12,[vi (wi (n + 1)),vi u,vi v],[],tu [zNzM14,vi 1],[]⟩,⟨true,false,12,[vi n,vi (wi (u + 1)),vi v],[],tu [zNzM14,vi 1],[]⟩,⟨true == false && true && true,false,16,[zNzM14,ratA false false (Sp.reR n u v)],[],vi n3,[]⟩,⟨false,false,16,[zNzM14,ratA false false (Sp.reR n u v)],[],vi n4,[]⟩]) (vb true) (by kernel_rfl) (bc (beq_f (fun h => d6 ((i_bor (i_not (i_var _)) (i_not i_dec)).1 h))) (bc rfl (bc rfl (bc rfl (bc rfl (bc rfl (bc rfl b0))))))) q0 (cc (fun _ => (by (try rw [w8]);all_goals exact (@ev12_n (n + 1) (u) (v) d9))) (cc (fun _ => (by (try rw [w22]);all_goals exact (@ev12_n (n) (u + 1) (v) d23))) (cc (fun hc => ((k28 ((i_at (i_at (i_bf (i_var _)))).1 hc)):Ev M1 (Conf.pure 16 [zNzM14,ratA false false (Sp.reR n u v)]) (vi n3) [])) (cc (fun hc => ((k30 ((i_var _).1 hc)):Ev M1 (Conf.pure 16 [zNzM14,ratA false false (Sp.reR n u v)]) (vi n4) [])) c0)))) H
 ·have H:=H.2 d1
  exact path_re (G:=given kp4 [(1,0,.call (vb true) none),(3,3,.call (tu [zNzM14,vi 1]) none),(4,3,.call (tu [zNzM14,vi 1]) none)] []) 1000 [false,false,true] (vb true) (by kernel_rfl) (bc rfl (bc rfl (bc rfl (bc rfl (bc rfl (bc rfl b0)))))) q0 (ce (@ev7 ) (ce (@ev12_n (n) (u) (v) d1) (ce (@ev13_n (n) (u) (v) d1) c0))) H
end Go.Av

namespace Go.Av
open Go.Proofs
namespace Sp
end Sp
theorem cmp_gt {r s:Rat}:Sp.sgnI (r.num * (s.den:Int) - s.num * (r.den:Int)) > 0 ↔ s < r:=by
 have:Sp.sgnI (r.num * (s.den:Int) - s.num * (r.den:Int)) > 0 ↔ 0 < r.num * (s.den:Int) - s.num * (r.den:Int):=by
  unfold Sp.sgnI
  (repeat' split) <;> omega
 rw [this,Rat.lt_iff];omega
theorem ev4 (n u v:Int):Ev M1 (.pure 4 [.int .i64 n,.int .i64 u,.int .i64 v]) (.bool true) []:=by
 refine call4 (lRea _ _ _ _ ⟨fun k => ?_,fun _ => rfl⟩)
 have t:=okT_re k
 have hr:=okT_R t (by omega)
 have vb:=valB_rat (Sp.reR n u v)
 have k':=k
 unfold Sp.okRe Sp.isAcc at k'
 have c1:Sp.sgnI ((Sp.reR (n + 1) u v).num * ((Sp.reR n u v).den:Int) - (Sp.reR n u v).num * ((Sp.reR (n + 1) u v).den:Int)) > 0:=cmp_gt.2 (reR_lt k'.2.1.1 k'.2.2.1 k'.1.1 (by omega))
 have c2:Sp.sgnI ((Sp.reR n (u + 1) v).num * ((Sp.reR n u v).den:Int) - (Sp.reR n u v).num * ((Sp.reR n (u + 1) v).den:Int)) >= 0:=by
  refine cmp_ge.2 (rch_v (qi_pos k'.2.2.1) ?_)
  rw [qi_eq,qi_eq];exact Rat.intCast_le_intCast.2 (by omega)
 refine ⟨okA_rat t (by omega),fun _ => ⟨hr,hr⟩,fun x => x.elim (fun y => absurd vb y) fun y => absurd rfl y,fun _ => ⟨by omega,fun k1 => ⟨by omega,fun k2 => ⟨fun _ => ⟨okT_R (okT_re k1) (by omega),hr⟩,fun _ => ⟨okT_R (okT_re k2) (by omega),hr⟩,?_⟩,fun k2 => ⟨fun _ => ⟨okT_R (okT_re k1) (by omega),hr⟩,0,fun z => absurd z (by decide),?_⟩⟩,fun k1 => ⟨by omega,fun k2 => ⟨0,fun z => absurd rfl z,⟨okT_R (okT_re k2) (by omega),hr⟩,?_⟩,fun k2 => ⟨0,fun z => absurd rfl z,0,fun z => absurd z (by decide),rfl⟩⟩⟩⟩
 ·rw [decide_eq_true c1,decide_eq_true c2];rfl
 ·rw [decide_eq_true c1];rfl
 ·rw [decide_eq_true c2]
end Go.Av
