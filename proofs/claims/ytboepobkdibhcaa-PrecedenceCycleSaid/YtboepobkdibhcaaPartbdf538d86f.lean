/- PART 4 of the texts of a claim, joined by a program: what each part shows stands at its head. -/
import Derived.Test.YtboepobkdibhcaaPart74da0d0caf

namespace Go.Av
open Go.Proofs
set_option maxRecDepth 100000
def fi36:Fi:=⟨90,[.tmp 4]⟩
def kp36:List (Nat × List Nat):=[(0,[0,1]),(1,[0,1,5]),(2,[0,1,5,6]),(3,[0,1,5,6,15]),(4,[0,1,5,6]),(5,[0,1,5,6]),(6,[0,1,5,7]),(7,[0,1,5,7,26]),(8,[0,1,5,7]),(9,[0,1,5,7]),(10,[0,5,8]),(11,[0,5,8,45]),(12,[0,5,8]),(13,[0,5,8,9]),(14,[0,5,8,9,50]),(15,[0,5,8,9]),(16,[0,5,8,9,10]),(17,[0,5,8,9,10,55]),(18,[0,5,8,9,10]),(19,[0,5,8,9,10]),(20,[4])]
def dD_at (n:Int) (f:Bool) (ps:List Pr) (Q:AV->Heap->Prop):Prop:=Wp M1 (.run fi36 (atC (cd Try.f36) []) [(0,.int .i64 n),(1,.vec f 2 (ps.map Pr.v))] []) Q
def dI0_at (n:Int) (f:Bool) (ps:List Pr) (w:Nat) (Q:AV->Heap->Prop):Prop:=Wp M1 (.run fi36 (atC (cd Try.f36) [1,1,0,1,0,0]) [(0,.int .i64 n),(1,.vec f 2 (ps.map Pr.v)),(5,.row 0 0),(6,.int .i64 0)] [⟨List.replicate w .vnil,1,0,false,true⟩]) Q
def dP0_at (n:Int) (f:Bool) (ps:List Pr) (w:Nat) (Q:AV->Heap->Prop):Prop:=Wp M1 (.run fi36 (atC (cd Try.f36) [1,1,1,0,1,0,0]) [(0,.int .i64 n),(1,.vec f 2 (ps.map Pr.v)),(5,.row 0 0),(7,.int .i64 0)] [⟨List.replicate w .vnil,1,0,false,true⟩]) Q
def dK0_at (n:Int) (w:Nat) (Q:AV->Heap->Prop):Prop:=Wp M1 (.run fi36 (atC (cd Try.f36) [1,1,1,1,0,1,0,0]) [(0,.int .i64 n),(5,.row 0 0),(8,.int .i64 0)] [⟨List.replicate w .vnil,1,0,false,true⟩]) Q
def dI_at (n:Int) (C:List AV) (cv:Nat) (R:Heap) (f:Bool) (ps:List Pr) (i:Int) (Q:AV->Heap->Prop):Prop:=Wp M1 (.run fi36 (atC (cd Try.f36) [1,1,0,1,0,0]) [(0,.int .i64 n),(1,.vec f 2 (ps.map Pr.v)),(5,.row 0 cv),(6,.int .i64 i)] (⟨C,1,cv,false,false⟩::R)) Q
def dP_at (n:Int) (C:List AV) (cv:Nat) (R:Heap) (f:Bool) (ps:List Pr) (i:Int) (Q:AV->Heap->Prop):Prop:=Wp M1 (.run fi36 (atC (cd Try.f36) [1,1,1,0,1,0,0]) [(0,.int .i64 n),(1,.vec f 2 (ps.map Pr.v)),(5,.row 0 cv),(7,.int .i64 i)] (⟨C,1,cv,false,false⟩::R)) Q
def dPf_at (n:Int) (C:List AV) (cv:Nat) (R:Heap) (f:Bool) (ps:List Pr) (i:Int) (m:List Bool) (Q:AV->Heap->Prop):Prop:=Wp M1 (.run fi36 (atC (cd Try.f36) [1,1,1,0,1,0,0,1,0,0]) [(0,.int .i64 n),(1,.vec f 2 (ps.map Pr.v)),(5,.row 0 cv),(7,.int .i64 i)] (⟨C,1,cv,false,false⟩::⟨m.map (.bool),1,0,false,true⟩::R)) Q
def dK_at (n:Int) (C:List AV) (cv:Nat) (R:Heap) (k:Int) (Q:AV->Heap->Prop):Prop:=Wp M1 (.run fi36 (atC (cd Try.f36) [1,1,1,1,0,1,0,0]) [(0,.int .i64 n),(5,.row 0 cv),(8,.int .i64 k)] (⟨C,1,cv,false,false⟩::R)) Q
def dA_at (n:Int) (C:List AV) (cv:Nat) (R:Heap) (k a:Int) (Q:AV->Heap->Prop):Prop:=Wp M1 (.run fi36 (atC (cd Try.f36) [1,1,1,1,0,1,0,0,1,0,0,1,0,0]) [(0,.int .i64 n),(5,.row 0 cv),(8,.int .i64 k),(9,.int .i64 a)] (⟨C,1,cv,false,false⟩::R)) Q
def dB_at (n:Int) (C:List AV) (cv:Nat) (R:Heap) (k a b:Int) (Q:AV->Heap->Prop):Prop:=Wp M1 (.run fi36 (atC (cd Try.f36) [1,1,1,1,0,1,0,0,1,0,0,1,0,0,1,0,0,1,0,0]) [(0,.int .i64 n),(5,.row 0 cv),(8,.int .i64 k),(9,.int .i64 a),(10,.int .i64 b)] (⟨C,1,cv,false,false⟩::R)) Q
def dB1_at (n:Int) (C:List AV) (cv:Nat) (R:Heap) (k a b:Int) (m:List Bool) (Q:AV->Heap->Prop):Prop:=Wp M1 (.run fi36 (atC (cd Try.f36) [1,1,1,1,0,1,0,0,1,0,0,1,0,0,1,0,0,1,0,0,1,0,0]) [(0,.int .i64 n),(5,.row 0 cv),(8,.int .i64 k),(9,.int .i64 a),(10,.int .i64 b)] (⟨C,1,cv,false,false⟩::⟨m.map (.bool),1,0,false,true⟩::R)) Q
def dB2_at (n:Int) (C:List AV) (cv:Nat) (R:Heap) (k a b:Int) (m o:List Bool) (Q:AV->Heap->Prop):Prop:=Wp M1 (.run fi36 (atC (cd Try.f36) [1,1,1,1,0,1,0,0,1,0,0,1,0,0,1,0,0,1,0,0,1,0,0]) [(0,.int .i64 n),(5,.row 0 cv),(8,.int .i64 k),(9,.int .i64 a),(10,.int .i64 b)] (⟨C,1,cv,false,false⟩::⟨m.map (.bool),1,0,false,true⟩::⟨o.map (.bool),1,0,false,true⟩::R)) Q
theorem dD (n:Int) (f:Bool) (ps:List Pr)  (Q:AV -> Heap -> Prop) (H :
  (0 <= n) /\
  (n * 24 <= 1099511627776) /\
  (n <= 1099511627776) /\
  dI0_at (n) (f) (ps) (n.toNat) Q) :
 dD_at n f ps Q:=by
 unfold dD_at
 obtain ⟨k2,k5,k7,H⟩:=H
 exact Zae (G:=Zaf kp36 [] []) 1000 [] ⟨(atC (cd Try.f36) [1,1,0,1,0,0]),[(0,vi n),(1,AV.vec f 2 (List.map Pr.v ps)),(5,AV.row 0 0),(6,vi 0)],[⟨List.replicate n.toNat AV.vnil,1,0,false,true⟩],[decide (0 <= n),decide (n <= n),decide (n * 24 <= 1099511627776),decide (n <= 1099511627776)],[],_⟩ (by kernel_rfl) (bc (Zab.2 k2) (bc (Zab.2 (by omega)) (bc (Zab.2 k5) (bc (Zab.2 k7) b0)))) q0 c0 (H)
theorem dI0 (n:Int) (f:Bool) (ps:List Pr) (w:Nat)  (Q:AV -> Heap -> Prop) (H :
  ((0 < n) -> (0 <= n) /\
   (n * 1 <= 1099511627776) /\
   (n <= 1099511627776) /\
   (0 < (List.replicate w AV.vnil).length) /\
   ((List.replicate w AV.vnil).get?Internal 0 = some AV.vnil) /\
   dI_at (n) ((List.replicate w AV.vnil).set 0 (AV.row 1 0)) (0) ([{ elems:=List.map vb (List.replicate n.toNat false),es:=1,ver:=0,frozen:=false,clean:=true }]) (f) (ps) (1) Q) /\
  (¬(0 < n) -> dP0_at (n) (f) (ps) (w) Q)) :
 dI0_at n f ps w Q:=by
 unfold dI0_at
 rcases xq H with ⟨d2,H⟩|⟨d2,H⟩
 ·obtain ⟨k4,k7,k9,k11,k12,H⟩:=H
  have w13:List.replicate n.toNat (vb false) = List.map vb (List.replicate n.toNat false):=(lm_rep rfl)
  exact Zae (G:=Zaf kp36 [(5,5,(.elem .vnil:Ans))] []) 1000 [true] ⟨(atC (cd Try.f36) [1,1,0,1,0,0]),[(0,vi n),(1,AV.vec f 2 (List.map Pr.v ps)),(5,AV.row 0 0),(6,vi 1)],[⟨(List.replicate w AV.vnil).set 0 (AV.row 1 0),1,0,false,false⟩,⟨List.replicate n.toNat (vb false),1,0,false,true⟩],[(decide (0 < n)) == true,decide (0 <= n),decide (n <= n),decide (n * 1 <= 1099511627776),decide (n <= 1099511627776),true,true,decide (0 < (List.replicate w AV.vnil).length),true],[((List.replicate w AV.vnil).get?Internal 0 = some AV.vnil)],_⟩ (by kernel_rfl) (bc (ZaK (Zab.2 d2)) (bc (Zab.2 k4) (bc (Zab.2 (by omega)) (bc (Zab.2 k7) (bc (Zab.2 k9) (bc rfl (bc rfl (bc (Zab.2 k11) (bc rfl b0))))))))) (qc k12 q0) c0 (by (try rw [w13]);all_goals exact H)
 ·exact Zae (G:=Zaf kp36 [] []) 1000 [false] ⟨(atC (cd Try.f36) [1,1,1,0,1,0,0]),[(0,vi n),(1,AV.vec f 2 (List.map Pr.v ps)),(5,AV.row 0 0),(7,vi 0)],[⟨List.replicate w AV.vnil,1,0,false,true⟩],_,[],_⟩ (by kernel_rfl) (bc (ZaI (fun h => d2 (Zab.1 h))) b0) q0 c0 (H)
theorem dP0 (n:Int) (f:Bool) (ps:List Pr) (w:Nat)  (Q:AV -> Heap -> Prop) (H :
  ((0 < (↑ps.length:Int)) -> Wp M1 (.run fi36 (atC (cd Try.f36) [1,1,1,0,1,0,0,1,0,0]) [(0,vi n),(1,AV.vec f 2 (List.map Pr.v ps)),(5,AV.row 0 0),(7,vi 0)] [{ elems:=List.replicate w AV.vnil,es:=1,ver:=0,frozen:=false,clean:=true }]) Q) /\
  (¬(0 < (↑ps.length:Int)) -> dK0_at (n) (w) Q)) :
 dP0_at n f ps w Q:=by
 unfold dP0_at
 have w1:(List.map Pr.v ps).length = ps.length:=List.length_map ..
 have i2:(decide (0 < (↑(List.map Pr.v ps).length:Int))) = true ↔ (0 < (↑ps.length:Int)):=(by (try rw [w1]);all_goals exact Zab)
 rcases xq H with ⟨d3,H⟩|⟨d3,H⟩
 ·exact Zae (G:=Zaf kp36 [] []) 7 [true] ⟨(atC (cd Try.f36) [1,1,1,0,1,0,0,1,0,0]),[(0,vi n),(1,AV.vec f 2 (List.map Pr.v ps)),(5,AV.row 0 0),(7,vi 0),(26,vb (decide (0 < (↑(List.map Pr.v ps).length:Int))))],[⟨List.replicate w AV.vnil,1,0,false,true⟩],_,[],_⟩ (by kernel_rfl) (bc (ZaK (i2.2 d3)) b0) q0 c0 (by (try rw [w1]);all_goals exact Wp.less [0,1,5,7] (H))
 ·exact Zae (G:=Zaf kp36 [] []) 1000 [false] ⟨(atC (cd Try.f36) [1,1,1,1,0,1,0,0]),[(0,vi n),(5,AV.row 0 0),(8,vi 0)],[⟨List.replicate w AV.vnil,1,0,false,true⟩],_,[],_⟩ (by kernel_rfl) (bc (ZaI (fun h => d3 (i2.1 h))) b0) q0 c0 (H)
theorem dK0 (n:Int) (w:Nat)  (Q:AV -> Heap -> Prop) (H :
  ((0 < n) -> Wp M1 (.run fi36 (atC (cd Try.f36) [1,1,1,1,0,1,0,0,1,0,0,1,0,0]) [(0,vi n),(5,AV.row 0 0),(8,vi 0),(9,vi 0)] [{ elems:=List.replicate w AV.vnil,es:=1,ver:=0,frozen:=false,clean:=true }]) Q) /\
  (¬(0 < n) -> Q (AV.row 0 0) [{ elems:=List.replicate w AV.vnil,es:=1,ver:=0,frozen:=false,clean:=true }])) :
 dK0_at n w Q:=by
 unfold dK0_at
 rcases xq H with ⟨d2,H⟩|⟨d2,H⟩
 ·exact Zae (G:=Zaf kp36 [] []) 1000 [true] ⟨(atC (cd Try.f36) [1,1,1,1,0,1,0,0,1,0,0,1,0,0]),[(0,vi n),(5,AV.row 0 0),(8,vi 0),(9,vi 0)],[⟨List.replicate w AV.vnil,1,0,false,true⟩],_,[],_⟩ (by kernel_rfl) (bc (ZaK (Zab.2 d2)) b0) q0 c0 (H)
 ·exact ZaA (G:=Zaf kp36 [] []) 1000 [false] (k:=((atC (cd Try.f36) [1,1,1,1,1,1])).tail) (env':=[(4,AV.row 0 0)]) (L':=[⟨List.replicate w AV.vnil,1,0,false,true⟩]) (asm:=[(decide (0 < n)) == false]) (eqs:=[]) (calls:=[]) (AV.row 0 0) (by kernel_rfl) (by kernel_rfl) (Zaa (ZaI (fun h => d2 (Zab.1 h))) Zas) ZaC ZaD H
theorem dI (n:Int) (C:List AV) (cv:Nat) (R:Heap) (f:Bool) (ps:List Pr) (i:Int)  (Q:AV -> Heap -> Prop) (H :
  ((i < n) -> (0 <= n) /\
   (n * 1 <= 1099511627776) /\
   (n <= 1099511627776) /\
   (0 <= i) /\
   (i.toNat < C.length) /\
   (C.get?Internal i.toNat = some AV.vnil) /\
   (-9223372036854775808 <= i + 1 /\ i + 1 <= 9223372036854775807) /\
   dI_at (n) (C.set i.toNat (AV.row (List.length R + 1) 0)) (cv) (List.append R [{ elems:=List.replicate n.toNat (ofC (Value.bool false)),es:=((fun x => Try.prog) ()).types[4].size,ver:=0,frozen:=false,clean:=true }]) (f) (ps) (i + 1) Q) /\
  (¬(i < n) -> dP_at (n) (C) (cv) (R) (f) (ps) (0) Q)) :
 dI_at n C cv R f ps i Q:=by
 unfold dI_at
 rcases xq H with ⟨d2,H⟩|⟨d2,H⟩
 ·obtain ⟨k4,k7,k9,k11,k13,k14,k15,H⟩:=H
  have w16:wi (i + 1) = i + 1:=wI64 k15
  exact Zae (G:=Zaf kp36 [(5,5,(.elem .vnil:Ans))] []) 1000 [true] ⟨(atC (cd Try.f36) [1,1,0,1,0,0]),[(0,vi n),(1,AV.vec f 2 (List.map Pr.v ps)),(5,AV.row 0 cv),(6,vi (wi (i + 1)))],⟨C.set i.toNat (AV.row (List.length R + 1) 0),1,cv,false,false⟩ :: List.append R [⟨List.replicate n.toNat (ofC (Value.bool false)),((fun x => Try.prog) ()).types[4].size,0,false,true⟩],[(decide (i < n)) == true,decide (0 <= n),decide (n <= n),decide (n * 1 <= 1099511627776),decide (n <= 1099511627776),cv == cv,decide (0 <= i),decide (i.toNat < C.length),cv == cv],[(C.get?Internal i.toNat = some AV.vnil)],_⟩ (by kernel_rfl) (bc (ZaK (Zab.2 d2)) (bc (Zab.2 k4) (bc (Zab.2 (by omega)) (bc (Zab.2 k7) (bc (Zab.2 k9) (bc (beq_self_eq_true _) (bc (Zab.2 k11) (bc (Zab.2 k13) (bc (beq_self_eq_true _) b0))))))))) (qc k14 q0) c0 (by (try rw [w16]);all_goals exact H)
 ·exact Zae (G:=Zaf kp36 [] []) 1000 [false] ⟨(atC (cd Try.f36) [1,1,1,0,1,0,0]),[(0,vi n),(1,AV.vec f 2 (List.map Pr.v ps)),(5,AV.row 0 cv),(7,vi 0)],⟨C,1,cv,false,false⟩ :: R,_,[],_⟩ (by kernel_rfl) (bc (ZaI (fun h => d2 (Zab.1 h))) b0) q0 c0 (H)
theorem dP (n:Int) (C:List AV) (cv:Nat) (R:Heap) (f:Bool) (ps:List Pr) (i:Int)  (Q:AV -> Heap -> Prop) (H :
  ((i < (↑ps.length:Int)) -> Wp M1 (.run fi36 (atC (cd Try.f36) [1,1,1,0,1,0,0,1,0,0]) [(0,vi n),(1,AV.vec f 2 (List.map Pr.v ps)),(5,AV.row 0 cv),(7,vi i)] ({ elems:=C,es:=1,ver:=cv,frozen:=false,clean:=false } :: R)) Q) /\
  (¬(i < (↑ps.length:Int)) -> dK_at (n) (C) (cv) (R) (0) Q)) :
 dP_at n C cv R f ps i Q:=by
 unfold dP_at
 have w1:(List.map Pr.v ps).length = ps.length:=List.length_map ..
 have i2:(decide (i < (↑(List.map Pr.v ps).length:Int))) = true ↔ (i < (↑ps.length:Int)):=(by (try rw [w1]);all_goals exact Zab)
 rcases xq H with ⟨d3,H⟩|⟨d3,H⟩
 ·exact Zae (G:=Zaf kp36 [] []) 7 [true] ⟨(atC (cd Try.f36) [1,1,1,0,1,0,0,1,0,0]),[(0,vi n),(1,AV.vec f 2 (List.map Pr.v ps)),(5,AV.row 0 cv),(7,vi i),(26,vb (decide (i < (↑(List.map Pr.v ps).length:Int))))],⟨C,1,cv,false,false⟩ :: R,_,[],_⟩ (by kernel_rfl) (bc (ZaK (i2.2 d3)) b0) q0 c0 (by (try rw [w1]);all_goals exact Wp.less [0,1,5,7] (H))
 ·exact Zae (G:=Zaf kp36 [] []) 1000 [false] ⟨(atC (cd Try.f36) [1,1,1,1,0,1,0,0]),[(0,vi n),(5,AV.row 0 cv),(8,vi 0)],⟨C,1,cv,false,false⟩ :: R,_,[],_⟩ (by kernel_rfl) (bc (ZaI (fun h => d3 (i2.1 h))) b0) q0 c0 (H)
noncomputable abbrev zPxH1 (ps:List Pr) (i:Int):=ag [vi (ps.getD i.toNat default).a,vi (ps.getD i.toNat default).b]
theorem dPf (n:Int) (C:List AV) (cv:Nat) (R:Heap) (f:Bool) (ps:List Pr) (i:Int) (m:List Bool)  (Q:AV -> Heap -> Prop) (H :
  (0 <= i) /\
  (i.toNat < ps.length) /\
  (0 <= (ps.getD i.toNat default).a) /\
  ((ps.getD i.toNat default).a.toNat < C.length) /\
  (0 <= (ps.getD i.toNat default).b) /\
  ((ps.getD i.toNat default).b.toNat < m.length) /\
  (C.get?Internal (ps.getD i.toNat default).a.toNat = some (AV.row 1 0)) /\
  (-9223372036854775808 <= i + 1 /\ i + 1 <= 9223372036854775807) /\
  dP_at (n) (C) (cv) ({ elems:=List.map vb (m.set (ps.getD i.toNat default).b.toNat true),es:=1,ver:=0,frozen:=false,clean:=true } :: R) (f) (ps) (i + 1) Q) :
 dPf_at n C cv R f ps i m Q:=by
 unfold dPf_at
 obtain ⟨k2,H⟩:=H
 have w3:(List.map Pr.v ps).length = ps.length:=List.length_map ..
 have i4:(decide (i.toNat < (List.map Pr.v ps).length)) = true ↔ (i.toNat < ps.length):=(by (try rw [w3]);all_goals exact Zab)
 obtain ⟨k5,k7,k9,H⟩:=H
 have i11:(decide (i.toNat < (List.map Pr.v ps).length)) = true ↔ (i.toNat < ps.length):=(by (try rw [w3]);all_goals exact Zab)
 obtain ⟨k13,H⟩:=H
 have w14:(List.map vb m).length = m.length:=List.length_map ..
 have i15:(decide ((ps.getD i.toNat default).b.toNat < (List.map vb m).length)) = true ↔ ((ps.getD i.toNat default).b.toNat < m.length):=(by (try rw [w14]);all_goals exact Zab)
 obtain ⟨k16,k17,H⟩:=H
 have w18:(List.map vb m).set (ps.getD i.toNat default).b.toNat (vb true) = List.map vb (m.set (ps.getD i.toNat default).b.toNat true):=(Zbg rfl rfl)
 obtain ⟨k19,H⟩:=H
 have w20:wi (i + 1) = i + 1:=wI64 k19
 exact Zae (G:=Zaf kp36 [(9,5,.elem (zPxH1 ps i)),(9,7,(.elem (.row 1 0):Ans)),(9,12,.elem (zPxH1 ps i)),(9,14,.elem (vb (m.getD (ps.getD i.toNat default).b.toNat default)))] []) 1000 [] ⟨(atC (cd Try.f36) [1,1,1,0,1,0,0]),[(0,vi n),(1,AV.vec f 2 (List.map Pr.v ps)),(5,AV.row 0 cv),(7,vi (wi (i + 1)))],⟨C,1,cv,false,false⟩ :: ⟨(List.map vb m).set (ps.getD i.toNat default).b.toNat (vb true),1,0,false,true⟩ :: R,[decide (0 <= i),decide (i.toNat < (List.map Pr.v ps).length),true,true,cv == cv,decide (0 <= (ps.getD i.toNat default).a),decide ((ps.getD i.toNat default).a.toNat < C.length),cv == cv,decide (0 <= i),decide (i.toNat < (List.map Pr.v ps).length),true,true,true,decide (0 <= (ps.getD i.toNat default).b),decide ((ps.getD i.toNat default).b.toNat < (List.map vb m).length),true],[((List.map Pr.v ps).get?Internal i.toNat = some (zPxH1 ps i)),(C.get?Internal (ps.getD i.toNat default).a.toNat = some (AV.row 1 0)),((List.map Pr.v ps).get?Internal i.toNat = some (zPxH1 ps i)),((List.map vb m).get?Internal (ps.getD i.toNat default).b.toNat = some (vb (m.getD (ps.getD i.toNat default).b.toNat default)))],_⟩ (by kernel_rfl) (bc (Zab.2 k2) (bc (i4.2 k5) (bc rfl (bc rfl (bc (beq_self_eq_true _) (bc (Zab.2 k7) (bc (Zab.2 k9) (bc (beq_self_eq_true _) (bc (Zab.2 k2) (bc (i11.2 k5) (bc rfl (bc rfl (bc rfl (bc (Zab.2 k13) (bc (i15.2 k16) (bc rfl b0)))))))))))))))) (qc (Zak k5) (qc k17 (qc (Zak k5) (qc (Zak k16) q0)))) c0 (by (try rw [w18]);(try rw [w20]);all_goals exact H)
theorem dK (n:Int) (C:List AV) (cv:Nat) (R:Heap) (k:Int)  (Q:AV -> Heap -> Prop) (H :
  ((k < n) -> dA_at (n) (C) (cv) (R) (k) (0) Q) /\
  (¬(k < n) -> Q (AV.row 0 cv) ({ elems:=C,es:=1,ver:=cv,frozen:=false,clean:=false } :: R))) :
 dK_at n C cv R k Q:=by
 unfold dK_at
 rcases xq H with ⟨d2,H⟩|⟨d2,H⟩
 ·exact Zae (G:=Zaf kp36 [] []) 1000 [true] ⟨(atC (cd Try.f36) [1,1,1,1,0,1,0,0,1,0,0,1,0,0]),[(0,vi n),(5,AV.row 0 cv),(8,vi k),(9,vi 0)],⟨C,1,cv,false,false⟩ :: R,_,[],_⟩ (by kernel_rfl) (bc (ZaK (Zab.2 d2)) b0) q0 c0 (H)
 ·exact ZaA (G:=Zaf kp36 [] []) 1000 [false] (k:=((atC (cd Try.f36) [1,1,1,1,1,1])).tail) (env':=[(4,AV.row 0 cv)]) (L':=⟨C,1,cv,false,false⟩ :: R) (asm:=[(decide (k < n)) == false]) (eqs:=[]) (calls:=[]) (AV.row 0 cv) (by kernel_rfl) (by kernel_rfl) (Zaa (ZaI (fun h => d2 (Zab.1 h))) Zas) ZaC ZaD H
theorem dA (n:Int) (C:List AV) (cv:Nat) (R:Heap) (k a:Int)  (Q:AV -> Heap -> Prop) (H :
  ((a < n) -> dB_at (n) (C) (cv) (R) (k) (a) (0) Q) /\
  (¬(a < n) -> (-9223372036854775808 <= k + 1 /\ k + 1 <= 9223372036854775807) /\
   dK_at (n) (C) (cv) (R) (k + 1) Q)) :
 dA_at n C cv R k a Q:=by
 unfold dA_at
 rcases xq H with ⟨d2,H⟩|⟨d2,H⟩
 ·exact Zae (G:=Zaf kp36 [] []) 1000 [true] ⟨(atC (cd Try.f36) [1,1,1,1,0,1,0,0,1,0,0,1,0,0,1,0,0,1,0,0]),[(0,vi n),(5,AV.row 0 cv),(8,vi k),(9,vi a),(10,vi 0)],⟨C,1,cv,false,false⟩ :: R,_,[],_⟩ (by kernel_rfl) (bc (ZaK (Zab.2 d2)) b0) q0 c0 (H)
 ·obtain ⟨k3,H⟩:=H
  have w4:wi (k + 1) = k + 1:=wI64 k3
  exact Zae (G:=Zaf kp36 [] []) 1000 [false] ⟨(atC (cd Try.f36) [1,1,1,1,0,1,0,0]),[(0,vi n),(5,AV.row 0 cv),(8,vi (wi (k + 1)))],⟨C,1,cv,false,false⟩ :: R,_,[],_⟩ (by kernel_rfl) (bc (ZaI (fun h => d2 (Zab.1 h))) b0) q0 c0 (by (try rw [w4]);all_goals exact H)
theorem dB (n:Int) (C:List AV) (cv:Nat) (R:Heap) (k a b:Int)  (Q:AV -> Heap -> Prop) (H :
  ((b < n) -> Wp M1 (.run fi36 (atC (cd Try.f36) [1,1,1,1,0,1,0,0,1,0,0,1,0,0,1,0,0,1,0,0,1,0,0]) [(0,vi n),(5,AV.row 0 cv),(8,vi k),(9,vi a),(10,vi b)] ({ elems:=C,es:=1,ver:=cv,frozen:=false,clean:=false } :: R)) Q) /\
  (¬(b < n) -> (-9223372036854775808 <= a + 1 /\ a + 1 <= 9223372036854775807) /\
   dA_at (n) (C) (cv) (R) (k) (a + 1) Q)) :
 dB_at n C cv R k a b Q:=by
 unfold dB_at
 rcases xq H with ⟨d2,H⟩|⟨d2,H⟩
 ·exact Zae (G:=Zaf kp36 [] []) 7 [true] ⟨(atC (cd Try.f36) [1,1,1,1,0,1,0,0,1,0,0,1,0,0,1,0,0,1,0,0,1,0,0]),[(0,vi n),(5,AV.row 0 cv),(8,vi k),(9,vi a),(10,vi b),(55,vb (decide (b < n)))],⟨C,1,cv,false,false⟩ :: R,_,[],_⟩ (by kernel_rfl) (bc (ZaK (Zab.2 d2)) b0) q0 c0 (Wp.less [0,5,8,9,10] (H))
 ·obtain ⟨k3,H⟩:=H
  have w4:wi (a + 1) = a + 1:=wI64 k3
  exact Zae (G:=Zaf kp36 [] []) 1000 [false] ⟨(atC (cd Try.f36) [1,1,1,1,0,1,0,0,1,0,0,1,0,0]),[(0,vi n),(5,AV.row 0 cv),(8,vi k),(9,vi (wi (a + 1)))],⟨C,1,cv,false,false⟩ :: R,_,[],_⟩ (by kernel_rfl) (bc (ZaI (fun h => d2 (Zab.1 h))) b0) q0 c0 (by (try rw [w4]);all_goals exact H)
theorem dB1 (n:Int) (C:List AV) (cv:Nat) (R:Heap) (k a b:Int) (m:List Bool)  (Q:AV -> Heap -> Prop) (H :
  (0 <= a) /\
  (a.toNat < C.length) /\
  (0 <= b) /\
  (b.toNat < m.length) /\
  ((¬(m.getD b.toNat default = true)) -> (0 <= k)) /\
  ((¬(m.getD b.toNat default = true)) -> (k.toNat < m.length)) /\
  (((m.getD k.toNat default = true) /\ (¬(m.getD b.toNat default = true))) -> (0 <= k)) /\
  (((m.getD k.toNat default = true) /\ (¬(m.getD b.toNat default = true))) -> (k.toNat < C.length)) /\
  (C.get?Internal a.toNat = some (AV.row 1 0)) /\
  ((m.getD b.toNat default == false && true) = true -> C.get?Internal a.toNat = some (AV.row 1 0)) /\
  ((m.getD k.toNat default == true && (m.getD b.toNat default == false && true)) = true -> C.get?Internal k.toNat = some (AV.row 1 0)) /\
  (-9223372036854775808 <= b + 1 /\ b + 1 <= 9223372036854775807) /\
  dB_at (n) (C) (cv) ({ elems:=List.map vb (m.set b.toNat (bif m.getD b.toNat default then true else bif m.getD k.toNat default then m.getD b.toNat default else false)),es:=1,ver:=0,frozen:=false,clean:=true } :: R) (k) (a) (b + 1) Q) :
 dB1_at n C cv R k a b m Q:=by
 unfold dB1_at
 obtain ⟨k2,k4,k8,H⟩:=H
 have w9:(List.map vb m).length = m.length:=List.length_map ..
 have i10:(decide (b.toNat < (List.map vb m).length)) = true ↔ (b.toNat < m.length):=(by (try rw [w9]);all_goals exact Zab)
 obtain ⟨k11,k17,H⟩:=H
 have i18:(!(m.getD b.toNat default == false && true) || decide (k.toNat < (List.map vb m).length)) = true ↔ ((¬(m.getD b.toNat default = true)) -> (k.toNat < m.length)):=(by (try rw [w9]);all_goals exact (Zbe (i_at (i_bf (Zat _))) Zab))
 obtain ⟨k19,k22,k24,H⟩:=H
 have i27:(!(m.getD k.toNat default == true && (m.getD b.toNat default == false && true)) || decide (b.toNat < (List.map vb m).length)) = true ↔ (((m.getD k.toNat default = true) /\ (¬(m.getD b.toNat default = true))) -> (b.toNat < m.length)):=(by (try rw [w9]);all_goals exact (Zbe (Zdu (i_bt (Zat _)) (i_at (i_bf (Zat _)))) Zab))
 have i29:(decide (b.toNat < (List.map vb m).length)) = true ↔ (b.toNat < m.length):=(by (try rw [w9]);all_goals exact Zab)
 obtain ⟨k30,k31,k33,H⟩:=H
 have w35:(List.map vb m).set b.toNat (vb (bif m.getD b.toNat default then true else bif m.getD k.toNat default then m.getD b.toNat default else false)) = List.map vb (m.set b.toNat (bif m.getD b.toNat default then true else bif m.getD k.toNat default then m.getD b.toNat default else false)):=(Zbg rfl rfl)
 obtain ⟨k36,H⟩:=H
 have w37:wi (b + 1) = b + 1:=wI64 k36
 exact Zae (G:=Zaf kp36 [(19,3,(.elem (.row 1 0):Ans)),(19,8,(.elem (.row 1 0):Ans)),(19,11,.elem (vb (m.getD b.toNat default))),(19,16,(.elem (.row 1 0):Ans)),(19,19,.elem (vb (m.getD k.toNat default))),(19,24,(.elem (.row 1 0):Ans)),(19,27,.elem (vb (m.getD b.toNat default))),(19,31,.elem (vb (m.getD b.toNat default)))] []) 1000 [] ⟨(atC (cd Try.f36) [1,1,1,1,0,1,0,0,1,0,0,1,0,0,1,0,0,1,0,0]),[(0,vi n),(5,AV.row 0 cv),(8,vi k),(9,vi a),(10,vi (wi (b + 1)))],⟨C,1,cv,false,false⟩ :: ⟨(List.map vb m).set b.toNat (vb (bif m.getD b.toNat default then true else bif m.getD k.toNat default then m.getD b.toNat default else false)),1,0,false,true⟩ :: R,[cv == cv,decide (0 <= a),decide (a.toNat < C.length),cv == cv,cv == cv,decide (0 <= a),decide (a.toNat < C.length),cv == cv,true,decide (0 <= b),decide (b.toNat < (List.map vb m).length),true,!(m.getD b.toNat default == false && true) || cv == cv,!(m.getD b.toNat default == false && true) || decide (0 <= a),!(m.getD b.toNat default == false && true) || decide (a.toNat < C.length),!(m.getD b.toNat default == false && true) || cv == cv,!(m.getD b.toNat default == false && true) || true,!(m.getD b.toNat default == false && true) || decide (0 <= k),!(m.getD b.toNat default == false && true) || decide (k.toNat < (List.map vb m).length),!(m.getD b.toNat default == false && true) || true,!(m.getD k.toNat default == true && (m.getD b.toNat default == false && true)) || cv == cv,!(m.getD k.toNat default == true && (m.getD b.toNat default == false && true)) || decide (0 <= k),!(m.getD k.toNat default == true && (m.getD b.toNat default == false && true)) || decide (k.toNat < C.length),!(m.getD k.toNat default == true && (m.getD b.toNat default == false && true)) || cv == cv,!(m.getD k.toNat default == true && (m.getD b.toNat default == false && true)) || true,!(m.getD k.toNat default == true && (m.getD b.toNat default == false && true)) || decide (0 <= b),!(m.getD k.toNat default == true && (m.getD b.toNat default == false && true)) || decide (b.toNat < (List.map vb m).length),!(m.getD k.toNat default == true && (m.getD b.toNat default == false && true)) || true,true,decide (0 <= b),decide (b.toNat < (List.map vb m).length),true],[(C.get?Internal a.toNat = some (AV.row 1 0)),(C.get?Internal a.toNat = some (AV.row 1 0)),((List.map vb m).get?Internal b.toNat = some (vb (m.getD b.toNat default))),((m.getD b.toNat default == false && true) = true -> C.get?Internal a.toNat = some (AV.row 1 0)),((m.getD b.toNat default == false && true) = true -> (List.map vb m).get?Internal k.toNat = some (vb (m.getD k.toNat default))),((m.getD k.toNat default == true && (m.getD b.toNat default == false && true)) = true -> C.get?Internal k.toNat = some (AV.row 1 0)),((m.getD k.toNat default == true && (m.getD b.toNat default == false && true)) = true -> (List.map vb m).get?Internal b.toNat = some (vb (m.getD b.toNat default))),((List.map vb m).get?Internal b.toNat = some (vb (m.getD b.toNat default)))],_⟩ (by kernel_rfl) (bc (beq_self_eq_true _) (bc (Zab.2 k2) (bc (Zab.2 k4) (bc (beq_self_eq_true _) (bc (beq_self_eq_true _) (bc (Zab.2 k2) (bc (Zab.2 k4) (bc (beq_self_eq_true _) (bc rfl (bc (Zab.2 k8) (bc (i10.2 k11) (bc rfl (bc ((Zbe (i_at (i_bf (Zat _))) i_eq).2 (fun _ => rfl)) (bc ((Zbe (i_at (i_bf (Zat _))) Zab).2 (fun _ => k2)) (bc ((Zbe (i_at (i_bf (Zat _))) Zab).2 (fun _ => k4)) (bc ((Zbe (i_at (i_bf (Zat _))) i_eq).2 (fun _ => rfl)) (bc (Bool.or_true _) (bc ((Zbe (i_at (i_bf (Zat _))) Zab).2 k17) (bc (i18.2 k19) (bc (Bool.or_true _) (bc ((Zbe (Zdu (i_bt (Zat _)) (i_at (i_bf (Zat _)))) i_eq).2 (fun _ => rfl)) (bc ((Zbe (Zdu (i_bt (Zat _)) (i_at (i_bf (Zat _)))) Zab).2 k22) (bc ((Zbe (Zdu (i_bt (Zat _)) (i_at (i_bf (Zat _)))) Zab).2 k24) (bc ((Zbe (Zdu (i_bt (Zat _)) (i_at (i_bf (Zat _)))) i_eq).2 (fun _ => rfl)) (bc (Bool.or_true _) (bc ((Zbe (Zdu (i_bt (Zat _)) (i_at (i_bf (Zat _)))) Zab).2 (fun _ => k8)) (bc (i27.2 (fun _ => k11)) (bc (Bool.or_true _) (bc rfl (bc (Zab.2 k8) (bc (i29.2 k11) (bc rfl b0)))))))))))))))))))))))))))))))) (qc k30 (qc k30 (qc (Zak k11) (qc k31 (qc (fun h => Zak (k19 ((i_at (i_bf (Zat _))).1 h))) (qc k33 (qc (fun h => Zak k11) (qc (Zak k11) q0)))))))) c0 (by (try rw [w35]);(try rw [w37]);all_goals exact H)
theorem dB2 (n:Int) (C:List AV) (cv:Nat) (R:Heap) (k a b:Int) (m o:List Bool)  (Q:AV -> Heap -> Prop) (H :
  (0 <= a) /\
  (a.toNat < C.length) /\
  (0 <= b) /\
  (b.toNat < m.length) /\
  ((¬(m.getD b.toNat default = true)) -> (0 <= k)) /\
  ((¬(m.getD b.toNat default = true)) -> (k.toNat < m.length)) /\
  (((m.getD k.toNat default = true) /\ (¬(m.getD b.toNat default = true))) -> (0 <= k)) /\
  (((m.getD k.toNat default = true) /\ (¬(m.getD b.toNat default = true))) -> (k.toNat < C.length)) /\
  (((m.getD k.toNat default = true) /\ (¬(m.getD b.toNat default = true))) -> (b.toNat < o.length)) /\
  (C.get?Internal a.toNat = some (AV.row 1 0)) /\
  ((m.getD b.toNat default == false && true) = true -> C.get?Internal a.toNat = some (AV.row 1 0)) /\
  ((m.getD k.toNat default == true && (m.getD b.toNat default == false && true)) = true -> C.get?Internal k.toNat = some (AV.row 2 0)) /\
  (-9223372036854775808 <= b + 1 /\ b + 1 <= 9223372036854775807) /\
  dB_at (n) (C) (cv) ({ elems:=List.map vb (m.set b.toNat (bif m.getD b.toNat default then true else bif m.getD k.toNat default then o.getD b.toNat default else false)),es:=1,ver:=0,frozen:=false,clean:=true } :: { elems:=List.map vb o,es:=1,ver:=0,frozen:=false,clean:=true } :: R) (k) (a) (b + 1) Q) :
 dB2_at n C cv R k a b m o Q:=by
 unfold dB2_at
 obtain ⟨k2,k4,k8,H⟩:=H
 have w9:(List.map vb m).length = m.length:=List.length_map ..
 have i10:(decide (b.toNat < (List.map vb m).length)) = true ↔ (b.toNat < m.length):=(by (try rw [w9]);all_goals exact Zab)
 obtain ⟨k11,k17,H⟩:=H
 have i18:(!(m.getD b.toNat default == false && true) || decide (k.toNat < (List.map vb m).length)) = true ↔ ((¬(m.getD b.toNat default = true)) -> (k.toNat < m.length)):=(by (try rw [w9]);all_goals exact (Zbe (i_at (i_bf (Zat _))) Zab))
 obtain ⟨k19,k22,k24,H⟩:=H
 have w27:(List.map vb o).length = o.length:=List.length_map ..
 have i28:(!(m.getD k.toNat default == true && (m.getD b.toNat default == false && true)) || decide (b.toNat < (List.map vb o).length)) = true ↔ (((m.getD k.toNat default = true) /\ (¬(m.getD b.toNat default = true))) -> (b.toNat < o.length)):=(by (try rw [w27]);all_goals exact (Zbe (Zdu (i_bt (Zat _)) (i_at (i_bf (Zat _)))) Zab))
 obtain ⟨k29,H⟩:=H
 have i31:(decide (b.toNat < (List.map vb m).length)) = true ↔ (b.toNat < m.length):=(by (try rw [w9]);all_goals exact Zab)
 obtain ⟨k32,k33,k35,H⟩:=H
 have w37:(List.map vb m).set b.toNat (vb (bif m.getD b.toNat default then true else bif m.getD k.toNat default then o.getD b.toNat default else false)) = List.map vb (m.set b.toNat (bif m.getD b.toNat default then true else bif m.getD k.toNat default then o.getD b.toNat default else false)):=(Zbg rfl rfl)
 obtain ⟨k38,H⟩:=H
 have w39:wi (b + 1) = b + 1:=wI64 k38
 exact Zae (G:=Zaf kp36 [(19,3,(.elem (.row 1 0):Ans)),(19,8,(.elem (.row 1 0):Ans)),(19,11,.elem (vb (m.getD b.toNat default))),(19,16,(.elem (.row 1 0):Ans)),(19,19,.elem (vb (m.getD k.toNat default))),(19,24,(.elem (.row 2 0):Ans)),(19,27,.elem (vb (o.getD b.toNat default))),(19,31,.elem (vb (m.getD b.toNat default)))] []) 1000 [] ⟨(atC (cd Try.f36) [1,1,1,1,0,1,0,0,1,0,0,1,0,0,1,0,0,1,0,0]),[(0,vi n),(5,AV.row 0 cv),(8,vi k),(9,vi a),(10,vi (wi (b + 1)))],⟨C,1,cv,false,false⟩ :: ⟨(List.map vb m).set b.toNat (vb (bif m.getD b.toNat default then true else bif m.getD k.toNat default then o.getD b.toNat default else false)),1,0,false,true⟩ :: ⟨List.map vb o,1,0,false,true⟩ :: R,[cv == cv,decide (0 <= a),decide (a.toNat < C.length),cv == cv,cv == cv,decide (0 <= a),decide (a.toNat < C.length),cv == cv,true,decide (0 <= b),decide (b.toNat < (List.map vb m).length),true,!(m.getD b.toNat default == false && true) || cv == cv,!(m.getD b.toNat default == false && true) || decide (0 <= a),!(m.getD b.toNat default == false && true) || decide (a.toNat < C.length),!(m.getD b.toNat default == false && true) || cv == cv,!(m.getD b.toNat default == false && true) || true,!(m.getD b.toNat default == false && true) || decide (0 <= k),!(m.getD b.toNat default == false && true) || decide (k.toNat < (List.map vb m).length),!(m.getD b.toNat default == false && true) || true,!(m.getD k.toNat default == true && (m.getD b.toNat default == false && true)) || cv == cv,!(m.getD k.toNat default == true && (m.getD b.toNat default == false && true)) || decide (0 <= k),!(m.getD k.toNat default == true && (m.getD b.toNat default == false && true)) || decide (k.toNat < C.length),!(m.getD k.toNat default == true && (m.getD b.toNat default == false && true)) || cv == cv,!(m.getD k.toNat default == true && (m.getD b.toNat default == false && true)) || true,!(m.getD k.toNat default == true && (m.getD b.toNat default == false && true)) || decide (0 <= b),!(m.getD k.toNat default == true && (m.getD b.toNat default == false && true)) || decide (b.toNat < (List.map vb o).length),!(m.getD k.toNat default == true && (m.getD b.toNat default == false && true)) || true,true,decide (0 <= b),decide (b.toNat < (List.map vb m).length),true],[(C.get?Internal a.toNat = some (AV.row 1 0)),(C.get?Internal a.toNat = some (AV.row 1 0)),((List.map vb m).get?Internal b.toNat = some (vb (m.getD b.toNat default))),((m.getD b.toNat default == false && true) = true -> C.get?Internal a.toNat = some (AV.row 1 0)),((m.getD b.toNat default == false && true) = true -> (List.map vb m).get?Internal k.toNat = some (vb (m.getD k.toNat default))),((m.getD k.toNat default == true && (m.getD b.toNat default == false && true)) = true -> C.get?Internal k.toNat = some (AV.row 2 0)),((m.getD k.toNat default == true && (m.getD b.toNat default == false && true)) = true -> (List.map vb o).get?Internal b.toNat = some (vb (o.getD b.toNat default))),((List.map vb m).get?Internal b.toNat = some (vb (m.getD b.toNat default)))],_⟩ (by kernel_rfl) (bc (beq_self_eq_true _) (bc (Zab.2 k2) (bc (Zab.2 k4) (bc (beq_self_eq_true _) (bc (beq_self_eq_true _) (bc (Zab.2 k2) (bc (Zab.2 k4) (bc (beq_self_eq_true _) (bc rfl (bc (Zab.2 k8) (bc (i10.2 k11) (bc rfl (bc ((Zbe (i_at (i_bf (Zat _))) i_eq).2 (fun _ => rfl)) (bc ((Zbe (i_at (i_bf (Zat _))) Zab).2 (fun _ => k2)) (bc ((Zbe (i_at (i_bf (Zat _))) Zab).2 (fun _ => k4)) (bc ((Zbe (i_at (i_bf (Zat _))) i_eq).2 (fun _ => rfl)) (bc (Bool.or_true _) (bc ((Zbe (i_at (i_bf (Zat _))) Zab).2 k17) (bc (i18.2 k19) (bc (Bool.or_true _) (bc ((Zbe (Zdu (i_bt (Zat _)) (i_at (i_bf (Zat _)))) i_eq).2 (fun _ => rfl)) (bc ((Zbe (Zdu (i_bt (Zat _)) (i_at (i_bf (Zat _)))) Zab).2 k22) (bc ((Zbe (Zdu (i_bt (Zat _)) (i_at (i_bf (Zat _)))) Zab).2 k24) (bc ((Zbe (Zdu (i_bt (Zat _)) (i_at (i_bf (Zat _)))) i_eq).2 (fun _ => rfl)) (bc (Bool.or_true _) (bc ((Zbe (Zdu (i_bt (Zat _)) (i_at (i_bf (Zat _)))) Zab).2 (fun _ => k8)) (bc (i28.2 k29) (bc (Bool.or_true _) (bc rfl (bc (Zab.2 k8) (bc (i31.2 k11) (bc rfl b0)))))))))))))))))))))))))))))))) (qc k32 (qc k32 (qc (Zak k11) (qc k33 (qc (fun h => Zak (k19 ((i_at (i_bf (Zat _))).1 h))) (qc k35 (qc (fun h => Zak (k29 ((Zdu (i_bt (Zat _)) (i_at (i_bf (Zat _)))).1 h))) (qc (Zak k11) q0)))))))) c0 (by (try rw [w37]);(try rw [w39]);all_goals exact H)
end Go.Av

namespace Go.Av
theorem Mx.congr {U:Nat} {os:List Nat} {L:Heap} {C C':Nat -> List AV} {cv cv':Nat -> Nat} {M M':Nat -> List (Option Row)} {ρ ρ':Nat -> Nat -> Nat} (h:Mx U os L C cv M ρ) (e:∀ u ∈ os,C u = C' u /\ cv u = cv' u /\ M u = M' u /\ ∀ j,ρ u j = ρ' u j):Mx U os L C' cv' M' ρ':=by
 refine ⟨h.len,h.osU,fun u hu => ?_,h.fix,h.cln,fun u hu j row hm => ?_,fun u hu j hm => ?_,fun u hu w hw i j r s h1 h2 h3 => ?_,fun u hu j row hm => ?_⟩
 ·obtain ⟨e1,e2,e3,_⟩:=e u hu
  rw [<- e1,<- e2,<- e3];exact h.out u hu
 ·obtain ⟨e1,e2,e3,e4⟩:=e u hu
  rw [<- e3] at hm
  rw [<- e1,<- e4];exact h.hit u hu j row hm
 ·obtain ⟨e1,_,e3,_⟩:=e u hu
  rw [<- e3] at hm
  rw [<- e1];exact h.nil u hu j hm
 ·obtain ⟨_,_,e3,e4⟩:=e u hu
  obtain ⟨_,_,f3,f4⟩:=e w hw
  rw [<- e3] at h1
  rw [<- f3] at h2
  rw [<- e4,<- f4] at h3
  exact h.inj u hu w hw i j r s h1 h2 h3
 ·rw [<- (e u hu).2.2.1] at hm;exact h.hcl u hu j row hm
def Mx1 (L:Heap) (C:List AV) (cv:Nat) (M:List (Option Row)) (ρ:Nat->Nat):Prop:=Mx 1 [0] L (fun _=>C) (fun _=>cv) (fun _=>M) (fun _=>ρ)
theorem list2 {α:Type} {L:List α} {x y:α} (h0:L[0]? = some x) (h1:L[1]? = some y):∃ R,L = x :: y :: R:=by
 match L,h0,h1 with
 | a :: b :: R,h0,h1 => exact ⟨R,by rw [Option.some.inj h0,Option.some.inj h1]⟩
theorem list3 {α:Type} {L:List α} {x y z:α} (h0:L[0]? = some x) (h1:L[1]? = some y) (h2:L[2]? = some z):∃ R,L = x :: y :: z :: R:=by
 match L,h0,h1,h2 with
 | a :: b :: c :: R,h0,h1,h2 => exact ⟨R,by rw [Option.some.inj h0,Option.some.inj h1,Option.some.inj h2]⟩
theorem Mx1.out' {L:Heap} {C:List AV} {cv:Nat} {M:List (Option Row)} {ρ:Nat->Nat} (h:Mx1 L C cv M ρ):L[0]? = some ⟨C,1,cv,false,false⟩/\C.length=M.length:=Mx.out h 0 (by simp)
theorem Mx1.hit' {L:Heap} {C:List AV} {cv:Nat} {M:List (Option Row)} {ρ:Nat->Nat} (h:Mx1 L C cv M ρ) {j:Nat} {row:Row} (hm:M[j]? = some (some row)):C[j]? = some (.row (ρ j) row.ver)/\L[ρ j]? = some row/\1<=ρ j:=Mx.hit h 0 (by simp) j row hm
theorem Mx1.cell {C:List AV} {cv:Nat} {R:Heap} {M:List (Option Row)} {ρ:Nat -> Nat} (h:Mx1 (⟨C,1,cv,false,false⟩ :: R) C cv M ρ) {a:Nat} (ha:a < M.length) {rb:Row} (hc:rb.clean = true) :
  ∃ ρ',Mx1 (⟨C.set a (.row (R.length + 1) rb.ver),1,cv,false,false⟩ :: (R ++ [rb])) (C.set a (.row (R.length + 1) rb.ver)) cv (M.set a (some rb)) ρ':=by
 have:=Mx.cell h (u:=0) (a:=a) (by simp) ha hc
 exact ⟨fun j => if j = a then R.length + 1 else ρ j,this.congr fun u hu => by
  rw [List.mem_singleton] at hu;subst hu
  refine ⟨by rw [if_pos rfl];rfl,rfl,by rw [if_pos rfl],fun j => ?_⟩
  by_cases e:j = a
  ·rw [if_pos ⟨rfl,e⟩,if_pos e];rfl
  ·rw [if_neg fun x => e x.2,if_neg e]⟩
theorem Mx1.upd1 {C:List AV} {cv:Nat} {x ra rb:Row} {R:Heap} {M:List (Option Row)} {ρ:Nat -> Nat} (h:Mx1 (x :: ra :: R) C cv M ρ) {a:Nat} (ha:M[a]? = some (some ra)) (h1:ρ a = 1) (hc:rb.clean = true) (hv:rb.ver = ra.ver):Mx1 (x :: rb :: R) C cv (M.set a (some rb)) ρ:=by
 have:=Mx.upd h (u:=0) (a:=a) (by simp) ha hc hv
 simp only [h1] at this
 exact this.congr fun u hu => by
  rw [List.mem_singleton] at hu;subst hu
  exact ⟨rfl,rfl,by rw [if_pos rfl],fun _ => rfl⟩
theorem focus1 {N:Mach} {fi:Fi} {k:List Item} {env:Vars} {L:Heap} {d:AV} {C:List AV} {cv:Nat} {M:List (Option Row)} {ρ:Nat -> Nat} (h:Mx1 L C cv M ρ) (henv:(rowsL (env.map (·.2))).all (fun r => Nat.blt r 1) = true) {a:Nat} {ra:Row} (ha:M[a]? = some (some ra))
  (H:∀ C' R ρ',Mx1 (⟨C',1,cv,false,false⟩ :: ra :: R) C' cv M ρ' -> ρ' a = 1 -> C'[a]? = some (.row 1 ra.ver) -> Wp N (.run fi k env (⟨C',1,cv,false,false⟩ :: ra :: R)) (ZaW d)):Wp N (.run fi k env L) (ZaW d):=by
 obtain ⟨e1,e2,e3⟩:=h.hit' ha
 have hl:=(List.getElem?_eq_some_iff.1 e2).1
 refine Zdd h henv (u:=0) (a:=a) (p:=1) (by simp) ha (Nat.le_refl 1) (by omega) fun L' C' ρ' hM hlen hp hρ _ _ => ?_
 have hM1:Mx1 L' (C' 0) cv M (ρ' 0):=hM.congr fun u hu => by
  rw [List.mem_singleton] at hu;subst hu
  exact ⟨rfl,rfl,rfl,fun _ => rfl⟩
 obtain ⟨R,rfl⟩:=list2 hM1.out'.1 hp
 have:=(hM1.hit' ha).1
 rw [hρ] at this
 exact H (C' 0) R (ρ' 0) hM1 hρ this
theorem focus2 {N:Mach} {fi:Fi} {k:List Item} {env:Vars} {L:Heap} {d:AV} {C:List AV} {cv:Nat} {M:List (Option Row)} {ρ:Nat -> Nat} (h:Mx1 L C cv M ρ) (henv:(rowsL (env.map (·.2))).all (fun r => Nat.blt r 1) = true) {a b:Nat} {ra rb:Row} (ha:M[a]? = some (some ra)) (hb:M[b]? = some (some rb)) (hab:a ≠ b)
  (H:∀ C' R ρ',Mx1 (⟨C',1,cv,false,false⟩ :: ra :: rb :: R) C' cv M ρ' -> ρ' a = 1 -> C'[a]? = some (.row 1 ra.ver) -> C'[b]? = some (.row 2 rb.ver) -> Wp N (.run fi k env (⟨C',1,cv,false,false⟩ :: ra :: rb :: R)) (ZaW d)):Wp N (.run fi k env L) (ZaW d):=by
 refine focus1 h henv ha fun C1 R1 ρ1 h1 h1a _ => ?_
 obtain ⟨e1,e2,e3⟩:=h1.hit' hb
 have hne:ρ1 b ≠ 1:=fun e => hab (Mx.inj h1 0 (by simp) 0 (by simp) a b ra rb ha hb (by rw [h1a,e])).2
 have hl:=(List.getElem?_eq_some_iff.1 e2).1
 refine Zdd h1 henv (u:=0) (a:=b) (p:=2) (by simp) hb (by omega) (by omega) fun L' C' ρ' hM hlen hp hρ ho _ => ?_
 have hM1:Mx1 L' (C' 0) cv M (ρ' 0):=hM.congr fun u hu => by
  rw [List.mem_singleton] at hu;subst hu
  exact ⟨rfl,rfl,rfl,fun _ => rfl⟩
 have hra:ρ' 0 a = 1:=by
  have:=ho 0 (by simp) a ra ha (by rw [h1a];omega) (by rw [h1a];exact fun e => hne e.symm)
  rw [this];exact h1a
 obtain ⟨ca,la,_⟩:=hM1.hit' ha
 rw [hra] at ca la
 obtain ⟨R,rfl⟩:=list3 hM1.out'.1 la hp
 have cb:=(hM1.hit' hb).1
 rw [hρ] at cb
 exact H (C' 0) R (ρ' 0) hM1 hra ca cb
theorem Mx1.deep {C:List AV} {cv:Nat} {L:Heap} {M:List (Option Row)} {ρ:Nat -> Nat} (h:Mx1 L C cv M ρ) {d:AV} (hd:.vec false 1 (M.map ZcO) = d):ZaW d (.row 0 cv) L:=by
 obtain ⟨h1,h2⟩:=Mx.deep h (u:=0) (by simp)
 subst hd
 exact deep_of h1 h2
end Go.Av

namespace Go.Av
open Go.Proofs
def Mb (m:List Bool):AV:=.vec false 1 (m.map (.bool))
abbrev bRow (m:List Bool):Row:=⟨m.map (.bool),1,0,false,true⟩
def Zd7 (M:List (List Bool)):List (Option Row):=M.map fun m=>some (bRow m)
theorem mRows_at {M:List (List Bool)} {a:Nat} (h:a < M.length):(Zd7 M)[a]? = some (some (bRow (M.getD a []))):=by
 unfold Zd7
 rw [List.getElem?_map,List.getElem?_eq_getElem h,List.getD_eq_getElem?_getD,List.getElem?_eq_getElem h];rfl
theorem ZeK {M:List (List Bool)} {a:Nat} {m:List Bool}:(Zd7 M).set a (some (bRow m)) = Zd7 (M.set a m):=by
 unfold Zd7;rw [List.map_set]
namespace Sp
noncomputable def tab (n:Nat) (ps:List Pr):List (List Bool):=(List.range n).map fun (a:Nat)=>(List.range n).map fun (b:Nat) => @decide (dep ps a b) (Classical.propDecidable _)
end Sp
theorem tab_get {n:Nat} {ps:List Pr} {a b:Nat} (ha:a < n) (hb:b < n):Sp.ZbM (Sp.tab n ps) a b = true ↔ Sp.dep ps a b:=by
 unfold Sp.ZbM Sp.tab
 rw [List.getD_eq_getElem?_getD (l:=(List.range n).map _),List.getElem?_map,List.getElem?_range ha,Option.map_some,Option.getD_some,List.getD_eq_getElem?_getD,List.getElem?_map,List.getElem?_range hb,Option.map_some,Option.getD_some]
 exact @decide_eq_true_iff _ (Classical.propDecidable _)
theorem tab_dim (n:Nat) (ps:List Pr):Sp.mDim n (Sp.tab n ps):=by
 unfold Sp.tab
 refine ⟨by simp,fun a ha => ?_⟩
 rw [List.getD_eq_getElem?_getD,List.getElem?_map,List.getElem?_range ha];simp
theorem mat_ext {n:Nat} {M N:List (List Bool)} (hM:Sp.mDim n M) (hN:Sp.mDim n N) (h:∀ a b,a < n -> b < n -> Sp.ZbM M a b = Sp.ZbM N a b):M = N:=by
 apply List.ext_getElem?
 intro a
 by_cases ha:a < n
 ·have e1:M[a]? = some (M.getD a []):=by rw [List.getD_eq_getElem?_getD,List.getElem?_eq_getElem (by rw [hM.1];exact ha)];rfl
  have e2:N[a]? = some (N.getD a []):=by rw [List.getD_eq_getElem?_getD,List.getElem?_eq_getElem (by rw [hN.1];exact ha)];rfl
  rw [e1,e2]
  congr 1
  apply List.ext_getElem?
  intro b
  by_cases hb:b < n
  ·have:=h a b ha hb
   unfold Sp.ZbM at this
   have f1:(M.getD a [])[b]? = some ((M.getD a []).getD b false):=by rw [List.getD_eq_getElem?_getD (l:=M.getD a []),List.getElem?_eq_getElem (by rw [hM.2 a ha];exact hb)];rfl
   have f2:(N.getD a [])[b]? = some ((N.getD a []).getD b false):=by rw [List.getD_eq_getElem?_getD (l:=N.getD a []),List.getElem?_eq_getElem (by rw [hN.2 a ha];exact hb)];rfl
   rw [f1,f2,this]
  ·rw [List.getElem?_eq_none (by rw [hM.2 a ha];omega),List.getElem?_eq_none (by rw [hN.2 a ha];omega)]
 ·rw [List.getElem?_eq_none (by rw [hM.1];omega),List.getElem?_eq_none (by rw [hN.1];omega)]
def DI (n:Nat) (C:List AV) (cv:Nat) (R:Heap) (M:List (List Bool)):Prop:=Sp.mDim n M /\ ∃ ρ,Mx1 (⟨C,1,cv,false,false⟩::R) C cv (Zd7 M) ρ
section
variable {n:Nat} {ps:List Pr} {d:AV}
theorem dK_loop (hv:Sp.okV n ps) (hn:n <= 1000) (hd:.vec false 1 ((Sp.tab n ps).map Mb) = d):∀ (c k:Nat) (C:List AV) (cv:Nat) (R:Heap) (M:List (List Bool)),k + c = n -> DI n C cv R M -> Sp.mSnd ps n M -> Sp.mCpl ps n k M -> dK_at n C cv R k (ZaW d):=by
 intro c
 induction c with
 | zero =>
  intro k C cv R M hk hD hs hc
  have hkn:k = n:=by omega
  subst hkn
  obtain ⟨hd1,ρ,hM⟩:=hD
  have e:M = Sp.tab k ps:=mat_ext hd1 (tab_dim k ps) fun a b ha hb => by
   rw [Bool.eq_iff_iff,tab_get ha hb]
   exact tab_end hv hs hc ha hb
  refine dK _ _ _ _ _ _ ⟨fun z => by omega,fun _ => hM.deep ?_⟩
  rw [<- hd,<- e]
  unfold Zd7
  rw [List.map_map];rfl
 | succ c ih =>
  intro k C cv R M hk hD hs hc
  have hkn:k < n:=by omega
  refine dK _ _ _ _ _ _ ⟨fun _ => ?_,fun z => by omega⟩
  have rowL:∀ (c' a:Nat) (C:List AV) (cv:Nat) (R:Heap) (N:List (List Bool)),a + c' = n -> DI n C cv R N -> Sp.mSnd ps n N -> Sp.mStg n k M N (fun i _ => i < a) -> dA_at n C cv R k a (ZaW d):=by
   intro c'
   induction c' with
   | zero =>
    intro a C cv R N ha hD hs hst
    refine dA _ _ _ _ _ _ _ ⟨fun z => by omega,fun _ => ⟨by omega,ih (k + 1) C cv R N (by omega) hD hs (stg_end hkn hc ⟨hst.1,fun i j hi hj _ => hst.2 i j hi hj (by omega)⟩)⟩⟩
   | succ c' ihA =>
    intro a C cv R N ha hD hs hst
    have han:a < n:=by omega
    refine dA _ _ _ _ _ _ _ ⟨fun _ => ?_,fun z => by omega⟩
    have colL:∀ (c'' b:Nat) (C:List AV) (cv:Nat) (R:Heap) (N:List (List Bool)),b + c'' = n -> DI n C cv R N -> Sp.mSnd ps n N -> Sp.mStg n k M N (fun i j => i < a \/ (i = a /\ j < b)) -> dB_at n C cv R k a b (ZaW d):=by
     intro c''
     induction c'' with
     | zero =>
      intro b C cv R N hb hD hs hst
      refine dB _ _ _ _ _ _ _ _ ⟨fun z => by omega,fun _ => ⟨by omega,ihA (a + 1) C cv R N (by omega) hD hs ⟨hst.1,fun i j hi hj hp => hst.2 i j hi hj ?_⟩⟩⟩
      by_cases e:i < a
      ·exact .inl e
      ·exact .inr ⟨by omega,by omega⟩
     | succ c'' ihB =>
      intro b C cv R N hb hD hs hst
      have hbn:b < n:=by omega
      refine dB _ _ _ _ _ _ _ _ ⟨fun _ => ?_,fun z => by omega⟩
      obtain ⟨hd1,ρ,hM⟩:=hD
      obtain ⟨s1,s2,s3⟩:=stg_step (b:=b) hd1 han hbn hkn hs hst
      have hst':Sp.mStg n k M (Sp.mSet N a b (Sp.ZbM N a b || (Sp.ZbM N a k && Sp.ZbM N k b))) (fun i j => i < a \/ (i = a /\ j < b + 1)):=⟨s3.1,fun i j hi hj hp => s3.2 i j hi hj (by
       rcases hp with hp | ⟨hp,hq⟩
       ·exact .inl (.inl hp)
       ·by_cases e:j = b
        ·exact .inr ⟨hp,e⟩
        ·exact .inl (.inr ⟨hp,by omega⟩))⟩
      have hra:=mRows_at (M:=N) (a:=a) (by rw [hd1.1];exact han)
      have hla:=hd1.2 a han
      by_cases e:a = k
      ·subst e
       refine focus1 hM (by rfl) hra fun C' R' ρ' h1 h2 h3 => ?_
       have hcl:C'.length = n:=by have:=h1.out'.2;unfold Zd7 at this;rw [this,List.length_map,hd1.1]
       refine (dB1 _ _ _ _ _ _ _ (N.getD a []) _ ?_:dB1_at n C' cv R' a a b (N.getD a []) (ZaW d))
       rw [Int.toNat_natCast,Int.toNat_natCast]
       refine ⟨by omega,by rw [hcl];exact han,by omega,by rw [hla];exact hbn,fun _ => by omega,fun _ => by rw [hla];exact han,fun _ => by omega,fun _ => by rw [hcl];exact han,h3,fun _ => h3,fun _ => h3,by omega,?_⟩
       have hu:=h1.upd1 hra h2 (rb:=bRow ((N.getD a []).set b (Sp.ZbM N a b || (Sp.ZbM N a a && Sp.ZbM N a b)))) rfl rfl
       rw [ZeK] at hu
       have hn:=ihB (b + 1) C' cv _ _ (by omega) ⟨s1,ρ',hu⟩ s2 hst'
       have hval:(bif (N.getD a []).getD b default then true else bif (N.getD a []).getD a default then (N.getD a []).getD b default else false) = (Sp.ZbM N a b || (Sp.ZbM N a a && Sp.ZbM N a b)):=by
        unfold Sp.ZbM
        show (bif (N.getD a []).getD b false then true else bif (N.getD a []).getD a false then (N.getD a []).getD b false else false) = _
        cases (N.getD a []).getD b false <;> cases (N.getD a []).getD a false <;> rfl
       rw [hval]
       exact hn
      ·have hrk:=mRows_at (M:=N) (a:=k) (by rw [hd1.1];exact hkn)
       have hlk:=hd1.2 k hkn
       refine focus2 hM (by rfl) hra hrk e fun C' R' ρ' h1 h2 h3 h4 => ?_
       have hcl:C'.length = n:=by have:=h1.out'.2;unfold Zd7 at this;rw [this,List.length_map,hd1.1]
       refine (dB2 _ _ _ _ _ _ _ (N.getD a []) (N.getD k []) _ ?_:dB2_at n C' cv R' k a b (N.getD a []) (N.getD k []) (ZaW d))
       rw [Int.toNat_natCast,Int.toNat_natCast,Int.toNat_natCast]
       refine ⟨by omega,by rw [hcl];exact han,by omega,by rw [hla];exact hbn,fun _ => by omega,fun _ => by rw [hla];exact hkn,fun _ => by omega,fun _ => by rw [hcl];exact hkn,fun _ => by rw [hlk];exact hbn,h3,fun _ => h3,fun _ => h4,by omega,?_⟩
       have hu:=h1.upd1 hra h2 (rb:=bRow ((N.getD a []).set b (Sp.ZbM N a b || (Sp.ZbM N a k && Sp.ZbM N k b)))) rfl rfl
       rw [ZeK] at hu
       have hn:=ihB (b + 1) C' cv _ _ (by omega) ⟨s1,ρ',hu⟩ s2 hst'
       have hval:(bif (N.getD a []).getD b default then true else bif (N.getD a []).getD k default then (N.getD k []).getD b default else false) = (Sp.ZbM N a b || (Sp.ZbM N a k && Sp.ZbM N k b)):=by
        unfold Sp.ZbM
        show (bif (N.getD a []).getD b false then true else bif (N.getD a []).getD k false then (N.getD k []).getD b false else false) = _
        cases (N.getD a []).getD b false <;> cases (N.getD a []).getD k false <;> cases (N.getD k []).getD b false <;> rfl
       rw [hval]
       exact hn
    exact colL n 0 C cv R N (by omega) hD hs ⟨hst.1,fun i j hi hj hp => hst.2 i j hi hj (by rcases hp with hp | ⟨_,hp⟩ <;> omega)⟩
  exact rowL n 0 C cv R M (by omega) hD hs ⟨fun i j _ _ h => h,fun i j _ _ hp => by omega⟩
theorem dP_loop (f:Bool) (hv:Sp.okV n ps) (hn:n <= 1000) (hpl:ps.length <= 1000000) (hd:.vec false 1 ((Sp.tab n ps).map Mb) = d):∀ (c i:Nat) (C:List AV) (cv:Nat) (R:Heap) (M:List (List Bool)),i + c = ps.length -> DI n C cv R M ->
  (∀ a b:Nat,a < n -> b < n -> (Sp.ZbM M a b = true ↔ Sp.edge (ps.take i) a b)) -> dP_at n C cv R f ps i (ZaW d):=by
 intro c
 induction c with
 | zero =>
  intro i C cv R M hi hD hM
  rw [List.take_of_length_le (by omega)] at hM
  refine dP _ _ _ _ _ _ _ _ ⟨fun z => by omega,fun _ => dK_loop hv hn hd n 0 C cv R M (by omega) hD (fun a b ha hb h => .one ((hM a b ha hb).1 h)) fun a b ha hb h => (hM a b ha hb).2 ?_⟩
  cases h with
  | one e => exact e
  | cons e hm _ =>
   obtain ⟨p,hp,_,rfl⟩:=e
   have:=hv p hp
   have h0:p.b < ((0:Nat):Int):=hm
   omega
 | succ c ih =>
  intro i C cv R M hi hD hM
  have hlt:i < ps.length:=by omega
  have hp:=hv _ (getD_mem hlt)
  refine dP _ _ _ _ _ _ _ _ ⟨fun _ => ?_,fun z => by omega⟩
  obtain ⟨hd1,ρ,hMx⟩:=hD
  obtain ⟨a,ha⟩:=Int.eq_ofNat_of_zero_le hp.1
  obtain ⟨b,hb⟩:=Int.eq_ofNat_of_zero_le hp.2.2.1
  have han:a < n:=by omega
  have hbn:b < n:=by omega
  have hra:=mRows_at (M:=M) (a:=a) (by rw [hd1.1];exact han)
  refine focus1 hMx (by rfl) hra fun C' R' ρ' h1 h2 h3 => ?_
  have hcl:C'.length = n:=by have:=h1.out'.2;unfold Zd7 at this;rw [this,List.length_map,hd1.1]
  refine (dPf _ _ _ _ _ _ _ (M.getD a []) _ ?_:dPf_at n C' cv R' f ps i (M.getD a []) (ZaW d))
  rw [Int.toNat_natCast,ha,hb,Int.toNat_natCast,Int.toNat_natCast]
  refine ⟨by omega,hlt,by omega,by rw [hcl];exact han,by omega,by rw [hd1.2 a han];exact hbn,h3,by omega,?_⟩
  have hu:=h1.upd1 hra h2 (rb:=bRow ((M.getD a []).set b true)) rfl rfl
  rw [ZeK] at hu
  refine ih (i + 1) C' cv _ (Sp.mSet M a b true) (by omega) ⟨mDim_set hd1 han,ρ',hu⟩ fun x y hx hy => ?_
  rw [Zee hd1 han hbn,List.take_succ_eq_append_getElem hlt]
  have hpi:ps[i] = ps.getD i default:=by rw [List.getD_eq_getElem?_getD,List.getElem?_eq_getElem hlt];rfl
  have hed:Sp.edge (ps.take i ++ [ps[i]]) x y ↔ Sp.edge (ps.take i) x y \/ ((a:Int) = x /\ (b:Int) = y):=by
   unfold Sp.edge
   constructor
   ·rintro ⟨p,hp,e1,e2⟩
    rw [List.mem_append,List.mem_singleton] at hp
    rcases hp with hp | rfl
    ·exact .inl ⟨p,hp,e1,e2⟩
    ·rw [hpi,ha] at e1
     rw [hpi,hb] at e2
     exact .inr ⟨e1,e2⟩
   ·rintro (⟨p,hp,e⟩ | ⟨e1,e2⟩)
    ·exact ⟨p,List.mem_append_left _ hp,e⟩
    ·exact ⟨ps[i],List.mem_append_right _ (by simp),by rw [hpi,ha];exact e1,by rw [hpi,hb];exact e2⟩
  rw [hed]
  by_cases e:x = a /\ y = b
  ·rw [if_pos e]
   exact ⟨fun _ => .inr ⟨by rw [e.1],by rw [e.2]⟩,fun _ => rfl⟩
  ·rw [if_neg e,hM x y hx hy]
   exact ⟨.inl,fun h => h.resolve_right fun ⟨h1,h2⟩ => e ⟨by omega,by omega⟩⟩
end
end Go.Av

namespace Go.Av
open Go.Proofs
theorem Mx1.base (n:Nat):Mx1 [⟨List.replicate n .vnil,1,0,false,false⟩] (List.replicate n .vnil) 0 (List.replicate n none) (fun _ => 1):=by
 have no:∀ (j:Nat) (row:Row),(List.replicate n (none:Option Row))[j]? = some (some row) -> False:=fun j row h => by
  rw [List.getElem?_replicate] at h
  split at h
  ·cases h
  ·cases h
 refine ⟨by simp,by simp,fun u hu => ?_,fun r row hr hno => ?_,fun r row hr hrow => ?_,fun u _ j row h => (no j row h).elim,fun u _ j h => ?_,fun u _ w _ i j r s h => (no i r h).elim,fun u _ j row h => (no j row h).elim⟩
 ·rw [List.mem_singleton] at hu;subst hu
  exact ⟨rfl,by simp⟩
 ·exact absurd (show r = 0 by omega) (by simpa using hno)
 ·have:=(List.getElem?_eq_some_iff.1 hrow).1
  simp at this;omega
 ·rw [List.getElem?_replicate] at h ⊢
  split at h
  ·rename_i hj;rw [if_pos hj]
  ·cases h
theorem dI_loop {n:Nat} {ps:List Pr} {d:AV} (f:Bool) (hv:Sp.okV n ps) (hn:n <= 1000) (hpl:ps.length <= 1000000) (hd:.vec false 1 ((Sp.tab n ps).map Mb) = d):∀ (c i:Nat) (C:List AV) (cv:Nat) (R:Heap) (ρ:Nat -> Nat),i + c = n ->
  Mx1 (⟨C,1,cv,false,false⟩ :: R) C cv (List.replicate i (some (bRow (List.replicate n false))) ++ List.replicate c none) ρ -> dI_at n C cv R f ps i (ZaW d):=by
 intro c
 induction c with
 | zero =>
  intro i C cv R ρ hi hM
  have hin:i = n:=by omega
  subst hin
  rw [List.replicate_zero,List.append_nil] at hM
  have e:List.replicate i (some (bRow (List.replicate i false))) = Zd7 (List.replicate i (List.replicate i false)):=by unfold Zd7;rw [List.map_replicate]
  rw [e] at hM
  have hdim:Sp.mDim i (List.replicate i (List.replicate i false)):=⟨by simp,fun a ha => by
   rw [List.getD_eq_getElem?_getD,List.getElem?_replicate,if_pos ha];simp⟩
  refine dI _ _ _ _ _ _ _ _ ⟨fun z => by omega,fun _ => dP_loop f hv hn hpl hd ps.length 0 C cv R _ (by omega) ⟨hdim,ρ,hM⟩ fun a b ha hb => ?_⟩
  unfold Sp.ZbM
  rw [List.getD_eq_getElem?_getD (l:=List.replicate i (List.replicate i false)),List.getElem?_replicate,if_pos ha,Option.getD_some,List.getD_eq_getElem?_getD,List.getElem?_replicate,if_pos hb]
  constructor
  ·intro h;cases h
  ·rintro ⟨p,hp,_⟩;simp at hp
 | succ c ih =>
  intro i C cv R ρ hi hM
  have hlen:=hM.out'.2
  simp only [List.length_append,List.length_replicate] at hlen
  have hnone:(List.replicate i (some (bRow (List.replicate n false))) ++ List.replicate (c + 1) (none:Option Row))[i]? = some none:=by
   rw [List.getElem?_append_right (by simp),List.length_replicate,Nat.sub_self,List.replicate_succ];rfl
  have hC:=Mx.nil hM 0 (by simp) i hnone
  refine dI _ _ _ _ _ _ _ _ ⟨fun _ => ?_,fun z => by omega⟩
  rw [Int.toNat_natCast,Int.toNat_natCast]
  obtain ⟨ρ',h'⟩:=Mx1.cell hM (a:=i) (rb:=bRow (List.replicate n false)) (by simp) rfl
  have e:(List.replicate i (some (bRow (List.replicate n false))) ++ List.replicate (c + 1) (none:Option Row)).set i (some (bRow (List.replicate n false))) = List.replicate (i + 1) (some (bRow (List.replicate n false))) ++ List.replicate c none:=by
   rw [List.set_append_right _ _ (by simp),List.length_replicate,Nat.sub_self,List.replicate_succ,List.set_cons_zero,List.replicate_succ',List.append_assoc];rfl
  rw [e] at h'
  have hnext:=ih (i + 1) _ cv _ ρ' (by omega) h'
  have er:bRow (List.replicate n false) = ⟨List.replicate n (.bool false),1,0,false,true⟩:=by unfold bRow;rw [List.map_replicate]
  rw [er] at hnext
  exact ⟨by omega,by omega,by omega,by omega,by omega,hC,by omega,hnext⟩
structure Bw where
 l:List Bool
 deriving Inhabited
def Bw.a (x:Bw):AV:=.vec false 1 (x.l.map (.bool))
noncomputable def Sp.tabW (n:Nat) (ps:List Pr):List Bw:=(Sp.tab n ps).map Bw.mk
theorem tabW_a (n:Nat) (ps:List Pr):(Sp.tabW n ps).map Bw.a=(Sp.tab n ps).map Mb:=by unfold Sp.tabW;rw [List.map_map];rfl
theorem tabW_get {n:Nat} {ps:List Pr} {a:Nat} (ha:a < n):((Sp.tabW n ps).getD a default).l = (Sp.tab n ps).getD a []:=by
 have h:=(tab_dim n ps).1
 unfold Sp.tabW
 rw [List.getD_eq_getElem?_getD,List.getElem?_map,List.getElem?_eq_getElem (by rw [h];exact ha),List.getD_eq_getElem?_getD,List.getElem?_eq_getElem (by rw [h];exact ha)];rfl
theorem tabW_len (n:Nat) (ps:List Pr):(Sp.tabW n ps).length=n:=by unfold Sp.tabW;rw [List.length_map,(tab_dim n ps).1]
theorem dep_ev (n:Nat) (f:Bool) (ps:List Pr) (h:Sp.okV n ps /\ n <= 1000 /\ ps.length <= 1000000):Ev M1 (.pure 36 [.int .i64 n,.vec f 2 (ps.map Pr.v)]) (.vec false 1 ((Sp.tabW n ps).map Bw.a)) []:=by
 obtain ⟨hv,hn,hpl⟩:=h
 rw [tabW_a]
 refine deep_call hm1 Try.f36 fi36 (by kernel_rfl) (by kernel_rfl) (by kernel_rfl) (by kernel_rfl) (dD _ _ _ _ ⟨by omega,by omega,by omega,?_⟩)
 rw [Int.toNat_natCast]
 cases n with
 | zero =>
  have hps:ps = []:=by
   cases ps with
   | nil => rfl
   | cons p ps => have:=hv p (by simp);omega
  subst hps
  refine dI0 _ _ _ _ _ ⟨fun z => by omega,fun _ => (dP0 _ _ _ _ _ ⟨fun z => by simp at z,fun _ => dK0 _ _ _ ⟨fun z => by omega,fun _ => ?_⟩⟩:dP0_at ((0:Nat):Int) f [] 0 _)⟩
  exact deep_of rfl (Zaa (by simp [Zbb]) Zas)
 | succ n =>
  obtain ⟨ρ',h'⟩:=Mx1.cell (Mx1.base (n + 1)) (a:=0) (rb:=bRow (List.replicate (n + 1) false)) (by simp) rfl
  have e:(List.replicate (n + 1) (none:Option Row)).set 0 (some (bRow (List.replicate (n + 1) false))) = List.replicate 1 (some (bRow (List.replicate (n + 1) false))) ++ List.replicate n none:=rfl
  rw [e] at h'
  refine dI0 _ _ _ _ _ ⟨fun _ => ⟨by omega,by omega,by omega,by simp,rfl,?_⟩,fun z => by omega⟩
  rw [Int.toNat_natCast]
  exact dI_loop f hv hn hpl rfl n 1 _ 0 _ ρ' (by omega) h'
theorem vd_okV {n:Int} {ps:List Pr} (h:Sp.vd n ps = 0):∃ m:Nat,n = m /\ Sp.okV m ps /\ m <= 1000 /\ ps.length <= 1000000:=by
 obtain ⟨h0,h1,h2,h3⟩:=vd_zero h
 refine ⟨n.toNat,by omega,fun p hp => ?_,by omega,by omega⟩
 obtain ⟨a1,a2,a3,a4,_⟩:=h3 p hp
 omega
theorem ev36 (n:Int) (f:Bool) (ps:List Pr) (h:Sp.vd n ps = 0):Ev M1 (.pure 36 [.int .i64 n,.vec f 2 (ps.map Pr.v)]) (.vec false 1 ((Sp.tabW n.toNat ps).map Bw.a)) []:=by
 obtain ⟨m,rfl,hm⟩:=vd_okV h
 rw [Int.toNat_natCast]
 exact dep_ev m f ps hm
end Go.Av

namespace Go.Av
open Go.Proofs
set_option maxRecDepth 100000
def fi18:Fi:=⟨22,[.tmp 4]⟩
def kp18:List (Nat × List Nat):=[(0,[0,1]),(1,[0,5]),(2,[0,5,6]),(3,[0,5,6,12]),(4,[0,5,6]),(5,[0,5,6,21]),(6,[4]),(7,[4])]
def pCy_at (n:Int) (f:Bool) (ps:List Pr) (Q:AV->Heap->Prop):Prop:=Wp M1 (.run fi18 (atC (cd Try.f18) []) [(0,.int .i64 n),(1,.vec f 2 (ps.map Pr.v))] []) Q
def ZeF (n:Int) (fm:Bool) (T:List Bw) (i:Int) (Q:AV->Heap->Prop):Prop:=Wp M1 (.run fi18 (atC (cd Try.f18) [1,1,0,1,0,0]) [(0,.int .i64 n),(5,.vec fm 1 (T.map Bw.a)),(6,.int .i64 i)] []) Q
theorem call18 {args:List AV} {d:AV} (h:wc M1 fi18 Try.f18 args d):Ev M1 (.pure 18 args) d []:=pcl _ _ (by kernel_rfl) h
theorem pCy (n:Int) (f:Bool) (ps:List Pr)  (dq:AV) (H :
  (Sp.vd n ps = 0) /\
  ZeF (n) (false) (Sp.tabW n.toNat ps) (0) (Zay dq)) :
 pCy_at n f ps (Zay dq):=by
 unfold pCy_at
 obtain ⟨k1,H⟩:=H
 exact Zae (G:=Zaf kp18 [(1,2,.call (vf (List.map Bw.a (Sp.tabW n.toNat ps))) none)] []) 1000 [] ⟨(atC (cd Try.f18) [1,1,0,1,0,0]),[(0,vi n),(5,vf (List.map Bw.a (Sp.tabW n.toNat ps))),(6,vi 0)],[],_,[],_⟩ (by kernel_rfl) b0 q0 (ce (@ev36 (n) (f) (ps) k1) c0) (H)
theorem pCyL (n:Int) (fm:Bool) (T:List Bw) (i:Int)  (dq:AV) (H :
  ((i < n) -> (0 <= i) /\
   (i.toNat < T.length) /\
   (i.toNat < (T.getD i.toNat default).1.length) /\
   (((T.getD i.toNat default).1.getD i.toNat default = true) -> vb true = dq) /\
   (¬((T.getD i.toNat default).1.getD i.toNat default = true) -> (-9223372036854775808 <= i + 1 /\ i + 1 <= 9223372036854775807) /\
    ZeF (n) (fm) (T) (i + 1) (Zay dq))) /\
  (¬(i < n) -> vb false = dq)) :
 ZeF n fm T i (Zay dq):=by
 unfold ZeF
 rcases xq H with ⟨d2,H⟩|⟨d2,H⟩
 ·obtain ⟨k4,H⟩:=H
  have w5:(List.map Bw.a T).length = T.length:=List.length_map ..
  have i6:(decide (i.toNat < (List.map Bw.a T).length)) = true ↔ (i.toNat < T.length):=(by (try rw [w5]);all_goals exact Zab)
  obtain ⟨k7,H⟩:=H
  have w9:(List.map vb (T.getD i.toNat default).1).length = (T.getD i.toNat default).1.length:=List.length_map ..
  have i10:(decide (i.toNat < (List.map vb (T.getD i.toNat default).1).length)) = true ↔ (i.toNat < (T.getD i.toNat default).1.length):=(by (try rw [w9]);all_goals exact Zab)
  obtain ⟨k11,H⟩:=H
  refine Zae (G:=Zaf kp18 [(5,3,.elem (vf (List.map vb (T.getD i.toNat default).1))),(5,6,.elem (vb ((T.getD i.toNat default).1.getD i.toNat default)))] []) 9 [true] ⟨(atC (cd Try.f18) [1,1,0,1,0,0,1,0,0,1]),[(0,vi n),(5,AV.vec fm 1 (List.map Bw.a T)),(6,vi i),(21,vb ((T.getD i.toNat default).1.getD i.toNat default))],[],_,[((List.map Bw.a T).get?Internal i.toNat = some (vf (List.map vb (T.getD i.toNat default).1))),((List.map vb (T.getD i.toNat default).1).get?Internal i.toNat = some (vb ((T.getD i.toNat default).1.getD i.toNat default)))],_⟩ (by kernel_rfl) (bc (ZaK (Zab.2 d2)) (bc (Zab.2 k4) (bc (i6.2 k7) (bc (Zab.2 k4) (bc (i10.2 k11) b0))))) (qc (Zak k7) (qc (Zak k11) q0)) c0 ?_
  rcases xq H with ⟨d13,H⟩|⟨d13,H⟩
  ·exact ZaQ (G:=Zaf kp18 [] []) 1000 [true] (asm:=[((T.getD i.toNat default).1.getD i.toNat default) == true]) (vb true) (by kernel_rfl) (bc (ZaK ((Zat _).2 d13)) b0) q0 c0 H
  ·obtain ⟨k14,H⟩:=H
   have w15:wi (i + 1) = i + 1:=wI64 k14
   exact Zae (G:=Zaf kp18 [] []) 1000 [false] ⟨(atC (cd Try.f18) [1,1,0,1,0,0]),[(0,vi n),(5,AV.vec fm 1 (List.map Bw.a T)),(6,vi (wi (i + 1)))],[],[((T.getD i.toNat default).1.getD i.toNat default) == false],[],_⟩ (by kernel_rfl) (bc (ZaI (fun h => d13 ((Zat _).1 h))) b0) q0 c0 (by (try rw [w15]);all_goals exact H)
 ·exact ZaQ (G:=Zaf kp18 [] []) 1000 [false] (vb false) (by kernel_rfl) (bc (ZaI (fun h => d2 (Zab.1 h))) b0) q0 c0 H
end Go.Av

namespace Go.Av
open Go.Proofs
set_option maxRecDepth 100000
def fi34:Fi:=⟨51,[.cell 4 50]⟩
def kp34:List (Nat × List Nat):=[(0,[0,1,4]),(1,[1,4,5]),(2,[4,5,13,14,15]),(3,[4,5,13,14,15,16]),(4,[4,5,7,13,14,15]),(5,[4,5,7,13,14,15]),(6,[4,5,13,14,15]),(7,[4,5,13,14,15]),(8,[4])]
def Zfp (f:Bool) (ps:List Pr) (C D:List AV) (cv dv:Nat) (R:Heap) (m i:Int) (p:Pr) (Q:AV->Heap->Prop):Prop:=Wp M1 (.run fi34 (atC (cd Try.f34) [1,1,0,1,0,0,1,1,0,0,1,0]) [(4,.ptr 0 0 0 0),(5,.ptr 3 0 0 0),(13,.vec f 2 (ps.map Pr.v)),(14,.int .i64 m),(15,.int .i64 i),(7,.ptr 4 0 0 0)] (⟨[.agg [.vnil,.vnil]],2,0,false,false⟩::⟨C,1,cv,false,false⟩::⟨D,1,dv,false,false⟩::⟨[.agg [.row 1 cv,.row 2 dv]],2,0,false,false⟩::⟨[.agg [.int .i64 p.a,.int .i64 p.b]],2,0,false,false⟩::R)) Q
def rrn_at (f:Bool) (ps:List Pr) (C D:List AV) (cv dv:Nat) (R:Heap) (m i:Int) (p:Pr) (q:List Int) (v:Nat) (Q:AV->Heap->Prop):Prop:=Wp M1 (.run fi34 (atC (cd Try.f34) [1,1,0,1,0,0,1,1,0,0,1,0]) [(4,.ptr 0 0 0 0),(5,.ptr 3 0 0 0),(13,.vec f 2 (ps.map Pr.v)),(14,.int .i64 m),(15,.int .i64 i),(7,.ptr 4 0 0 0)] (⟨[.agg [.vnil,.vnil]],2,0,false,false⟩::⟨C,1,cv,false,false⟩::⟨D,1,dv,false,false⟩::⟨[.agg [.row 1 cv,.row 2 dv]],2,0,false,false⟩::⟨[.agg [.int .i64 p.a,.int .i64 p.b]],2,0,false,false⟩::⟨q.map (.int .i64),1,v,false,true⟩::R)) Q
def rnr_at (f:Bool) (ps:List Pr) (C D:List AV) (cv dv:Nat) (R:Heap) (m i:Int) (p:Pr) (r:List Int) (w:Nat) (Q:AV->Heap->Prop):Prop:=Wp M1 (.run fi34 (atC (cd Try.f34) [1,1,0,1,0,0,1,1,0,0,1,0]) [(4,.ptr 0 0 0 0),(5,.ptr 3 0 0 0),(13,.vec f 2 (ps.map Pr.v)),(14,.int .i64 m),(15,.int .i64 i),(7,.ptr 4 0 0 0)] (⟨[.agg [.vnil,.vnil]],2,0,false,false⟩::⟨C,1,cv,false,false⟩::⟨D,1,dv,false,false⟩::⟨[.agg [.row 1 cv,.row 2 dv]],2,0,false,false⟩::⟨[.agg [.int .i64 p.a,.int .i64 p.b]],2,0,false,false⟩::⟨r.map (.int .i64),1,w,false,true⟩::R)) Q
def rrr_at (f:Bool) (ps:List Pr) (C D:List AV) (cv dv:Nat) (R:Heap) (m i:Int) (p:Pr) (q:List Int) (v:Nat) (r:List Int) (w:Nat) (Q:AV->Heap->Prop):Prop:=Wp M1 (.run fi34 (atC (cd Try.f34) [1,1,0,1,0,0,1,1,0,0,1,0]) [(4,.ptr 0 0 0 0),(5,.ptr 3 0 0 0),(13,.vec f 2 (ps.map Pr.v)),(14,.int .i64 m),(15,.int .i64 i),(7,.ptr 4 0 0 0)] (⟨[.agg [.vnil,.vnil]],2,0,false,false⟩::⟨C,1,cv,false,false⟩::⟨D,1,dv,false,false⟩::⟨[.agg [.row 1 cv,.row 2 dv]],2,0,false,false⟩::⟨[.agg [.int .i64 p.a,.int .i64 p.b]],2,0,false,false⟩::⟨q.map (.int .i64),1,v,false,true⟩::⟨r.map (.int .i64),1,w,false,true⟩::R)) Q
def r00_at (f:Bool) (ps:List Pr) (C D:List AV) (cv dv:Nat) (R:Heap) (m i:Int) (p:Pr) (Q:AV->Heap->Prop):Prop:=Wp M1 (.run fi34 (atC (cd Try.f34) [1,1,0,1,0,0,1,1,0,0,1,0]) [(4,.ptr 0 0 0 0),(5,.ptr 3 0 0 0),(13,.vec f 2 (ps.map Pr.v)),(14,.int .i64 m),(15,.int .i64 i),(7,.ptr 4 0 0 0)] (⟨[.agg [.vnil,.vnil]],2,0,false,false⟩::⟨C,1,cv,false,true⟩::⟨D,1,dv,false,true⟩::⟨[.agg [.row 1 cv,.row 2 dv]],2,0,false,false⟩::⟨[.agg [.int .i64 p.a,.int .i64 p.b]],2,0,false,false⟩::R)) Q
def rB_at (f:Bool) (ps:List Pr) (xc:Bool) (C D:List AV) (cv dv:Nat) (R:Heap) (Q:AV->Heap->Prop):Prop:=Wp M1 (.run fi34 (atC (cd Try.f34) [1,1]) [(4,.ptr 0 0 0 0),(5,.ptr 3 0 0 0),(1,.vec f 2 (ps.map Pr.v))] (⟨[.agg [.vnil,.vnil]],2,0,false,false⟩::⟨C,1,cv,false,xc⟩::⟨D,1,dv,false,xc⟩::⟨[.agg [.row 1 cv,.row 2 dv]],2,0,false,false⟩::R)) Q
def Zfc (f:Bool) (ps:List Pr) (xc:Bool) (C D:List AV) (cv dv:Nat) (R:Heap) (m i:Int) (Q:AV->Heap->Prop):Prop:=Wp M1 (.run fi34 (atC (cd Try.f34) [1,1,0,1,0,0]) [(4,.ptr 0 0 0 0),(5,.ptr 3 0 0 0),(13,.vec f 2 (ps.map Pr.v)),(14,.int .i64 m),(15,.int .i64 i)] (⟨[.agg [.vnil,.vnil]],2,0,false,false⟩::⟨C,1,cv,false,xc⟩::⟨D,1,dv,false,xc⟩::⟨[.agg [.row 1 cv,.row 2 dv]],2,0,false,false⟩::R)) Q
theorem rnn (f:Bool) (ps:List Pr) (C D:List AV) (cv dv:Nat) (R:Heap) (m i:Int) (p:Pr)  (Q:AV -> Heap -> Prop) (H :
  (0 <= p.a) /\
  (p.a.toNat < D.length) /\
  (D.get?Internal p.a.toNat = some AV.vnil) /\
  (0 <= p.b) /\
  (p.b.toNat < C.length) /\
  (C.get?Internal p.b.toNat = some AV.vnil) /\
  (-9223372036854775808 <= i + 1 /\ i + 1 <= 9223372036854775807) /\
  Zfc (f) (ps) (false) (C.set p.b.toNat (AV.row ((List.append R [{ elems:=[vi p.b],es:=((fun x => Try.prog) ()).types[3].size,ver:=0,frozen:=false,clean:=true }]).length + 1 + 1 + 1 + 1 + 1) 0)) (D.set p.a.toNat (AV.row (List.length R + 1 + 1 + 1 + 1 + 1) 0)) (cv) (dv) ({ elems:=[ag [vi p.a,vi p.b]],es:=2,ver:=0,frozen:=false,clean:=false } :: (List.append R [{ elems:=[vi p.b],es:=((fun x => Try.prog) ()).types[3].size,ver:=0,frozen:=false,clean:=true }]).append [{ elems:=[vi p.a],es:=((fun x => Try.prog) ()).types[3].size,ver:=0,frozen:=false,clean:=true }]) (m) (i + 1) Q) :
 Zfp f ps C D cv dv R m i p Q:=by
 unfold Zfp
 obtain ⟨k2,k4,k7,k9,k11,k14,k15,H⟩:=H
 have w16:wi (i + 1) = i + 1:=wI64 k15
 exact Zae (G:=Zaf kp34 [(5,9,(.elem .vnil:Ans)),(5,15,(.elem .vnil:Ans)),(6,9,(.elem .vnil:Ans)),(6,15,(.elem .vnil:Ans))] [(6,[1013]),(5,[1013])]) 1000 [] ⟨(atC (cd Try.f34) [1,1,0,1,0,0]),[(4,AV.ptr 0 0 0 0),(5,AV.ptr 3 0 0 0),(13,AV.vec f 2 (List.map Pr.v ps)),(14,vi m),(15,vi (wi (i + 1)))],⟨[ag [AV.vnil,AV.vnil]],2,0,false,false⟩ :: ⟨C.set p.b.toNat (AV.row ((List.append R [⟨[vi p.b],((fun x => Try.prog) ()).types[3].size,0,false,true⟩]).length + 1 + 1 + 1 + 1 + 1) 0),1,cv,false,false⟩ :: ⟨D.set p.a.toNat (AV.row (List.length R + 1 + 1 + 1 + 1 + 1) 0),1,dv,false,false⟩ :: ⟨[ag [AV.row 1 cv,AV.row 2 dv]],2,0,false,false⟩ :: ⟨[ag [vi p.a,vi p.b]],2,0,false,false⟩ :: (List.append R [⟨[vi p.b],((fun x => Try.prog) ()).types[3].size,0,false,true⟩]).append [⟨[vi p.a],((fun x => Try.prog) ()).types[3].size,0,false,true⟩],[true,true,true,true,true,true,true,true,dv == dv,decide (0 <= p.a),decide (p.a.toNat < D.length),dv == dv,true,true,true,true,dv == dv,decide (0 <= p.a),decide (p.a.toNat < D.length),dv == dv,true,true,true,true,true,true,true,true,cv == cv,decide (0 <= p.b),decide (p.b.toNat < C.length),cv == cv,true,true,true,true,cv == cv,decide (0 <= p.b),decide (p.b.toNat < C.length),cv == cv],[(D.get?Internal p.a.toNat = some AV.vnil),(D.get?Internal p.a.toNat = some AV.vnil),(C.get?Internal p.b.toNat = some AV.vnil),(C.get?Internal p.b.toNat = some AV.vnil)],_⟩ (by kernel_rfl) (bc rfl (bc rfl (bc rfl (bc rfl (bc rfl (bc rfl (bc rfl (bc rfl (bc (beq_self_eq_true _) (bc (Zab.2 k2) (bc (Zab.2 k4) (bc (beq_self_eq_true _) (bc rfl (bc rfl (bc rfl (bc rfl (bc (beq_self_eq_true _) (bc (Zab.2 k2) (bc (Zab.2 k4) (bc (beq_self_eq_true _) (bc rfl (bc rfl (bc rfl (bc rfl (bc rfl (bc rfl (bc rfl (bc rfl (bc (beq_self_eq_true _) (bc (Zab.2 k9) (bc (Zab.2 k11) (bc (beq_self_eq_true _) (bc rfl (bc rfl (bc rfl (bc rfl (bc (beq_self_eq_true _) (bc (Zab.2 k9) (bc (Zab.2 k11) (bc (beq_self_eq_true _) b0)))))))))))))))))))))))))))))))))))))))) (qc k7 (qc k7 (qc k14 (qc k14 q0)))) c0 (by (try rw [w16]);all_goals exact H)
theorem rrn (f:Bool) (ps:List Pr) (C D:List AV) (cv dv:Nat) (R:Heap) (m i:Int) (p:Pr) (q:List Int) (v:Nat)  (Q:AV -> Heap -> Prop) (H :
  (0 <= p.a) /\
  (p.a.toNat < D.length) /\
  ((q.length + 1) * 8 <= 1099511627776) /\
  (D.get?Internal p.a.toNat = some (AV.row 5 v)) /\
  (0 <= p.b) /\
  (p.b.toNat < C.length) /\
  (C.get?Internal p.b.toNat = some AV.vnil) /\
  (-9223372036854775808 <= i + 1 /\ i + 1 <= 9223372036854775807) /\
  Zfc (f) (ps) (false) (C.set p.b.toNat (AV.row (List.length R + 1 + 1 + 1 + 1 + 1 + 1) 0)) (D.set p.a.toNat (AV.row 5 (v + 1))) (cv) (dv) ({ elems:=[ag [vi p.a,vi p.b]],es:=2,ver:=0,frozen:=false,clean:=false } :: { elems:=List.map (vi) (q ++ [p.b]),es:=1,ver:=v + 1,frozen:=false,clean:=true } :: List.append R [{ elems:=[vi p.a],es:=((fun x => Try.prog) ()).types[3].size,ver:=0,frozen:=false,clean:=true }]) (m) (i + 1) Q) :
 rrn_at f ps C D cv dv R m i p q v Q:=by
 unfold rrn_at
 obtain ⟨k2,k4,H⟩:=H
 have w5:(List.map (vi) q).length = q.length:=List.length_map ..
 have i6:(decide (((List.map (vi) q).length + 1) * 8 <= 1099511627776)) = true ↔ ((q.length + 1) * 8 <= 1099511627776):=(by (try rw [w5]);all_goals exact Zab)
 obtain ⟨k7,k10,H⟩:=H
 have w11:List.map (vi) q ++ [vi p.b] = List.map (vi) (q ++ [p.b]):=(Zfw rfl rfl)
 obtain ⟨k13,k15,k18,k19,H⟩:=H
 have w20:wi (i + 1) = i + 1:=wI64 k19
 exact Zae (G:=Zaf kp34 [(5,9,(.elem (.row 5 v):Ans)),(5,15,(.elem (.row 5 v):Ans)),(6,9,(.elem .vnil:Ans)),(6,15,(.elem .vnil:Ans))] [(6,[1013]),(5,[4015,4014,7013,902012,6011,6010,4009,4008,6007,6006,5005,6003,6002,5001])]) 1000 [] ⟨(atC (cd Try.f34) [1,1,0,1,0,0]),[(4,AV.ptr 0 0 0 0),(5,AV.ptr 3 0 0 0),(13,AV.vec f 2 (List.map Pr.v ps)),(14,vi m),(15,vi (wi (i + 1)))],⟨[ag [AV.vnil,AV.vnil]],2,0,false,false⟩ :: ⟨C.set p.b.toNat (AV.row (List.length R + 1 + 1 + 1 + 1 + 1 + 1) 0),1,cv,false,false⟩ :: ⟨D.set p.a.toNat (AV.row 5 (v + 1)),1,dv,false,false⟩ :: ⟨[ag [AV.row 1 cv,AV.row 2 dv]],2,0,false,false⟩ :: ⟨[ag [vi p.a,vi p.b]],2,0,false,false⟩ :: ⟨List.map (vi) q ++ [vi p.b],1,v + 1,false,true⟩ :: List.append R [⟨[vi p.a],((fun x => Try.prog) ()).types[3].size,0,false,true⟩],[true,true,true,true,true,true,true,true,dv == dv,decide (0 <= p.a),decide (p.a.toNat < D.length),dv == dv,true,true,true,v == v,decide (((List.map (vi) q).length + 1) * 8 <= 1099511627776),dv == dv,decide (0 <= p.a),decide (p.a.toNat < D.length),dv == dv,true,true,true,true,true,true,true,true,cv == cv,decide (0 <= p.b),decide (p.b.toNat < C.length),cv == cv,true,true,true,true,cv == cv,decide (0 <= p.b),decide (p.b.toNat < C.length),cv == cv],[(D.get?Internal p.a.toNat = some (AV.row 5 v)),(D.get?Internal p.a.toNat = some (AV.row 5 v)),(C.get?Internal p.b.toNat = some AV.vnil),(C.get?Internal p.b.toNat = some AV.vnil)],_⟩ (by kernel_rfl) (bc rfl (bc rfl (bc rfl (bc rfl (bc rfl (bc rfl (bc rfl (bc rfl (bc (beq_self_eq_true _) (bc (Zab.2 k2) (bc (Zab.2 k4) (bc (beq_self_eq_true _) (bc rfl (bc rfl (bc rfl (bc (beq_self_eq_true _) (bc (i6.2 k7) (bc (beq_self_eq_true _) (bc (Zab.2 k2) (bc (Zab.2 k4) (bc (beq_self_eq_true _) (bc rfl (bc rfl (bc rfl (bc rfl (bc rfl (bc rfl (bc rfl (bc rfl (bc (beq_self_eq_true _) (bc (Zab.2 k13) (bc (Zab.2 k15) (bc (beq_self_eq_true _) (bc rfl (bc rfl (bc rfl (bc rfl (bc (beq_self_eq_true _) (bc (Zab.2 k13) (bc (Zab.2 k15) (bc (beq_self_eq_true _) b0))))))))))))))))))))))))))))))))))))))))) (qc k10 (qc k10 (qc k18 (qc k18 q0)))) c0 (by (try rw [w11]);(try rw [w20]);all_goals exact H)
theorem rnr (f:Bool) (ps:List Pr) (C D:List AV) (cv dv:Nat) (R:Heap) (m i:Int) (p:Pr) (r:List Int) (w:Nat)  (Q:AV -> Heap -> Prop) (H :
  (0 <= p.a) /\
  (p.a.toNat < D.length) /\
  (D.get?Internal p.a.toNat = some AV.vnil) /\
  (0 <= p.b) /\
  (p.b.toNat < C.length) /\
  ((r.length + 1) * 8 <= 1099511627776) /\
  (C.get?Internal p.b.toNat = some (AV.row 5 w)) /\
  (-9223372036854775808 <= i + 1 /\ i + 1 <= 9223372036854775807) /\
  Zfc (f) (ps) (false) (C.set p.b.toNat (AV.row 5 (w + 1))) (D.set p.a.toNat (AV.row (List.length R + 1 + 1 + 1 + 1 + 1 + 1) 0)) (cv) (dv) ({ elems:=[ag [vi p.a,vi p.b]],es:=2,ver:=0,frozen:=false,clean:=false } :: { elems:=List.map (vi) (r ++ [p.a]),es:=1,ver:=w + 1,frozen:=false,clean:=true } :: List.append R [{ elems:=[vi p.b],es:=((fun x => Try.prog) ()).types[3].size,ver:=0,frozen:=false,clean:=true }]) (m) (i + 1) Q) :
 rnr_at f ps C D cv dv R m i p r w Q:=by
 unfold rnr_at
 obtain ⟨k2,k4,k7,k9,k11,H⟩:=H
 have w12:(List.map (vi) r).length = r.length:=List.length_map ..
 have i13:(decide (((List.map (vi) r).length + 1) * 8 <= 1099511627776)) = true ↔ ((r.length + 1) * 8 <= 1099511627776):=(by (try rw [w12]);all_goals exact Zab)
 obtain ⟨k14,k17,H⟩:=H
 have w18:List.map (vi) r ++ [vi p.a] = List.map (vi) (r ++ [p.a]):=(Zfw rfl rfl)
 obtain ⟨k19,H⟩:=H
 have w20:wi (i + 1) = i + 1:=wI64 k19
 exact Zae (G:=Zaf kp34 [(5,9,(.elem .vnil:Ans)),(5,15,(.elem .vnil:Ans)),(6,9,(.elem (.row 5 w):Ans)),(6,15,(.elem (.row 5 w):Ans))] [(6,[3015,3014,7013,902012,6011,6010,3009,3008,6007,6006,5005,6003,6002,5001]),(5,[1013])]) 1000 [] ⟨(atC (cd Try.f34) [1,1,0,1,0,0]),[(4,AV.ptr 0 0 0 0),(5,AV.ptr 3 0 0 0),(13,AV.vec f 2 (List.map Pr.v ps)),(14,vi m),(15,vi (wi (i + 1)))],⟨[ag [AV.vnil,AV.vnil]],2,0,false,false⟩ :: ⟨C.set p.b.toNat (AV.row 5 (w + 1)),1,cv,false,false⟩ :: ⟨D.set p.a.toNat (AV.row (List.length R + 1 + 1 + 1 + 1 + 1 + 1) 0),1,dv,false,false⟩ :: ⟨[ag [AV.row 1 cv,AV.row 2 dv]],2,0,false,false⟩ :: ⟨[ag [vi p.a,vi p.b]],2,0,false,false⟩ :: ⟨List.map (vi) r ++ [vi p.a],1,w + 1,false,true⟩ :: List.append R [⟨[vi p.b],((fun x => Try.prog) ()).types[3].size,0,false,true⟩],[true,true,true,true,true,true,true,true,dv == dv,decide (0 <= p.a),decide (p.a.toNat < D.length),dv == dv,true,true,true,true,dv == dv,decide (0 <= p.a),decide (p.a.toNat < D.length),dv == dv,true,true,true,true,true,true,true,true,cv == cv,decide (0 <= p.b),decide (p.b.toNat < C.length),cv == cv,true,true,true,w == w,decide (((List.map (vi) r).length + 1) * 8 <= 1099511627776),cv == cv,decide (0 <= p.b),decide (p.b.toNat < C.length),cv == cv],[(D.get?Internal p.a.toNat = some AV.vnil),(D.get?Internal p.a.toNat = some AV.vnil),(C.get?Internal p.b.toNat = some (AV.row 5 w)),(C.get?Internal p.b.toNat = some (AV.row 5 w))],_⟩ (by kernel_rfl) (bc rfl (bc rfl (bc rfl (bc rfl (bc rfl (bc rfl (bc rfl (bc rfl (bc (beq_self_eq_true _) (bc (Zab.2 k2) (bc (Zab.2 k4) (bc (beq_self_eq_true _) (bc rfl (bc rfl (bc rfl (bc rfl (bc (beq_self_eq_true _) (bc (Zab.2 k2) (bc (Zab.2 k4) (bc (beq_self_eq_true _) (bc rfl (bc rfl (bc rfl (bc rfl (bc rfl (bc rfl (bc rfl (bc rfl (bc (beq_self_eq_true _) (bc (Zab.2 k9) (bc (Zab.2 k11) (bc (beq_self_eq_true _) (bc rfl (bc rfl (bc rfl (bc (beq_self_eq_true _) (bc (i13.2 k14) (bc (beq_self_eq_true _) (bc (Zab.2 k9) (bc (Zab.2 k11) (bc (beq_self_eq_true _) b0))))))))))))))))))))))))))))))))))))))))) (qc k7 (qc k7 (qc k17 (qc k17 q0)))) c0 (by (try rw [w18]);(try rw [w20]);all_goals exact H)
theorem rrr (f:Bool) (ps:List Pr) (C D:List AV) (cv dv:Nat) (R:Heap) (m i:Int) (p:Pr) (q:List Int) (v:Nat) (r:List Int) (w:Nat)  (Q:AV -> Heap -> Prop) (H :
  (0 <= p.a) /\
  (p.a.toNat < D.length) /\
  ((q.length + 1) * 8 <= 1099511627776) /\
  (D.get?Internal p.a.toNat = some (AV.row 5 v)) /\
  (0 <= p.b) /\
  (p.b.toNat < C.length) /\
  ((r.length + 1) * 8 <= 1099511627776) /\
  (C.get?Internal p.b.toNat = some (AV.row 6 w)) /\
  (-9223372036854775808 <= i + 1 /\ i + 1 <= 9223372036854775807) /\
  Zfc (f) (ps) (false) (C.set p.b.toNat (AV.row 6 (w + 1))) (D.set p.a.toNat (AV.row 5 (v + 1))) (cv) (dv) ({ elems:=[ag [vi p.a,vi p.b]],es:=2,ver:=0,frozen:=false,clean:=false } :: { elems:=List.map (vi) (q ++ [p.b]),es:=1,ver:=v + 1,frozen:=false,clean:=true } :: { elems:=List.map (vi) (r ++ [p.a]),es:=1,ver:=w + 1,frozen:=false,clean:=true } :: R) (m) (i + 1) Q) :
 rrr_at f ps C D cv dv R m i p q v r w Q:=by
 unfold rrr_at
 obtain ⟨k2,k4,H⟩:=H
 have w5:(List.map (vi) q).length = q.length:=List.length_map ..
 have i6:(decide (((List.map (vi) q).length + 1) * 8 <= 1099511627776)) = true ↔ ((q.length + 1) * 8 <= 1099511627776):=(by (try rw [w5]);all_goals exact Zab)
 obtain ⟨k7,k10,H⟩:=H
 have w11:List.map (vi) q ++ [vi p.b] = List.map (vi) (q ++ [p.b]):=(Zfw rfl rfl)
 obtain ⟨k13,k15,H⟩:=H
 have w16:(List.map (vi) r).length = r.length:=List.length_map ..
 have i17:(decide (((List.map (vi) r).length + 1) * 8 <= 1099511627776)) = true ↔ ((r.length + 1) * 8 <= 1099511627776):=(by (try rw [w16]);all_goals exact Zab)
 obtain ⟨k18,k21,H⟩:=H
 have w22:List.map (vi) r ++ [vi p.a] = List.map (vi) (r ++ [p.a]):=(Zfw rfl rfl)
 obtain ⟨k23,H⟩:=H
 have w24:wi (i + 1) = i + 1:=wI64 k23
 exact Zae (G:=Zaf kp34 [(5,9,(.elem (.row 5 v):Ans)),(5,15,(.elem (.row 5 v):Ans)),(6,9,(.elem (.row 6 w):Ans)),(6,15,(.elem (.row 6 w):Ans))] [(6,[3015,3014,8013,902012,6011,6010,3009,3008,6007,6006,5005,6003,6002,5001]),(5,[4015,4014,7013,902012,6011,6010,4009,4008,6007,6006,5005,6003,6002,5001])]) 1000 [] ⟨(atC (cd Try.f34) [1,1,0,1,0,0]),[(4,AV.ptr 0 0 0 0),(5,AV.ptr 3 0 0 0),(13,AV.vec f 2 (List.map Pr.v ps)),(14,vi m),(15,vi (wi (i + 1)))],⟨[ag [AV.vnil,AV.vnil]],2,0,false,false⟩ :: ⟨C.set p.b.toNat (AV.row 6 (w + 1)),1,cv,false,false⟩ :: ⟨D.set p.a.toNat (AV.row 5 (v + 1)),1,dv,false,false⟩ :: ⟨[ag [AV.row 1 cv,AV.row 2 dv]],2,0,false,false⟩ :: ⟨[ag [vi p.a,vi p.b]],2,0,false,false⟩ :: ⟨List.map (vi) q ++ [vi p.b],1,v + 1,false,true⟩ :: ⟨List.map (vi) r ++ [vi p.a],1,w + 1,false,true⟩ :: R,[true,true,true,true,true,true,true,true,dv == dv,decide (0 <= p.a),decide (p.a.toNat < D.length),dv == dv,true,true,true,v == v,decide (((List.map (vi) q).length + 1) * 8 <= 1099511627776),dv == dv,decide (0 <= p.a),decide (p.a.toNat < D.length),dv == dv,true,true,true,true,true,true,true,true,cv == cv,decide (0 <= p.b),decide (p.b.toNat < C.length),cv == cv,true,true,true,w == w,decide (((List.map (vi) r).length + 1) * 8 <= 1099511627776),cv == cv,decide (0 <= p.b),decide (p.b.toNat < C.length),cv == cv],[(D.get?Internal p.a.toNat = some (AV.row 5 v)),(D.get?Internal p.a.toNat = some (AV.row 5 v)),(C.get?Internal p.b.toNat = some (AV.row 6 w)),(C.get?Internal p.b.toNat = some (AV.row 6 w))],_⟩ (by kernel_rfl) (bc rfl (bc rfl (bc rfl (bc rfl (bc rfl (bc rfl (bc rfl (bc rfl (bc (beq_self_eq_true _) (bc (Zab.2 k2) (bc (Zab.2 k4) (bc (beq_self_eq_true _) (bc rfl (bc rfl (bc rfl (bc (beq_self_eq_true _) (bc (i6.2 k7) (bc (beq_self_eq_true _) (bc (Zab.2 k2) (bc (Zab.2 k4) (bc (beq_self_eq_true _) (bc rfl (bc rfl (bc rfl (bc rfl (bc rfl (bc rfl (bc rfl (bc rfl (bc (beq_self_eq_true _) (bc (Zab.2 k13) (bc (Zab.2 k15) (bc (beq_self_eq_true _) (bc rfl (bc rfl (bc rfl (bc (beq_self_eq_true _) (bc (i17.2 k18) (bc (beq_self_eq_true _) (bc (Zab.2 k13) (bc (Zab.2 k15) (bc (beq_self_eq_true _) b0)))))))))))))))))))))))))))))))))))))))))) (qc k10 (qc k10 (qc k21 (qc k21 q0)))) c0 (by (try rw [w11]);(try rw [w22]);(try rw [w24]);all_goals exact H)
theorem r00 (f:Bool) (ps:List Pr) (C D:List AV) (cv dv:Nat) (R:Heap) (m i:Int) (p:Pr)  (Q:AV -> Heap -> Prop) (H :
  (0 <= p.a) /\
  (p.a.toNat < D.length) /\
  (D.get?Internal p.a.toNat = some AV.vnil) /\
  (0 <= p.b) /\
  (p.b.toNat < C.length) /\
  (C.get?Internal p.b.toNat = some AV.vnil) /\
  (-9223372036854775808 <= i + 1 /\ i + 1 <= 9223372036854775807) /\
  Zfc (f) (ps) (false) (C.set p.b.toNat (AV.row ((List.append R [{ elems:=[vi p.b],es:=((fun x => Try.prog) ()).types[3].size,ver:=0,frozen:=false,clean:=true }]).length + 1 + 1 + 1 + 1 + 1) 0)) (D.set p.a.toNat (AV.row (List.length R + 1 + 1 + 1 + 1 + 1) 0)) (cv) (dv) ({ elems:=[ag [vi p.a,vi p.b]],es:=2,ver:=0,frozen:=false,clean:=false } :: (List.append R [{ elems:=[vi p.b],es:=((fun x => Try.prog) ()).types[3].size,ver:=0,frozen:=false,clean:=true }]).append [{ elems:=[vi p.a],es:=((fun x => Try.prog) ()).types[3].size,ver:=0,frozen:=false,clean:=true }]) (m) (i + 1) Q) :
 r00_at f ps C D cv dv R m i p Q:=by
 unfold r00_at
 obtain ⟨k2,k4,k7,k9,k11,k14,k15,H⟩:=H
 have w16:wi (i + 1) = i + 1:=wI64 k15
 exact Zae (G:=Zaf kp34 [(5,9,(.elem .vnil:Ans)),(5,15,(.elem .vnil:Ans)),(6,9,(.elem .vnil:Ans)),(6,15,(.elem .vnil:Ans))] [(6,[1013]),(5,[1013])]) 1000 [] ⟨(atC (cd Try.f34) [1,1,0,1,0,0]),[(4,AV.ptr 0 0 0 0),(5,AV.ptr 3 0 0 0),(13,AV.vec f 2 (List.map Pr.v ps)),(14,vi m),(15,vi (wi (i + 1)))],⟨[ag [AV.vnil,AV.vnil]],2,0,false,false⟩ :: ⟨C.set p.b.toNat (AV.row ((List.append R [⟨[vi p.b],((fun x => Try.prog) ()).types[3].size,0,false,true⟩]).length + 1 + 1 + 1 + 1 + 1) 0),1,cv,false,false⟩ :: ⟨D.set p.a.toNat (AV.row (List.length R + 1 + 1 + 1 + 1 + 1) 0),1,dv,false,false⟩ :: ⟨[ag [AV.row 1 cv,AV.row 2 dv]],2,0,false,false⟩ :: ⟨[ag [vi p.a,vi p.b]],2,0,false,false⟩ :: (List.append R [⟨[vi p.b],((fun x => Try.prog) ()).types[3].size,0,false,true⟩]).append [⟨[vi p.a],((fun x => Try.prog) ()).types[3].size,0,false,true⟩],[true,true,true,true,true,true,true,true,dv == dv,decide (0 <= p.a),decide (p.a.toNat < D.length),dv == dv,true,true,true,true,dv == dv,decide (0 <= p.a),decide (p.a.toNat < D.length),dv == dv,true,true,true,true,true,true,true,true,cv == cv,decide (0 <= p.b),decide (p.b.toNat < C.length),cv == cv,true,true,true,true,cv == cv,decide (0 <= p.b),decide (p.b.toNat < C.length),cv == cv],[(D.get?Internal p.a.toNat = some AV.vnil),(D.get?Internal p.a.toNat = some AV.vnil),(C.get?Internal p.b.toNat = some AV.vnil),(C.get?Internal p.b.toNat = some AV.vnil)],_⟩ (by kernel_rfl) (bc rfl (bc rfl (bc rfl (bc rfl (bc rfl (bc rfl (bc rfl (bc rfl (bc (beq_self_eq_true _) (bc (Zab.2 k2) (bc (Zab.2 k4) (bc (beq_self_eq_true _) (bc rfl (bc rfl (bc rfl (bc rfl (bc (beq_self_eq_true _) (bc (Zab.2 k2) (bc (Zab.2 k4) (bc (beq_self_eq_true _) (bc rfl (bc rfl (bc rfl (bc rfl (bc rfl (bc rfl (bc rfl (bc rfl (bc (beq_self_eq_true _) (bc (Zab.2 k9) (bc (Zab.2 k11) (bc (beq_self_eq_true _) (bc rfl (bc rfl (bc rfl (bc rfl (bc (beq_self_eq_true _) (bc (Zab.2 k9) (bc (Zab.2 k11) (bc (beq_self_eq_true _) b0)))))))))))))))))))))))))))))))))))))))) (qc k7 (qc k7 (qc k14 (qc k14 q0)))) c0 (by (try rw [w16]);all_goals exact H)
theorem rB (f:Bool) (ps:List Pr) (xc:Bool) (C D:List AV) (cv dv:Nat) (R:Heap)  (Q:AV -> Heap -> Prop) (H :
  Zfc (f) (ps) (xc) (C) (D) (cv) (dv) (R) ((↑ps.length:Int)) (0) Q) :
 rB_at f ps xc C D cv dv R Q:=by
 unfold rB_at
 have w1:(List.map Pr.v ps).length = ps.length:=List.length_map ..
 exact Zae (G:=Zaf kp34 [] []) 1000 [] ⟨(atC (cd Try.f34) [1,1,0,1,0,0]),[(4,AV.ptr 0 0 0 0),(5,AV.ptr 3 0 0 0),(13,AV.vec f 2 (List.map Pr.v ps)),(14,vi (↑(List.map Pr.v ps).length:Int)),(15,vi 0)],⟨[ag [AV.vnil,AV.vnil]],2,0,false,false⟩ :: ⟨C,1,cv,false,xc⟩ :: ⟨D,1,dv,false,xc⟩ :: ⟨[ag [AV.row 1 cv,AV.row 2 dv]],2,0,false,false⟩ :: R,_,[],_⟩ (by kernel_rfl) b0 q0 c0 (by (try rw [w1]);all_goals exact H)
theorem rH (f:Bool) (ps:List Pr) (xc:Bool) (C D:List AV) (cv dv:Nat) (R:Heap) (m i:Int)  (Q:AV -> Heap -> Prop) (H :
  ((i < m) -> Wp M1 (.run fi34 (atC (cd Try.f34) [1,1,0,1,0,0,1,1,0,0,0]) [(4,AV.ptr 0 0 0 0),(5,AV.ptr 3 0 0 0),(13,AV.vec f 2 (List.map Pr.v ps)),(14,vi m),(15,vi i),(16,vb (decide (i < m)))] ({ elems:=[ag [AV.vnil,AV.vnil]],es:=2,ver:=0,frozen:=false,clean:=false } :: { elems:=C,es:=1,ver:=cv,frozen:=false,clean:=xc } :: { elems:=D,es:=1,ver:=dv,frozen:=false,clean:=xc } :: { elems:=[ag [AV.row 1 cv,AV.row 2 dv]],es:=2,ver:=0,frozen:=false,clean:=false } :: R)) Q) /\
  (¬(i < m) -> Q (ag [AV.row 1 cv,AV.row 2 dv]) ({ elems:=[ag [AV.row 1 cv,AV.row 2 dv]],es:=2,ver:=0,frozen:=false,clean:=false } :: { elems:=C,es:=1,ver:=cv,frozen:=false,clean:=xc } :: { elems:=D,es:=1,ver:=dv,frozen:=false,clean:=xc } :: { elems:=[ag [AV.row 1 cv,AV.row 2 dv]],es:=2,ver:=0,frozen:=false,clean:=false } :: R))) :
 Zfc f ps xc C D cv dv R m i Q:=by
 unfold Zfc
 rcases xq H with ⟨d2,H⟩|⟨d2,H⟩
 ·exact Zae (G:=Zaf kp34 [] []) 8 [true] ⟨(atC (cd Try.f34) [1,1,0,1,0,0,1,1,0,0,0]),[(4,AV.ptr 0 0 0 0),(5,AV.ptr 3 0 0 0),(13,AV.vec f 2 (List.map Pr.v ps)),(14,vi m),(15,vi i),(16,vb (decide (i < m)))],⟨[ag [AV.vnil,AV.vnil]],2,0,false,false⟩ :: ⟨C,1,cv,false,xc⟩ :: ⟨D,1,dv,false,xc⟩ :: ⟨[ag [AV.row 1 cv,AV.row 2 dv]],2,0,false,false⟩ :: R,_,[],_⟩ (by kernel_rfl) (bc (ZaK (Zab.2 d2)) b0) q0 c0 (H)
 ·exact ZaA (G:=Zaf kp34 [] []) 1000 [false] (k:=((atC (cd Try.f34) [1,1,1,1])).tail) (env':=[(4,AV.ptr 0 0 0 0)]) (L':=⟨[ag [AV.row 1 cv,AV.row 2 dv]],2,0,false,false⟩ :: ⟨C,1,cv,false,xc⟩ :: ⟨D,1,dv,false,xc⟩ :: ⟨[ag [AV.row 1 cv,AV.row 2 dv]],2,0,false,false⟩ :: R) (asm:=[(decide (i < m)) == false,true,true]) (eqs:=[]) (calls:=[]) (ag [AV.row 1 cv,AV.row 2 dv]) (by kernel_rfl) (by kernel_rfl) (Zaa (ZaI (fun h => d2 (Zab.1 h))) (Zaa rfl (Zaa rfl Zas))) ZaC ZaD H
end Go.Av

namespace Go.Av
open Go.RowKit
theorem wp_any3 {M:Mach} (hm:(M.P ()).follows .mixedOrders = true) {fi:Fi} {id:Nat} {ops:Array Oper} {ans:Nat -> Option Ans} {keep:List Nat} {env e1:Vars} {L L1:Heap} {k:List Item} {Q:AV -> Heap -> Prop} {c d g:Nat} {a1:List Nat -> List Bool}
  (hcd:Zd6 [c,d,g] = true) (h1:∀ σ ∈ [[c,d,g],[d,c,g],[d,g,c],[c,g,d],[g,c,d],[g,d,c]],ordX M (fun _ _ _ => none) fi.n ops ans keep [c,d,g] env L σ = some (e1,L1,a1 σ,[],[]))
  (hA:∀ σ,∀ b ∈ a1 σ,b = true) (hk:Wp M (.run fi k e1 L1) Q):Wp M (.run fi (.code (.region id ops true) :: k) env L) Q:=by
 refine .sem (ZaH.after fun S a h5 h6 h7 h8 b k2 cs hbb => ?_)
 obtain ⟨a',w',⟨S',e0,n1,n2,n3,n4,n5,n6⟩,hs⟩:=Ze8 hm (id:=id) (fi:=fi) (ops:=ops) (env:=env) (L:=L) (call:=fun _ _ _ => none) (ans:=ans) (keep:=keep) (C:=[c,d,g])
  (hot:=hotX M (fun _ _ _ => none) fi.n ops ans [c,d,g] env L) (l:=fun σ => ordGo ops [c,d,g] ops.size σ (List.range ops.size) []) (rs:=rsX M (fun _ _ _ => none) fi.n ops ans [c,d,g] env L) (e1:=e1) (L1:=L1) ((ZaR [c,d,g]).1 hcd) (fun σ hσ => by
   refine ⟨a1 σ,[],[],h1 σ ?_,hA σ,by simp,by simp⟩
   simp only [perms,ZcH,List.flatMap_cons,List.flatMap_nil,List.map_cons,List.map_nil,List.append_nil,List.mem_append,List.mem_cons,List.not_mem_nil,or_false] at hσ ⊢
   rcases hσ with (h | h | h) | h | h | h <;> subst h <;> simp) h5 h6 h7 h8 b k2 cs hbb
 exact ⟨a',w',⟨S',e1,e0,n1,n2,n3.symm ▸ Zbl hm hk,n4,n5,n6⟩,hs⟩
end Go.Av

namespace Go.Av
open Go.Proofs
noncomputable def rdO1:Array Oper:=match atC (cd Try.f34) [1,0] with
 | .code (.region _ ops _) :: _ => ops
 | _ => #[]
noncomputable def rdX (n:Int) (f:Bool) (ps:List AV) (σ:List Nat):=ordX M1 (fun _ _ _=>none) fi34.n rdO1 (fun _=>none) [4,5,1] [1,3,5] [(0,.int .i64 n),(1,.vec f 2 ps),(4,AV.ptr 0 0 0 0)] [⟨[.agg [.vnil,.vnil]],2,0,false,false⟩] σ
def nrow (n:Nat):Row:=⟨List.replicate n .vnil,1,0,false,true⟩
def rdAsm (n:Int):List Bool:=[decide (0<=n),decide (n<=n),decide (n*24<=1099511627776),decide (n<=1099511627776)]
def rdEnd (f:Bool) (ps:List AV) (n:Nat):Vars × Heap:=([(4,AV.ptr 0 0 0 0),(5,AV.ptr 3 0 0 0),(1,.vec f 2 ps)],[⟨[.agg [.vnil,.vnil]],2,0,false,false⟩,nrow n,nrow n,⟨[.agg [.row 1 0,.row 2 0]],2,0,false,false⟩])
def rdAll (n:Int):List Bool:=rdAsm n++(rdAsm n++[0==0])
theorem rdX_all (n:Int) (f:Bool) (ps:List AV):∀ σ ∈ [[1,3,5],[3,1,5],[3,5,1],[1,5,3],[5,1,3],[5,3,1]],rdX n f ps σ = some ((rdEnd f ps n.toNat).1,(rdEnd f ps n.toNat).2,rdAll n,[],[]):=by
 intro σ h
 simp only [List.mem_cons,List.not_mem_nil,or_false] at h
 rcases h with h | h | h | h | h | h <;> subst h <;> kernel_rfl
theorem rdAll_ok {n:Nat} (h:n <= 1000000):∀ b ∈ rdAll n,b = true:=by
 intro b hb
 unfold rdAll rdAsm at hb
 simp only [List.mem_append,List.mem_cons,List.not_mem_nil,or_false] at hb
 rcases hb with (rfl | rfl | rfl | rfl) | (rfl | rfl | rfl | rfl) | rfl
 all_goals first | rfl | exact decide_eq_true (by omega)
theorem rd1 {n:Nat} {f:Bool} {ps:List Pr} {Q:AV -> Heap -> Prop} (hn:n <= 1000000) (H:rB_at f ps true (List.replicate n .vnil) (List.replicate n .vnil) 0 0 [] Q):Wp M1 (.run fi34 (atC (cd Try.f34) [1,0]) [(0,.int .i64 n),(1,.vec f 2 (ps.map Pr.v)),(4,AV.ptr 0 0 0 0)] [⟨[.agg [.vnil,.vnil]],2,0,false,false⟩]) Q:=by
 refine wp_any3 (id:=1) (ops:=rdO1) (c:=1) (d:=3) (g:=5) (a1:=fun _ => rdAll n) hm1 rfl (rdX_all n f (ps.map Pr.v)) (fun _ => rdAll_ok hn) ?_
 rw [Int.toNat_natCast]
 unfold rB_at at H
 exact H
end Go.Av

namespace Go.Av
open Go.Proofs
theorem store_last {P:Unit -> Program} {el:Option AV} {L:Heap} {z:Row} {T:TypeId} {ver i j:Nat} {v:AV}:Zc0 P el (L ++ [z]) T (.ptr L.length ver i j) v = (Zc0 P el [z] T (.ptr 0 ver i j) v).map fun s => { s with L':=s.L'.map fun l => L ++ l }:=by
 have h1:(L ++ [z])[L.length]? = some z:=by simp
 have h2:∀ y:Row,(L ++ [z]).set L.length y = L ++ [y]:=fun y => by simp
 unfold Zc0
 simp only [h1,h2,List.getElem?_cons_zero,List.set_cons_zero]
 repeat' split
 all_goals rfl
noncomputable def rdO4:Array Oper:=match atC (cd Try.f34) [1,1,0,1,0,0,1,1,0,0,0] with
 | .code (.region _ ops _) :: _ => ops
 | _ => #[]
def rdAns (x:AV) (i:Nat):Option Ans:=bif Nat.beq i 1 then some (.elem x) else none
def rdE (f b:Bool) (ps:List AV) (m i:Int):Vars:=[(4,AV.ptr 0 0 0 0),(5,AV.ptr 3 0 0 0),(13,.vec f 2 ps),(14,.int .i64 m),(15,.int .i64 i),(16,.bool b)]
noncomputable def rdS2 (f b:Bool) (ps:List AV) (x:AV) (m i:Int) (L:Heap):Option RS:=Zaj M1.P M1.inl (fun _ _ _=>none) fi34.n rdO4 (rdAns x) (fun _=>2) [0,1,2] ⟨lift (rdE f b ps m i),L,[],[],[]⟩
abbrev rdP (x y:Int):AV:=.agg [.int .i64 x,.int .i64 y]
noncomputable def rdT (f b:Bool) (ps:List AV) (x y m i:Int) (L:Heap) (z:AV) (q:List Bool):RS:=⟨(7,[],.ptr L.length 0 0 0)::(18,[],rdP x y)::(17,[],.eptr 2 ps i.toNat 0)::lift (rdE f b ps m i),L++[⟨[z],2,0,false,false⟩],[decide (0<=i),decide (i.toNat<ps.length)]++q,[ps[i.toNat]? = some (rdP x y)],[]⟩
theorem rdS2_eq (f b:Bool) (ps:List AV) (x y m i:Int) (L:Heap):rdS2 f b ps (rdP x y) m i L=some (rdT f b ps x y m i L (rdP 0 0) []):=by kernel_rfl
noncomputable def rdO43:Oper:=match rdO4[3]? with
 | some o => o
 | none => ⟨none,.load 47 (.tmp 7),0,"",#[],none⟩
theorem rdO4_3:rdO4[3]? = some rdO43:=by kernel_rfl
theorem rdO4_g:rdO43.guard=none:=by kernel_rfl
theorem rdO4_d:rdO43.dst=none:=by kernel_rfl
theorem rdO4_o:rdO43.op = .store 47 (.tmp 7) (.tmp 18):=by kernel_rfl
theorem rdO4_run (f b:Bool) (ps:List AV) (x y m i:Int) (L:Heap):Zaj M1.P M1.inl (fun _ _ _ => none) fi34.n rdO4 (rdAns (rdP x y)) (fun _ => 2) (List.range rdO4.size) ⟨lift (rdE f b ps m i),L,[],[],[]⟩ = some (rdT f b ps x y m i L (rdP x y) [0 == 0]):=by
 have hr:List.range rdO4.size = [0,1,2] ++ [3]:=by kernel_rfl
 rw [hr,runOps_append]
 have h2:Zaj M1.P M1.inl (fun _ _ _ => none) fi34.n rdO4 (rdAns (rdP x y)) (fun _ => 2) [0,1,2] ⟨lift (rdE f b ps m i),L,[],[],[]⟩ = some (rdT f b ps x y m i L (rdP 0 0) []):=rdS2_eq f b ps x y m i L
 rw [h2,Option.bind_some]
 have ho:=rdO4_3
 have hs:ZaL M1.P M1.inl (fun _ _ _ => none) (rdAns (rdP x y) 3) (fun ex => ev (rdT f b ps x y m i L (rdP 0 0) []).env (ex ++ [])) (rdT f b ps x y m i L (rdP 0 0) []).L rdO43 = some { v:=.tup [],L':=some (L ++ [⟨[rdP x y],2,0,false,false⟩]),asm:=[0 == 0] }:=by
  unfold ZaL
  rw [rdO4_o]
  show Zc0 M1.P none (L ++ [⟨[rdP 0 0],2,0,false,false⟩]) 47 (.ptr L.length 0 0 0) (rdP x y) = _
  rw [store_last]
  kernel_rfl
 have h3:Za8 M1.P M1.inl (fun _ _ _ => none) fi34.n rdO4 (rdAns (rdP x y) 3) 2 rdO43 (rdT f b ps x y m i L (rdP 0 0) []) = some (rdT f b ps x y m i L (rdP x y) [0 == 0]):=
  ZbT.2 ⟨_,_,(Zct rdO4_g).2 ⟨_,hs,rfl,rfl⟩,by rw [rdO4_d];rfl,rfl⟩
 simp only [Zaj,ho,h3]
end Go.Av

namespace Go.Av
open Go.Proofs
noncomputable def rdO0:Array Oper:=match cd Try.f34 with
 | .seq (.region _ ops _) _ => ops
 | _ => #[]
noncomputable def rdB0:Code:=match cd Try.f34 with
 | .seq _ b => b
 | _ => .skip
noncomputable def rdB1:Code:=match rdB0 with
 | .seq _ b => b
 | _ => .skip
theorem rdC0:cd Try.f34 = .seq (.region 0 rdO0 false) rdB0:=by kernel_rfl
theorem rdC1:rdB0 = .seq (.region 1 rdO1 true) rdB1:=by kernel_rfl
theorem rdC1':atC (cd Try.f34) [1,0]=[.code (.region 1 rdO1 true),.code rdB1]:=by kernel_rfl
noncomputable def rdK4:List Item:=(atC (cd Try.f34) [1,1,0,1,0,0,1,1,0,0,0]).tail
noncomputable def rdA4:Code:=match rdK4 with
 | .code (.seq a _) :: _ => a
 | _ => .skip
noncomputable def rdB4:Code:=match rdK4 with
 | .code (.seq _ b) :: _ => b
 | _ => .skip
theorem rdC4:atC (cd Try.f34) [1,1,0,1,0,0,1,1,0,0,0] = .code (.region 4 rdO4 false)::rdK4:=by kernel_rfl
theorem rdC4a:rdK4 = .code (.seq rdA4 rdB4)::rdK4.tail:=by kernel_rfl
theorem rdC4b:atC (cd Try.f34) [1,1,0,1,0,0,1,1,0,0,1,0] = .code rdA4 :: .code rdB4::rdK4.tail:=by kernel_rfl
noncomputable def rdT0 (n:Int) (f:Bool) (ps:List AV):RS:=⟨[(4,[],.ptr 0 0 0 0),(0,[],.int .i64 n),(1,[],.vec f 2 ps)],[⟨[.agg [.vnil,.vnil]],2,0,false,false⟩],[],[],[]⟩
theorem rdT0_eq (n:Int) (f:Bool) (ps:List AV):Zaj M1.P M1.inl (fun _ _ _=>none) fi34.n rdO0 (fun _=>none) (fun _=>2) (List.range rdO0.size) ⟨lift [(0,.int .i64 n),(1,.vec f 2 ps)],[],[],[],[]⟩=some (rdT0 n f ps):=by kernel_rfl
theorem rd0 {n:Int} {f:Bool} {ps:List AV} {Q:AV -> Heap -> Prop} (H:Wp M1 (.run fi34 (atC (cd Try.f34) [1,0]) [(0,.int .i64 n),(1,.vec f 2 ps),(4,AV.ptr 0 0 0 0)] [⟨[.agg [.vnil,.vnil]],2,0,false,false⟩]) Q):Wp M1 (.run fi34 [.code (cd Try.f34)] [(0,.int .i64 n),(1,.vec f 2 ps)] []) Q:=by
 rw [rdC0]
 refine .seq (.region (fun _ _ _ => none) (fun _ => none) (fun _ => 2) [0,1,4] (rdT0 n f ps) (by intro h;cases h) (rdT0_eq n f ps) ?_ ?_ ?_ ?_ ?_)
 ·intro b hb;cases hb
 ·intro b hb;cases hb
 ·intro b hb;cases hb
 ·intro b hb;cases hb
 ·rw [rdC1]
  rw [rdC1'] at H
  exact .seq H
theorem rdF4 (f b:Bool) (ps:List AV) (x y m i:Int) (L:Heap):Zbi [4,5,13,14,15,7] (rdT f b ps x y m i L (rdP x y) [0==0]).env=[(4,AV.ptr 0 0 0 0),(5,AV.ptr 3 0 0 0),(13,.vec f 2 ps),(14,.int .i64 m),(15,.int .i64 i),(7,.ptr L.length 0 0 0)]:=by kernel_rfl
theorem rd4 {f b:Bool} {ps:List AV} {x y m i:Int} {L:Heap} {Q:AV -> Heap -> Prop} (hi:0 <= i) (hl:i.toNat < ps.length) (hx:ps[i.toNat]? = some (rdP x y))
  (H:Wp M1 (.run fi34 (atC (cd Try.f34) [1,1,0,1,0,0,1,1,0,0,1,0]) [(4,AV.ptr 0 0 0 0),(5,AV.ptr 3 0 0 0),(13,.vec f 2 ps),(14,.int .i64 m),(15,.int .i64 i),(7,.ptr L.length 0 0 0)] (L ++ [⟨[rdP x y],2,0,false,false⟩])) Q) :
  Wp M1 (.run fi34 (atC (cd Try.f34) [1,1,0,1,0,0,1,1,0,0,0]) (rdE f b ps m i) L) Q:=by
 rw [rdC4]
 refine .region (fun _ _ _ => none) (rdAns (rdP x y)) (fun _ => 2) [4,5,13,14,15,7] _ (by intro h;cases h) (rdO4_run f b ps x y m i L) ?_ ?_ ?_ ?_ ?_
 ·intro c hc
  have hc:c ∈ [decide (0 <= i),decide (i.toNat < ps.length)] ++ [0 == 0]:=hc
  simp only [List.mem_append,List.mem_cons,List.not_mem_nil,or_false] at hc
  rcases hc with (rfl | rfl) | rfl
  ·exact decide_eq_true hi
  ·exact decide_eq_true hl
  ·rfl
 ·intro p hp
  have hp:p ∈ [ps[i.toNat]? = some (rdP x y)]:=hp
  rw [List.mem_singleton] at hp
  rw [hp];exact hx
 ·intro c hc;cases hc
 ·intro c hc;cases hc
 ·rw [rdF4,rdC4a]
  rw [rdC4b] at H
  exact .seq H
namespace Sp
def bfl (ps:List Pr) (b:Int):List Int:=(ps.filter fun p=>p.b==b).map Pr.a
def bhl (ps:List Pr) (a:Int):List Int:=(ps.filter fun p=>p.a==a).map Pr.b
end Sp
abbrev nR (l:List Int) (v:Nat):Row:=⟨l.map (.int .i64),1,v,false,true⟩
def Cel (l:List Int) (m:Option Row):Prop:=(l=[]/\m=none)\/(l ≠ [] /\ ∃ v,m=some (nR l v))
abbrev CC {α:Type} (x y:α):Nat->α:=fun u=>if u=1 then x else y
abbrev rF0:Row:=⟨[.agg [.vnil,.vnil]],2,0,false,false⟩
abbrev rBX (cv dv:Nat):Row:=⟨[.agg [.row 1 cv,.row 2 dv]],2,0,false,false⟩
abbrev rPB (p:Pr):Row:=⟨[.agg [.int .i64 p.a,.int .i64 p.b]],2,0,false,false⟩
def Cels (n:Nat) (g:Int->List Int) (M:List (Option Row)):Prop:=M.length=n /\ ∀ j,j<n -> ∃ x,M[j]? = some x/\Cel (g j) x
abbrev rL (C D:List AV) (cv dv:Nat) (R:Heap):Heap:=rF0::⟨C,1,cv,false,false⟩::⟨D,1,dv,false,false⟩::rBX cv dv::R
def RI (U n:Nat) (C D:List AV) (cv dv:Nat) (R:Heap) (M N:List (Option Row)) (ρ:Nat->Nat->Nat):Prop:=Mx U [1,2] (rL C D cv dv R) (CC C D) (CC cv dv) (CC M N) ρ
theorem cels_set {n:Nat} {g g':Int -> List Int} {M:List (Option Row)} {a:Int} {l:List Int} {v:Nat} (h:Cels n g M) (ha:0 <= a /\ a < n) (hl:l ≠ []) (hg:g' a = l) (hne:∀ j:Nat,(j:Int) ≠ a -> g' j = g j):Cels n g' (M.set a.toNat (some (nR l v))):=by
 refine ⟨by rw [List.length_set];exact h.1,fun j hj => ?_⟩
 rw [List.getElem?_set]
 by_cases e:a.toNat = j
 ·rw [if_pos e,if_pos (by rw [h.1];omega)]
  refine ⟨_,rfl,.inr ⟨?_,v,?_⟩⟩
  ·rw [show (j:Int) = a by omega,hg];exact hl
  ·rw [show (j:Int) = a by omega,hg]
 ·rw [if_neg e,hne j (by omega)]
  exact h.2 j hj
theorem bfl_snoc (qs:List Pr) (p:Pr) (b:Int):Sp.bfl (qs ++ [p]) b = if p.b = b then Sp.bfl qs b ++ [p.a] else Sp.bfl qs b:=by
 unfold Sp.bfl
 rw [List.filter_append,List.map_append]
 by_cases e:p.b = b
 ·rw [if_pos e,List.filter_cons_of_pos (by simpa using e)];rfl
 ·rw [if_neg e,List.filter_cons_of_neg (by simpa using e)];simp
theorem bhl_snoc (qs:List Pr) (p:Pr) (a:Int):Sp.bhl (qs ++ [p]) a = if p.a = a then Sp.bhl qs a ++ [p.b] else Sp.bhl qs a:=by
 unfold Sp.bhl
 rw [List.filter_append,List.map_append]
 by_cases e:p.a = a
 ·rw [if_pos e,List.filter_cons_of_pos (by simpa using e)];rfl
 ·rw [if_neg e,List.filter_cons_of_neg (by simpa using e)];simp
theorem cels_bf {n:Nat} {qs:List Pr} {p:Pr} {M:List (Option Row)} {v:Nat} (h:Cels n (Sp.bfl qs) M) (hp:0 <= p.b /\ p.b < n):Cels n (Sp.bfl (qs ++ [p])) (M.set p.b.toNat (some (nR (Sp.bfl qs p.b ++ [p.a]) v))):=
 cels_set h hp (by simp) (by rw [bfl_snoc,if_pos rfl]) fun j hj => by rw [bfl_snoc,if_neg fun e => hj e.symm]
theorem cels_bh {n:Nat} {qs:List Pr} {p:Pr} {M:List (Option Row)} {v:Nat} (h:Cels n (Sp.bhl qs) M) (hp:0 <= p.a /\ p.a < n):Cels n (Sp.bhl (qs ++ [p])) (M.set p.a.toNat (some (nR (Sp.bhl qs p.a ++ [p.b]) v))):=
 cels_set h hp (by simp) (by rw [bhl_snoc,if_pos rfl]) fun j hj => by rw [bhl_snoc,if_neg fun e => hj e.symm]
section
variable {U n:Nat} {C D:List AV} {cv dv:Nat} {R:Heap} {M N:List (Option Row)} {ρ:Nat->Nat->Nat} {z:Row}
theorem RI.cellD (h:RI 5 n C D cv dv (z :: R) M N ρ) {a:Nat} (ha:a < N.length) {rb:Row} (hc:rb.clean = true) (hv:rb.ver = 0):∃ ρ',RI 5 n C (D.set a (.row (R.length + 5) 0)) cv dv (z :: (R ++ [rb])) M (N.set a (some rb)) ρ':=by
 have:=Mx.cell h (u:=2) (a:=a) (by simp) ha hc
 rw [hv] at this
 exact ⟨fun w j => if w = 2 /\ j = a then R.length + 5 else ρ w j,Mx.congr this fun u hu => by
  simp only [List.mem_cons,List.not_mem_nil,or_false] at hu
  rcases hu with rfl | rfl
  ·exact ⟨rfl,rfl,rfl,fun j => rfl⟩
  ·exact ⟨rfl,rfl,rfl,fun j => rfl⟩⟩
theorem RI.cellC (h:RI 5 n C D cv dv (z :: R) M N ρ) {a:Nat} (ha:a < M.length) {rb:Row} (hc:rb.clean = true) (hv:rb.ver = 0):∃ ρ',RI 5 n (C.set a (.row (R.length + 5) 0)) D cv dv (z :: (R ++ [rb])) (M.set a (some rb)) N ρ':=by
 have:=Mx.cell h (u:=1) (a:=a) (by simp) ha hc
 rw [hv] at this
 exact ⟨fun w j => if w = 1 /\ j = a then R.length + 5 else ρ w j,Mx.congr this fun u hu => by
  simp only [List.mem_cons,List.not_mem_nil,or_false] at hu
  rcases hu with rfl | rfl
  ·exact ⟨rfl,rfl,rfl,fun j => rfl⟩
  ·exact ⟨rfl,rfl,rfl,fun j => rfl⟩⟩
theorem RI.appD {x ra rb:Row} {p:Nat} (h:RI 5 n C D cv dv R M N ρ) {a:Nat} (ha:N[a]? = some (some ra)) (hp:ρ 2 a = p) (hc:rb.clean = true) {R':Heap} (hR:((rL C D cv dv R).set p rb).set 2 ⟨D.set a (.row p rb.ver),1,dv,false,false⟩ = rL C (D.set a (.row p rb.ver)) cv dv R'):RI 5 n C (D.set a (.row p rb.ver)) cv dv R' M (N.set a (some rb)) ρ:=by
 have:=Mx.app h (u:=2) (a:=a) (by simp) ha hc
 rw [hp] at this
 unfold RI
 rw [<- hR]
 exact Mx.congr this fun u hu => by
  simp only [List.mem_cons,List.not_mem_nil,or_false] at hu
  rcases hu with rfl | rfl
  ·exact ⟨rfl,rfl,rfl,fun j => rfl⟩
  ·exact ⟨rfl,rfl,rfl,fun j => rfl⟩
theorem RI.appC {ra rb:Row} {p:Nat} (h:RI 5 n C D cv dv R M N ρ) {a:Nat} (ha:M[a]? = some (some ra)) (hp:ρ 1 a = p) (hc:rb.clean = true) {R':Heap} (hR:((rL C D cv dv R).set p rb).set 1 ⟨C.set a (.row p rb.ver),1,cv,false,false⟩ = rL (C.set a (.row p rb.ver)) D cv dv R'):RI 5 n (C.set a (.row p rb.ver)) D cv dv R' (M.set a (some rb)) N ρ:=by
 have:=Mx.app h (u:=1) (a:=a) (by simp) ha hc
 rw [hp] at this
 unfold RI
 rw [<- hR]
 exact Mx.congr this fun u hu => by
  simp only [List.mem_cons,List.not_mem_nil,or_false] at hu
  rcases hu with rfl | rfl
  ·exact ⟨rfl,rfl,rfl,fun j => rfl⟩
  ·exact ⟨rfl,rfl,rfl,fun j => rfl⟩
theorem rL_fix {C D:List AV} {cv dv:Nat} {R:Heap} (r:Nat) (row:Row) (hr:r < 4) (hno:r ∉ [1,2]) (h:(rL C D cv dv R)[r]? = some row):∀ s ∈ Zag row,s < 4:=by
 have:r = 0 \/ r = 3:=by
  simp only [List.mem_cons,List.not_mem_nil,or_false] at hno
  omega
 rcases this with rfl | rfl
 ·have e:row = rF0:=(Option.some.inj h).symm
  subst e
  intro s hs;simp [Zag,rowsL,rowsA] at hs
 ·have e:row = rBX cv dv:=(Option.some.inj h).symm
  subst e
  intro s hs;simp [Zag,rowsL,rowsA] at hs;omega
theorem RI.dn {p:Pr} (h:RI 5 n C D cv dv (rPB p :: R) M N ρ):RI 4 n C D cv dv (rPB p :: R) M N ρ:=by
 refine Mx.down h (by intro u hu;simp only [List.mem_cons,List.not_mem_nil,or_false] at hu;omega) (z:=rPB p) rfl (by simp [Zag,rowsL,rowsA]) fun r row hr hno hrow => rL_fix r row hr hno hrow
end
end Go.Av

namespace Go.Av
open Go.Proofs
theorem Mx.fixd {U:Nat} {os:List Nat} {L:Heap} {C:Nat -> List AV} {cv:Nat -> Nat} {M:Nat -> List (Option Row)} {ρ:Nat -> Nat -> Nat} (h:Mx U os L C cv M ρ) {r:Nat} {z:Row} (hr:r < U) (hno:r ∉ os) (hz:∀ s ∈ Zag z,s < U):Mx U os (L.set r z) C cv M ρ:=by
 have hne:∀ q,q ≠ r -> (L.set r z)[q]? = L[q]?:=fun q hq => by rw [List.getElem?_set,if_neg fun e => hq e.symm]
 refine ⟨by rw [List.length_set];exact h.len,h.osU,fun u hu => ?_,fun q row hq hqo hrow => ?_,fun q row hq hrow => ?_,fun u hu j row hm => ?_,h.nil,h.inj,h.hcl⟩
 ·rw [hne u fun e => hno (e ▸ hu)];exact h.out u hu
 ·by_cases e:q = r
  ·subst e
   rw [List.getElem?_set,if_pos rfl,if_pos (by have:=h.len;omega)] at hrow
   rw [<- Option.some.inj hrow];exact hz
  ·rw [hne q e] at hrow;exact h.fix q row hq hqo hrow
 ·rw [hne q (by omega)] at hrow;exact h.cln q row hq hrow
 ·obtain ⟨e1,e2,e3⟩:=h.hit u hu j row hm
  rw [hne _ (by omega)];exact ⟨e1,e2,e3⟩
theorem ZeM {α:Type}:∀ {k:Nat} {L P:List α},P.length = k -> (∀ r,r < k -> L[r]? = P[r]?) -> ∃ R,L = P ++ R
 | 0,L,P,hP,_ => ⟨L,by rw [List.length_eq_zero_iff.1 hP];rfl⟩
 | k + 1,L,P,hP,h => by
  match P,hP with
  | x :: P,hP =>
   have h0:=h 0 (by omega)
   match L,h0 with
   | y :: L,h0 =>
    obtain ⟨R,hR⟩:=ZeM (k:=k) (L:=L) (P:=P) (by simpa using hP) fun r hr => by simpa using h (r + 1) (by omega)
    have:y = x:=by simpa using h0
    exact ⟨R,by rw [hR,this];rfl⟩
section
variable {n:Nat} {C D:List AV} {cv dv:Nat} {R:Heap} {M N:List (Option Row)} {ρ:Nat->Nat->Nat} {z:Row} {fi:Fi} {k:List Item} {env:Vars} {d:AV}
theorem RI.focD (h:RI 5 n C D cv dv (z :: R) M N ρ) (henv:(rowsL (env.map (·.2))).all (fun r => Nat.blt r 5) = true) {a:Nat} {ra:Row} (ha:N[a]? = some (some ra))
  (H:∀ C' D' R' ρ',RI 5 n C' D' cv dv (z :: ra :: R') M N ρ' -> ρ' 2 a = 5 -> Wp M1 (.run fi k env (rL C' D' cv dv (z :: ra :: R'))) (ZaW d)):Wp M1 (.run fi k env (rL C D cv dv (z :: R))) (ZaW d):=by
 obtain ⟨e1,e2,e3⟩:=Mx.hit h 2 (by simp) a ra ha
 have hl:=(List.getElem?_eq_some_iff.1 e2).1
 refine Zdd h henv (u:=2) (a:=a) (p:=5) (by simp) ha (Nat.le_refl 5) (by omega) fun L' C' ρ' hM hlen hp hρ _ hfix => ?_
 have h1:=(hM.out 1 (by simp)).1
 have h2:=(hM.out 2 (by simp)).1
 have h0:=hfix 0 (by omega) (by simp)
 have h3:=hfix 3 (by omega) (by simp)
 have h4:=hfix 4 (by omega) (by simp)
 obtain ⟨R',rfl⟩:=ZeM (k:=6) (L:=L') (P:=rL (C' 1) (C' 2) cv dv [z,ra]) rfl fun r hr => by
  have:r = 0 \/ r = 1 \/ r = 2 \/ r = 3 \/ r = 4 \/ r = 5:=by omega
  rcases this with rfl | rfl | rfl | rfl | rfl | rfl
  ·exact h0
  ·exact h1
  ·exact h2
  ·exact h3
  ·exact h4
  ·exact hp
 exact H _ _ R' ρ' (hM.congr fun u hu => by
  simp only [List.mem_cons,List.not_mem_nil,or_false] at hu
  rcases hu with rfl | rfl
  ·exact ⟨rfl,rfl,rfl,fun j => rfl⟩
  ·exact ⟨rfl,rfl,rfl,fun j => rfl⟩) hρ
theorem RI.focC (h:RI 5 n C D cv dv (z :: R) M N ρ) (henv:(rowsL (env.map (·.2))).all (fun r => Nat.blt r 5) = true) {b:Nat} {rb:Row} (hb:M[b]? = some (some rb))
  (H:∀ C' D' R' ρ',RI 5 n C' D' cv dv (z :: rb :: R') M N ρ' -> ρ' 1 b = 5 -> Wp M1 (.run fi k env (rL C' D' cv dv (z :: rb :: R'))) (ZaW d)):Wp M1 (.run fi k env (rL C D cv dv (z :: R))) (ZaW d):=by
 obtain ⟨e1,e2,e3⟩:=Mx.hit h 1 (by simp) b rb hb
 have hl:=(List.getElem?_eq_some_iff.1 e2).1
 refine Zdd h henv (u:=1) (a:=b) (p:=5) (by simp) hb (Nat.le_refl 5) (by omega) fun L' C' ρ' hM hlen hp hρ _ hfix => ?_
 have h1:=(hM.out 1 (by simp)).1
 have h2:=(hM.out 2 (by simp)).1
 have h0:=hfix 0 (by omega) (by simp)
 have h3:=hfix 3 (by omega) (by simp)
 have h4:=hfix 4 (by omega) (by simp)
 obtain ⟨R',rfl⟩:=ZeM (k:=6) (L:=L') (P:=rL (C' 1) (C' 2) cv dv [z,rb]) rfl fun r hr => by
  have:r = 0 \/ r = 1 \/ r = 2 \/ r = 3 \/ r = 4 \/ r = 5:=by omega
  rcases this with rfl | rfl | rfl | rfl | rfl | rfl
  ·exact h0
  ·exact h1
  ·exact h2
  ·exact h3
  ·exact h4
  ·exact hp
 exact H _ _ R' ρ' (hM.congr fun u hu => by
  simp only [List.mem_cons,List.not_mem_nil,or_false] at hu
  rcases hu with rfl | rfl
  ·exact ⟨rfl,rfl,rfl,fun j => rfl⟩
  ·exact ⟨rfl,rfl,rfl,fun j => rfl⟩) hρ
theorem RI.focDC (h:RI 5 n C D cv dv (z :: R) M N ρ) (henv:(rowsL (env.map (·.2))).all (fun r => Nat.blt r 5) = true) {a b:Nat} {ra rb:Row} (ha:N[a]? = some (some ra)) (hb:M[b]? = some (some rb))
  (H:∀ C' D' R' ρ',RI 5 n C' D' cv dv (z :: ra :: rb :: R') M N ρ' -> ρ' 2 a = 5 -> ρ' 1 b = 6 -> Wp M1 (.run fi k env (rL C' D' cv dv (z :: ra :: rb :: R'))) (ZaW d)):Wp M1 (.run fi k env (rL C D cv dv (z :: R))) (ZaW d):=by
 refine h.focD henv ha fun C1 D1 R1 ρ1 h1 h1a => ?_
 obtain ⟨e1,e2,e3⟩:=Mx.hit h1 1 (by simp) b rb hb
 have hl:=(List.getElem?_eq_some_iff.1 e2).1
 have hne:ρ1 1 b ≠ 5:=fun e => by
  have:=(Mx.inj h1 1 (by simp) 2 (by simp) b a rb ra hb ha (by rw [h1a,e])).1
  omega
 refine Zdd h1 henv (u:=1) (a:=b) (p:=6) (by simp) hb (by omega) (by omega) fun L' C' ρ' hM hlen hp hρ ho hfix => ?_
 have hra:ρ' 2 a = 5:=by
  have:=ho 2 (by simp) a ra ha (by rw [h1a];omega) (by rw [h1a];exact fun e => hne e.symm)
  rw [this];exact h1a
 have hr5:=(hM.hit 2 (by simp) a ra ha).2.1
 rw [hra] at hr5
 have h1':=(hM.out 1 (by simp)).1
 have h2:=(hM.out 2 (by simp)).1
 have h0:=hfix 0 (by omega) (by simp)
 have h3:=hfix 3 (by omega) (by simp)
 have h4:=hfix 4 (by omega) (by simp)
 obtain ⟨R',rfl⟩:=ZeM (k:=7) (L:=L') (P:=rL (C' 1) (C' 2) cv dv [z,ra,rb]) rfl fun r hr => by
  have:r = 0 \/ r = 1 \/ r = 2 \/ r = 3 \/ r = 4 \/ r = 5 \/ r = 6:=by omega
  rcases this with rfl | rfl | rfl | rfl | rfl | rfl | rfl
  ·exact h0
  ·exact h1'
  ·exact h2
  ·exact h3
  ·exact h4
  ·exact hr5
  ·exact hp
 exact H _ _ R' ρ' (hM.congr fun u hu => by
  simp only [List.mem_cons,List.not_mem_nil,or_false] at hu
  rcases hu with rfl | rfl
  ·exact ⟨rfl,rfl,rfl,fun j => rfl⟩
  ·exact ⟨rfl,rfl,rfl,fun j => rfl⟩) hra hρ
theorem RI.lenC {U:Nat} (h:RI U n C D cv dv R M N ρ):C.length=M.length:=(Mx.out h 1 (by simp)).2
theorem RI.lenD {U:Nat} (h:RI U n C D cv dv R M N ρ):D.length=N.length:=(Mx.out h 2 (by simp)).2
theorem RI.nilC {U:Nat} (h:RI U n C D cv dv R M N ρ) {b:Nat} (hb:M[b]? = some none):C[b]? = some AV.vnil:=Mx.nil h 1 (by simp) b hb
theorem RI.nilD {U:Nat} (h:RI U n C D cv dv R M N ρ) {a:Nat} (ha:N[a]? = some none):D[a]? = some AV.vnil:=Mx.nil h 2 (by simp) a ha
theorem RI.hitC {U:Nat} (h:RI U n C D cv dv R M N ρ) {b:Nat} {rb:Row} (hb:M[b]? = some (some rb)):C[b]? = some (.row (ρ 1 b) rb.ver):=(Mx.hit h 1 (by simp) b rb hb).1
theorem RI.hitD {U:Nat} (h:RI U n C D cv dv R M N ρ) {a:Nat} {ra:Row} (ha:N[a]? = some (some ra)):D[a]? = some (.row (ρ 2 a) ra.ver):=(Mx.hit h 2 (by simp) a ra ha).1
end
def RJ (n:Nat) (qs:List Pr) (C D:List AV) (cv dv:Nat) (R:Heap):Prop:=∃ M N ρ,RI 4 n C D cv dv R M N ρ/\Cels n (Sp.bfl qs) M/\Cels n (Sp.bhl qs) N
section
variable {n:Nat} {C D:List AV} {cv dv:Nat} {R:Heap} {M N:List (Option Row)} {ρ:Nat->Nat->Nat} {p:Pr} {qs ps:List Pr} {m i:Int} {d:AV} {f:Bool}
theorem RI.nn (h:RI 5 n C D cv dv (rPB p :: R) M N ρ) (hM:Cels n (Sp.bfl qs) M) (hN:Cels n (Sp.bhl qs) N) (ha:N[p.a.toNat]? = some none) (hb:M[p.b.toNat]? = some none) (hp:(0 <= p.a /\ p.a < n) /\ 0 <= p.b /\ p.b < n) (ea:Sp.bhl qs p.a = []) (eb:Sp.bfl qs p.b = []) :
  RJ n (qs ++ [p]) (C.set p.b.toNat (.row ((R ++ [nR [p.b] 0]).length + 5) 0)) (D.set p.a.toNat (.row (R.length + 5) 0)) cv dv (rPB p :: ((R ++ [nR [p.b] 0]) ++ [nR [p.a] 0])):=by
 obtain ⟨ρ1,h1⟩:=h.cellD (a:=p.a.toNat) (rb:=nR [p.b] 0) (by rw [hN.1];omega) rfl rfl
 obtain ⟨ρ2,h2⟩:=h1.cellC (a:=p.b.toNat) (rb:=nR [p.a] 0) (by rw [hM.1];omega) rfl rfl
 have cM:=cels_bf (v:=0) hM hp.2
 have cN:=cels_bh (v:=0) hN hp.1
 rw [eb,List.nil_append] at cM
 rw [ea,List.nil_append] at cN
 exact ⟨_,_,_,h2.dn,cM,cN⟩
theorem es3:((fun _=>Try.prog) ():Program).types[3].size=1:=by kernel_rfl
theorem bfl_len (qs:List Pr) (b:Int):(Sp.bfl qs b).length<=qs.length:=by unfold Sp.bfl;rw [List.length_map];exact List.length_filter_le ..
theorem bhl_len (qs:List Pr) (b:Int):(Sp.bhl qs b).length<=qs.length:=by unfold Sp.bhl;rw [List.length_map];exact List.length_filter_le ..
theorem rd_body (h:RI 5 n C D cv dv (rPB p :: R) M N ρ) (hM:Cels n (Sp.bfl qs) M) (hN:Cels n (Sp.bhl qs) N) (hp:(0 <= p.a /\ p.a < n) /\ 0 <= p.b /\ p.b < n) (hq:qs.length <= 1000000) (hi:0 <= i /\ i <= 1000000)
  (H:∀ C D R,RJ n (qs ++ [p]) C D cv dv R -> Zfc f ps false C D cv dv R m (i + 1) (ZaW d)):Zfp f ps C D cv dv R m i p (ZaW d):=by
 have l1:=bfl_len qs p.b
 have l2:=bhl_len qs p.a
 obtain ⟨x,hx,cx⟩:=hN.2 p.a.toNat (by omega)
 obtain ⟨y,hy,cy⟩:=hM.2 p.b.toNat (by omega)
 rw [show ((p.a.toNat:Nat):Int) = p.a by omega] at cx
 rw [show ((p.b.toNat:Nat):Int) = p.b by omega] at cy
 rcases cx with ⟨ea,rfl⟩ | ⟨_,v,rfl⟩ <;> rcases cy with ⟨eb,rfl⟩ | ⟨_,w,rfl⟩
 ·have hn:=H _ _ _ (h.nn hM hN hx hy hp ea eb)
  refine rnn _ _ _ _ _ _ _ _ _ _ _ ⟨hp.1.1,by rw [h.lenD,hN.1];omega,h.nilD hx,hp.2.1,by rw [h.lenC,hM.1];omega,h.nilC hy,by omega,?_⟩
  rw [es3];exact hn
 ·unfold Zfp
  refine h.focC rfl hy fun C' D' R' ρ' h' h1 => ?_
  have hC:=h'.hitC hy
  rw [h1] at hC
  have h2:=h'.appC (rb:=nR (Sp.bfl qs p.b ++ [p.a]) (w + 1)) hy h1 rfl (R':=rPB p :: nR (Sp.bfl qs p.b ++ [p.a]) (w + 1) :: R') rfl
  obtain ⟨ρ3,h3⟩:=h2.cellD (a:=p.a.toNat) (rb:=nR [p.b] 0) (by rw [hN.1];omega) rfl rfl
  have cN:=cels_bh (v:=0) hN hp.1
  rw [ea,List.nil_append] at cN
  have hn:=H _ _ _ ⟨_,_,_,h3.dn,cels_bf hM hp.2,cN⟩
  refine rnr f ps C' D' cv dv R' m i p (Sp.bfl qs p.b) w (ZaW d) ⟨hp.1.1,by rw [h'.lenD,hN.1];omega,h'.nilD hx,hp.2.1,by rw [h'.lenC,hM.1];omega,by omega,hC,by omega,?_⟩
  rw [es3];exact hn
 ·unfold Zfp
  refine h.focD rfl hx fun C' D' R' ρ' h' h1 => ?_
  have hD:=h'.hitD hx
  rw [h1] at hD
  have h2:=h'.appD (x:=rF0) (rb:=nR (Sp.bhl qs p.a ++ [p.b]) (v + 1)) hx h1 rfl (R':=rPB p :: nR (Sp.bhl qs p.a ++ [p.b]) (v + 1) :: R') rfl
  obtain ⟨ρ3,h3⟩:=h2.cellC (a:=p.b.toNat) (rb:=nR [p.a] 0) (by rw [hM.1];omega) rfl rfl
  have cM:=cels_bf (v:=0) hM hp.2
  rw [eb,List.nil_append] at cM
  have hn:=H _ _ _ ⟨_,_,_,h3.dn,cM,cels_bh hN hp.1⟩
  refine rrn f ps C' D' cv dv R' m i p (Sp.bhl qs p.a) v (ZaW d) ⟨hp.1.1,by rw [h'.lenD,hN.1];omega,by omega,hD,hp.2.1,by rw [h'.lenC,hM.1];omega,h'.nilC hy,by omega,?_⟩
  rw [es3];exact hn
 ·unfold Zfp
  refine h.focDC rfl hx hy fun C' D' R' ρ' h' h1 h1b => ?_
  have hD:=h'.hitD hx
  rw [h1] at hD
  have hC:=h'.hitC hy
  rw [h1b] at hC
  have h2:=h'.appD (x:=rF0) (rb:=nR (Sp.bhl qs p.a ++ [p.b]) (v + 1)) hx h1 rfl (R':=rPB p :: nR (Sp.bhl qs p.a ++ [p.b]) (v + 1) :: nR (Sp.bfl qs p.b) w :: R') rfl
  have h3:=h2.appC (rb:=nR (Sp.bfl qs p.b ++ [p.a]) (w + 1)) hy h1b rfl (R':=rPB p :: nR (Sp.bhl qs p.a ++ [p.b]) (v + 1) :: nR (Sp.bfl qs p.b ++ [p.a]) (w + 1) :: R') rfl
  have hn:=H _ _ _ ⟨_,_,_,h3.dn,cels_bf hM hp.2,cels_bh hN hp.1⟩
  exact rrr f ps C' D' cv dv R' m i p (Sp.bhl qs p.a) v (Sp.bfl qs p.b) w (ZaW d) ⟨hp.1.1,by rw [h'.lenD,hN.1];omega,by omega,hD,hp.2.1,by rw [h'.lenC,hM.1];omega,by omega,hC,by omega,hn⟩
end
end Go.Av

namespace Go.Av
open Go.Proofs
structure Iw where
 l:List Int
 deriving Inhabited
def Iw.a (x:Iw):AV:=.vec false 1 (x.l.map (.int .i64))
namespace Sp
def befW (n:Nat) (ps:List Pr):List Iw:=(List.range n).map fun (j:Nat)=>⟨bfl ps j⟩
def Zci (n:Nat) (ps:List Pr):List Iw:=(List.range n).map fun (j:Nat)=>⟨bhl ps j⟩
end Sp
def rdV (n:Nat) (ps:List Pr):AV:=.agg [.vec false 1 ((Sp.befW n ps).map Iw.a),.vec false 1 ((Sp.Zci n ps).map Iw.a)]
theorem cel_weak {l:List Int} {m:Option Row} (h:Cel l m):Weak (ZcO m) (Iw.a ⟨l⟩):=by
 rcases h with ⟨rfl,rfl⟩ | ⟨_,v,rfl⟩
 ·exact .vnil 1
 ·exact .refl _
theorem iw_plain (l:List Int):(Iw.a ⟨l⟩).cells=[Iw.a ⟨l⟩]/\(Iw.a ⟨l⟩).plain=true:=⟨rfl,rfl⟩
theorem Zdy {n:Nat} {g:Int -> List Int} {M:List (Option Row)} (h:Cels n g M):Weak (.vec false 1 (M.map ZcO)) (.vec false 1 (((List.range n).map fun (j:Nat) => (⟨g j⟩:Iw)).map Iw.a)):=by
 refine .cells false 1 _ _ (by simp [h.1]) (fun i x y hx hy => ?_) (fun y hy => ?_) (fun x hx => ?_)
 ·have hi:i < n:=by have:=(List.getElem?_eq_some_iff.1 hx).1;rw [List.length_map,h.1] at this;exact this
  obtain ⟨m,hm,hc⟩:=h.2 i hi
  rw [List.getElem?_map,hm] at hx
  rw [List.getElem?_map,List.getElem?_map,List.getElem?_range hi] at hy
  rw [<- Option.some.inj hx,<- Option.some.inj hy]
  exact cel_weak hc
 ·obtain ⟨w,_,rfl⟩:=List.mem_map.1 hy
  exact iw_plain w.l
 ·obtain ⟨m,_,rfl⟩:=List.mem_map.1 hx
  cases m <;> rfl
theorem rd_end {n:Nat} {C D:List AV} {cv dv:Nat} {R:Heap} {ps:List Pr} (h:RJ n ps C D cv dv R):ZaW (rdV n ps) (.agg [.row 1 cv,.row 2 dv]) (rBX cv dv :: ⟨C,1,cv,false,false⟩ :: ⟨D,1,dv,false,false⟩ :: rBX cv dv :: R):=by
 obtain ⟨M,N,ρ,hx,hM,hN⟩:=h
 have h':=Mx.fixd hx (r:=0) (z:=rBX cv dv) (by omega) (by simp) (by intro s hs;simp [Zag,rowsL,rowsA] at hs;omega)
 obtain ⟨a1,a2⟩:=h'.deep (u:=1) (by simp)
 obtain ⟨b1,b2⟩:=h'.deep (u:=2) (by simp)
 have e:(rL C D cv dv R).set 0 (rBX cv dv) = rBX cv dv :: ⟨C,1,cv,false,false⟩ :: ⟨D,1,dv,false,false⟩ :: rBX cv dv :: R:=rfl
 rw [e] at a1 a2 b1 b2
 have a1:deepA _ (AV.row 1 cv) = some (.vec false 1 (M.map ZcO)):=a1
 have b1:deepA _ (AV.row 2 dv) = some (.vec false 1 (N.map ZcO)):=b1
 refine ⟨.agg [.vec false 1 (M.map ZcO),.vec false 1 (N.map ZcO)],?_,?_,?_⟩
 ·have hl:∀ L:Heap,deepA L (.row 1 cv) = some (.vec false 1 (M.map ZcO)) -> deepA L (.row 2 dv) = some (.vec false 1 (N.map ZcO)) -> deepL L [.row 1 cv,.row 2 dv] = some [.vec false 1 (M.map ZcO),.vec false 1 (N.map ZcO)]:=fun L e1 e2 => by
   rw [deepL,e1,deepL,e2];rfl
  have hA:∀ (L:Heap) cs ds,deepL L cs = some ds -> deepA L (.agg cs) = some (.agg ds):=fun L cs ds e => by rw [deepA,e]
  exact hA _ _ _ (hl _ a1 b1)
 ·rw [ZbO] at a2 b2 ⊢
  intro b hb
  have hb:b ∈ deepV _ (AV.row 1 cv) ++ (deepV _ (AV.row 2 dv) ++ []):=hb
  rw [List.append_nil,List.mem_append] at hb
  rcases hb with hb | hb
  ·exact a2 b hb
  ·exact b2 b hb
 ·refine .agg _ _ rfl fun i x y hx hy => ?_
  match i with
  | 0 => rw [<- Option.some.inj hx,<- Option.some.inj hy];exact Zdy hM
  | 1 => rw [<- Option.some.inj hx,<- Option.some.inj hy];exact Zdy hN
  | i + 2 => cases hx
theorem rdQ_eq {ps:List Pr} {i:Nat} (h:i < ps.length):(ps.map Pr.v)[((i:Nat):Int).toNat]? = some (rdP (ps[i]).a (ps[i]).b):=by
 rw [Int.toNat_natCast,List.getElem?_map,List.getElem?_eq_getElem h];rfl
theorem Zeo {α:Type} {l:List α} {i:Nat} (h:i < l.length):l.take (i + 1) = l.take i ++ [l[i]]:=by
 rw [List.take_add_one,List.getElem?_eq_getElem h];rfl
theorem rd_loop {n:Nat} {ps:List Pr} {f:Bool} (hv:Sp.okV n ps) (hpl:ps.length <= 1000000):∀ (c i:Nat) (C D:List AV) (cv dv:Nat) (R:Heap),i + c = ps.length -> RJ n (ps.take i) C D cv dv R -> Zfc f ps false C D cv dv R (ps.length:Int) (i:Int) (ZaW (rdV n ps)):=by
 intro c
 induction c with
 | zero =>
  intro i C D cv dv R hi h
  rw [List.take_of_length_le (by omega)] at h
  exact rH _ _ _ _ _ _ _ _ _ _ _ ⟨fun z => absurd z (by omega),fun _ => rd_end h⟩
 | succ c ih =>
  intro i C D cv dv R hi h
  have hil:i < ps.length:=by omega
  have hp:=hv ps[i] (List.getElem_mem hil)
  refine rH _ _ _ _ _ _ _ _ _ _ _ ⟨fun _ => ?_,fun z => absurd (by omega) z⟩
  refine rd4 (f:=f) (b:=decide ((i:Int) < ps.length)) (ps:=ps.map Pr.v) (m:=ps.length) (i:=i) (by omega) (by rw [List.length_map];omega) (rdQ_eq hil) ?_
  obtain ⟨M,N,ρ,hx,hM,hN⟩:=h
  have s0:swp 4 (rL C D cv dv R).length 0 = 0:=Zdf (by omega) (by simp)
  have s3:swp 4 (rL C D cv dv R).length 3 = 3:=Zdf (by omega) (by simp)
  have sL:swp 4 (rL C D cv dv R).length (rL C D cv dv R).length = 4:=swp_q ..
  refine wp_box hx (z:=rPB ps[i]) (by simp [Zag,rowsL,rowsA]) (by intro r hr;simp [rowsL,rowsA] at hr;simp;omega) (env':=[(4,AV.ptr 0 0 0 0),(5,AV.ptr 3 0 0 0),(13,.vec f 2 (ps.map Pr.v)),(14,.int .i64 ps.length),(15,.int .i64 i),(7,.ptr 4 0 0 0)]) ?_ fun L' C' ρ' h' hU hfix => ?_
  ·unfold renV
   simp only [List.map_cons,List.map_nil,renA,s0,s3,sL]
  ·have h1:=(h'.out 1 (by simp)).1
   have h2:=(h'.out 2 (by simp)).1
   have h0:=hfix 0 (by omega) (by simp)
   have h3:=hfix 3 (by omega) (by simp)
   obtain ⟨R',rfl⟩:=ZeM (k:=5) (L:=L') (P:=rL (C' 1) (C' 2) cv dv [rPB ps[i]]) rfl fun r hr => by
    have:r = 0 \/ r = 1 \/ r = 2 \/ r = 3 \/ r = 4:=by omega
    rcases this with rfl | rfl | rfl | rfl | rfl
    ·exact h0
    ·exact h1
    ·exact h2
    ·exact h3
    ·exact hU
   have hR:RI 5 n (C' 1) (C' 2) cv dv (rPB ps[i] :: R') M N ρ':=h'.congr fun u hu => by
    simp only [List.mem_cons,List.not_mem_nil,or_false] at hu
    rcases hu with rfl | rfl
    ·exact ⟨rfl,rfl,rfl,fun j => rfl⟩
    ·exact ⟨rfl,rfl,rfl,fun j => rfl⟩
   refine rd_body hR hM hN ⟨by omega,by omega⟩ (by rw [List.length_take];omega) (by omega) fun C D R hj => ?_
   rw [<- Zeo hil] at hj
   exact ih (i + 1) C D cv dv R (by omega) hj
theorem ri_base (n:Nat):RI 4 n (List.replicate n .vnil) (List.replicate n .vnil) 0 0 [] (List.replicate n none) (List.replicate n none) (fun _ _ => 0):=by
 have no:∀ (j:Nat) (row:Row),(List.replicate n (none:Option Row))[j]? = some (some row) -> False:=fun j row h => by
  rw [List.getElem?_replicate] at h
  split at h
  ·cases h
  ·cases h
 have no':∀ u,∀ (j:Nat) (row:Row),(CC (List.replicate n (none:Option Row)) (List.replicate n none) u)[j]? = some (some row) -> False:=fun u j row h => by
  unfold CC at h
  split at h <;> exact no j row h
 refine ⟨by simp,by simp,fun u hu => ?_,fun r row hr hno hrow => rL_fix r row hr hno hrow,fun r row hr hrow => ?_,fun u _ j row h => (no' u j row h).elim,fun u _ j h => ?_,fun u _ w _ i j r s h => (no' u i r h).elim,fun u _ j row h => (no' u j row h).elim⟩
 ·simp only [List.mem_cons,List.not_mem_nil,or_false] at hu
  rcases hu with rfl | rfl
  ·exact ⟨rfl,by simp [CC]⟩
  ·exact ⟨rfl,by simp [CC]⟩
 ·have:=(List.getElem?_eq_some_iff.1 hrow).1
  simp at this;omega
 ·have e:∀ (α:Type) (x:α),CC x x u = x:=fun α x => by unfold CC;split <;> rfl
  rw [e] at h ⊢
  rw [List.getElem?_replicate] at h ⊢
  split at h
  ·rename_i hj;rw [if_pos hj]
  ·cases h
theorem Zdz (n:Nat) (g:Int->List Int) (hg:∀ j,g j=[]):Cels n g (List.replicate n none):=⟨by simp,fun j hj=>⟨none,by rw [List.getElem?_replicate,if_pos hj],.inl ⟨hg _,rfl⟩⟩⟩
theorem rd_start {n:Nat} {ps:List Pr} {f:Bool} (hv:Sp.okV n ps) (hpl:ps.length <= 1000000):rB_at f ps true (List.replicate n .vnil) (List.replicate n .vnil) 0 0 [] (ZaW (rdV n ps)):=by
 refine rB _ _ _ _ _ _ _ _ _ (rH _ _ _ _ _ _ _ _ _ _ _ ⟨fun hm => ?_,fun hm => ?_⟩)
 ·have hil:0 < ps.length:=by omega
  have hp:=hv ps[0] (List.getElem_mem hil)
  refine rd4 (f:=f) (b:=decide ((0:Int) < ps.length)) (ps:=ps.map Pr.v) (m:=ps.length) (i:=0) (by omega) (by rw [List.length_map];exact hil) (rdQ_eq hil) ?_
  have h5:RI 5 n (List.replicate n .vnil) (List.replicate n .vnil) 0 0 [rPB ps[0]] (List.replicate n none) (List.replicate n none) (fun _ _ => 0):=by
   refine Mx.up (U:=4) ((ri_base n).push (z:=rPB ps[0]) (by simp [Zag,rowsL,rowsA])) (by simp) fun u _ j row h => ?_
   unfold CC at h
   split at h <;> rw [List.getElem?_replicate] at h <;> split at h <;> cases h
  have hj:=h5.nn (qs:=[]) (Zdz n _ fun _ => rfl) (Zdz n _ fun _ => rfl) (by rw [List.getElem?_replicate,if_pos (by omega)]) (by rw [List.getElem?_replicate,if_pos (by omega)]) ⟨by omega,by omega⟩ rfl rfl
  have hn:=rd_loop (f:=f) hv hpl (ps.length - 1) 1 _ _ _ _ _ (by omega) (by rw [Zeo hil];exact hj)
  have nl:∀ k:Nat,k < n -> (List.replicate n AV.vnil)[k]? = some .vnil:=fun k hk => by rw [List.getElem?_replicate,if_pos hk]
  refine r00 f ps _ _ 0 0 [] ps.length 0 ps[0] _ ⟨by omega,by rw [List.length_replicate];omega,nl _ (by omega),by omega,by rw [List.length_replicate];omega,nl _ (by omega),by omega,?_⟩
  rw [es3];exact hn
 ·have hps:ps = []:=List.length_eq_zero_iff.1 (by omega)
  subst hps
  refine ⟨.agg [.vec false 1 ((List.replicate n none).map ZcO),.vec false 1 ((List.replicate n none).map ZcO)],?_,?_,?_⟩
  ·have e:(List.replicate n (none:Option Row)).map ZcO = List.replicate n .vnil:=by rw [List.map_replicate];rfl
   rw [e];rfl
  ·exact Zaa (by simp [Zbb]) (Zaa (by simp [Zbb]) Zas)
  ·refine .agg _ _ rfl fun i x y hx hy => ?_
   match i with
   | 0 => rw [<- Option.some.inj hx,<- Option.some.inj hy];exact Zdy (Zdz n _ fun _ => rfl)
   | 1 => rw [<- Option.some.inj hx,<- Option.some.inj hy];exact Zdy (Zdz n _ fun _ => rfl)
   | i + 2 => cases hx
theorem rd_ev (n:Nat) (f:Bool) (ps:List Pr) (h:Sp.okV n ps /\ n <= 1000 /\ ps.length <= 1000000):Ev M1 (.pure 34 [.int .i64 n,.vec f 2 (ps.map Pr.v)]) (.agg [.vec false 1 ((Sp.befW n ps).map Iw.a),.vec false 1 ((Sp.Zci n ps).map Iw.a)]) []:=by
 obtain ⟨hv,hn,hpl⟩:=h
 exact deep_call hm1 Try.f34 fi34 (by kernel_rfl) (by kernel_rfl) (by kernel_rfl) (by kernel_rfl) (rd0 (rd1 (by omega) (rd_start hv hpl)))
theorem ev34 (n:Int) (f:Bool) (ps:List Pr) (h:Sp.vd n ps = 0):Ev M1 (.pure 34 [.int .i64 n,.vec f 2 (ps.map Pr.v)]) (.agg [.vec false 1 ((Sp.befW n.toNat ps).map Iw.a),.vec false 1 ((Sp.Zci n.toNat ps).map Iw.a)]) []:=by
 obtain ⟨m,rfl,hm⟩:=vd_okV h
 rw [Int.toNat_natCast]
 exact rd_ev m f ps hm
end Go.Av

namespace Go.Av
open Go.Proofs
namespace Sp
def cycB (n:Nat) (ps:List Pr):Bool:=(ord n ps).isNone
end Sp
theorem Zeg {n:Nat} {ps:List Pr} (hv:Sp.okV n ps):Sp.cycB n ps = true ↔ Sp.cyc n ps:=by
 unfold Sp.cycB
 rw [<- ord_cyc hv,Option.isNone_iff_eq_none]
theorem tabW_dep {n:Nat} {ps:List Pr} {a b:Nat} (ha:a < n) (hb:b < n):((Sp.tabW n ps).getD a default).l.getD b default = true ↔ Sp.dep ps a b:=by
 rw [tabW_get ha];exact tab_get ha hb
theorem tabW_row {n:Nat} {ps:List Pr} {a:Nat} (ha:a < n):((Sp.tabW n ps).getD a default).l.length = n:=by
 rw [tabW_get ha];exact (tab_dim n ps).2 a ha
theorem pCyL_loop {n:Nat} {ps:List Pr} {fm:Bool} (hv:Sp.okV n ps) (hn:n <= 1000):∀ (c i:Nat),i + c = n -> (∀ j:Nat,j < i -> ¬Sp.dep ps j j) -> ZeF (n:Int) fm (Sp.tabW n ps) (i:Int) (Zay (.bool (Sp.cycB n ps))):=by
 intro c
 induction c with
 | zero =>
  intro i hi h
  refine pCyL _ _ _ _ _ ⟨fun z => absurd z (by omega),fun _ => ?_⟩
  have:Sp.cycB n ps = false:=Bool.eq_false_iff.2 fun e => by
   obtain ⟨k,hk,hd⟩:=(Zeg hv).1 e
   have:=h k.toNat (by omega)
   rw [show ((k.toNat:Nat):Int) = k by omega] at this
   exact this hd
  rw [this]
 | succ c ih =>
  intro i hi h
  have hin:i < n:=by omega
  have e:((i:Nat):Int).toNat = i:=Int.toNat_natCast i
  refine pCyL _ _ _ _ _ ⟨fun _ => ⟨by omega,by rw [e,tabW_len];exact hin,by rw [e,tabW_row hin];exact hin,fun h1 => ?_,fun h1 => ⟨by omega,?_⟩⟩,fun z => absurd (by omega) z⟩
  ·rw [e,tabW_dep hin hin] at h1
   rw [(Zeg hv).2 ⟨i,by omega,h1⟩]
  ·rw [e,tabW_dep hin hin] at h1
   refine ih (i + 1) (by omega) fun j hj => ?_
   by_cases ej:j = i
   ·rw [ej];exact h1
   ·exact h j (by omega)
theorem ev18 (n:Int) (f:Bool) (ps:List Pr) (h:Sp.vd n ps = 0):Ev M1 (.pure 18 [.int .i64 n,.vec f 2 (ps.map Pr.v)]) (.bool (Sp.cycB n.toNat ps)) []:=by
 refine call18 (pCy _ _ _ _ ⟨h,?_⟩)
 obtain ⟨m,rfl,hv,hm,_⟩:=vd_okV h
 rw [Int.toNat_natCast]
 exact pCyL_loop hv hm m 0 (by omega) fun j hj => by omega
end Go.Av

namespace Go.Av
open Go.Proofs
set_option maxRecDepth 100000
end Go.Av

namespace Go.Av
open Go.Proofs
end Go.Av

namespace Go.Av
open Go.Proofs
set_option maxRecDepth 100000
end Go.Av

namespace Go.Av
open Go.Proofs
namespace Sp
end Sp
theorem bhl_mem {ps:List Pr} {i j:Int}:j ∈ Sp.bhl ps i ↔ Sp.edge ps i j:=by
 unfold Sp.bhl Sp.edge
 rw [List.mem_map]
 constructor
 ·rintro ⟨p,hp,rfl⟩
  rw [List.mem_filter] at hp
  exact ⟨p,hp.1,by simpa using hp.2,rfl⟩
 ·rintro ⟨p,hp,h1,rfl⟩
  exact ⟨p,List.mem_filter.2 ⟨hp,by simpa using h1⟩,rfl⟩
theorem list_ext_getD {n:Nat} {A B:List Int} (hA:A.length = n) (hB:B.length = n) (h:∀ j,j < n -> A.getD j default = B.getD j default):A = B:=by
 apply List.ext_getElem (by omega)
 intro j h1 h2
 have:=h j (by omega)
 rw [List.getD_eq_getElem?_getD,List.getElem?_eq_getElem h1,List.getD_eq_getElem?_getD,List.getElem?_eq_getElem h2] at this
 exact this
end Go.Av

namespace Go.Av
open Go.RowKit
end Go.Av

namespace Go.Av
open Go.Proofs
theorem weak_tup2 {a b a' b':AV} (h1:Weak a a') (h2:Weak b b'):Weak (.tup [a,b]) (.tup [a',b']):=by
 refine .tup _ _ rfl fun i x y hx hy => ?_
 match i with
 | 0 => rw [<- Option.some.inj hx,<- Option.some.inj hy];exact h1
 | 1 => rw [<- Option.some.inj hx,<- Option.some.inj hy];exact h2
 | i + 2 => cases hx
theorem Zek (b:AV):Weak (.tup [.vnil,b]) (.tup [.vec false 1 [],b]):=weak_tup2 (.vnil 1) (.refl _)
theorem behW_get {n:Nat} {ps:List Pr} {j:Nat} (h:j < n):((Sp.Zci n ps).getD j default).l = Sp.bhl ps j:=by
 unfold Sp.Zci
 rw [List.getD_eq_getElem?_getD,List.getElem?_map,List.getElem?_range h];rfl
theorem behW_len (n:Nat) (ps:List Pr):(Sp.Zci n ps).length=n:=by unfold Sp.Zci;simp
theorem bhl_in {n:Nat} {ps:List Pr} (hv:Sp.okV n ps) (i:Int):∀ x ∈ Sp.bhl ps i,0 <= x /\ x < n:=fun x hx => by
 obtain ⟨p,hp,_,rfl⟩:=bhl_mem.1 hx
 have:=hv p hp
 omega
section
variable {n:Nat} {ps:List Pr} {fb ft:Bool} {B:List Iw}
end
section
variable {n:Nat} {ps:List Pr} {f:Bool}
end
end Go.Av

namespace Go.Av
open Go.Proofs
set_option maxRecDepth 100000
end Go.Av

namespace Go.Av
open Go.Proofs
end Go.Av

namespace Go.Av
open Go.Proofs
set_option maxRecDepth 100000
def fi38:Fi:=⟨30,[.tmp 6]⟩
def kp38:List (Nat × List Nat):=[(0,[0,1,2]),(1,[0,1,2,7]),(2,[0,1,2,7,11]),(3,[0,1,2,7]),(4,[0,1,2,7,29]),(5,[6]),(6,[6])]
def fi51:Fi:=⟨8,[.tmp 2]⟩
def kp51:List (Nat × List Nat):=[(0,[0]),(1,[0,4]),(2,[2]),(3,[2])]
def pCl_at (f:Bool) (x:Int) (l:List Int) (Q:AV->Heap->Prop):Prop:=Wp M1 (.run fi51 (atC (cd Try.f51) []) [(0,.vec f 1 ((x::l).map (.int .i64)))] []) Q
def pHa_at (f:Bool) (ps:List Pr) (a b:Int) (Q:AV->Heap->Prop):Prop:=Wp M1 (.run fi38 (atC (cd Try.f38) []) [(0,.vec f 2 (ps.map Pr.v)),(1,.int .i64 a),(2,.int .i64 b)] []) Q
def ZeE (f:Bool) (ps:List Pr) (a b i:Int) (Q:AV->Heap->Prop):Prop:=Wp M1 (.run fi38 (atC (cd Try.f38) [1,0,1,0,0]) [(0,.vec f 2 (ps.map Pr.v)),(1,.int .i64 a),(2,.int .i64 b),(7,.int .i64 i)] []) Q
theorem call38 {args:List AV} {d:AV} (h:wc M1 fi38 Try.f38 args d):Ev M1 (.pure 38 args) d []:=pcl _ _ (by kernel_rfl) h
theorem call51 {args:List AV} {d:AV} (h:wc M1 fi51 Try.f51 args d):Ev M1 (.pure 51 args) d []:=pcl _ _ (by kernel_rfl) h
theorem pCl (f:Bool) (x:Int) (l:List Int)  (dq:AV) (H :
  ((0 + (l.length + 1)) * 8 <= 1099511627776) /\
  Weak (vf (vi x :: List.map (vi) l)) dq) :
 pCl_at f x l (Zay dq):=by
 unfold pCl_at
 have w1:(List.map (vi) l).length = l.length:=List.length_map ..
 have i2:(decide ((0 + ((List.map (vi) l).length + 1)) * 8 <= 1099511627776)) = true ↔ ((0 + (l.length + 1)) * 8 <= 1099511627776):=(by (try rw [w1]);all_goals exact Zab)
 obtain ⟨k3,H⟩:=H
 exact ZaA (G:=Zaf kp51 [] []) 1000 [false] (k:=((atC (cd Try.f51) [1,1,1])).tail) (env':=[(2,AV.row 0 0)]) (L':=[⟨vi x :: List.map (vi) l,1,0,false,true⟩]) (asm:=[false == false,decide ((0 + ((List.map (vi) l).length + 1)) * 8 <= 1099511627776)]) (eqs:=[]) (calls:=[]) (AV.row 0 0) (by kernel_rfl) (by kernel_rfl) (Zaa rfl (Zaa (i2.2 k3) Zas)) ZaC ZaD (pq_weak (d:=(vf (vi x :: List.map (vi) l))) (bs:=[0 == 0]) (by kernel_rfl) (by kernel_rfl) (Zaa (beq_self_eq_true _) Zas) (by kernel_rfl) H)
theorem pHa (f:Bool) (ps:List Pr) (a b:Int)  (dq:AV) (H :
  ZeE (f) (ps) (a) (b) (0) (Zay dq)) :
 pHa_at f ps a b (Zay dq):=by
 unfold pHa_at
 exact Zae (G:=Zaf kp38 [] []) 1000 [] ⟨(atC (cd Try.f38) [1,0,1,0,0]),[(0,AV.vec f 2 (List.map Pr.v ps)),(1,vi a),(2,vi b),(7,vi 0)],[],_,[],_⟩ (by kernel_rfl) b0 q0 c0 (H)
noncomputable abbrev zPxN1 (ps:List Pr) (i:Int):=ag [vi (ps.getD i.toNat default).a,vi (ps.getD i.toNat default).b]
theorem pHaL (f:Bool) (ps:List Pr) (a b i:Int)  (dq:AV) (H :
  ((i < (↑ps.length:Int)) -> (0 <= i) /\
   (i.toNat < ps.length) /\
   ((((ps.getD i.toNat default).a = a) /\ ((ps.getD i.toNat default).b = b)) -> vb true = dq) /\
   (¬(((ps.getD i.toNat default).a = a) /\ ((ps.getD i.toNat default).b = b)) -> (-9223372036854775808 <= i + 1 /\ i + 1 <= 9223372036854775807) /\
    ZeE (f) (ps) (a) (b) (i + 1) (Zay dq))) /\
  (¬(i < (↑ps.length:Int)) -> vb false = dq)) :
 ZeE f ps a b i (Zay dq):=by
 unfold ZeE
 have w1:(List.map Pr.v ps).length = ps.length:=List.length_map ..
 have i2:(decide (i < (↑(List.map Pr.v ps).length:Int))) = true ↔ (i < (↑ps.length:Int)):=(by (try rw [w1]);all_goals exact Zab)
 rcases xq H with ⟨d3,H⟩|⟨d3,H⟩
 ·obtain ⟨k5,H⟩:=H
  have i6:(decide (i.toNat < (List.map Pr.v ps).length)) = true ↔ (i.toNat < ps.length):=(by (try rw [w1]);all_goals exact Zab)
  obtain ⟨k7,H⟩:=H
  have i9:(!(((ps.getD i.toNat default).a == a) == true && true) || decide (i.toNat < (List.map Pr.v ps).length)) = true ↔ (((ps.getD i.toNat default).a = a) -> (i.toNat < ps.length)):=(by (try rw [w1]);all_goals exact (Zbe (i_at (i_bt i_eq)) Zab))
  refine Zae (G:=Zaf kp38 [(4,4,.elem (zPxN1 ps i)),(4,12,.elem (zPxN1 ps i))] []) 9 [true] ⟨(atC (cd Try.f38) [1,0,1,0,0,1,0,0,1]),[(0,AV.vec f 2 (List.map Pr.v ps)),(1,vi a),(2,vi b),(7,vi i),(29,vb (bif (ps.getD i.toNat default).a == a then (ps.getD i.toNat default).b == b else false))],[],[(decide (i < (↑(List.map Pr.v ps).length:Int))) == true,decide (0 <= i),decide (i.toNat < (List.map Pr.v ps).length),true,true,!(((ps.getD i.toNat default).a == a) == true && true) || decide (0 <= i),!(((ps.getD i.toNat default).a == a) == true && true) || decide (i.toNat < (List.map Pr.v ps).length),!(((ps.getD i.toNat default).a == a) == true && true) || true,!(((ps.getD i.toNat default).a == a) == true && true) || true],[((List.map Pr.v ps).get?Internal i.toNat = some (zPxN1 ps i)),((((ps.getD i.toNat default).a == a) == true && true) = true -> (List.map Pr.v ps).get?Internal i.toNat = some (zPxN1 ps i))],_⟩ (by kernel_rfl) (bc (ZaK (i2.2 d3)) (bc (Zab.2 k5) (bc (i6.2 k7) (bc rfl (bc rfl (bc ((Zbe (i_at (i_bt i_eq)) Zab).2 (fun _ => k5)) (bc (i9.2 (fun _ => k7)) (bc (Bool.or_true _) (bc (Bool.or_true _) b0))))))))) (qc (Zak k7) (qc (fun h => Zak k7) q0)) c0 ?_
  rcases xq H with ⟨d12,H⟩|⟨d12,H⟩
  ·exact ZaQ (G:=Zaf kp38 [] []) 1000 [true] (vb true) (by kernel_rfl) (bc (ZaK ((i_band i_eq i_eq).2 d12)) b0) q0 c0 H
  ·obtain ⟨k13,H⟩:=H
   have w14:wi (i + 1) = i + 1:=wI64 k13
   exact Zae (G:=Zaf kp38 [] []) 1000 [false] ⟨(atC (cd Try.f38) [1,0,1,0,0]),[(0,AV.vec f 2 (List.map Pr.v ps)),(1,vi a),(2,vi b),(7,vi (wi (i + 1)))],[],_,[],_⟩ (by kernel_rfl) (bc (ZaI (fun h => d12 ((i_band i_eq i_eq).1 h))) b0) q0 c0 (by (try rw [w14]);all_goals exact H)
 ·exact ZaQ (G:=Zaf kp38 [] []) 1000 [false] (vb false) (by kernel_rfl) (bc (ZaI (fun h => d3 (i2.1 h))) b0) q0 c0 H
end Go.Av

namespace Go.Av
open Go.Proofs
namespace Sp
def has (ps:List Pr) (a b:Int):Bool:=ps.any fun p=>p.a==a&&p.b==b
def circ (ps:List Pr) (l:List Int):Bool:=((List.range l.length).all fun i => !mem (l.take i) (l.getD i default)&&has ps (l.getD i default) (l.getD ((i+1) % l.length) default))&&decide (2<=l.length)
inductive fin (ps:List Pr):Int -> Prop
 | mk {a:Int}:(∀ b,edge ps a b -> fin ps b) -> fin ps a
structure VI (n:Nat) (ps:List Pr) (D:List Bool) (A P:List Int):Prop where
 dl:D.length = n
 al:A.length = n
 rng:∀ x ∈ P,0 <= x /\ x < n
 nd:P.Nodup
 at1:∀ (j:Nat) x,P[j]? = some x -> A.getD x.toNat default = (j:Int) + 1
 at0:∀ k:Nat,k < n -> (k:Int) ∉ P -> A.getD k default = 0
 ch:∀ (j:Nat) x y,P[j]? = some x -> P[j + 1]? = some y -> edge ps x y
 fn:∀ k:Nat,k < n -> D.getD k default = true -> fin ps k
end Sp
theorem has_iff {ps:List Pr} {a b:Int}:Sp.has ps a b = true ↔ Sp.edge ps a b:=by
 unfold Sp.has Sp.edge
 rw [List.any_eq_true]
 constructor
 ·rintro ⟨p,hp,h⟩
  simp only [Bool.and_eq_true,beq_iff_eq] at h
  exact ⟨p,hp,h.1,h.2⟩
 ·rintro ⟨p,hp,h1,h2⟩
  exact ⟨p,hp,by simp [h1,h2]⟩
theorem fin_dep {ps:List Pr} {a:Int} (h:Sp.fin ps a):¬Sp.dep ps a a:=by
 induction h with
 | mk h ih =>
  intro hd
  cases hd with
  | one e => exact ih _ e (.one e)
  | cons e d => exact ih _ e (ZcM d (.one e))
theorem circ_of {n:Nat} {ps:List Pr} {D:List Bool} {A P:List Int} (hV:Sp.VI n ps D A P) {j:Nat} {i:Int} (hj:P[j]? = some i) (he:∀ x,P.getLast? = some x -> Sp.edge ps x i) (hs:¬Sp.edge ps i i):Sp.circ ps (P.drop j) = true /\ P.drop j ≠ []:=by
 have hjl:=(List.getElem?_eq_some_iff.1 hj).1
 have hl:(P.drop j).length = P.length - j:=List.length_drop
 have hne:P.drop j ≠ []:=fun e => by rw [e] at hl;simp at hl;omega
 have g:∀ k,k < P.length - j -> ∃ x,P[j + k]? = some x /\ (P.drop j).getD k default = x:=fun k hk => by
  refine ⟨P[j + k]'(by omega),List.getElem?_eq_getElem (by omega),?_⟩
  rw [List.getD_eq_getElem?_getD,List.getElem?_drop,List.getElem?_eq_getElem (by omega)];rfl
 have last:∃ x,P[P.length - 1]? = some x /\ P.getLast? = some x:=⟨P[P.length - 1]'(by omega),List.getElem?_eq_getElem (by omega),by rw [List.getLast?_eq_getElem?,List.getElem?_eq_getElem (by omega)]⟩
 obtain ⟨z,hz1,hz2⟩:=last
 have hez:=he z hz2
 have h2:2 <= P.length - j:=by
  refine Classical.byContradiction fun h => ?_
  have:j = P.length - 1:=by omega
  rw [this,hz1] at hj
  rw [Option.some.inj hj] at hez
  exact hs hez
 refine ⟨?_,hne⟩
 unfold Sp.circ
 rw [hl,decide_eq_true h2,Bool.and_true,List.all_eq_true]
 intro k hk
 rw [List.mem_range] at hk
 obtain ⟨x,hx1,hx2⟩:=g k hk
 have hm:Sp.mem ((P.drop j).take k) x = false:=Bool.eq_false_iff.2 fun hm => by
  have:=Zcq.1 hm
  obtain ⟨m,hm1⟩:=List.getElem?_of_mem this
  have hml:=(List.getElem?_eq_some_iff.1 hm1).1
  rw [List.length_take] at hml
  rw [List.getElem?_take_of_lt (by omega),List.getElem?_drop] at hm1
  have:=(List.getElem?_inj (i:=j + m) (j:=j + k) (by omega) hV.nd).1 (hm1.trans hx1.symm)
  omega
 rw [hx2,hm,Bool.not_false,Bool.true_and,has_iff]
 by_cases hk1:k + 1 < P.length - j
 ·rw [Nat.mod_eq_of_lt hk1]
  obtain ⟨y,hy1,hy2⟩:=g (k + 1) hk1
  rw [hy2]
  exact hV.ch (j + k) x y hx1 hy1
 ·have:k + 1 = P.length - j:=by omega
  rw [this,Nat.mod_self]
  obtain ⟨y,hy1,hy2⟩:=g 0 (by omega)
  rw [hy2]
  rw [Nat.add_zero,hj] at hy1
  rw [<- Option.some.inj hy1]
  have:j + k = P.length - 1:=by omega
  rw [this,hz1] at hx1
  rw [<- Option.some.inj hx1];exact hez
theorem Sp.VI.push {n:Nat} {ps:List Pr} {D:List Bool} {A P:List Int} (h:Sp.VI n ps D A P) {i:Int} (hi:0 <= i /\ i < n) (hn:i ∉ P) (he:∀ x,P.getLast? = some x -> Sp.edge ps x i):Sp.VI n ps D (A.set i.toNat ((P.length:Int) + 1)) (P ++ [i]):=by
 refine ⟨h.dl,by rw [List.length_set];exact h.al,fun x hx => ?_,?_,fun j x hx => ?_,fun k hk hkP => ?_,fun j x y hx hy => ?_,h.fn⟩
 ·rcases List.mem_append.1 hx with hx | hx
  ·exact h.rng x hx
  ·rw [List.mem_singleton] at hx;rw [hx];exact hi
 ·rw [List.nodup_append]
  exact ⟨h.nd,by simp,fun a ha b hb => by simp at hb;subst hb;exact fun e => hn (e ▸ ha)⟩
 ·by_cases hj:j < P.length
  ·rw [List.getElem?_append_left hj] at hx
   have hx0:=h.rng x (List.mem_of_getElem? hx)
   have hne:x ≠ i:=fun e => hn (e ▸ List.mem_of_getElem? hx)
   rw [List.getD_eq_getElem?_getD,List.getElem?_set,if_neg (by omega),<- List.getD_eq_getElem?_getD]
   exact h.at1 j x hx
  ·have hj2:=(List.getElem?_eq_some_iff.1 hx).1
   rw [List.length_append,List.length_singleton] at hj2
   have:j = P.length:=by omega
   subst this
   rw [List.getElem?_append_right (by omega),Nat.sub_self] at hx
   have e:x = i:=(Option.some.inj hx).symm
   subst e
   rw [List.getD_eq_getElem?_getD,List.getElem?_set,if_pos rfl,if_pos (by rw [h.al];omega)];rfl
 ·have hne:(k:Int) ≠ i:=fun e => hkP (by rw [e];simp)
  rw [List.getD_eq_getElem?_getD,List.getElem?_set,if_neg (by omega),<- List.getD_eq_getElem?_getD]
  exact h.at0 k hk fun hm => hkP (List.mem_append_left _ hm)
 ·have hj2:=(List.getElem?_eq_some_iff.1 hy).1
  rw [List.length_append,List.length_singleton] at hj2
  by_cases hj:j + 1 < P.length
  ·rw [List.getElem?_append_left (by omega)] at hx
   rw [List.getElem?_append_left hj] at hy
   exact h.ch j x y hx hy
  ·have:j + 1 = P.length:=by omega
   rw [List.getElem?_append_left (by omega)] at hx
   rw [this,List.getElem?_append_right (by omega),Nat.sub_self] at hy
   rw [<- Option.some.inj hy]
   refine he x ?_
   rw [List.getLast?_eq_getElem?,show P.length - 1 = j by omega];exact hx
theorem Sp.VI.pop {n:Nat} {ps:List Pr} {D:List Bool} {A P:List Int} {i:Int} (h:Sp.VI n ps D A (P ++ [i])) (hd:∀ b,Sp.edge ps i b -> (0 <= b /\ b < n) /\ D.getD b.toNat default = true):Sp.VI n ps (D.set i.toNat true) (A.set i.toNat 0) P:=by
 have hi:=h.rng i (by simp)
 have hnd:=h.nd
 rw [List.nodup_append] at hnd
 have hin:i ∉ P:=fun hm => hnd.2.2 i hm i (by simp) rfl
 have get1:∀ (j:Nat) x,P[j]? = some x -> (P ++ [i])[j]? = some x:=fun j x hx => by
  rw [List.getElem?_append_left (List.getElem?_eq_some_iff.1 hx).1];exact hx
 refine ⟨by rw [List.length_set];exact h.dl,by rw [List.length_set];exact h.al,fun x hx => h.rng x (List.mem_append_left _ hx),hnd.1,fun j x hx => ?_,fun k hk hkP => ?_,fun j x y hx hy => h.ch j x y (get1 j x hx) (get1 _ y hy),fun k hk hD => ?_⟩
 ·have hx0:=h.rng x (List.mem_append_left _ (List.mem_of_getElem? hx))
  have hne:x ≠ i:=fun e => hin (e ▸ List.mem_of_getElem? hx)
  rw [List.getD_eq_getElem?_getD,List.getElem?_set,if_neg (by omega),<- List.getD_eq_getElem?_getD]
  exact h.at1 j x (get1 j x hx)
 ·rw [List.getD_eq_getElem?_getD,List.getElem?_set]
  by_cases e:i.toNat = k
  ·rw [if_pos e,if_pos (by rw [h.al];omega)];rfl
  ·rw [if_neg e,<- List.getD_eq_getElem?_getD]
   refine h.at0 k hk fun hm => ?_
   rcases List.mem_append.1 hm with hm | hm
   ·exact hkP hm
   ·rw [List.mem_singleton] at hm;omega
 ·rw [List.getD_eq_getElem?_getD,List.getElem?_set] at hD
  by_cases e:i.toNat = k
  ·have ek:(k:Int) = i:=by omega
   rw [ek]
   refine .mk fun b hb => ?_
   obtain ⟨hb1,hb2⟩:=hd b hb
   have:=h.fn b.toNat (by omega) hb2
   rwa [show ((b.toNat:Nat):Int) = b by omega] at this
  ·rw [if_neg e,<- List.getD_eq_getElem?_getD] at hD
   exact h.fn k hk hD
theorem set_back {n:Nat} {A:List Int} {i:Int} {x:Int} (hA:A.length = n) (hi:0 <= i /\ i < n) (h0:A.getD i.toNat default = 0):(A.set i.toNat x).set i.toNat 0 = A:=by
 rw [List.set_set]
 refine list_ext_getD (n:=n) (by rw [List.length_set];exact hA) hA fun j hj => ?_
 rw [List.getD_eq_getElem?_getD,List.getElem?_set]
 by_cases e:i.toNat = j
 ·rw [if_pos e,if_pos (by omega),Option.getD_some,<- e,h0]
 ·rw [if_neg e,<- List.getD_eq_getElem?_getD]
theorem Sp.VI.base (n:Nat) (ps:List Pr):Sp.VI n ps (List.replicate n false) (List.replicate n 0) []:=
 ⟨by simp,by simp,fun x hx => (by cases hx),List.nodup_nil,fun j x hx => (by simp at hx),fun k hk _ => (by rw [List.getD_eq_getElem?_getD,List.getElem?_replicate,if_pos hk];rfl),fun j x y hx hy => (by simp at hx),fun k hk hD => (by rw [List.getD_eq_getElem?_getD,List.getElem?_replicate,if_pos hk] at hD;cases hD)⟩
def Sp.one (l:List Int):Prop:=l ≠ []/\l.length<=1000000
theorem ev51 (f:Bool) (l:List Int) (h:Sp.one l):Ev M1 (.pure 51 [.vec f 1 (l.map (.int .i64))]) (.vec false 1 (l.map (.int .i64))) []:=by
 obtain ⟨h1,h2⟩:=h
 cases l with
 | nil => exact absurd rfl h1
 | cons x l => exact call51 (pCl _ _ _ _ ⟨by simp at h2;omega,.refl _⟩)
theorem pHaL_loop {f:Bool} {ps:List Pr} {a b:Int} (hb:ps.length <= 4000000000):∀ (c i:Nat),i + c = ps.length -> ZeE f ps a b (i:Int) (Zay (.bool (Sp.has (ps.drop i) a b))):=by
 intro c
 induction c with
 | zero =>
  intro i hi
  refine pHaL _ _ _ _ _ _ ⟨fun z => absurd z (by omega),fun _ => ?_⟩
  rw [List.drop_of_length_le (by omega)];rfl
 | succ c ih =>
  intro i hi
  have hil:i < ps.length:=by omega
  have e:((i:Nat):Int).toNat = i:=Int.toNat_natCast i
  have g1:ps.getD i default = ps[i]:=by rw [List.getD_eq_getElem?_getD,List.getElem?_eq_getElem hil];rfl
  refine pHaL _ _ _ _ _ _ ⟨fun _ => ⟨by omega,by omega,fun h1 => ?_,fun h1 => ⟨by omega,?_⟩⟩,fun z => absurd (by omega) z⟩
  ·rw [e,g1] at h1
   rw [List.drop_eq_getElem_cons hil]
   unfold Sp.has
   rw [List.any_cons,h1.1,h1.2];simp
  ·rw [e,g1] at h1
   have h2:(ps[i].a == a && ps[i].b == b) = false:=Bool.eq_false_iff.2 fun hh => h1 (by simpa using hh)
   have:=ih (i + 1) (by omega)
   rw [List.drop_eq_getElem_cons hil]
   unfold Sp.has at this ⊢
   rw [List.any_cons,h2,Bool.false_or]
   exact this
theorem ev38 (f:Bool) (ps:List Pr) (a b:Int) (h:Sp.few ps.length 4000000000):Ev M1 (.pure 38 [.vec f 2 (ps.map Pr.v),.int .i64 a,.int .i64 b]) (.bool (Sp.has ps a b)) []:=
 call38 (pHa _ _ _ _ _ (pHaL_loop h ps.length 0 (by omega)))
end Go.Av

namespace Go.Av
open Go.Proofs
set_option maxRecDepth 100000
def fi35:Fi:=⟨103,[.tmp 4]⟩
def kp35:List (Nat × List Nat):=[(0,[0,1]),(1,[0,1,15]),(2,[4]),(3,[0,1,36]),(4,[4]),(5,[0,1]),(6,[0,1]),(7,[0,1,64,65,66]),(8,[0,1,64,65,66,67]),(9,[0,1,6,64,65,66]),(10,[0,1,7,64,65,66]),(11,[0,1,7,64,65,66,74]),(12,[4]),(13,[0,1,64,65,66]),(14,[]),(15,[4])]
def vSn_at (fm:Bool) (T:List Iw) (D:List Bool) (A:List Int) (i:Int) (Q:AV->Heap->Prop):Prop:=Wp M1 (.run fi35 (atC (cd Try.f35) []) [(0,.ptr 0 0 0 0),(1,.int .i64 i)] [⟨[.agg [.vec fm 1 (T.map Iw.a),.row 1 0,.row 2 0,.vnil]],4,0,false,false⟩,⟨D.map (.bool),1,0,false,true⟩,⟨A.map (.int .i64),1,0,false,true⟩]) Q
def vSr_at (fm:Bool) (T:List Iw) (D:List Bool) (A X:List Int) (v:Nat) (i:Int) (Q:AV->Heap->Prop):Prop:=Wp M1 (.run fi35 (atC (cd Try.f35) []) [(0,.ptr 0 0 0 0),(1,.int .i64 i)] [⟨[.agg [.vec fm 1 (T.map Iw.a),.row 1 0,.row 2 0,.row 3 v]],4,0,false,false⟩,⟨D.map (.bool),1,0,false,true⟩,⟨A.map (.int .i64),1,0,false,true⟩,⟨X.map (.int .i64),1,v,false,true⟩]) Q
def vSf_at (fm:Bool) (T:List Iw) (D:List Bool) (A X:List Int) (v:Nat) (q:Nat) (i:Int) (Q:AV->Heap->Prop):Prop:=Wp M1 (.run fi35 (atC (cd Try.f35) []) [(0,.ptr 0 0 0 0),(1,.int .i64 i)] [⟨[.agg [.vec fm 1 (T.map Iw.a),.row 1 0,.row 2 0,.ref 3 v 0 q]],4,0,false,false⟩,⟨D.map (.bool),1,0,false,true⟩,⟨A.map (.int .i64),1,0,false,true⟩,⟨X.map (.int .i64),1,v,false,true⟩]) Q
def Zem (fm:Bool) (T:List Iw) (D:List Bool) (A X:List Int) (v:Nat) (i:Int) (g:Bool) (l:List Int) (m j:Int) (Q:AV->Heap->Prop):Prop:=Wp M1 (.run fi35 (atC (cd Try.f35) [1,1,1,1,1,0,1,0,0]) [(0,.ptr 0 0 0 0),(1,.int .i64 i),(64,.vec g 1 (l.map (.int .i64))),(65,.int .i64 m),(66,.int .i64 j)] [⟨[.agg [.vec fm 1 (T.map Iw.a),.row 1 0,.row 2 0,.row 3 v]],4,0,false,false⟩,⟨D.map (.bool),1,0,false,true⟩,⟨A.map (.int .i64),1,0,false,true⟩,⟨X.map (.int .i64),1,v,false,true⟩]) Q
def vRf_at (fm:Bool) (T:List Iw) (D:List Bool) (A X:List Int) (v:Nat) (i:Int) (g:Bool) (l:List Int) (m j:Int) (Q:AV->Heap->Prop):Prop:=Wp M1 (.run fi35 (atC (cd Try.f35) [1,1,1,1,1,0,1,0,0]) [(0,.ptr 0 0 0 0),(1,.int .i64 i),(64,.vec g 1 (l.map (.int .i64))),(65,.int .i64 m),(66,.int .i64 j)] [⟨[.agg [.vec fm 1 (T.map Iw.a),.row 1 0,.row 2 0,.row 3 v]],4,0,false,false⟩,⟨D.map (.bool),1,0,false,true⟩,⟨A.map (.int .i64),1,0,false,true⟩,⟨X.map (.int .i64),1,v,false,true⟩]) Q
def vRc_at (fm:Bool) (T:List Iw) (D:List Bool) (A X:List Int) (v:Nat) (i:Int) (g:Bool) (l:List Int) (m j:Int) (Q:AV->Heap->Prop):Prop:=Wp M1 (.run fi35 (atC (cd Try.f35) [1,1,1,1,1,0,1,0,0]) [(0,.ptr 0 0 0 0),(1,.int .i64 i),(64,.vec g 1 (l.map (.int .i64))),(65,.int .i64 m),(66,.int .i64 j)] [⟨[.agg [.vec fm 1 (T.map Iw.a),.row 1 0,.row 2 0,.row 3 v]],4,0,false,false⟩,⟨D.map (.bool),1,0,false,true⟩,⟨A.map (.int .i64),1,0,false,true⟩,⟨X.map (.int .i64),1,v,false,true⟩]) Q
def vRd_at (fm:Bool) (T:List Iw) (D:List Bool) (A X:List Int) (v:Nat) (i:Int) (g:Bool) (l:List Int) (m j:Int) (Q:AV->Heap->Prop):Prop:=Wp M1 (.run fi35 (atC (cd Try.f35) [1,1,1,1,1,0,1,0,0]) [(0,.ptr 0 0 0 0),(1,.int .i64 i),(64,.vec g 1 (l.map (.int .i64))),(65,.int .i64 m),(66,.int .i64 j)] [⟨[.agg [.vec fm 1 (T.map Iw.a),.row 1 0,.row 2 0,.row 3 v]],4,0,false,false⟩,⟨D.map (.bool),1,0,false,true⟩,⟨A.map (.int .i64),1,0,false,true⟩,⟨X.map (.int .i64),1,v,false,true⟩]) Q
def vFf_at (fm:Bool) (T:List Iw) (D:List Bool) (A X:List Int) (v:Nat) (q:Nat) (i:Int) (g:Bool) (l:List Int) (m j:Int) (Q:AV->Heap->Prop):Prop:=Wp M1 (.run fi35 (atC (cd Try.f35) [1,1,1,1,1,0,1,0,0]) [(0,.ptr 0 0 0 0),(1,.int .i64 i),(64,.vec g 1 (l.map (.int .i64))),(65,.int .i64 m),(66,.int .i64 j)] [⟨[.agg [.vec fm 1 (T.map Iw.a),.row 1 0,.row 2 0,.ref 3 v 0 q]],4,0,false,false⟩,⟨D.map (.bool),1,0,false,true⟩,⟨A.map (.int .i64),1,0,false,true⟩,⟨X.map (.int .i64),1,v,false,true⟩]) Q
def vFc_at (fm:Bool) (T:List Iw) (D:List Bool) (A X:List Int) (v:Nat) (q:Nat) (i:Int) (g:Bool) (l:List Int) (m j:Int) (Q:AV->Heap->Prop):Prop:=Wp M1 (.run fi35 (atC (cd Try.f35) [1,1,1,1,1,0,1,0,0]) [(0,.ptr 0 0 0 0),(1,.int .i64 i),(64,.vec g 1 (l.map (.int .i64))),(65,.int .i64 m),(66,.int .i64 j)] [⟨[.agg [.vec fm 1 (T.map Iw.a),.row 1 0,.row 2 0,.ref 3 v 0 q]],4,0,false,false⟩,⟨D.map (.bool),1,0,false,true⟩,⟨A.map (.int .i64),1,0,false,true⟩,⟨X.map (.int .i64),1,v,false,true⟩]) Q
def vFd_at (fm:Bool) (T:List Iw) (D:List Bool) (A X:List Int) (v:Nat) (q:Nat) (i:Int) (g:Bool) (l:List Int) (m j:Int) (Q:AV->Heap->Prop):Prop:=Wp M1 (.run fi35 (atC (cd Try.f35) [1,1,1,1,1,0,1,0,0]) [(0,.ptr 0 0 0 0),(1,.int .i64 i),(64,.vec g 1 (l.map (.int .i64))),(65,.int .i64 m),(66,.int .i64 j)] [⟨[.agg [.vec fm 1 (T.map Iw.a),.row 1 0,.row 2 0,.ref 3 v 0 q]],4,0,false,false⟩,⟨D.map (.bool),1,0,false,true⟩,⟨A.map (.int .i64),1,0,false,true⟩,⟨X.map (.int .i64),1,v,false,true⟩]) Q
theorem ZbU {args:List AV} {L:Heap} {Q:AV -> Heap -> Prop} (h:Wp M1 (.run fi35 [.code (cd Try.f35)] (Zbz 0 args) L) Q):Wp M1 (.own 35 args L) Q:=
 own_wp Try.f35 fi35 (by kernel_rfl) (by kernel_rfl) (by kernel_rfl) (by kernel_rfl) h
theorem vSn (fm:Bool) (T:List Iw) (D:List Bool) (A:List Int) (i:Int)  (Q:AV -> Heap -> Prop) (H :
  (0 <= i) /\
  (i.toNat < A.length) /\
  ((A.getD i.toNat default > 0) -> ∃ (x1:Iw),
   (Ev M1 (Conf.pure 51 [AV.vnil]) (vf (List.map (vi) x1.1)) []) /\
   (-9223372036854775808 <= A.getD i.toNat default - 1 /\ A.getD i.toNat default - 1 <= 9223372036854775807) /\
   (0 <= A.getD i.toNat default - 1) /\
   ((A.getD i.toNat default - 1).toNat = 0) /\
   Q (vf (List.map (vi) x1.1)) [{ elems:=[ag [AV.vec fm 1 (List.map Iw.a T),AV.row 1 0,AV.row 2 0,AV.vnil]],es:=4,ver:=0,frozen:=false,clean:=false },{ elems:=List.map vb D,es:=1,ver:=0,frozen:=false,clean:=true },{ elems:=List.map (vi) A,es:=1,ver:=0,frozen:=false,clean:=true }]) /\
  (¬(A.getD i.toNat default > 0) -> (i.toNat < D.length) /\
   ((D.getD i.toNat default = true) -> Q (AV.vnil) [{ elems:=[ag [AV.vec fm 1 (List.map Iw.a T),AV.row 1 0,AV.row 2 0,AV.vnil]],es:=4,ver:=0,frozen:=false,clean:=false },{ elems:=List.map vb D,es:=1,ver:=0,frozen:=false,clean:=true },{ elems:=List.map (vi) A,es:=1,ver:=0,frozen:=false,clean:=true }]) /\
   (¬(D.getD i.toNat default = true) -> (i.toNat < T.length) /\
    Zem (fm) (T) (D) (A.set i.toNat 1) ([i]) (0) (i) (false) ((T.getD i.toNat default).1) ((↑(T.getD i.toNat default).1.length:Int)) (0) Q))) :
 vSn_at fm T D A i Q:=by
 unfold vSn_at
 obtain ⟨k2,H⟩:=H
 have w3:(List.map (vi) A).length = A.length:=List.length_map ..
 have i4:(decide (i.toNat < (List.map (vi) A).length)) = true ↔ (i.toNat < A.length):=(by (try rw [w3]);all_goals exact Zab)
 obtain ⟨k5,H⟩:=H
 refine Zae (G:=Zaf kp35 [(1,6,.elem (vi (A.getD i.toNat default)))] []) 5 [] ⟨(atC (cd Try.f35) [1,0,1]),[(0,AV.ptr 0 0 0 0),(1,vi i),(15,vb (decide (A.getD i.toNat default > 0)))],[⟨[ag [AV.vec fm 1 (List.map Iw.a T),AV.row 1 0,AV.row 2 0,AV.vnil]],4,0,false,false⟩,⟨List.map vb D,1,0,false,true⟩,⟨List.map (vi) A,1,0,false,true⟩],_,[((List.map (vi) A).get?Internal i.toNat = some (vi (A.getD i.toNat default)))],_⟩ (by kernel_rfl) (bc rfl (bc rfl (bc (Zab.2 k2) (bc (i4.2 k5) (bc rfl b0))))) (qc (Zak k5) q0) c0 ?_
 rcases xq H with ⟨d7,H⟩|⟨d7,H⟩
 ·obtain ⟨x1,k8,H⟩:=H
  have i10:(decide (i.toNat < (List.map (vi) A).length)) = true ↔ (i.toNat < A.length):=(by (try rw [w3]);all_goals exact Zab)
  obtain ⟨k11,H⟩:=H
  have w12:wi (A.getD i.toNat default - 1) = A.getD i.toNat default - 1:=wI64 k11
  have i13:(decide (0 <= wi (A.getD i.toNat default - 1))) = true ↔ (0 <= A.getD i.toNat default - 1):=(by (try rw [w12]);all_goals exact Zab)
  obtain ⟨k14,H⟩:=H
  have i15:((wi (A.getD i.toNat default - 1)).toNat == 0) = true ↔ ((A.getD i.toNat default - 1).toNat = 0):=(by (try rw [w12]);all_goals exact i_eq)
  obtain ⟨k16,H⟩:=H
  exact ZaA (G:=Zaf kp35 [(2,10,.elem (vi (A.getD i.toNat default))),(2,13,.call (vf (List.map (vi) x1.1)) none)] []) 1000 [true] (k:=((atC (cd Try.f35) [1,0,1,0,1])).tail) (env':=[(4,vf (List.map (vi) x1.1))]) (L':=[⟨[ag [AV.vec fm 1 (List.map Iw.a T),AV.row 1 0,AV.row 2 0,AV.vnil]],4,0,false,false⟩,⟨List.map vb D,1,0,false,true⟩,⟨List.map (vi) A,1,0,false,true⟩]) (asm:=[(decide (A.getD i.toNat default > 0)) == true,true,true,true,decide (0 <= i),decide (i.toNat < (List.map (vi) A).length),true,decide (0 <= wi (A.getD i.toNat default - 1)),(wi (A.getD i.toNat default - 1)).toNat == 0,true,true,true]) (eqs:=[((List.map (vi) A).get?Internal i.toNat = some (vi (A.getD i.toNat default)))]) (calls:=[⟨true,false,51,[AV.vnil],[],vf (List.map (vi) x1.1),[]⟩]) (vf (List.map (vi) x1.1)) (by kernel_rfl) (by kernel_rfl) (Zaa (ZaK (Zab.2 d7)) (Zaa rfl (Zaa rfl (Zaa rfl (Zaa (Zab.2 k2) (Zaa (i10.2 k5) (Zaa rfl (Zaa (i13.2 k14) (Zaa (i15.2 k16) (Zaa rfl (Zaa rfl (Zaa rfl Zas)))))))))))) (Zao (Zak k5) ZaC) (ZbZ (fun _ => k8) ZaD) H
 ·have w18:(List.map vb D).length = D.length:=List.length_map ..
  have i19:(decide (i.toNat < (List.map vb D).length)) = true ↔ (i.toNat < D.length):=(by (try rw [w18]);all_goals exact Zab)
  obtain ⟨k20,H⟩:=H
  refine Zae (G:=Zaf kp35 [(3,6,.elem (vb (D.getD i.toNat default)))] []) 5 [false] ⟨(atC (cd Try.f35) [1,1,0,1]),[(0,AV.ptr 0 0 0 0),(1,vi i),(36,vb (D.getD i.toNat default))],[⟨[ag [AV.vec fm 1 (List.map Iw.a T),AV.row 1 0,AV.row 2 0,AV.vnil]],4,0,false,false⟩,⟨List.map vb D,1,0,false,true⟩,⟨List.map (vi) A,1,0,false,true⟩],_,[((List.map vb D).get?Internal i.toNat = some (vb (D.getD i.toNat default)))],_⟩ (by kernel_rfl) (bc (ZaI (fun h => d7 (Zab.1 h))) (bc rfl (bc rfl (bc (Zab.2 k2) (bc (i19.2 k20) (bc rfl b0)))))) (qc (Zak k20) q0) c0 ?_
  rcases xq H with ⟨d22,H⟩|⟨d22,H⟩
  ·exact ZaA (G:=Zaf kp35 [] []) 1000 [true] (k:=((atC (cd Try.f35) [1,1,0,1,0,1])).tail) (env':=[(4,AV.vnil)]) (L':=[⟨[ag [AV.vec fm 1 (List.map Iw.a T),AV.row 1 0,AV.row 2 0,AV.vnil]],4,0,false,false⟩,⟨List.map vb D,1,0,false,true⟩,⟨List.map (vi) A,1,0,false,true⟩]) (asm:=[(D.getD i.toNat default) == true]) (eqs:=[]) (calls:=[]) (AV.vnil) (by kernel_rfl) (by kernel_rfl) (Zaa (ZaK ((Zat _).2 d22)) Zas) ZaC ZaD H
  ·have i24:(decide (i.toNat < (List.map (vi) A).length)) = true ↔ (i.toNat < A.length):=(by (try rw [w3]);all_goals exact Zab)
   have w25:(List.map (vi) A).set i.toNat (vi 1) = List.map (vi) (A.set i.toNat 1):=(Zbg rfl rfl)
   have w27:(List.map Iw.a T).length = T.length:=List.length_map ..
   have i28:(decide (i.toNat < (List.map Iw.a T).length)) = true ↔ (i.toNat < T.length):=(by (try rw [w27]);all_goals exact Zab)
   obtain ⟨k29,H⟩:=H
   have w30:(List.map (vi) (T.getD i.toNat default).1).length = (T.getD i.toNat default).1.length:=List.length_map ..
   have w31:[vi i] = List.map (vi) [i]:=rfl
   exact Zae (G:=Zaf kp35 [(6,11,.elem (vi (A.getD i.toNat default))),(7,6,.elem (vf (List.map (vi) (T.getD i.toNat default).1)))] []) 1000 [false] ⟨(atC (cd Try.f35) [1,1,1,1,1,0,1,0,0]),[(0,AV.ptr 0 0 0 0),(1,vi i),(64,vf (List.map (vi) (T.getD i.toNat default).1)),(65,vi (↑(List.map (vi) (T.getD i.toNat default).1).length:Int)),(66,vi 0)],[⟨[ag [AV.vec fm 1 (List.map Iw.a T),AV.row 1 0,AV.row 2 0,AV.row 3 0]],4,0,false,false⟩,⟨List.map vb D,1,0,false,true⟩,⟨(List.map (vi) A).set i.toNat (vi 1),1,0,false,true⟩,⟨[vi i],1,0,false,true⟩],[(D.getD i.toNat default) == false,true,true,true,true,true,true,true,decide (0 <= i),decide (i.toNat < (List.map (vi) A).length),true,true,decide (0 <= i),decide (i.toNat < (List.map Iw.a T).length)],[((List.map (vi) A).get?Internal i.toNat = some (vi (A.getD i.toNat default))),((List.map Iw.a T).get?Internal i.toNat = some (vf (List.map (vi) (T.getD i.toNat default).1)))],_⟩ (by kernel_rfl) (bc (ZaI (fun h => d22 ((Zat _).1 h))) (bc rfl (bc rfl (bc rfl (bc rfl (bc rfl (bc rfl (bc rfl (bc (Zab.2 k2) (bc (i24.2 k5) (bc rfl (bc rfl (bc (Zab.2 k2) (bc (i28.2 k29) b0)))))))))))))) (qc (Zak k5) (qc (Zak k29) q0)) c0 (by (try rw [w25]);(try rw [w30]);(try rw [w31]);all_goals exact H)
noncomputable abbrev zPxO1 (X:List Int) (A:List Int) (i:Int):=List.take (X.length-(A.getD i.toNat default-1).toNat) (List.drop (A.getD i.toNat default-1).toNat X)
theorem vSr (fm:Bool) (T:List Iw) (D:List Bool) (A X:List Int) (v:Nat) (i:Int)  (Q:AV -> Heap -> Prop) (H :
  (0 <= i) /\
  (i.toNat < A.length) /\
  ((A.getD i.toNat default > 0) -> (-9223372036854775808 <= A.getD i.toNat default - 1 /\ A.getD i.toNat default - 1 <= 9223372036854775807) /\
   (Sp.one (List.take (X.length - (A.getD i.toNat default - 1).toNat) (List.drop (A.getD i.toNat default - 1).toNat X))) /\
   (0 <= A.getD i.toNat default - 1) /\
   ((A.getD i.toNat default - 1).toNat <= X.length) /\
   Q (vf (List.map (vi) (List.take (X.length - (A.getD i.toNat default - 1).toNat) (List.drop (A.getD i.toNat default - 1).toNat X)))) [{ elems:=[ag [AV.vec fm 1 (List.map Iw.a T),AV.row 1 0,AV.row 2 0,AV.row 3 v]],es:=4,ver:=0,frozen:=false,clean:=false },{ elems:=List.map vb D,es:=1,ver:=0,frozen:=false,clean:=true },{ elems:=List.map (vi) A,es:=1,ver:=0,frozen:=false,clean:=true },{ elems:=List.map (vi) X,es:=1,ver:=v,frozen:=true,clean:=true }]) /\
  (¬(A.getD i.toNat default > 0) -> (i.toNat < D.length) /\
   ((D.getD i.toNat default = true) -> Q (AV.vnil) [{ elems:=[ag [AV.vec fm 1 (List.map Iw.a T),AV.row 1 0,AV.row 2 0,AV.row 3 v]],es:=4,ver:=0,frozen:=false,clean:=false },{ elems:=List.map vb D,es:=1,ver:=0,frozen:=false,clean:=true },{ elems:=List.map (vi) A,es:=1,ver:=0,frozen:=false,clean:=true },{ elems:=List.map (vi) X,es:=1,ver:=v,frozen:=false,clean:=true }]) /\
   (¬(D.getD i.toNat default = true) -> ((X.length + 1) * 8 <= 1099511627776) /\
    (i.toNat < T.length) /\
    Zem (fm) (T) (D) (A.set i.toNat (↑(X ++ [i]).length:Int)) (X ++ [i]) (v + 1) (i) (false) ((T.getD i.toNat default).1) ((↑(T.getD i.toNat default).1.length:Int)) (0) Q))) :
 vSr_at fm T D A X v i Q:=by
 unfold vSr_at
 obtain ⟨k2,H⟩:=H
 have w3:(List.map (vi) A).length = A.length:=List.length_map ..
 have i4:(decide (i.toNat < (List.map (vi) A).length)) = true ↔ (i.toNat < A.length):=(by (try rw [w3]);all_goals exact Zab)
 obtain ⟨k5,H⟩:=H
 refine Zae (G:=Zaf kp35 [(1,6,.elem (vi (A.getD i.toNat default)))] []) 5 [] ⟨(atC (cd Try.f35) [1,0,1]),[(0,AV.ptr 0 0 0 0),(1,vi i),(15,vb (decide (A.getD i.toNat default > 0)))],[⟨[ag [AV.vec fm 1 (List.map Iw.a T),AV.row 1 0,AV.row 2 0,AV.row 3 v]],4,0,false,false⟩,⟨List.map vb D,1,0,false,true⟩,⟨List.map (vi) A,1,0,false,true⟩,⟨List.map (vi) X,1,v,false,true⟩],_,[((List.map (vi) A).get?Internal i.toNat = some (vi (A.getD i.toNat default)))],_⟩ (by kernel_rfl) (bc rfl (bc rfl (bc (Zab.2 k2) (bc (i4.2 k5) (bc rfl b0))))) (qc (Zak k5) q0) c0 ?_
 rcases xq H with ⟨d7,H⟩|⟨d7,H⟩
 ·obtain ⟨k8,H⟩:=H
  have w9:wi (A.getD i.toNat default - 1) = A.getD i.toNat default - 1:=wI64 k8
  have w10:List.drop (A.getD i.toNat default - 1).toNat (List.map (vi) X) = List.map (vi) (List.drop (A.getD i.toNat default - 1).toNat X):=(lm_drop rfl)
  have w11:(List.map (vi) X).length = X.length:=List.length_map ..
  have w12:List.take (X.length - (A.getD i.toNat default - 1).toNat) (List.map (vi) (List.drop (A.getD i.toNat default - 1).toNat X)) = List.map (vi) (zPxO1 X A i):=(lm_take rfl)
  obtain ⟨k13,H⟩:=H
  have i15:(decide (i.toNat < (List.map (vi) A).length)) = true ↔ (i.toNat < A.length):=(by (try rw [w3]);all_goals exact Zab)
  have i16:(decide (0 <= wi (A.getD i.toNat default - 1))) = true ↔ (0 <= A.getD i.toNat default - 1):=(by (try rw [w9]);all_goals exact Zab)
  obtain ⟨k17,H⟩:=H
  have i18:(decide ((wi (A.getD i.toNat default - 1)).toNat <= (List.map (vi) X).length)) = true ↔ ((A.getD i.toNat default - 1).toNat <= X.length):=(by (try rw [w9]);(try rw [w11]);all_goals exact Zab)
  obtain ⟨k19,H⟩:=H
  have i20:(decide ((List.map (vi) X).length <= (List.map (vi) X).length)) = true ↔ (X.length <= X.length):=(by (try rw [w11]);all_goals exact Zab)
  exact ZaA (G:=Zaf kp35 [(2,10,.elem (vi (A.getD i.toNat default))),(2,13,.call (vf (List.map (vi) (zPxO1 X A i))) none)] [(2,[13])]) 1000 [true] (k:=((atC (cd Try.f35) [1,0,1,0,1])).tail) (env':=[(4,vf (List.map (vi) (zPxO1 X A i)))]) (L':=[⟨[ag [AV.vec fm 1 (List.map Iw.a T),AV.row 1 0,AV.row 2 0,AV.row 3 v]],4,0,false,false⟩,⟨List.map vb D,1,0,false,true⟩,⟨List.map (vi) A,1,0,false,true⟩,⟨List.map (vi) X,1,v,true,true⟩]) (asm:=[(decide (A.getD i.toNat default > 0)) == true,true,true,true,decide (0 <= i),decide (i.toNat < (List.map (vi) A).length),true,v == v,decide (0 <= wi (A.getD i.toNat default - 1)),decide ((wi (A.getD i.toNat default - 1)).toNat <= (List.map (vi) X).length),decide ((List.map (vi) X).length <= (List.map (vi) X).length),v == v]) (eqs:=[((List.map (vi) A).get?Internal i.toNat = some (vi (A.getD i.toNat default)))]) (calls:=[⟨true,false,51,[vf (List.take ((List.map (vi) X).length - (wi (A.getD i.toNat default - 1)).toNat) (List.drop (wi (A.getD i.toNat default - 1)).toNat (List.map (vi) X)))],[],vf (List.map (vi) (zPxO1 X A i)),[]⟩]) (vf (List.map (vi) (zPxO1 X A i))) (by kernel_rfl) (by kernel_rfl) (Zaa (ZaK (Zab.2 d7)) (Zaa rfl (Zaa rfl (Zaa rfl (Zaa (Zab.2 k2) (Zaa (i15.2 k5) (Zaa rfl (Zaa (beq_self_eq_true _) (Zaa (i16.2 k17) (Zaa (i18.2 k19) (Zaa (i20.2 (by omega)) (Zaa (beq_self_eq_true _) Zas)))))))))))) (Zao (Zak k5) ZaC) (ZbZ (fun _ => (by (try rw [w9]);(try rw [w10]);(try rw [w11]);(try rw [w12]);all_goals exact (@ev51 (false) (zPxO1 X A i) k13))) ZaD) H
 ·have w22:(List.map vb D).length = D.length:=List.length_map ..
  have i23:(decide (i.toNat < (List.map vb D).length)) = true ↔ (i.toNat < D.length):=(by (try rw [w22]);all_goals exact Zab)
  obtain ⟨k24,H⟩:=H
  refine Zae (G:=Zaf kp35 [(3,6,.elem (vb (D.getD i.toNat default)))] []) 5 [false] ⟨(atC (cd Try.f35) [1,1,0,1]),[(0,AV.ptr 0 0 0 0),(1,vi i),(36,vb (D.getD i.toNat default))],[⟨[ag [AV.vec fm 1 (List.map Iw.a T),AV.row 1 0,AV.row 2 0,AV.row 3 v]],4,0,false,false⟩,⟨List.map vb D,1,0,false,true⟩,⟨List.map (vi) A,1,0,false,true⟩,⟨List.map (vi) X,1,v,false,true⟩],_,[((List.map vb D).get?Internal i.toNat = some (vb (D.getD i.toNat default)))],_⟩ (by kernel_rfl) (bc (ZaI (fun h => d7 (Zab.1 h))) (bc rfl (bc rfl (bc (Zab.2 k2) (bc (i23.2 k24) (bc rfl b0)))))) (qc (Zak k24) q0) c0 ?_
  rcases xq H with ⟨d26,H⟩|⟨d26,H⟩
  ·exact ZaA (G:=Zaf kp35 [] []) 1000 [true] (k:=((atC (cd Try.f35) [1,1,0,1,0,1])).tail) (env':=[(4,AV.vnil)]) (L':=[⟨[ag [AV.vec fm 1 (List.map Iw.a T),AV.row 1 0,AV.row 2 0,AV.row 3 v]],4,0,false,false⟩,⟨List.map vb D,1,0,false,true⟩,⟨List.map (vi) A,1,0,false,true⟩,⟨List.map (vi) X,1,v,false,true⟩]) (asm:=[(D.getD i.toNat default) == true]) (eqs:=[]) (calls:=[]) (AV.vnil) (by kernel_rfl) (by kernel_rfl) (Zaa (ZaK ((Zat _).2 d26)) Zas) ZaC ZaD H
  ·have w27:(List.map (vi) X).length = X.length:=List.length_map ..
   have i28:(decide (((List.map (vi) X).length + 1) * 8 <= 1099511627776)) = true ↔ ((X.length + 1) * 8 <= 1099511627776):=(by (try rw [w27]);all_goals exact Zab)
   obtain ⟨k29,H⟩:=H
   have w30:List.map (vi) X ++ [vi i] = List.map (vi) (X ++ [i]):=(Zfw rfl rfl)
   have i32:(decide (i.toNat < (List.map (vi) A).length)) = true ↔ (i.toNat < A.length):=(by (try rw [w3]);all_goals exact Zab)
   have w33:(List.map (vi) (X ++ [i])).length = (X ++ [i]).length:=List.length_map ..
   have w34:(List.map (vi) A).set i.toNat (vi (↑(X ++ [i]).length:Int)) = List.map (vi) (A.set i.toNat (↑(X ++ [i]).length:Int)):=(Zbg rfl rfl)
   have w36:(List.map Iw.a T).length = T.length:=List.length_map ..
   have i37:(decide (i.toNat < (List.map Iw.a T).length)) = true ↔ (i.toNat < T.length):=(by (try rw [w36]);all_goals exact Zab)
   obtain ⟨k38,H⟩:=H
   have w39:(List.map (vi) (T.getD i.toNat default).1).length = (T.getD i.toNat default).1.length:=List.length_map ..
   exact Zae (G:=Zaf kp35 [(6,11,.elem (vi (A.getD i.toNat default))),(7,6,.elem (vf (List.map (vi) (T.getD i.toNat default).1)))] []) 1000 [false] ⟨(atC (cd Try.f35) [1,1,1,1,1,0,1,0,0]),[(0,AV.ptr 0 0 0 0),(1,vi i),(64,vf (List.map (vi) (T.getD i.toNat default).1)),(65,vi (↑(List.map (vi) (T.getD i.toNat default).1).length:Int)),(66,vi 0)],[⟨[ag [AV.vec fm 1 (List.map Iw.a T),AV.row 1 0,AV.row 2 0,AV.row 3 (v + 1)]],4,0,false,false⟩,⟨List.map vb D,1,0,false,true⟩,⟨(List.map (vi) A).set i.toNat (vi (↑(List.map (vi) X ++ [vi i]).length:Int)),1,0,false,true⟩,⟨List.map (vi) X ++ [vi i],1,v + 1,false,true⟩],[(D.getD i.toNat default) == false,true,v == v,decide (((List.map (vi) X).length + 1) * 8 <= 1099511627776),true,true,true,v + 1 == v + 1,true,decide (0 <= i),decide (i.toNat < (List.map (vi) A).length),true,true,decide (0 <= i),decide (i.toNat < (List.map Iw.a T).length)],[((List.map (vi) A).get?Internal i.toNat = some (vi (A.getD i.toNat default))),((List.map Iw.a T).get?Internal i.toNat = some (vf (List.map (vi) (T.getD i.toNat default).1)))],_⟩ (by kernel_rfl) (bc (ZaI (fun h => d26 ((Zat _).1 h))) (bc rfl (bc (beq_self_eq_true _) (bc (i28.2 k29) (bc rfl (bc rfl (bc rfl (bc (beq_self_eq_true _) (bc rfl (bc (Zab.2 k2) (bc (i32.2 k5) (bc rfl (bc rfl (bc (Zab.2 k2) (bc (i37.2 k38) b0))))))))))))))) (qc (Zak k5) (qc (Zak k38) q0)) c0 (by (try rw [w30]);(try rw [w33]);(try rw [w34]);(try rw [w39]);all_goals exact H)
noncomputable abbrev zPxO2 (q:Nat) (A:List Int) (i:Int) (X:List Int):=List.take (q-(A.getD i.toNat default-1).toNat) (List.drop (0+(A.getD i.toNat default-1).toNat) X)
theorem vSf (fm:Bool) (T:List Iw) (D:List Bool) (A X:List Int) (v:Nat) (q:Nat) (i:Int)  (Q:AV -> Heap -> Prop) (H :
  (0 <= i) /\
  (i.toNat < A.length) /\
  ((A.getD i.toNat default > 0) -> (-9223372036854775808 <= A.getD i.toNat default - 1 /\ A.getD i.toNat default - 1 <= 9223372036854775807) /\
   (Sp.one (List.take (q - (A.getD i.toNat default - 1).toNat) (List.drop (0 + (A.getD i.toNat default - 1).toNat) X))) /\
   (0 <= A.getD i.toNat default - 1) /\
   ((A.getD i.toNat default - 1).toNat <= q) /\
   Q (vf (List.map (vi) (List.take (q - (A.getD i.toNat default - 1).toNat) (List.drop (0 + (A.getD i.toNat default - 1).toNat) X)))) [{ elems:=[ag [AV.vec fm 1 (List.map Iw.a T),AV.row 1 0,AV.row 2 0,AV.ref 3 v 0 q]],es:=4,ver:=0,frozen:=false,clean:=false },{ elems:=List.map vb D,es:=1,ver:=0,frozen:=false,clean:=true },{ elems:=List.map (vi) A,es:=1,ver:=0,frozen:=false,clean:=true },{ elems:=List.map (vi) X,es:=1,ver:=v,frozen:=true,clean:=true }]) /\
  (¬(A.getD i.toNat default > 0) -> (i.toNat < D.length) /\
   ((D.getD i.toNat default = true) -> Q (AV.vnil) [{ elems:=[ag [AV.vec fm 1 (List.map Iw.a T),AV.row 1 0,AV.row 2 0,AV.ref 3 v 0 q]],es:=4,ver:=0,frozen:=false,clean:=false },{ elems:=List.map vb D,es:=1,ver:=0,frozen:=false,clean:=true },{ elems:=List.map (vi) A,es:=1,ver:=0,frozen:=false,clean:=true },{ elems:=List.map (vi) X,es:=1,ver:=v,frozen:=false,clean:=true }]) /\
   (¬(D.getD i.toNat default = true) -> ((q + 1) * 8 <= 1099511627776) /\
    (i.toNat < T.length) /\
    Zem (fm) (T) (D) (A.set i.toNat (↑(List.take q (List.drop 0 X) ++ [i]).length:Int)) (List.take q (List.drop 0 X) ++ [i]) (v + 1) (i) (false) ((T.getD i.toNat default).1) ((↑(T.getD i.toNat default).1.length:Int)) (0) Q))) :
 vSf_at fm T D A X v q i Q:=by
 unfold vSf_at
 obtain ⟨k2,H⟩:=H
 have w3:(List.map (vi) A).length = A.length:=List.length_map ..
 have i4:(decide (i.toNat < (List.map (vi) A).length)) = true ↔ (i.toNat < A.length):=(by (try rw [w3]);all_goals exact Zab)
 obtain ⟨k5,H⟩:=H
 refine Zae (G:=Zaf kp35 [(1,6,.elem (vi (A.getD i.toNat default)))] []) 5 [] ⟨(atC (cd Try.f35) [1,0,1]),[(0,AV.ptr 0 0 0 0),(1,vi i),(15,vb (decide (A.getD i.toNat default > 0)))],[⟨[ag [AV.vec fm 1 (List.map Iw.a T),AV.row 1 0,AV.row 2 0,AV.ref 3 v 0 q]],4,0,false,false⟩,⟨List.map vb D,1,0,false,true⟩,⟨List.map (vi) A,1,0,false,true⟩,⟨List.map (vi) X,1,v,false,true⟩],_,[((List.map (vi) A).get?Internal i.toNat = some (vi (A.getD i.toNat default)))],_⟩ (by kernel_rfl) (bc rfl (bc rfl (bc (Zab.2 k2) (bc (i4.2 k5) (bc rfl b0))))) (qc (Zak k5) q0) c0 ?_
 rcases xq H with ⟨d7,H⟩|⟨d7,H⟩
 ·obtain ⟨k8,H⟩:=H
  have w9:wi (A.getD i.toNat default - 1) = A.getD i.toNat default - 1:=wI64 k8
  have w10:List.drop (0 + (A.getD i.toNat default - 1).toNat) (List.map (vi) X) = List.map (vi) (List.drop (0 + (A.getD i.toNat default - 1).toNat) X):=(lm_drop rfl)
  have w11:List.take (q - (A.getD i.toNat default - 1).toNat) (List.map (vi) (List.drop (0 + (A.getD i.toNat default - 1).toNat) X)) = List.map (vi) (zPxO2 q A i X):=(lm_take rfl)
  obtain ⟨k12,H⟩:=H
  have i14:(decide (i.toNat < (List.map (vi) A).length)) = true ↔ (i.toNat < A.length):=(by (try rw [w3]);all_goals exact Zab)
  have i15:(decide (0 <= wi (A.getD i.toNat default - 1))) = true ↔ (0 <= A.getD i.toNat default - 1):=(by (try rw [w9]);all_goals exact Zab)
  obtain ⟨k16,H⟩:=H
  have i17:(decide ((wi (A.getD i.toNat default - 1)).toNat <= q)) = true ↔ ((A.getD i.toNat default - 1).toNat <= q):=(by (try rw [w9]);all_goals exact Zab)
  obtain ⟨k18,H⟩:=H
  exact ZaA (G:=Zaf kp35 [(2,10,.elem (vi (A.getD i.toNat default))),(2,13,.call (vf (List.map (vi) (zPxO2 q A i X))) none)] [(2,[13])]) 1000 [true] (k:=((atC (cd Try.f35) [1,0,1,0,1])).tail) (env':=[(4,vf (List.map (vi) (zPxO2 q A i X)))]) (L':=[⟨[ag [AV.vec fm 1 (List.map Iw.a T),AV.row 1 0,AV.row 2 0,AV.ref 3 v 0 q]],4,0,false,false⟩,⟨List.map vb D,1,0,false,true⟩,⟨List.map (vi) A,1,0,false,true⟩,⟨List.map (vi) X,1,v,true,true⟩]) (asm:=[(decide (A.getD i.toNat default > 0)) == true,true,true,true,decide (0 <= i),decide (i.toNat < (List.map (vi) A).length),true,v == v,decide (0 <= wi (A.getD i.toNat default - 1)),decide ((wi (A.getD i.toNat default - 1)).toNat <= q),decide (q <= q),v == v]) (eqs:=[((List.map (vi) A).get?Internal i.toNat = some (vi (A.getD i.toNat default)))]) (calls:=[⟨true,false,51,[vf (List.take (q - (wi (A.getD i.toNat default - 1)).toNat) (List.drop (0 + (wi (A.getD i.toNat default - 1)).toNat) (List.map (vi) X)))],[],vf (List.map (vi) (zPxO2 q A i X)),[]⟩]) (vf (List.map (vi) (zPxO2 q A i X))) (by kernel_rfl) (by kernel_rfl) (Zaa (ZaK (Zab.2 d7)) (Zaa rfl (Zaa rfl (Zaa rfl (Zaa (Zab.2 k2) (Zaa (i14.2 k5) (Zaa rfl (Zaa (beq_self_eq_true _) (Zaa (i15.2 k16) (Zaa (i17.2 k18) (Zaa (Zab.2 (by omega)) (Zaa (beq_self_eq_true _) Zas)))))))))))) (Zao (Zak k5) ZaC) (ZbZ (fun _ => (by (try rw [w9]);(try rw [w10]);(try rw [w11]);all_goals exact (@ev51 (false) (zPxO2 q A i X) k12))) ZaD) H
 ·have w21:(List.map vb D).length = D.length:=List.length_map ..
  have i22:(decide (i.toNat < (List.map vb D).length)) = true ↔ (i.toNat < D.length):=(by (try rw [w21]);all_goals exact Zab)
  obtain ⟨k23,H⟩:=H
  refine Zae (G:=Zaf kp35 [(3,6,.elem (vb (D.getD i.toNat default)))] []) 5 [false] ⟨(atC (cd Try.f35) [1,1,0,1]),[(0,AV.ptr 0 0 0 0),(1,vi i),(36,vb (D.getD i.toNat default))],[⟨[ag [AV.vec fm 1 (List.map Iw.a T),AV.row 1 0,AV.row 2 0,AV.ref 3 v 0 q]],4,0,false,false⟩,⟨List.map vb D,1,0,false,true⟩,⟨List.map (vi) A,1,0,false,true⟩,⟨List.map (vi) X,1,v,false,true⟩],_,[((List.map vb D).get?Internal i.toNat = some (vb (D.getD i.toNat default)))],_⟩ (by kernel_rfl) (bc (ZaI (fun h => d7 (Zab.1 h))) (bc rfl (bc rfl (bc (Zab.2 k2) (bc (i22.2 k23) (bc rfl b0)))))) (qc (Zak k23) q0) c0 ?_
  rcases xq H with ⟨d25,H⟩|⟨d25,H⟩
  ·exact ZaA (G:=Zaf kp35 [] []) 1000 [true] (k:=((atC (cd Try.f35) [1,1,0,1,0,1])).tail) (env':=[(4,AV.vnil)]) (L':=[⟨[ag [AV.vec fm 1 (List.map Iw.a T),AV.row 1 0,AV.row 2 0,AV.ref 3 v 0 q]],4,0,false,false⟩,⟨List.map vb D,1,0,false,true⟩,⟨List.map (vi) A,1,0,false,true⟩,⟨List.map (vi) X,1,v,false,true⟩]) (asm:=[(D.getD i.toNat default) == true]) (eqs:=[]) (calls:=[]) (AV.vnil) (by kernel_rfl) (by kernel_rfl) (Zaa (ZaK ((Zat _).2 d25)) Zas) ZaC ZaD H
  ·obtain ⟨k27,H⟩:=H
   have w28:List.drop 0 (List.map (vi) X) = List.map (vi) (List.drop 0 X):=(lm_drop rfl)
   have w29:List.take q (List.map (vi) (List.drop 0 X)) = List.map (vi) (List.take q (List.drop 0 X)):=(lm_take rfl)
   have w30:List.map (vi) (List.take q (List.drop 0 X)) ++ [vi i] = List.map (vi) (List.take q (List.drop 0 X) ++ [i]):=(Zfw rfl rfl)
   have i32:(decide (i.toNat < (List.map (vi) A).length)) = true ↔ (i.toNat < A.length):=(by (try rw [w3]);all_goals exact Zab)
   have w33:(List.map (vi) (List.take q (List.drop 0 X) ++ [i])).length = (List.take q (List.drop 0 X) ++ [i]).length:=List.length_map ..
   have w34:(List.map (vi) A).set i.toNat (vi (↑(List.take q (List.drop 0 X) ++ [i]).length:Int)) = List.map (vi) (A.set i.toNat (↑(List.take q (List.drop 0 X) ++ [i]).length:Int)):=(Zbg rfl rfl)
   have w36:(List.map Iw.a T).length = T.length:=List.length_map ..
   have i37:(decide (i.toNat < (List.map Iw.a T).length)) = true ↔ (i.toNat < T.length):=(by (try rw [w36]);all_goals exact Zab)
   obtain ⟨k38,H⟩:=H
   have w39:(List.map (vi) (T.getD i.toNat default).1).length = (T.getD i.toNat default).1.length:=List.length_map ..
   exact Zae (G:=Zaf kp35 [(6,11,.elem (vi (A.getD i.toNat default))),(7,6,.elem (vf (List.map (vi) (T.getD i.toNat default).1)))] []) 1000 [false] ⟨(atC (cd Try.f35) [1,1,1,1,1,0,1,0,0]),[(0,AV.ptr 0 0 0 0),(1,vi i),(64,vf (List.map (vi) (T.getD i.toNat default).1)),(65,vi (↑(List.map (vi) (T.getD i.toNat default).1).length:Int)),(66,vi 0)],[⟨[ag [AV.vec fm 1 (List.map Iw.a T),AV.row 1 0,AV.row 2 0,AV.row 3 (v + 1)]],4,0,false,false⟩,⟨List.map vb D,1,0,false,true⟩,⟨(List.map (vi) A).set i.toNat (vi (↑(List.take q (List.drop 0 (List.map (vi) X)) ++ [vi i]).length:Int)),1,0,false,true⟩,⟨List.take q (List.drop 0 (List.map (vi) X)) ++ [vi i],1,v + 1,false,true⟩],[(D.getD i.toNat default) == false,true,v == v,decide ((q + 1) * 8 <= 1099511627776),true,true,true,v + 1 == v + 1,true,decide (0 <= i),decide (i.toNat < (List.map (vi) A).length),true,true,decide (0 <= i),decide (i.toNat < (List.map Iw.a T).length)],[((List.map (vi) A).get?Internal i.toNat = some (vi (A.getD i.toNat default))),((List.map Iw.a T).get?Internal i.toNat = some (vf (List.map (vi) (T.getD i.toNat default).1)))],_⟩ (by kernel_rfl) (bc (ZaI (fun h => d25 ((Zat _).1 h))) (bc rfl (bc (beq_self_eq_true _) (bc (Zab.2 k27) (bc rfl (bc rfl (bc rfl (bc (beq_self_eq_true _) (bc rfl (bc (Zab.2 k2) (bc (i32.2 k5) (bc rfl (bc rfl (bc (Zab.2 k2) (bc (i37.2 k38) b0))))))))))))))) (qc (Zak k5) (qc (Zak k38) q0)) c0 (by (try rw [w28]);(try rw [w29]);(try rw [w30]);(try rw [w33]);(try rw [w34]);(try rw [w39]);all_goals exact H)
theorem vRr (fm:Bool) (T:List Iw) (D:List Bool) (A X:List Int) (v:Nat) (i:Int) (g:Bool) (l:List Int) (m j:Int) (D':List Bool) (X':List Int) (v':Nat) (Q:AV -> Heap -> Prop) (H :
  ((j < m) -> (0 <= j) /\
   (j.toNat < l.length) /\
   (Ev M1 (Conf.own 35 [AV.ptr 0 0 0 0,vi (l.getD j.toNat default)] [{ elems:=[ag [AV.vec fm 1 (List.map Iw.a T),AV.row 1 0,AV.row 2 0,AV.row 3 v]],es:=4,ver:=0,frozen:=false,clean:=false },{ elems:=List.map vb D,es:=1,ver:=0,frozen:=false,clean:=true },{ elems:=List.map (vi) A,es:=1,ver:=0,frozen:=false,clean:=true },{ elems:=List.map (vi) X,es:=1,ver:=v,frozen:=false,clean:=true }]) AV.vnil [{ elems:=[ag [AV.vec fm 1 (List.map Iw.a T),AV.row 1 0,AV.row 2 0,AV.row 3 v']],es:=4,ver:=0,frozen:=false,clean:=false },{ elems:=List.map vb D',es:=1,ver:=0,frozen:=false,clean:=true },{ elems:=List.map (vi) A,es:=1,ver:=0,frozen:=false,clean:=true },{ elems:=List.map (vi) X',es:=1,ver:=v',frozen:=false,clean:=true }]) /\
   (-9223372036854775808 <= j + 1 /\ j + 1 <= 9223372036854775807) /\
   Zem (fm) (T) (D') (A) (X') (v') (i) (g) (l) (m) (j + 1) Q) /\
  (¬(j < m) -> (-9223372036854775808 <= (↑X.length:Int) - 1 /\ (↑X.length:Int) - 1 <= 9223372036854775807) /\
   (0 <= (↑X.length:Int) - 1) /\
   (0 <= ((↑X.length:Int) - 1).toNat) /\
   (((↑X.length:Int) - 1).toNat <= X.length) /\
   (0 <= i) /\
   (i.toNat < A.length) /\
   (i.toNat < D.length) /\
   Q (AV.vnil) [{ elems:=[ag [AV.vec fm 1 (List.map Iw.a T),AV.row 1 0,AV.row 2 0,AV.ref 3 v 0 (((↑X.length:Int) - 1).toNat - 0)]],es:=4,ver:=0,frozen:=false,clean:=false },{ elems:=List.map vb (D.set i.toNat true),es:=1,ver:=0,frozen:=false,clean:=true },{ elems:=List.map (vi) (A.set i.toNat 0),es:=1,ver:=0,frozen:=false,clean:=true },{ elems:=List.map (vi) X,es:=1,ver:=v,frozen:=false,clean:=true }])) :
 Zem fm T D A X v i g l m j Q:=by
 unfold Zem
 rcases xq H with ⟨d2,H⟩|⟨d2,H⟩
 ·obtain ⟨k4,H⟩:=H
  have w5:(List.map (vi) l).length = l.length:=List.length_map ..
  have i6:(decide (j.toNat < (List.map (vi) l).length)) = true ↔ (j.toNat < l.length):=(by (try rw [w5]);all_goals exact Zab)
  obtain ⟨k7,k8,k9,H⟩:=H
  have w10:wi (j + 1) = j + 1:=wI64 k9
  exact Zae (G:=Zaf kp35 [(9,1,.elem (vi (l.getD j.toNat default))),(10,2,(.call .vnil (some [⟨[.agg [.vec fm 1 (T.map Iw.a),.row 1 0,.row 2 0,.row 3 v']],4,0,false,false⟩,⟨D'.map (.bool),1,0,false,true⟩,⟨A.map (.int .i64),1,0,false,true⟩,⟨X'.map (.int .i64),1,v',false,true⟩]):Ans))] []) 1000 [true,false] ⟨(atC (cd Try.f35) [1,1,1,1,1,0,1,0,0]),[(0,AV.ptr 0 0 0 0),(1,vi i),(64,AV.vec g 1 (List.map (vi) l)),(65,vi m),(66,vi (wi (j + 1)))],[⟨[ag [AV.vec fm 1 (List.map Iw.a T),AV.row 1 0,AV.row 2 0,AV.row 3 v']],4,0,false,false⟩,⟨List.map vb D',1,0,false,true⟩,⟨List.map (vi) A,1,0,false,true⟩,⟨List.map (vi) X',1,v',false,true⟩],_,[((List.map (vi) l).get?Internal j.toNat = some (vi (l.getD j.toNat default)))],[⟨true,true,35,[AV.ptr 0 0 0 0,vi (l.getD j.toNat default)],[⟨[ag [AV.vec fm 1 (List.map Iw.a T),AV.row 1 0,AV.row 2 0,AV.row 3 v]],4,0,false,false⟩,⟨List.map vb D,1,0,false,true⟩,⟨List.map (vi) A,1,0,false,true⟩,⟨List.map (vi) X,1,v,false,true⟩],AV.vnil,[⟨[ag [AV.vec fm 1 (List.map Iw.a T),AV.row 1 0,AV.row 2 0,AV.row 3 v']],4,0,false,false⟩,⟨List.map vb D',1,0,false,true⟩,⟨List.map (vi) A,1,0,false,true⟩,⟨List.map (vi) X',1,v',false,true⟩]⟩]⟩ (by kernel_rfl) (bc (ZaK (Zab.2 d2)) (bc (Zab.2 k4) (bc (i6.2 k7) (bc rfl b0)))) (qc (Zak k7) q0) (cc (fun _ => k8) c0) (by (try rw [w10]);all_goals exact H)
 ·have w11:(List.map (vi) X).length = X.length:=List.length_map ..
  obtain ⟨k12,H⟩:=H
  have w13:wi ((↑X.length:Int) - 1) = (↑X.length:Int) - 1:=wI64 k12
  have i14:(decide (0 <= wi ((↑(List.map (vi) X).length:Int) - 1))) = true ↔ (0 <= (↑X.length:Int) - 1):=(by (try rw [w11]);(try rw [w13]);all_goals exact Zab)
  obtain ⟨k15,H⟩:=H
  have i16:(decide (0 <= (wi ((↑(List.map (vi) X).length:Int) - 1)).toNat)) = true ↔ (0 <= ((↑X.length:Int) - 1).toNat):=(by (try rw [w11]);(try rw [w13]);all_goals exact Zab)
  obtain ⟨k17,H⟩:=H
  have i18:(decide ((wi ((↑(List.map (vi) X).length:Int) - 1)).toNat <= (List.map (vi) X).length)) = true ↔ (((↑X.length:Int) - 1).toNat <= X.length):=(by (try rw [w11]);(try rw [w13]);all_goals exact Zab)
  obtain ⟨k19,k21,H⟩:=H
  have w22:(List.map (vi) A).length = A.length:=List.length_map ..
  have i23:(decide (i.toNat < (List.map (vi) A).length)) = true ↔ (i.toNat < A.length):=(by (try rw [w22]);all_goals exact Zab)
  obtain ⟨k24,H⟩:=H
  have w26:(List.map vb D).length = D.length:=List.length_map ..
  have i27:(decide (i.toNat < (List.map vb D).length)) = true ↔ (i.toNat < D.length):=(by (try rw [w26]);all_goals exact Zab)
  obtain ⟨k28,H⟩:=H
  have w29:(List.map vb D).set i.toNat (vb true) = List.map vb (D.set i.toNat true):=(Zbg rfl rfl)
  have w30:(List.map (vi) A).set i.toNat (vi 0) = List.map (vi) (A.set i.toNat 0):=(Zbg rfl rfl)
  exact ZaA (G:=Zaf kp35 [(14,26,.elem (vi (A.getD i.toNat default))),(14,28,.elem (vb (D.getD i.toNat default)))] []) 1000 [false] (k:=((atC (cd Try.f35) [1,1,1,1,1,1,1,1])).tail) (env':=[(4,AV.vnil)]) (L':=[⟨[ag [AV.vec fm 1 (List.map Iw.a T),AV.row 1 0,AV.row 2 0,AV.ref 3 v 0 ((wi ((↑(List.map (vi) X).length:Int) - 1)).toNat - 0)]],4,0,false,false⟩,⟨(List.map vb D).set i.toNat (vb true),1,0,false,true⟩,⟨(List.map (vi) A).set i.toNat (vi 0),1,0,false,true⟩,⟨List.map (vi) X,1,v,false,true⟩]) (asm:=[(decide (j < m)) == false,true,true,true,true,v == v,v == v,decide (0 <= wi ((↑(List.map (vi) X).length:Int) - 1)),decide (0 <= (wi ((↑(List.map (vi) X).length:Int) - 1)).toNat),decide ((wi ((↑(List.map (vi) X).length:Int) - 1)).toNat <= (List.map (vi) X).length),true,true,decide (0 <= i),decide (i.toNat < (List.map (vi) A).length),true,true,decide (0 <= i),decide (i.toNat < (List.map vb D).length),true]) (eqs:=[((List.map (vi) A).get?Internal i.toNat = some (vi (A.getD i.toNat default))),((List.map vb D).get?Internal i.toNat = some (vb (D.getD i.toNat default)))]) (calls:=[]) (AV.vnil) (by kernel_rfl) (by kernel_rfl) (Zaa (ZaI (fun h => d2 (Zab.1 h))) (Zaa rfl (Zaa rfl (Zaa rfl (Zaa rfl (Zaa (beq_self_eq_true _) (Zaa (beq_self_eq_true _) (Zaa (i14.2 k15) (Zaa (i16.2 k17) (Zaa (i18.2 k19) (Zaa rfl (Zaa rfl (Zaa (Zab.2 k21) (Zaa (i23.2 k24) (Zaa rfl (Zaa rfl (Zaa (Zab.2 k21) (Zaa (i27.2 k28) (Zaa rfl Zas))))))))))))))))))) (Zao (Zak k24) (Zao (Zak k28) ZaC)) ZaD (by (try rw [w11]);(try rw [w13]);(try rw [w29]);(try rw [w30]);all_goals exact H)
theorem vRf (fm:Bool) (T:List Iw) (D:List Bool) (A X:List Int) (v:Nat) (i:Int) (g:Bool) (l:List Int) (m j:Int) (D':List Bool) (X':List Int) (v' q':Nat) (Q:AV -> Heap -> Prop) (H :
  ((j < m) -> (0 <= j) /\
   (j.toNat < l.length) /\
   (Ev M1 (Conf.own 35 [AV.ptr 0 0 0 0,vi (l.getD j.toNat default)] [{ elems:=[ag [AV.vec fm 1 (List.map Iw.a T),AV.row 1 0,AV.row 2 0,AV.row 3 v]],es:=4,ver:=0,frozen:=false,clean:=false },{ elems:=List.map vb D,es:=1,ver:=0,frozen:=false,clean:=true },{ elems:=List.map (vi) A,es:=1,ver:=0,frozen:=false,clean:=true },{ elems:=List.map (vi) X,es:=1,ver:=v,frozen:=false,clean:=true }]) AV.vnil [{ elems:=[ag [AV.vec fm 1 (List.map Iw.a T),AV.row 1 0,AV.row 2 0,AV.ref 3 v' 0 q']],es:=4,ver:=0,frozen:=false,clean:=false },{ elems:=List.map vb D',es:=1,ver:=0,frozen:=false,clean:=true },{ elems:=List.map (vi) A,es:=1,ver:=0,frozen:=false,clean:=true },{ elems:=List.map (vi) X',es:=1,ver:=v',frozen:=false,clean:=true }]) /\
   (-9223372036854775808 <= j + 1 /\ j + 1 <= 9223372036854775807) /\
   vFf_at (fm) (T) (D') (A) (X') (v') (q') (i) (g) (l) (m) (j + 1) Q) /\
  (¬(j < m) -> (-9223372036854775808 <= (↑X.length:Int) - 1 /\ (↑X.length:Int) - 1 <= 9223372036854775807) /\
   (0 <= (↑X.length:Int) - 1) /\
   (0 <= ((↑X.length:Int) - 1).toNat) /\
   (((↑X.length:Int) - 1).toNat <= X.length) /\
   (0 <= i) /\
   (i.toNat < A.length) /\
   (i.toNat < D.length) /\
   Q (AV.vnil) [{ elems:=[ag [AV.vec fm 1 (List.map Iw.a T),AV.row 1 0,AV.row 2 0,AV.ref 3 v 0 (((↑X.length:Int) - 1).toNat - 0)]],es:=4,ver:=0,frozen:=false,clean:=false },{ elems:=List.map vb (D.set i.toNat true),es:=1,ver:=0,frozen:=false,clean:=true },{ elems:=List.map (vi) (A.set i.toNat 0),es:=1,ver:=0,frozen:=false,clean:=true },{ elems:=List.map (vi) X,es:=1,ver:=v,frozen:=false,clean:=true }])) :
 vRf_at fm T D A X v i g l m j Q:=by
 unfold vRf_at
 rcases xq H with ⟨d2,H⟩|⟨d2,H⟩
 ·obtain ⟨k4,H⟩:=H
  have w5:(List.map (vi) l).length = l.length:=List.length_map ..
  have i6:(decide (j.toNat < (List.map (vi) l).length)) = true ↔ (j.toNat < l.length):=(by (try rw [w5]);all_goals exact Zab)
  obtain ⟨k7,k8,k9,H⟩:=H
  have w10:wi (j + 1) = j + 1:=wI64 k9
  exact Zae (G:=Zaf kp35 [(9,1,.elem (vi (l.getD j.toNat default))),(10,2,(.call .vnil (some [⟨[.agg [.vec fm 1 (T.map Iw.a),.row 1 0,.row 2 0,.ref 3 v' 0 q']],4,0,false,false⟩,⟨D'.map (.bool),1,0,false,true⟩,⟨A.map (.int .i64),1,0,false,true⟩,⟨X'.map (.int .i64),1,v',false,true⟩]):Ans))] []) 1000 [true,false] ⟨(atC (cd Try.f35) [1,1,1,1,1,0,1,0,0]),[(0,AV.ptr 0 0 0 0),(1,vi i),(64,AV.vec g 1 (List.map (vi) l)),(65,vi m),(66,vi (wi (j + 1)))],[⟨[ag [AV.vec fm 1 (List.map Iw.a T),AV.row 1 0,AV.row 2 0,AV.ref 3 v' 0 q']],4,0,false,false⟩,⟨List.map vb D',1,0,false,true⟩,⟨List.map (vi) A,1,0,false,true⟩,⟨List.map (vi) X',1,v',false,true⟩],_,[((List.map (vi) l).get?Internal j.toNat = some (vi (l.getD j.toNat default)))],[⟨true,true,35,[AV.ptr 0 0 0 0,vi (l.getD j.toNat default)],[⟨[ag [AV.vec fm 1 (List.map Iw.a T),AV.row 1 0,AV.row 2 0,AV.row 3 v]],4,0,false,false⟩,⟨List.map vb D,1,0,false,true⟩,⟨List.map (vi) A,1,0,false,true⟩,⟨List.map (vi) X,1,v,false,true⟩],AV.vnil,[⟨[ag [AV.vec fm 1 (List.map Iw.a T),AV.row 1 0,AV.row 2 0,AV.ref 3 v' 0 q']],4,0,false,false⟩,⟨List.map vb D',1,0,false,true⟩,⟨List.map (vi) A,1,0,false,true⟩,⟨List.map (vi) X',1,v',false,true⟩]⟩]⟩ (by kernel_rfl) (bc (ZaK (Zab.2 d2)) (bc (Zab.2 k4) (bc (i6.2 k7) (bc rfl b0)))) (qc (Zak k7) q0) (cc (fun _ => k8) c0) (by (try rw [w10]);all_goals exact H)
 ·have w11:(List.map (vi) X).length = X.length:=List.length_map ..
  obtain ⟨k12,H⟩:=H
  have w13:wi ((↑X.length:Int) - 1) = (↑X.length:Int) - 1:=wI64 k12
  have i14:(decide (0 <= wi ((↑(List.map (vi) X).length:Int) - 1))) = true ↔ (0 <= (↑X.length:Int) - 1):=(by (try rw [w11]);(try rw [w13]);all_goals exact Zab)
  obtain ⟨k15,H⟩:=H
  have i16:(decide (0 <= (wi ((↑(List.map (vi) X).length:Int) - 1)).toNat)) = true ↔ (0 <= ((↑X.length:Int) - 1).toNat):=(by (try rw [w11]);(try rw [w13]);all_goals exact Zab)
  obtain ⟨k17,H⟩:=H
  have i18:(decide ((wi ((↑(List.map (vi) X).length:Int) - 1)).toNat <= (List.map (vi) X).length)) = true ↔ (((↑X.length:Int) - 1).toNat <= X.length):=(by (try rw [w11]);(try rw [w13]);all_goals exact Zab)
  obtain ⟨k19,k21,H⟩:=H
  have w22:(List.map (vi) A).length = A.length:=List.length_map ..
  have i23:(decide (i.toNat < (List.map (vi) A).length)) = true ↔ (i.toNat < A.length):=(by (try rw [w22]);all_goals exact Zab)
  obtain ⟨k24,H⟩:=H
  have w26:(List.map vb D).length = D.length:=List.length_map ..
  have i27:(decide (i.toNat < (List.map vb D).length)) = true ↔ (i.toNat < D.length):=(by (try rw [w26]);all_goals exact Zab)
  obtain ⟨k28,H⟩:=H
  have w29:(List.map vb D).set i.toNat (vb true) = List.map vb (D.set i.toNat true):=(Zbg rfl rfl)
  have w30:(List.map (vi) A).set i.toNat (vi 0) = List.map (vi) (A.set i.toNat 0):=(Zbg rfl rfl)
  exact ZaA (G:=Zaf kp35 [(14,26,.elem (vi (A.getD i.toNat default))),(14,28,.elem (vb (D.getD i.toNat default)))] []) 1000 [false] (k:=((atC (cd Try.f35) [1,1,1,1,1,1,1,1])).tail) (env':=[(4,AV.vnil)]) (L':=[⟨[ag [AV.vec fm 1 (List.map Iw.a T),AV.row 1 0,AV.row 2 0,AV.ref 3 v 0 ((wi ((↑(List.map (vi) X).length:Int) - 1)).toNat - 0)]],4,0,false,false⟩,⟨(List.map vb D).set i.toNat (vb true),1,0,false,true⟩,⟨(List.map (vi) A).set i.toNat (vi 0),1,0,false,true⟩,⟨List.map (vi) X,1,v,false,true⟩]) (asm:=[(decide (j < m)) == false,true,true,true,true,v == v,v == v,decide (0 <= wi ((↑(List.map (vi) X).length:Int) - 1)),decide (0 <= (wi ((↑(List.map (vi) X).length:Int) - 1)).toNat),decide ((wi ((↑(List.map (vi) X).length:Int) - 1)).toNat <= (List.map (vi) X).length),true,true,decide (0 <= i),decide (i.toNat < (List.map (vi) A).length),true,true,decide (0 <= i),decide (i.toNat < (List.map vb D).length),true]) (eqs:=[((List.map (vi) A).get?Internal i.toNat = some (vi (A.getD i.toNat default))),((List.map vb D).get?Internal i.toNat = some (vb (D.getD i.toNat default)))]) (calls:=[]) (AV.vnil) (by kernel_rfl) (by kernel_rfl) (Zaa (ZaI (fun h => d2 (Zab.1 h))) (Zaa rfl (Zaa rfl (Zaa rfl (Zaa rfl (Zaa (beq_self_eq_true _) (Zaa (beq_self_eq_true _) (Zaa (i14.2 k15) (Zaa (i16.2 k17) (Zaa (i18.2 k19) (Zaa rfl (Zaa rfl (Zaa (Zab.2 k21) (Zaa (i23.2 k24) (Zaa rfl (Zaa rfl (Zaa (Zab.2 k21) (Zaa (i27.2 k28) (Zaa rfl Zas))))))))))))))))))) (Zao (Zak k24) (Zao (Zak k28) ZaC)) ZaD (by (try rw [w11]);(try rw [w13]);(try rw [w29]);(try rw [w30]);all_goals exact H)
theorem vRc (fm:Bool) (T:List Iw) (D:List Bool) (A X:List Int) (v:Nat) (i:Int) (g:Bool) (l:List Int) (m j:Int) (D':List Bool) (A' X':List Int) (v':Nat) (fz:Bool) (c:Int) (cs:List Int) (Q:AV -> Heap -> Prop) (H :
  ((j < m) -> (0 <= j) /\
   (j.toNat < l.length) /\
   (Ev M1 (Conf.own 35 [AV.ptr 0 0 0 0,vi (l.getD j.toNat default)] [{ elems:=[ag [AV.vec fm 1 (List.map Iw.a T),AV.row 1 0,AV.row 2 0,AV.row 3 v]],es:=4,ver:=0,frozen:=false,clean:=false },{ elems:=List.map vb D,es:=1,ver:=0,frozen:=false,clean:=true },{ elems:=List.map (vi) A,es:=1,ver:=0,frozen:=false,clean:=true },{ elems:=List.map (vi) X,es:=1,ver:=v,frozen:=false,clean:=true }]) (vf (vi c :: List.map (vi) cs)) [{ elems:=[ag [AV.vec fm 1 (List.map Iw.a T),AV.row 1 0,AV.row 2 0,AV.row 3 v']],es:=4,ver:=0,frozen:=false,clean:=false },{ elems:=List.map vb D',es:=1,ver:=0,frozen:=false,clean:=true },{ elems:=List.map (vi) A',es:=1,ver:=0,frozen:=false,clean:=true },{ elems:=List.map (vi) X',es:=1,ver:=v',frozen:=fz,clean:=true }]) /\
   Q (vf (vi c :: List.map (vi) cs)) [{ elems:=[ag [AV.vec fm 1 (List.map Iw.a T),AV.row 1 0,AV.row 2 0,AV.row 3 v']],es:=4,ver:=0,frozen:=false,clean:=false },{ elems:=List.map vb D',es:=1,ver:=0,frozen:=false,clean:=true },{ elems:=List.map (vi) A',es:=1,ver:=0,frozen:=false,clean:=true },{ elems:=List.map (vi) X',es:=1,ver:=v',frozen:=fz,clean:=true }]) /\
  (¬(j < m) -> (-9223372036854775808 <= (↑X.length:Int) - 1 /\ (↑X.length:Int) - 1 <= 9223372036854775807) /\
   (0 <= (↑X.length:Int) - 1) /\
   (0 <= ((↑X.length:Int) - 1).toNat) /\
   (((↑X.length:Int) - 1).toNat <= X.length) /\
   (0 <= i) /\
   (i.toNat < A.length) /\
   (i.toNat < D.length) /\
   Q (AV.vnil) [{ elems:=[ag [AV.vec fm 1 (List.map Iw.a T),AV.row 1 0,AV.row 2 0,AV.ref 3 v 0 (((↑X.length:Int) - 1).toNat - 0)]],es:=4,ver:=0,frozen:=false,clean:=false },{ elems:=List.map vb (D.set i.toNat true),es:=1,ver:=0,frozen:=false,clean:=true },{ elems:=List.map (vi) (A.set i.toNat 0),es:=1,ver:=0,frozen:=false,clean:=true },{ elems:=List.map (vi) X,es:=1,ver:=v,frozen:=false,clean:=true }])) :
 vRc_at fm T D A X v i g l m j Q:=by
 unfold vRc_at
 rcases xq H with ⟨d2,H⟩|⟨d2,H⟩
 ·obtain ⟨k4,H⟩:=H
  have w5:(List.map (vi) l).length = l.length:=List.length_map ..
  have i6:(decide (j.toNat < (List.map (vi) l).length)) = true ↔ (j.toNat < l.length):=(by (try rw [w5]);all_goals exact Zab)
  obtain ⟨k7,k8,H⟩:=H
  exact ZaA (G:=Zaf kp35 [(9,1,.elem (vi (l.getD j.toNat default))),(10,2,(.call (.vec false 1 ((c :: cs).map (.int .i64))) (some [⟨[.agg [.vec fm 1 (T.map Iw.a),.row 1 0,.row 2 0,.row 3 v']],4,0,false,false⟩,⟨D'.map (.bool),1,0,false,true⟩,⟨A'.map (.int .i64),1,0,false,true⟩,⟨X'.map (.int .i64),1,v',fz,true⟩]):Ans))] []) 1000 [true,true] (k:=((atC (cd Try.f35) [1,1,1,1,1,0,1,0,0,1,1,0,0,1,1,1,0,1])).tail) (env':=[(4,vf (vi c :: List.map (vi) cs))]) (L':=[⟨[ag [AV.vec fm 1 (List.map Iw.a T),AV.row 1 0,AV.row 2 0,AV.row 3 v']],4,0,false,false⟩,⟨List.map vb D',1,0,false,true⟩,⟨List.map (vi) A',1,0,false,true⟩,⟨List.map (vi) X',1,v',fz,true⟩]) (asm:=[(decide (j < m)) == true,decide (0 <= j),decide (j.toNat < (List.map (vi) l).length),true == true]) (eqs:=[((List.map (vi) l).get?Internal j.toNat = some (vi (l.getD j.toNat default)))]) (calls:=[⟨true,true,35,[AV.ptr 0 0 0 0,vi (l.getD j.toNat default)],[⟨[ag [AV.vec fm 1 (List.map Iw.a T),AV.row 1 0,AV.row 2 0,AV.row 3 v]],4,0,false,false⟩,⟨List.map vb D,1,0,false,true⟩,⟨List.map (vi) A,1,0,false,true⟩,⟨List.map (vi) X,1,v,false,true⟩],vf (vi c :: List.map (vi) cs),[⟨[ag [AV.vec fm 1 (List.map Iw.a T),AV.row 1 0,AV.row 2 0,AV.row 3 v']],4,0,false,false⟩,⟨List.map vb D',1,0,false,true⟩,⟨List.map (vi) A',1,0,false,true⟩,⟨List.map (vi) X',1,v',fz,true⟩]⟩]) (vf (vi c :: List.map (vi) cs)) (by kernel_rfl) (by kernel_rfl) (Zaa (ZaK (Zab.2 d2)) (Zaa (Zab.2 k4) (Zaa (i6.2 k7) (Zaa rfl Zas)))) (Zao (Zak k7) ZaC) (ZbZ (fun _ => k8) ZaD) H
 ·have w9:(List.map (vi) X).length = X.length:=List.length_map ..
  obtain ⟨k10,H⟩:=H
  have w11:wi ((↑X.length:Int) - 1) = (↑X.length:Int) - 1:=wI64 k10
  have i12:(decide (0 <= wi ((↑(List.map (vi) X).length:Int) - 1))) = true ↔ (0 <= (↑X.length:Int) - 1):=(by (try rw [w9]);(try rw [w11]);all_goals exact Zab)
  obtain ⟨k13,H⟩:=H
  have i14:(decide (0 <= (wi ((↑(List.map (vi) X).length:Int) - 1)).toNat)) = true ↔ (0 <= ((↑X.length:Int) - 1).toNat):=(by (try rw [w9]);(try rw [w11]);all_goals exact Zab)
  obtain ⟨k15,H⟩:=H
  have i16:(decide ((wi ((↑(List.map (vi) X).length:Int) - 1)).toNat <= (List.map (vi) X).length)) = true ↔ (((↑X.length:Int) - 1).toNat <= X.length):=(by (try rw [w9]);(try rw [w11]);all_goals exact Zab)
  obtain ⟨k17,k19,H⟩:=H
  have w20:(List.map (vi) A).length = A.length:=List.length_map ..
  have i21:(decide (i.toNat < (List.map (vi) A).length)) = true ↔ (i.toNat < A.length):=(by (try rw [w20]);all_goals exact Zab)
  obtain ⟨k22,H⟩:=H
  have w24:(List.map vb D).length = D.length:=List.length_map ..
  have i25:(decide (i.toNat < (List.map vb D).length)) = true ↔ (i.toNat < D.length):=(by (try rw [w24]);all_goals exact Zab)
  obtain ⟨k26,H⟩:=H
  have w27:(List.map vb D).set i.toNat (vb true) = List.map vb (D.set i.toNat true):=(Zbg rfl rfl)
  have w28:(List.map (vi) A).set i.toNat (vi 0) = List.map (vi) (A.set i.toNat 0):=(Zbg rfl rfl)
  exact ZaA (G:=Zaf kp35 [(14,26,.elem (vi (A.getD i.toNat default))),(14,28,.elem (vb (D.getD i.toNat default)))] []) 1000 [false] (k:=((atC (cd Try.f35) [1,1,1,1,1,1,1,1])).tail) (env':=[(4,AV.vnil)]) (L':=[⟨[ag [AV.vec fm 1 (List.map Iw.a T),AV.row 1 0,AV.row 2 0,AV.ref 3 v 0 ((wi ((↑(List.map (vi) X).length:Int) - 1)).toNat - 0)]],4,0,false,false⟩,⟨(List.map vb D).set i.toNat (vb true),1,0,false,true⟩,⟨(List.map (vi) A).set i.toNat (vi 0),1,0,false,true⟩,⟨List.map (vi) X,1,v,false,true⟩]) (asm:=[(decide (j < m)) == false,true,true,true,true,v == v,v == v,decide (0 <= wi ((↑(List.map (vi) X).length:Int) - 1)),decide (0 <= (wi ((↑(List.map (vi) X).length:Int) - 1)).toNat),decide ((wi ((↑(List.map (vi) X).length:Int) - 1)).toNat <= (List.map (vi) X).length),true,true,decide (0 <= i),decide (i.toNat < (List.map (vi) A).length),true,true,decide (0 <= i),decide (i.toNat < (List.map vb D).length),true]) (eqs:=[((List.map (vi) A).get?Internal i.toNat = some (vi (A.getD i.toNat default))),((List.map vb D).get?Internal i.toNat = some (vb (D.getD i.toNat default)))]) (calls:=[]) (AV.vnil) (by kernel_rfl) (by kernel_rfl) (Zaa (ZaI (fun h => d2 (Zab.1 h))) (Zaa rfl (Zaa rfl (Zaa rfl (Zaa rfl (Zaa (beq_self_eq_true _) (Zaa (beq_self_eq_true _) (Zaa (i12.2 k13) (Zaa (i14.2 k15) (Zaa (i16.2 k17) (Zaa rfl (Zaa rfl (Zaa (Zab.2 k19) (Zaa (i21.2 k22) (Zaa rfl (Zaa rfl (Zaa (Zab.2 k19) (Zaa (i25.2 k26) (Zaa rfl Zas))))))))))))))))))) (Zao (Zak k22) (Zao (Zak k26) ZaC)) ZaD (by (try rw [w9]);(try rw [w11]);(try rw [w27]);(try rw [w28]);all_goals exact H)
theorem vRd (fm:Bool) (T:List Iw) (D:List Bool) (A X:List Int) (v:Nat) (i:Int) (g:Bool) (l:List Int) (m j:Int) (D':List Bool) (A' X':List Int) (v' q':Nat) (fz:Bool) (c:Int) (cs:List Int) (Q:AV -> Heap -> Prop) (H :
  ((j < m) -> (0 <= j) /\
   (j.toNat < l.length) /\
   (Ev M1 (Conf.own 35 [AV.ptr 0 0 0 0,vi (l.getD j.toNat default)] [{ elems:=[ag [AV.vec fm 1 (List.map Iw.a T),AV.row 1 0,AV.row 2 0,AV.row 3 v]],es:=4,ver:=0,frozen:=false,clean:=false },{ elems:=List.map vb D,es:=1,ver:=0,frozen:=false,clean:=true },{ elems:=List.map (vi) A,es:=1,ver:=0,frozen:=false,clean:=true },{ elems:=List.map (vi) X,es:=1,ver:=v,frozen:=false,clean:=true }]) (vf (vi c :: List.map (vi) cs)) [{ elems:=[ag [AV.vec fm 1 (List.map Iw.a T),AV.row 1 0,AV.row 2 0,AV.ref 3 v' 0 q']],es:=4,ver:=0,frozen:=false,clean:=false },{ elems:=List.map vb D',es:=1,ver:=0,frozen:=false,clean:=true },{ elems:=List.map (vi) A',es:=1,ver:=0,frozen:=false,clean:=true },{ elems:=List.map (vi) X',es:=1,ver:=v',frozen:=fz,clean:=true }]) /\
   Q (vf (vi c :: List.map (vi) cs)) [{ elems:=[ag [AV.vec fm 1 (List.map Iw.a T),AV.row 1 0,AV.row 2 0,AV.ref 3 v' 0 q']],es:=4,ver:=0,frozen:=false,clean:=false },{ elems:=List.map vb D',es:=1,ver:=0,frozen:=false,clean:=true },{ elems:=List.map (vi) A',es:=1,ver:=0,frozen:=false,clean:=true },{ elems:=List.map (vi) X',es:=1,ver:=v',frozen:=fz,clean:=true }]) /\
  (¬(j < m) -> (-9223372036854775808 <= (↑X.length:Int) - 1 /\ (↑X.length:Int) - 1 <= 9223372036854775807) /\
   (0 <= (↑X.length:Int) - 1) /\
   (0 <= ((↑X.length:Int) - 1).toNat) /\
   (((↑X.length:Int) - 1).toNat <= X.length) /\
   (0 <= i) /\
   (i.toNat < A.length) /\
   (i.toNat < D.length) /\
   Q (AV.vnil) [{ elems:=[ag [AV.vec fm 1 (List.map Iw.a T),AV.row 1 0,AV.row 2 0,AV.ref 3 v 0 (((↑X.length:Int) - 1).toNat - 0)]],es:=4,ver:=0,frozen:=false,clean:=false },{ elems:=List.map vb (D.set i.toNat true),es:=1,ver:=0,frozen:=false,clean:=true },{ elems:=List.map (vi) (A.set i.toNat 0),es:=1,ver:=0,frozen:=false,clean:=true },{ elems:=List.map (vi) X,es:=1,ver:=v,frozen:=false,clean:=true }])) :
 vRd_at fm T D A X v i g l m j Q:=by
 unfold vRd_at
 rcases xq H with ⟨d2,H⟩|⟨d2,H⟩
 ·obtain ⟨k4,H⟩:=H
  have w5:(List.map (vi) l).length = l.length:=List.length_map ..
  have i6:(decide (j.toNat < (List.map (vi) l).length)) = true ↔ (j.toNat < l.length):=(by (try rw [w5]);all_goals exact Zab)
  obtain ⟨k7,k8,H⟩:=H
  exact ZaA (G:=Zaf kp35 [(9,1,.elem (vi (l.getD j.toNat default))),(10,2,(.call (.vec false 1 ((c :: cs).map (.int .i64))) (some [⟨[.agg [.vec fm 1 (T.map Iw.a),.row 1 0,.row 2 0,.ref 3 v' 0 q']],4,0,false,false⟩,⟨D'.map (.bool),1,0,false,true⟩,⟨A'.map (.int .i64),1,0,false,true⟩,⟨X'.map (.int .i64),1,v',fz,true⟩]):Ans))] []) 1000 [true,true] (k:=((atC (cd Try.f35) [1,1,1,1,1,0,1,0,0,1,1,0,0,1,1,1,0,1])).tail) (env':=[(4,vf (vi c :: List.map (vi) cs))]) (L':=[⟨[ag [AV.vec fm 1 (List.map Iw.a T),AV.row 1 0,AV.row 2 0,AV.ref 3 v' 0 q']],4,0,false,false⟩,⟨List.map vb D',1,0,false,true⟩,⟨List.map (vi) A',1,0,false,true⟩,⟨List.map (vi) X',1,v',fz,true⟩]) (asm:=[(decide (j < m)) == true,decide (0 <= j),decide (j.toNat < (List.map (vi) l).length),true == true]) (eqs:=[((List.map (vi) l).get?Internal j.toNat = some (vi (l.getD j.toNat default)))]) (calls:=[⟨true,true,35,[AV.ptr 0 0 0 0,vi (l.getD j.toNat default)],[⟨[ag [AV.vec fm 1 (List.map Iw.a T),AV.row 1 0,AV.row 2 0,AV.row 3 v]],4,0,false,false⟩,⟨List.map vb D,1,0,false,true⟩,⟨List.map (vi) A,1,0,false,true⟩,⟨List.map (vi) X,1,v,false,true⟩],vf (vi c :: List.map (vi) cs),[⟨[ag [AV.vec fm 1 (List.map Iw.a T),AV.row 1 0,AV.row 2 0,AV.ref 3 v' 0 q']],4,0,false,false⟩,⟨List.map vb D',1,0,false,true⟩,⟨List.map (vi) A',1,0,false,true⟩,⟨List.map (vi) X',1,v',fz,true⟩]⟩]) (vf (vi c :: List.map (vi) cs)) (by kernel_rfl) (by kernel_rfl) (Zaa (ZaK (Zab.2 d2)) (Zaa (Zab.2 k4) (Zaa (i6.2 k7) (Zaa rfl Zas)))) (Zao (Zak k7) ZaC) (ZbZ (fun _ => k8) ZaD) H
 ·have w9:(List.map (vi) X).length = X.length:=List.length_map ..
  obtain ⟨k10,H⟩:=H
  have w11:wi ((↑X.length:Int) - 1) = (↑X.length:Int) - 1:=wI64 k10
  have i12:(decide (0 <= wi ((↑(List.map (vi) X).length:Int) - 1))) = true ↔ (0 <= (↑X.length:Int) - 1):=(by (try rw [w9]);(try rw [w11]);all_goals exact Zab)
  obtain ⟨k13,H⟩:=H
  have i14:(decide (0 <= (wi ((↑(List.map (vi) X).length:Int) - 1)).toNat)) = true ↔ (0 <= ((↑X.length:Int) - 1).toNat):=(by (try rw [w9]);(try rw [w11]);all_goals exact Zab)
  obtain ⟨k15,H⟩:=H
  have i16:(decide ((wi ((↑(List.map (vi) X).length:Int) - 1)).toNat <= (List.map (vi) X).length)) = true ↔ (((↑X.length:Int) - 1).toNat <= X.length):=(by (try rw [w9]);(try rw [w11]);all_goals exact Zab)
  obtain ⟨k17,k19,H⟩:=H
  have w20:(List.map (vi) A).length = A.length:=List.length_map ..
  have i21:(decide (i.toNat < (List.map (vi) A).length)) = true ↔ (i.toNat < A.length):=(by (try rw [w20]);all_goals exact Zab)
  obtain ⟨k22,H⟩:=H
  have w24:(List.map vb D).length = D.length:=List.length_map ..
  have i25:(decide (i.toNat < (List.map vb D).length)) = true ↔ (i.toNat < D.length):=(by (try rw [w24]);all_goals exact Zab)
  obtain ⟨k26,H⟩:=H
  have w27:(List.map vb D).set i.toNat (vb true) = List.map vb (D.set i.toNat true):=(Zbg rfl rfl)
  have w28:(List.map (vi) A).set i.toNat (vi 0) = List.map (vi) (A.set i.toNat 0):=(Zbg rfl rfl)
  exact ZaA (G:=Zaf kp35 [(14,26,.elem (vi (A.getD i.toNat default))),(14,28,.elem (vb (D.getD i.toNat default)))] []) 1000 [false] (k:=((atC (cd Try.f35) [1,1,1,1,1,1,1,1])).tail) (env':=[(4,AV.vnil)]) (L':=[⟨[ag [AV.vec fm 1 (List.map Iw.a T),AV.row 1 0,AV.row 2 0,AV.ref 3 v 0 ((wi ((↑(List.map (vi) X).length:Int) - 1)).toNat - 0)]],4,0,false,false⟩,⟨(List.map vb D).set i.toNat (vb true),1,0,false,true⟩,⟨(List.map (vi) A).set i.toNat (vi 0),1,0,false,true⟩,⟨List.map (vi) X,1,v,false,true⟩]) (asm:=[(decide (j < m)) == false,true,true,true,true,v == v,v == v,decide (0 <= wi ((↑(List.map (vi) X).length:Int) - 1)),decide (0 <= (wi ((↑(List.map (vi) X).length:Int) - 1)).toNat),decide ((wi ((↑(List.map (vi) X).length:Int) - 1)).toNat <= (List.map (vi) X).length),true,true,decide (0 <= i),decide (i.toNat < (List.map (vi) A).length),true,true,decide (0 <= i),decide (i.toNat < (List.map vb D).length),true]) (eqs:=[((List.map (vi) A).get?Internal i.toNat = some (vi (A.getD i.toNat default))),((List.map vb D).get?Internal i.toNat = some (vb (D.getD i.toNat default)))]) (calls:=[]) (AV.vnil) (by kernel_rfl) (by kernel_rfl) (Zaa (ZaI (fun h => d2 (Zab.1 h))) (Zaa rfl (Zaa rfl (Zaa rfl (Zaa rfl (Zaa (beq_self_eq_true _) (Zaa (beq_self_eq_true _) (Zaa (i12.2 k13) (Zaa (i14.2 k15) (Zaa (i16.2 k17) (Zaa rfl (Zaa rfl (Zaa (Zab.2 k19) (Zaa (i21.2 k22) (Zaa rfl (Zaa rfl (Zaa (Zab.2 k19) (Zaa (i25.2 k26) (Zaa rfl Zas))))))))))))))))))) (Zao (Zak k22) (Zao (Zak k26) ZaC)) ZaD (by (try rw [w9]);(try rw [w11]);(try rw [w27]);(try rw [w28]);all_goals exact H)
theorem vFf (fm:Bool) (T:List Iw) (D:List Bool) (A X:List Int) (v:Nat) (q:Nat) (i:Int) (g:Bool) (l:List Int) (m j:Int) (D':List Bool) (X':List Int) (v' q':Nat) (Q:AV -> Heap -> Prop) (H :
  ((j < m) -> (0 <= j) /\
   (j.toNat < l.length) /\
   (Ev M1 (Conf.own 35 [AV.ptr 0 0 0 0,vi (l.getD j.toNat default)] [{ elems:=[ag [AV.vec fm 1 (List.map Iw.a T),AV.row 1 0,AV.row 2 0,AV.ref 3 v 0 q]],es:=4,ver:=0,frozen:=false,clean:=false },{ elems:=List.map vb D,es:=1,ver:=0,frozen:=false,clean:=true },{ elems:=List.map (vi) A,es:=1,ver:=0,frozen:=false,clean:=true },{ elems:=List.map (vi) X,es:=1,ver:=v,frozen:=false,clean:=true }]) AV.vnil [{ elems:=[ag [AV.vec fm 1 (List.map Iw.a T),AV.row 1 0,AV.row 2 0,AV.ref 3 v' 0 q']],es:=4,ver:=0,frozen:=false,clean:=false },{ elems:=List.map vb D',es:=1,ver:=0,frozen:=false,clean:=true },{ elems:=List.map (vi) A,es:=1,ver:=0,frozen:=false,clean:=true },{ elems:=List.map (vi) X',es:=1,ver:=v',frozen:=false,clean:=true }]) /\
   (-9223372036854775808 <= j + 1 /\ j + 1 <= 9223372036854775807) /\
   vFf_at (fm) (T) (D') (A) (X') (v') (q') (i) (g) (l) (m) (j + 1) Q) /\
  (¬(j < m) -> (-9223372036854775808 <= (↑q:Int) - 1 /\ (↑q:Int) - 1 <= 9223372036854775807) /\
   (0 <= (↑q:Int) - 1) /\
   (0 <= ((↑q:Int) - 1).toNat) /\
   (((↑q:Int) - 1).toNat <= q) /\
   (0 <= i) /\
   (i.toNat < A.length) /\
   (i.toNat < D.length) /\
   Q (AV.vnil) [{ elems:=[ag [AV.vec fm 1 (List.map Iw.a T),AV.row 1 0,AV.row 2 0,AV.ref 3 v 0 (((↑q:Int) - 1).toNat - 0)]],es:=4,ver:=0,frozen:=false,clean:=false },{ elems:=List.map vb (D.set i.toNat true),es:=1,ver:=0,frozen:=false,clean:=true },{ elems:=List.map (vi) (A.set i.toNat 0),es:=1,ver:=0,frozen:=false,clean:=true },{ elems:=List.map (vi) X,es:=1,ver:=v,frozen:=false,clean:=true }])) :
 vFf_at fm T D A X v q i g l m j Q:=by
 unfold vFf_at
 rcases xq H with ⟨d2,H⟩|⟨d2,H⟩
 ·obtain ⟨k4,H⟩:=H
  have w5:(List.map (vi) l).length = l.length:=List.length_map ..
  have i6:(decide (j.toNat < (List.map (vi) l).length)) = true ↔ (j.toNat < l.length):=(by (try rw [w5]);all_goals exact Zab)
  obtain ⟨k7,k8,k9,H⟩:=H
  have w10:wi (j + 1) = j + 1:=wI64 k9
  exact Zae (G:=Zaf kp35 [(9,1,.elem (vi (l.getD j.toNat default))),(10,2,(.call .vnil (some [⟨[.agg [.vec fm 1 (T.map Iw.a),.row 1 0,.row 2 0,.ref 3 v' 0 q']],4,0,false,false⟩,⟨D'.map (.bool),1,0,false,true⟩,⟨A.map (.int .i64),1,0,false,true⟩,⟨X'.map (.int .i64),1,v',false,true⟩]):Ans))] []) 1000 [true,false] ⟨(atC (cd Try.f35) [1,1,1,1,1,0,1,0,0]),[(0,AV.ptr 0 0 0 0),(1,vi i),(64,AV.vec g 1 (List.map (vi) l)),(65,vi m),(66,vi (wi (j + 1)))],[⟨[ag [AV.vec fm 1 (List.map Iw.a T),AV.row 1 0,AV.row 2 0,AV.ref 3 v' 0 q']],4,0,false,false⟩,⟨List.map vb D',1,0,false,true⟩,⟨List.map (vi) A,1,0,false,true⟩,⟨List.map (vi) X',1,v',false,true⟩],_,[((List.map (vi) l).get?Internal j.toNat = some (vi (l.getD j.toNat default)))],[⟨true,true,35,[AV.ptr 0 0 0 0,vi (l.getD j.toNat default)],[⟨[ag [AV.vec fm 1 (List.map Iw.a T),AV.row 1 0,AV.row 2 0,AV.ref 3 v 0 q]],4,0,false,false⟩,⟨List.map vb D,1,0,false,true⟩,⟨List.map (vi) A,1,0,false,true⟩,⟨List.map (vi) X,1,v,false,true⟩],AV.vnil,[⟨[ag [AV.vec fm 1 (List.map Iw.a T),AV.row 1 0,AV.row 2 0,AV.ref 3 v' 0 q']],4,0,false,false⟩,⟨List.map vb D',1,0,false,true⟩,⟨List.map (vi) A,1,0,false,true⟩,⟨List.map (vi) X',1,v',false,true⟩]⟩]⟩ (by kernel_rfl) (bc (ZaK (Zab.2 d2)) (bc (Zab.2 k4) (bc (i6.2 k7) (bc rfl b0)))) (qc (Zak k7) q0) (cc (fun _ => k8) c0) (by (try rw [w10]);all_goals exact H)
 ·obtain ⟨k11,H⟩:=H
  have w12:wi ((↑q:Int) - 1) = (↑q:Int) - 1:=wI64 k11
  have i13:(decide (0 <= wi ((↑q:Int) - 1))) = true ↔ (0 <= (↑q:Int) - 1):=(by (try rw [w12]);all_goals exact Zab)
  obtain ⟨k14,H⟩:=H
  have i15:(decide (0 <= (wi ((↑q:Int) - 1)).toNat)) = true ↔ (0 <= ((↑q:Int) - 1).toNat):=(by (try rw [w12]);all_goals exact Zab)
  obtain ⟨k16,H⟩:=H
  have i17:(decide ((wi ((↑q:Int) - 1)).toNat <= q)) = true ↔ (((↑q:Int) - 1).toNat <= q):=(by (try rw [w12]);all_goals exact Zab)
  obtain ⟨k18,k20,H⟩:=H
  have w21:(List.map (vi) A).length = A.length:=List.length_map ..
  have i22:(decide (i.toNat < (List.map (vi) A).length)) = true ↔ (i.toNat < A.length):=(by (try rw [w21]);all_goals exact Zab)
  obtain ⟨k23,H⟩:=H
  have w25:(List.map vb D).length = D.length:=List.length_map ..
  have i26:(decide (i.toNat < (List.map vb D).length)) = true ↔ (i.toNat < D.length):=(by (try rw [w25]);all_goals exact Zab)
  obtain ⟨k27,H⟩:=H
  have w28:(List.map vb D).set i.toNat (vb true) = List.map vb (D.set i.toNat true):=(Zbg rfl rfl)
  have w29:(List.map (vi) A).set i.toNat (vi 0) = List.map (vi) (A.set i.toNat 0):=(Zbg rfl rfl)
  exact ZaA (G:=Zaf kp35 [(14,26,.elem (vi (A.getD i.toNat default))),(14,28,.elem (vb (D.getD i.toNat default)))] []) 1000 [false] (k:=((atC (cd Try.f35) [1,1,1,1,1,1,1,1])).tail) (env':=[(4,AV.vnil)]) (L':=[⟨[ag [AV.vec fm 1 (List.map Iw.a T),AV.row 1 0,AV.row 2 0,AV.ref 3 v 0 ((wi ((↑q:Int) - 1)).toNat - 0)]],4,0,false,false⟩,⟨(List.map vb D).set i.toNat (vb true),1,0,false,true⟩,⟨(List.map (vi) A).set i.toNat (vi 0),1,0,false,true⟩,⟨List.map (vi) X,1,v,false,true⟩]) (asm:=[(decide (j < m)) == false,true,true,true,true,v == v,v == v,decide (0 <= wi ((↑q:Int) - 1)),decide (0 <= (wi ((↑q:Int) - 1)).toNat),decide ((wi ((↑q:Int) - 1)).toNat <= q),true,true,decide (0 <= i),decide (i.toNat < (List.map (vi) A).length),true,true,decide (0 <= i),decide (i.toNat < (List.map vb D).length),true]) (eqs:=[((List.map (vi) A).get?Internal i.toNat = some (vi (A.getD i.toNat default))),((List.map vb D).get?Internal i.toNat = some (vb (D.getD i.toNat default)))]) (calls:=[]) (AV.vnil) (by kernel_rfl) (by kernel_rfl) (Zaa (ZaI (fun h => d2 (Zab.1 h))) (Zaa rfl (Zaa rfl (Zaa rfl (Zaa rfl (Zaa (beq_self_eq_true _) (Zaa (beq_self_eq_true _) (Zaa (i13.2 k14) (Zaa (i15.2 k16) (Zaa (i17.2 k18) (Zaa rfl (Zaa rfl (Zaa (Zab.2 k20) (Zaa (i22.2 k23) (Zaa rfl (Zaa rfl (Zaa (Zab.2 k20) (Zaa (i26.2 k27) (Zaa rfl Zas))))))))))))))))))) (Zao (Zak k23) (Zao (Zak k27) ZaC)) ZaD (by (try rw [w12]);(try rw [w28]);(try rw [w29]);all_goals exact H)
theorem vFc (fm:Bool) (T:List Iw) (D:List Bool) (A X:List Int) (v:Nat) (q:Nat) (i:Int) (g:Bool) (l:List Int) (m j:Int) (D':List Bool) (A' X':List Int) (v':Nat) (fz:Bool) (c:Int) (cs:List Int) (Q:AV -> Heap -> Prop) (H :
  ((j < m) -> (0 <= j) /\
   (j.toNat < l.length) /\
   (Ev M1 (Conf.own 35 [AV.ptr 0 0 0 0,vi (l.getD j.toNat default)] [{ elems:=[ag [AV.vec fm 1 (List.map Iw.a T),AV.row 1 0,AV.row 2 0,AV.ref 3 v 0 q]],es:=4,ver:=0,frozen:=false,clean:=false },{ elems:=List.map vb D,es:=1,ver:=0,frozen:=false,clean:=true },{ elems:=List.map (vi) A,es:=1,ver:=0,frozen:=false,clean:=true },{ elems:=List.map (vi) X,es:=1,ver:=v,frozen:=false,clean:=true }]) (vf (vi c :: List.map (vi) cs)) [{ elems:=[ag [AV.vec fm 1 (List.map Iw.a T),AV.row 1 0,AV.row 2 0,AV.row 3 v']],es:=4,ver:=0,frozen:=false,clean:=false },{ elems:=List.map vb D',es:=1,ver:=0,frozen:=false,clean:=true },{ elems:=List.map (vi) A',es:=1,ver:=0,frozen:=false,clean:=true },{ elems:=List.map (vi) X',es:=1,ver:=v',frozen:=fz,clean:=true }]) /\
   Q (vf (vi c :: List.map (vi) cs)) [{ elems:=[ag [AV.vec fm 1 (List.map Iw.a T),AV.row 1 0,AV.row 2 0,AV.row 3 v']],es:=4,ver:=0,frozen:=false,clean:=false },{ elems:=List.map vb D',es:=1,ver:=0,frozen:=false,clean:=true },{ elems:=List.map (vi) A',es:=1,ver:=0,frozen:=false,clean:=true },{ elems:=List.map (vi) X',es:=1,ver:=v',frozen:=fz,clean:=true }]) /\
  (¬(j < m) -> (-9223372036854775808 <= (↑q:Int) - 1 /\ (↑q:Int) - 1 <= 9223372036854775807) /\
   (0 <= (↑q:Int) - 1) /\
   (0 <= ((↑q:Int) - 1).toNat) /\
   (((↑q:Int) - 1).toNat <= q) /\
   (0 <= i) /\
   (i.toNat < A.length) /\
   (i.toNat < D.length) /\
   Q (AV.vnil) [{ elems:=[ag [AV.vec fm 1 (List.map Iw.a T),AV.row 1 0,AV.row 2 0,AV.ref 3 v 0 (((↑q:Int) - 1).toNat - 0)]],es:=4,ver:=0,frozen:=false,clean:=false },{ elems:=List.map vb (D.set i.toNat true),es:=1,ver:=0,frozen:=false,clean:=true },{ elems:=List.map (vi) (A.set i.toNat 0),es:=1,ver:=0,frozen:=false,clean:=true },{ elems:=List.map (vi) X,es:=1,ver:=v,frozen:=false,clean:=true }])) :
 vFc_at fm T D A X v q i g l m j Q:=by
 unfold vFc_at
 rcases xq H with ⟨d2,H⟩|⟨d2,H⟩
 ·obtain ⟨k4,H⟩:=H
  have w5:(List.map (vi) l).length = l.length:=List.length_map ..
  have i6:(decide (j.toNat < (List.map (vi) l).length)) = true ↔ (j.toNat < l.length):=(by (try rw [w5]);all_goals exact Zab)
  obtain ⟨k7,k8,H⟩:=H
  exact ZaA (G:=Zaf kp35 [(9,1,.elem (vi (l.getD j.toNat default))),(10,2,(.call (.vec false 1 ((c :: cs).map (.int .i64))) (some [⟨[.agg [.vec fm 1 (T.map Iw.a),.row 1 0,.row 2 0,.row 3 v']],4,0,false,false⟩,⟨D'.map (.bool),1,0,false,true⟩,⟨A'.map (.int .i64),1,0,false,true⟩,⟨X'.map (.int .i64),1,v',fz,true⟩]):Ans))] []) 1000 [true,true] (k:=((atC (cd Try.f35) [1,1,1,1,1,0,1,0,0,1,1,0,0,1,1,1,0,1])).tail) (env':=[(4,vf (vi c :: List.map (vi) cs))]) (L':=[⟨[ag [AV.vec fm 1 (List.map Iw.a T),AV.row 1 0,AV.row 2 0,AV.row 3 v']],4,0,false,false⟩,⟨List.map vb D',1,0,false,true⟩,⟨List.map (vi) A',1,0,false,true⟩,⟨List.map (vi) X',1,v',fz,true⟩]) (asm:=[(decide (j < m)) == true,decide (0 <= j),decide (j.toNat < (List.map (vi) l).length),true == true]) (eqs:=[((List.map (vi) l).get?Internal j.toNat = some (vi (l.getD j.toNat default)))]) (calls:=[⟨true,true,35,[AV.ptr 0 0 0 0,vi (l.getD j.toNat default)],[⟨[ag [AV.vec fm 1 (List.map Iw.a T),AV.row 1 0,AV.row 2 0,AV.ref 3 v 0 q]],4,0,false,false⟩,⟨List.map vb D,1,0,false,true⟩,⟨List.map (vi) A,1,0,false,true⟩,⟨List.map (vi) X,1,v,false,true⟩],vf (vi c :: List.map (vi) cs),[⟨[ag [AV.vec fm 1 (List.map Iw.a T),AV.row 1 0,AV.row 2 0,AV.row 3 v']],4,0,false,false⟩,⟨List.map vb D',1,0,false,true⟩,⟨List.map (vi) A',1,0,false,true⟩,⟨List.map (vi) X',1,v',fz,true⟩]⟩]) (vf (vi c :: List.map (vi) cs)) (by kernel_rfl) (by kernel_rfl) (Zaa (ZaK (Zab.2 d2)) (Zaa (Zab.2 k4) (Zaa (i6.2 k7) (Zaa rfl Zas)))) (Zao (Zak k7) ZaC) (ZbZ (fun _ => k8) ZaD) H
 ·obtain ⟨k9,H⟩:=H
  have w10:wi ((↑q:Int) - 1) = (↑q:Int) - 1:=wI64 k9
  have i11:(decide (0 <= wi ((↑q:Int) - 1))) = true ↔ (0 <= (↑q:Int) - 1):=(by (try rw [w10]);all_goals exact Zab)
  obtain ⟨k12,H⟩:=H
  have i13:(decide (0 <= (wi ((↑q:Int) - 1)).toNat)) = true ↔ (0 <= ((↑q:Int) - 1).toNat):=(by (try rw [w10]);all_goals exact Zab)
  obtain ⟨k14,H⟩:=H
  have i15:(decide ((wi ((↑q:Int) - 1)).toNat <= q)) = true ↔ (((↑q:Int) - 1).toNat <= q):=(by (try rw [w10]);all_goals exact Zab)
  obtain ⟨k16,k18,H⟩:=H
  have w19:(List.map (vi) A).length = A.length:=List.length_map ..
  have i20:(decide (i.toNat < (List.map (vi) A).length)) = true ↔ (i.toNat < A.length):=(by (try rw [w19]);all_goals exact Zab)
  obtain ⟨k21,H⟩:=H
  have w23:(List.map vb D).length = D.length:=List.length_map ..
  have i24:(decide (i.toNat < (List.map vb D).length)) = true ↔ (i.toNat < D.length):=(by (try rw [w23]);all_goals exact Zab)
  obtain ⟨k25,H⟩:=H
  have w26:(List.map vb D).set i.toNat (vb true) = List.map vb (D.set i.toNat true):=(Zbg rfl rfl)
  have w27:(List.map (vi) A).set i.toNat (vi 0) = List.map (vi) (A.set i.toNat 0):=(Zbg rfl rfl)
  exact ZaA (G:=Zaf kp35 [(14,26,.elem (vi (A.getD i.toNat default))),(14,28,.elem (vb (D.getD i.toNat default)))] []) 1000 [false] (k:=((atC (cd Try.f35) [1,1,1,1,1,1,1,1])).tail) (env':=[(4,AV.vnil)]) (L':=[⟨[ag [AV.vec fm 1 (List.map Iw.a T),AV.row 1 0,AV.row 2 0,AV.ref 3 v 0 ((wi ((↑q:Int) - 1)).toNat - 0)]],4,0,false,false⟩,⟨(List.map vb D).set i.toNat (vb true),1,0,false,true⟩,⟨(List.map (vi) A).set i.toNat (vi 0),1,0,false,true⟩,⟨List.map (vi) X,1,v,false,true⟩]) (asm:=[(decide (j < m)) == false,true,true,true,true,v == v,v == v,decide (0 <= wi ((↑q:Int) - 1)),decide (0 <= (wi ((↑q:Int) - 1)).toNat),decide ((wi ((↑q:Int) - 1)).toNat <= q),true,true,decide (0 <= i),decide (i.toNat < (List.map (vi) A).length),true,true,decide (0 <= i),decide (i.toNat < (List.map vb D).length),true]) (eqs:=[((List.map (vi) A).get?Internal i.toNat = some (vi (A.getD i.toNat default))),((List.map vb D).get?Internal i.toNat = some (vb (D.getD i.toNat default)))]) (calls:=[]) (AV.vnil) (by kernel_rfl) (by kernel_rfl) (Zaa (ZaI (fun h => d2 (Zab.1 h))) (Zaa rfl (Zaa rfl (Zaa rfl (Zaa rfl (Zaa (beq_self_eq_true _) (Zaa (beq_self_eq_true _) (Zaa (i11.2 k12) (Zaa (i13.2 k14) (Zaa (i15.2 k16) (Zaa rfl (Zaa rfl (Zaa (Zab.2 k18) (Zaa (i20.2 k21) (Zaa rfl (Zaa rfl (Zaa (Zab.2 k18) (Zaa (i24.2 k25) (Zaa rfl Zas))))))))))))))))))) (Zao (Zak k21) (Zao (Zak k25) ZaC)) ZaD (by (try rw [w10]);(try rw [w26]);(try rw [w27]);all_goals exact H)
theorem vFd (fm:Bool) (T:List Iw) (D:List Bool) (A X:List Int) (v:Nat) (q:Nat) (i:Int) (g:Bool) (l:List Int) (m j:Int) (D':List Bool) (A' X':List Int) (v' q':Nat) (fz:Bool) (c:Int) (cs:List Int) (Q:AV -> Heap -> Prop) (H :
  ((j < m) -> (0 <= j) /\
   (j.toNat < l.length) /\
   (Ev M1 (Conf.own 35 [AV.ptr 0 0 0 0,vi (l.getD j.toNat default)] [{ elems:=[ag [AV.vec fm 1 (List.map Iw.a T),AV.row 1 0,AV.row 2 0,AV.ref 3 v 0 q]],es:=4,ver:=0,frozen:=false,clean:=false },{ elems:=List.map vb D,es:=1,ver:=0,frozen:=false,clean:=true },{ elems:=List.map (vi) A,es:=1,ver:=0,frozen:=false,clean:=true },{ elems:=List.map (vi) X,es:=1,ver:=v,frozen:=false,clean:=true }]) (vf (vi c :: List.map (vi) cs)) [{ elems:=[ag [AV.vec fm 1 (List.map Iw.a T),AV.row 1 0,AV.row 2 0,AV.ref 3 v' 0 q']],es:=4,ver:=0,frozen:=false,clean:=false },{ elems:=List.map vb D',es:=1,ver:=0,frozen:=false,clean:=true },{ elems:=List.map (vi) A',es:=1,ver:=0,frozen:=false,clean:=true },{ elems:=List.map (vi) X',es:=1,ver:=v',frozen:=fz,clean:=true }]) /\
   Q (vf (vi c :: List.map (vi) cs)) [{ elems:=[ag [AV.vec fm 1 (List.map Iw.a T),AV.row 1 0,AV.row 2 0,AV.ref 3 v' 0 q']],es:=4,ver:=0,frozen:=false,clean:=false },{ elems:=List.map vb D',es:=1,ver:=0,frozen:=false,clean:=true },{ elems:=List.map (vi) A',es:=1,ver:=0,frozen:=false,clean:=true },{ elems:=List.map (vi) X',es:=1,ver:=v',frozen:=fz,clean:=true }]) /\
  (¬(j < m) -> (-9223372036854775808 <= (↑q:Int) - 1 /\ (↑q:Int) - 1 <= 9223372036854775807) /\
   (0 <= (↑q:Int) - 1) /\
   (0 <= ((↑q:Int) - 1).toNat) /\
   (((↑q:Int) - 1).toNat <= q) /\
   (0 <= i) /\
   (i.toNat < A.length) /\
   (i.toNat < D.length) /\
   Q (AV.vnil) [{ elems:=[ag [AV.vec fm 1 (List.map Iw.a T),AV.row 1 0,AV.row 2 0,AV.ref 3 v 0 (((↑q:Int) - 1).toNat - 0)]],es:=4,ver:=0,frozen:=false,clean:=false },{ elems:=List.map vb (D.set i.toNat true),es:=1,ver:=0,frozen:=false,clean:=true },{ elems:=List.map (vi) (A.set i.toNat 0),es:=1,ver:=0,frozen:=false,clean:=true },{ elems:=List.map (vi) X,es:=1,ver:=v,frozen:=false,clean:=true }])) :
 vFd_at fm T D A X v q i g l m j Q:=by
 unfold vFd_at
 rcases xq H with ⟨d2,H⟩|⟨d2,H⟩
 ·obtain ⟨k4,H⟩:=H
  have w5:(List.map (vi) l).length = l.length:=List.length_map ..
  have i6:(decide (j.toNat < (List.map (vi) l).length)) = true ↔ (j.toNat < l.length):=(by (try rw [w5]);all_goals exact Zab)
  obtain ⟨k7,k8,H⟩:=H
  exact ZaA (G:=Zaf kp35 [(9,1,.elem (vi (l.getD j.toNat default))),(10,2,(.call (.vec false 1 ((c :: cs).map (.int .i64))) (some [⟨[.agg [.vec fm 1 (T.map Iw.a),.row 1 0,.row 2 0,.ref 3 v' 0 q']],4,0,false,false⟩,⟨D'.map (.bool),1,0,false,true⟩,⟨A'.map (.int .i64),1,0,false,true⟩,⟨X'.map (.int .i64),1,v',fz,true⟩]):Ans))] []) 1000 [true,true] (k:=((atC (cd Try.f35) [1,1,1,1,1,0,1,0,0,1,1,0,0,1,1,1,0,1])).tail) (env':=[(4,vf (vi c :: List.map (vi) cs))]) (L':=[⟨[ag [AV.vec fm 1 (List.map Iw.a T),AV.row 1 0,AV.row 2 0,AV.ref 3 v' 0 q']],4,0,false,false⟩,⟨List.map vb D',1,0,false,true⟩,⟨List.map (vi) A',1,0,false,true⟩,⟨List.map (vi) X',1,v',fz,true⟩]) (asm:=[(decide (j < m)) == true,decide (0 <= j),decide (j.toNat < (List.map (vi) l).length),true == true]) (eqs:=[((List.map (vi) l).get?Internal j.toNat = some (vi (l.getD j.toNat default)))]) (calls:=[⟨true,true,35,[AV.ptr 0 0 0 0,vi (l.getD j.toNat default)],[⟨[ag [AV.vec fm 1 (List.map Iw.a T),AV.row 1 0,AV.row 2 0,AV.ref 3 v 0 q]],4,0,false,false⟩,⟨List.map vb D,1,0,false,true⟩,⟨List.map (vi) A,1,0,false,true⟩,⟨List.map (vi) X,1,v,false,true⟩],vf (vi c :: List.map (vi) cs),[⟨[ag [AV.vec fm 1 (List.map Iw.a T),AV.row 1 0,AV.row 2 0,AV.ref 3 v' 0 q']],4,0,false,false⟩,⟨List.map vb D',1,0,false,true⟩,⟨List.map (vi) A',1,0,false,true⟩,⟨List.map (vi) X',1,v',fz,true⟩]⟩]) (vf (vi c :: List.map (vi) cs)) (by kernel_rfl) (by kernel_rfl) (Zaa (ZaK (Zab.2 d2)) (Zaa (Zab.2 k4) (Zaa (i6.2 k7) (Zaa rfl Zas)))) (Zao (Zak k7) ZaC) (ZbZ (fun _ => k8) ZaD) H
 ·obtain ⟨k9,H⟩:=H
  have w10:wi ((↑q:Int) - 1) = (↑q:Int) - 1:=wI64 k9
  have i11:(decide (0 <= wi ((↑q:Int) - 1))) = true ↔ (0 <= (↑q:Int) - 1):=(by (try rw [w10]);all_goals exact Zab)
  obtain ⟨k12,H⟩:=H
  have i13:(decide (0 <= (wi ((↑q:Int) - 1)).toNat)) = true ↔ (0 <= ((↑q:Int) - 1).toNat):=(by (try rw [w10]);all_goals exact Zab)
  obtain ⟨k14,H⟩:=H
  have i15:(decide ((wi ((↑q:Int) - 1)).toNat <= q)) = true ↔ (((↑q:Int) - 1).toNat <= q):=(by (try rw [w10]);all_goals exact Zab)
  obtain ⟨k16,k18,H⟩:=H
  have w19:(List.map (vi) A).length = A.length:=List.length_map ..
  have i20:(decide (i.toNat < (List.map (vi) A).length)) = true ↔ (i.toNat < A.length):=(by (try rw [w19]);all_goals exact Zab)
  obtain ⟨k21,H⟩:=H
  have w23:(List.map vb D).length = D.length:=List.length_map ..
  have i24:(decide (i.toNat < (List.map vb D).length)) = true ↔ (i.toNat < D.length):=(by (try rw [w23]);all_goals exact Zab)
  obtain ⟨k25,H⟩:=H
  have w26:(List.map vb D).set i.toNat (vb true) = List.map vb (D.set i.toNat true):=(Zbg rfl rfl)
  have w27:(List.map (vi) A).set i.toNat (vi 0) = List.map (vi) (A.set i.toNat 0):=(Zbg rfl rfl)
  exact ZaA (G:=Zaf kp35 [(14,26,.elem (vi (A.getD i.toNat default))),(14,28,.elem (vb (D.getD i.toNat default)))] []) 1000 [false] (k:=((atC (cd Try.f35) [1,1,1,1,1,1,1,1])).tail) (env':=[(4,AV.vnil)]) (L':=[⟨[ag [AV.vec fm 1 (List.map Iw.a T),AV.row 1 0,AV.row 2 0,AV.ref 3 v 0 ((wi ((↑q:Int) - 1)).toNat - 0)]],4,0,false,false⟩,⟨(List.map vb D).set i.toNat (vb true),1,0,false,true⟩,⟨(List.map (vi) A).set i.toNat (vi 0),1,0,false,true⟩,⟨List.map (vi) X,1,v,false,true⟩]) (asm:=[(decide (j < m)) == false,true,true,true,true,v == v,v == v,decide (0 <= wi ((↑q:Int) - 1)),decide (0 <= (wi ((↑q:Int) - 1)).toNat),decide ((wi ((↑q:Int) - 1)).toNat <= q),true,true,decide (0 <= i),decide (i.toNat < (List.map (vi) A).length),true,true,decide (0 <= i),decide (i.toNat < (List.map vb D).length),true]) (eqs:=[((List.map (vi) A).get?Internal i.toNat = some (vi (A.getD i.toNat default))),((List.map vb D).get?Internal i.toNat = some (vb (D.getD i.toNat default)))]) (calls:=[]) (AV.vnil) (by kernel_rfl) (by kernel_rfl) (Zaa (ZaI (fun h => d2 (Zab.1 h))) (Zaa rfl (Zaa rfl (Zaa rfl (Zaa rfl (Zaa (beq_self_eq_true _) (Zaa (beq_self_eq_true _) (Zaa (i11.2 k12) (Zaa (i13.2 k14) (Zaa (i15.2 k16) (Zaa rfl (Zaa rfl (Zaa (Zab.2 k18) (Zaa (i20.2 k21) (Zaa rfl (Zaa rfl (Zaa (Zab.2 k18) (Zaa (i24.2 k25) (Zaa rfl Zas))))))))))))))))))) (Zao (Zak k21) (Zao (Zak k25) ZaC)) ZaD (by (try rw [w10]);(try rw [w26]);(try rw [w27]);all_goals exact H)
end Go.Av

namespace Go.Av
open Go.Proofs
def pvA (v:Nat):Option Nat -> AV
 | none => .row 3 v
 | some q => .ref 3 v 0 q
def HV (fm:Bool) (T:List Iw) (D:List Bool) (A X:List Int) (v:Nat) (q:Option Nat) (fz:Bool):Heap:=[⟨[.agg [.vec fm 1 (T.map Iw.a),.row 1 0,.row 2 0,pvA v q]],4,0,false,false⟩,⟨D.map .bool,1,0,false,true⟩,⟨A.map (.int .i64),1,0,false,true⟩,⟨X.map (.int .i64),1,v,fz,true⟩]
def pth (X:List Int):Option Nat -> List Int
 | none => X
 | some q => X.take q
def qok (X:List Int):Option Nat -> Prop
 | none => True
 | some q => q <= X.length
def Out (n:Nat) (ps:List Pr) (fm:Bool) (i:Int) (D:List Bool) (A P:List Int) (q0:Option Nat) (res:AV) (K:Heap):Prop:=
 (∃ D' X' v' q',res = .vnil /\ K = HV fm (Sp.Zci n ps) D' A X' v' q' false /\ qok X' q' /\ pth X' q' = P /\ Sp.VI n ps D' A P /\ (∀ k:Nat,D.getD k default = true -> D'.getD k default = true) /\ D'.getD i.toNat default = true /\ (q0 ≠ none -> q' ≠ none)) \/
 (∃ c cs D' A' X' v' q' fz,res = .vec false 1 ((c :: cs).map (.int .i64)) /\ K = HV fm (Sp.Zci n ps) D' A' X' v' q' fz /\ Sp.circ ps (c :: cs) = true)
def vLat (fm:Bool) (T:List Iw) (D:List Bool) (A X:List Int) (v:Nat) (q:Option Nat) (i:Int) (l:List Int) (j:Int) (Q:AV -> Heap -> Prop):Prop:=match q with
 | none => Zem fm T D A X v i false l (l.length:Int) j Q
 | some q => vFf_at fm T D A X v q i false l (l.length:Int) j Q
section
variable {n:Nat} {ps:List Pr} {fm:Bool}
theorem vL_exit {D:List Bool} {A P:List Int} {X1:List Int} {v1:Nat} {q1:Option Nat} {i:Int} {D1:List Bool} {A1 l:List Int} {q0:Option Nat} (hn:n <= 1000) (hV:Sp.VI n ps D1 A1 (P ++ [i])) (hP:pth X1 q1 = P ++ [i]) (hq:qok X1 q1) (hA:A1.set i.toNat 0 = A) (hD:∀ k:Nat,D.getD k default = true -> D1.getD k default = true)
  (hd:∀ b,Sp.edge ps i b -> (0 <= b /\ b < n) /\ D1.getD b.toNat default = true):∃ res K,vLat fm (Sp.Zci n ps) D1 A1 X1 v1 q1 i l (l.length:Int) (isR res K) /\ Out n ps fm i D A P q0 res K:=by
 have hi:=hV.rng i (by simp)
 have hdl:=hV.dl
 have hal:=hV.al
 have hpop:=hV.pop hd
 rw [hA] at hpop
 have hPl:(P ++ [i]).length <= n:=pigeon n _ hV.nd hV.rng
 rw [List.length_append,List.length_singleton] at hPl
 have hD':∀ k:Nat,D.getD k default = true -> (D1.set i.toNat true).getD k default = true:=fun k hk => by
  rw [List.getD_eq_getElem?_getD,List.getElem?_set]
  by_cases e:i.toNat = k
  ·rw [if_pos e,if_pos (by omega)];rfl
  ·rw [if_neg e,<- List.getD_eq_getElem?_getD];exact hD k hk
 have hDi:(D1.set i.toNat true).getD i.toNat default = true:=by
  rw [List.getD_eq_getElem?_getD,List.getElem?_set,if_pos rfl,if_pos (by omega)];rfl
 cases q1 with
 | none =>
  have hX:X1 = P ++ [i]:=hP
  have hXl:X1.length = P.length + 1:=by rw [hX];simp
  refine ⟨.vnil,HV fm (Sp.Zci n ps) (D1.set i.toNat true) A X1 v1 (some P.length) false,?_,.inl ⟨_,_,_,_,rfl,rfl,by show P.length <= X1.length;omega,by show X1.take P.length = P;rw [hX,List.take_left' rfl],hpop,hD',hDi,fun _ h => by cases h⟩⟩
  refine vRr fm (Sp.Zci n ps) D1 A1 X1 v1 i false l _ _ D1 X1 v1 _ ⟨fun z => absurd z (by omega),fun _ => ⟨by omega,by omega,by omega,by omega,by omega,by omega,by omega,?_⟩⟩
  rw [hA,show ((X1.length:Int) - 1).toNat - 0 = P.length by omega]
  exact ⟨rfl,rfl⟩
 | some q =>
  have hX:X1.take q = P ++ [i]:=hP
  have hq:q <= X1.length:=hq
  have hql:q = P.length + 1:=by have:=congrArg List.length hX;rw [List.length_take,List.length_append,List.length_singleton] at this;omega
  refine ⟨.vnil,HV fm (Sp.Zci n ps) (D1.set i.toNat true) A X1 v1 (some P.length) false,?_,.inl ⟨_,_,_,_,rfl,rfl,by show P.length <= X1.length;omega,?_,hpop,hD',hDi,fun _ h => by cases h⟩⟩
  ·refine vFf fm (Sp.Zci n ps) D1 A1 X1 v1 q i false l _ _ D1 X1 v1 q _ ⟨fun z => absurd z (by omega),fun _ => ⟨by omega,by omega,by omega,by omega,by omega,by omega,by omega,?_⟩⟩
   rw [hA,show ((q:Int) - 1).toNat - 0 = P.length by omega]
   exact ⟨rfl,rfl⟩
  ·show X1.take P.length = P
   have:X1.take P.length = (X1.take q).take P.length:=by rw [List.take_take,Nat.min_eq_left (by omega)]
   rw [this,hX,List.take_left' rfl]
theorem vloop (hv:Sp.okV n ps) (hn:n <= 1000) (hpl:ps.length <= 1000000) {D:List Bool} {A A1 P:List Int} {q:Option Nat} {i:Int} (hAb:A1.set i.toNat 0 = A)
    (hrec:∀ (D1:List Bool) (X1:List Int) (v1:Nat) (q1:Option Nat) (k:Int),pth X1 q1 = P ++ [i] -> Sp.VI n ps D1 A1 (P ++ [i]) -> qok X1 q1 -> (0 <= k /\ k < n) -> Sp.edge ps i k -> ∃ res K,Ev M1 (.own 35 [.ptr 0 0 0 0,.int .i64 k] (HV fm (Sp.Zci n ps) D1 A1 X1 v1 q1 false)) res K /\ Out n ps fm k D1 A1 (P ++ [i]) q1 res K) :
    ∀ (r j:Nat) (D1:List Bool) (X1:List Int) (v1:Nat) (q1:Option Nat),j + r = (Sp.bhl ps i).length -> Sp.VI n ps D1 A1 (P ++ [i]) -> pth X1 q1 = P ++ [i] -> qok X1 q1 -> (∀ k:Nat,D.getD k default = true -> D1.getD k default = true) -> (∀ b ∈ (Sp.bhl ps i).take j,D1.getD b.toNat default = true) ->
          ∃ res K,vLat fm (Sp.Zci n ps) D1 A1 X1 v1 q1 i (Sp.bhl ps i) (j:Int) (isR res K) /\ Out n ps fm i D A P q res K:=by
  intro r
  induction r with
  | zero =>
    intro j D1 X1 v1 q1 hj hV1 hX1 hq1 hD1 hd
    rw [List.take_of_length_le (by omega)] at hd
    rw [show j = (Sp.bhl ps i).length by omega]
    exact vL_exit hn hV1 hX1 hq1 hAb hD1 fun b hb => ⟨bhl_in hv i b (bhl_mem.2 hb),hd b (bhl_mem.2 hb)⟩
  | succ r ihr =>
    intro j D1 X1 v1 q1 hj hV1 hX1 hq1 hD1 hd
    have hjl:j < (Sp.bhl ps i).length:=by omega
    have hbl:=bhl_len ps i
    have ej:((j:Nat):Int).toNat = j:=Int.toNat_natCast j
    have g:(Sp.bhl ps i).getD j default = (Sp.bhl ps i)[j]:=by rw [List.getD_eq_getElem?_getD,List.getElem?_eq_getElem hjl];rfl
    have hkm:=List.getElem_mem hjl
    have hk:=bhl_in hv i _ hkm
    have hke:=bhl_mem.1 hkm
    obtain ⟨res,K,hE,hO⟩:=hrec D1 X1 v1 q1 (Sp.bhl ps i)[j] hX1 hV1 hq1 hk hke
    rcases hO with ⟨D2,X2,v2,q2,rfl,rfl,hq2,hX2,hV2,hD2,hDk,hqq⟩ | ⟨c,cs,D2,A2,X2,v2,q2,fz,rfl,rfl,hc⟩
    · obtain ⟨res',K',hL,hO'⟩:=ihr (j + 1) D2 X2 v2 q2 (by omega) hV2 hX2 hq2 (fun k hk => hD2 k (hD1 k hk)) (fun b hb => by
        rw [Zeo hjl] at hb
        rcases List.mem_append.1 hb with hb | hb
        · exact hD2 _ (hd b hb)
        · rw [List.mem_singleton] at hb;rw [hb];exact hDk)
      refine ⟨res',K',?_,hO'⟩
      rw [show (((j + 1:Nat):Int)) = (j:Int) + 1 by omega] at hL
      rw [<- g] at hE
      cases q1 with
      | none =>
        cases q2 with
        | none =>
          refine vRr fm (Sp.Zci n ps) D1 _ X1 v1 i false (Sp.bhl ps i) _ _ D2 X2 v2 _ ⟨fun _ => ?_,fun z => absurd (by omega) z⟩
          rw [ej]
          exact ⟨by omega,by omega,hE,by omega,hL⟩
        | some q2 =>
          refine vRf fm (Sp.Zci n ps) D1 _ X1 v1 i false (Sp.bhl ps i) _ _ D2 X2 v2 q2 _ ⟨fun _ => ?_,fun z => absurd (by omega) z⟩
          rw [ej]
          exact ⟨by omega,by omega,hE,by omega,hL⟩
      | some q1 =>
        cases q2 with
        | none => exact absurd rfl (hqq (by simp))
        | some q2 =>
          refine vFf fm (Sp.Zci n ps) D1 _ X1 v1 q1 i false (Sp.bhl ps i) _ _ D2 X2 v2 q2 _ ⟨fun _ => ?_,fun z => absurd (by omega) z⟩
          rw [ej]
          exact ⟨by omega,by omega,hE,by omega,hL⟩
    · refine ⟨_,_,?_,.inr ⟨c,cs,D2,A2,X2,v2,q2,fz,rfl,rfl,hc⟩⟩
      rw [<- g] at hE
      cases q1 with
      | none =>
        cases q2 with
        | none =>
          refine vRc fm (Sp.Zci n ps) D1 _ X1 v1 i false (Sp.bhl ps i) _ _ D2 A2 X2 v2 fz c cs _ ⟨fun _ => ?_,fun z => absurd (by omega) z⟩
          rw [ej]
          exact ⟨by omega,by omega,hE,rfl,rfl⟩
        | some q2 =>
          refine vRd fm (Sp.Zci n ps) D1 _ X1 v1 i false (Sp.bhl ps i) _ _ D2 A2 X2 v2 q2 fz c cs _ ⟨fun _ => ?_,fun z => absurd (by omega) z⟩
          rw [ej]
          exact ⟨by omega,by omega,hE,rfl,rfl⟩
      | some q1 =>
        cases q2 with
        | none =>
          refine vFc fm (Sp.Zci n ps) D1 _ X1 v1 q1 i false (Sp.bhl ps i) _ _ D2 A2 X2 v2 fz c cs _ ⟨fun _ => ?_,fun z => absurd (by omega) z⟩
          rw [ej]
          exact ⟨by omega,by omega,hE,rfl,rfl⟩
        | some q2 =>
          refine vFd fm (Sp.Zci n ps) D1 _ X1 v1 q1 i false (Sp.bhl ps i) _ _ D2 A2 X2 v2 q2 fz c cs _ ⟨fun _ => ?_,fun z => absurd (by omega) z⟩
          rw [ej]
          exact ⟨by omega,by omega,hE,rfl,rfl⟩
theorem Zfh (hv:Sp.okV n ps) (hs:∀ p ∈ ps,p.a ≠ p.b) (hn:n <= 1000) (hpl:ps.length <= 1000000):∀ (m:Nat) (D:List Bool) (A X:List Int) (v:Nat) (q:Option Nat) (i:Int),n - (pth X q).length = m -> Sp.VI n ps D A (pth X q) -> qok X q -> (0 <= i /\ i < n) -> (∀ x,(pth X q).getLast? = some x -> Sp.edge ps x i) ->
  ∃ res K,Ev M1 (.own 35 [.ptr 0 0 0 0,.int .i64 i] (HV fm (Sp.Zci n ps) D A X v q false)) res K /\ Out n ps fm i D A (pth X q) q res K:=by
 intro m
 induction m using Nat.strongRecOn with
 | ind m IH =>
 intro D A X v q i hm hV hq hi he
 obtain ⟨P,hP⟩:∃ P,P = pth X q:=⟨_,rfl⟩
 rw [<- hP] at hm hV he ⊢
 have hal:=hV.al
 have hdl:=hV.dl
 have hPl:P.length <= n:=pigeon n _ hV.nd hV.rng
 have hss:¬Sp.edge ps i i:=fun ⟨p,hp,h1,h2⟩ => hs p hp (h1.trans h2.symm)
 have hik:((i.toNat:Nat):Int) = i:=by omega
 by_cases hin:i ∈ P
 ·obtain ⟨j,hj⟩:=List.getElem?_of_mem hin
  have hjl:=(List.getElem?_eq_some_iff.1 hj).1
  have hAi:=hV.at1 j i hj
  obtain ⟨c1,c2⟩:=circ_of hV hj he hss
  have e1:(A.getD i.toNat default - 1).toNat = j:=by omega
  have one:Sp.one (P.drop j):=⟨c2,by rw [List.length_drop];omega⟩
  obtain ⟨c,cs,hcs⟩:∃ c cs,P.drop j = c :: cs:=by
   cases hc:P.drop j with
   | nil => exact absurd hc c2
   | cons c cs => exact ⟨c,cs,rfl⟩
  cases q with
  | none =>
   have hX:P = X:=hP
   have e2:List.take (X.length - j) (List.drop j X) = P.drop j:=by rw [List.take_of_length_le (by rw [List.length_drop];omega),hX]
   refine ⟨.vec false 1 ((c :: cs).map (.int .i64)),HV fm (Sp.Zci n ps) D A X v none true,ZbU (vSr fm (Sp.Zci n ps) D A X v i _ ⟨by omega,by omega,fun _ => ?_,fun z => absurd (by omega) z⟩),.inr ⟨c,cs,D,A,X,v,none,true,rfl,rfl,by rw [<- hcs];exact c1⟩⟩
   rw [e1,e2]
   refine ⟨by omega,one,by omega,by rw [<- hX];omega,?_⟩
   rw [hcs];exact ⟨rfl,rfl⟩
  | some q =>
   have hX:P = X.take q:=hP
   have hq:q <= X.length:=hq
   have hql:P.length = q:=by rw [hX,List.length_take];omega
   have e2:List.take (q - j) (List.drop (0 + j) X) = P.drop j:=by rw [Nat.zero_add,hX,List.drop_take]
   refine ⟨.vec false 1 ((c :: cs).map (.int .i64)),HV fm (Sp.Zci n ps) D A X v (some q) true,ZbU (vSf fm (Sp.Zci n ps) D A X v q i _ ⟨by omega,by omega,fun _ => ?_,fun z => absurd (by omega) z⟩),.inr ⟨c,cs,D,A,X,v,some q,true,rfl,rfl,by rw [<- hcs];exact c1⟩⟩
   rw [e1,e2]
   refine ⟨by omega,one,by omega,by omega,?_⟩
   rw [hcs];exact ⟨rfl,rfl⟩
 ·have hA0:A.getD i.toNat default = 0:=hV.at0 i.toNat (by omega) (by rw [hik];exact hin)
  cases hDi:D.getD i.toNat default with
  | true =>
   refine ⟨.vnil,HV fm (Sp.Zci n ps) D A X v q false,?_,.inl ⟨D,X,v,q,rfl,rfl,hq,hP.symm,hV,fun _ h => h,hDi,fun h => h⟩⟩
   cases q with
   | none => exact ZbU (vSr fm (Sp.Zci n ps) D A X v i _ ⟨by omega,by omega,fun z => by omega,fun _ => ⟨by omega,fun _ => ⟨rfl,rfl⟩,fun z => absurd hDi z⟩⟩)
   | some q => exact ZbU (vSf fm (Sp.Zci n ps) D A X v q i _ ⟨by omega,by omega,fun z => by omega,fun _ => ⟨by omega,fun _ => ⟨rfl,rfl⟩,fun z => absurd hDi z⟩⟩)
  | false =>
   have hV1:=hV.push hi hin he
   have hPl1:(P ++ [i]).length <= n:=pigeon n _ hV1.nd hV1.rng
   rw [List.length_append,List.length_singleton] at hPl1
   have hAb:(A.set i.toNat ((P.length:Int) + 1)).set i.toNat 0 = A:=set_back hal hi hA0
   have hlast:∀ x,(P ++ [i]).getLast? = some x -> x = i:=fun x hx => by simp at hx;exact hx.symm
   have loop:=vloop (fm:=fm) (D:=D) (q:=q) hv hn hpl hAb (P:=P) (i:=i) fun D1 X1 v1 q1 k hX1 hV1 hq1 hk hke => by
    obtain ⟨res,K,hE,hO⟩:=IH (n - (P ++ [i]).length) (by rw [List.length_append,List.length_singleton];omega) D1 (A.set i.toNat ((P.length:Int) + 1)) X1 v1 q1 k (by rw [hX1]) (by rw [hX1];exact hV1) hq1 hk (fun x hx => by
     rw [hX1] at hx
     rw [hlast x hx];exact hke)
    rw [hX1] at hO
    exact ⟨res,K,hE,hO⟩
   have hT:((Sp.Zci n ps).getD i.toNat default).l = Sp.bhl ps i:=by rw [behW_get (by omega),hik]
   have hnd:¬D.getD i.toNat default = true:=by rw [hDi];simp
   cases q with
   | none =>
    have hX:P = X:=hP
    obtain ⟨res,K,hL,hO⟩:=loop (Sp.bhl ps i).length 0 D (X ++ [i]) (v + 1) none (by omega) hV1 (by rw [<- hX];rfl) trivial (fun _ h => h) (fun b hb => by simp at hb)
    refine ⟨res,K,ZbU (vSr fm (Sp.Zci n ps) D A X v i _ ⟨by omega,by omega,fun z => by omega,fun _ => ⟨by omega,fun z => absurd z hnd,fun _ => ⟨by rw [<- hX];omega,by rw [behW_len];omega,?_⟩⟩⟩),hO⟩
    rw [hT,show (((X ++ [i]).length:Nat):Int) = (P.length:Int) + 1 by rw [hX];simp]
    exact hL
   | some q =>
    have hX:P = X.take q:=hP
    have hq:q <= X.length:=hq
    have hql:P.length = q:=by rw [hX,List.length_take];omega
    obtain ⟨res,K,hL,hO⟩:=loop (Sp.bhl ps i).length 0 D (X.take q ++ [i]) (v + 1) none (by omega) hV1 (by rw [<- hX];rfl) trivial (fun _ h => h) (fun b hb => by simp at hb)
    refine ⟨res,K,ZbU (vSf fm (Sp.Zci n ps) D A X v q i _ ⟨by omega,by omega,fun z => by omega,fun _ => ⟨by omega,fun z => absurd z hnd,fun _ => ⟨by omega,by rw [behW_len];omega,?_⟩⟩⟩),hO⟩
    rw [hT,List.drop_zero,show (((X.take q ++ [i]).length:Nat):Int) = (P.length:Int) + 1 by rw [hX];simp]
    exact hL
end
end Go.Av

namespace Go.Av
open Go.Proofs
set_option maxRecDepth 100000
def fi17:Fi:=⟨32,[.tmp 4,.tmp 5]⟩
def kp17:List (Nat × List Nat):=[(0,[0,1]),(1,[0,1,12]),(2,[4,5]),(3,[0,6]),(4,[6,22,23]),(5,[6,22,23,24]),(6,[6,7,22,23]),(7,[6,8,22,23]),(8,[6,8,22,23,29]),(9,[4,5]),(10,[6,22,23]),(11,[4,5])]
def fi19:Fi:=⟨40,[.tmp 4]⟩
def kp19:List (Nat × List Nat):=[(0,[0,1]),(1,[0,1,5]),(2,[0,1,5,9]),(3,[0,1,5]),(4,[0,1,5,36]),(5,[4]),(6,[4])]
def pCc_at (n:Int) (f:Bool) (ps:List Pr) (Q:AV->Heap->Prop):Prop:=Wp M1 (.run fi17 (atC (cd Try.f17) []) [(0,.int .i64 n),(1,.vec f 2 (ps.map Pr.v))] []) Q
def pCcB_at (n:Int) (fm:Bool) (T:List Iw) (D:List Bool) (A:List Int) (Q:AV->Heap->Prop):Prop:=Wp M1 (.run fi17 (atC (cd Try.f17) [1,1,1]) [(0,.int .i64 n),(6,.ptr 0 0 0 0)] [⟨[.agg [.vec fm 1 (T.map Iw.a),.row 1 0,.row 2 0,.vnil]],4,0,false,false⟩,⟨D.map (.bool),1,0,false,true⟩,⟨A.map (.int .i64),1,0,false,true⟩]) Q
def Zed (fm:Bool) (T:List Iw) (D:List Bool) (A:List Int) (m i:Int) (Q:AV->Heap->Prop):Prop:=Wp M1 (.run fi17 (atC (cd Try.f17) [1,1,1,0,1,0,0]) [(6,.ptr 0 0 0 0),(22,.int .i64 m),(23,.int .i64 i)] [⟨[.agg [.vec fm 1 (T.map Iw.a),.row 1 0,.row 2 0,.vnil]],4,0,false,false⟩,⟨D.map (.bool),1,0,false,true⟩,⟨A.map (.int .i64),1,0,false,true⟩]) Q
def pCcNc_at (fm:Bool) (T:List Iw) (D:List Bool) (A:List Int) (m i:Int) (Q:AV->Heap->Prop):Prop:=Wp M1 (.run fi17 (atC (cd Try.f17) [1,1,1,0,1,0,0]) [(6,.ptr 0 0 0 0),(22,.int .i64 m),(23,.int .i64 i)] [⟨[.agg [.vec fm 1 (T.map Iw.a),.row 1 0,.row 2 0,.vnil]],4,0,false,false⟩,⟨D.map (.bool),1,0,false,true⟩,⟨A.map (.int .i64),1,0,false,true⟩]) Q
def pCcNd_at (fm:Bool) (T:List Iw) (D:List Bool) (A:List Int) (m i:Int) (Q:AV->Heap->Prop):Prop:=Wp M1 (.run fi17 (atC (cd Try.f17) [1,1,1,0,1,0,0]) [(6,.ptr 0 0 0 0),(22,.int .i64 m),(23,.int .i64 i)] [⟨[.agg [.vec fm 1 (T.map Iw.a),.row 1 0,.row 2 0,.vnil]],4,0,false,false⟩,⟨D.map (.bool),1,0,false,true⟩,⟨A.map (.int .i64),1,0,false,true⟩]) Q
def Zdp (fm:Bool) (T:List Iw) (D:List Bool) (A X:List Int) (v:Nat) (q:Nat) (m i:Int) (Q:AV->Heap->Prop):Prop:=Wp M1 (.run fi17 (atC (cd Try.f17) [1,1,1,0,1,0,0]) [(6,.ptr 0 0 0 0),(22,.int .i64 m),(23,.int .i64 i)] [⟨[.agg [.vec fm 1 (T.map Iw.a),.row 1 0,.row 2 0,.ref 3 v 0 q]],4,0,false,false⟩,⟨D.map (.bool),1,0,false,true⟩,⟨A.map (.int .i64),1,0,false,true⟩,⟨X.map (.int .i64),1,v,false,true⟩]) Q
def pCcFc_at (fm:Bool) (T:List Iw) (D:List Bool) (A X:List Int) (v:Nat) (q:Nat) (m i:Int) (Q:AV->Heap->Prop):Prop:=Wp M1 (.run fi17 (atC (cd Try.f17) [1,1,1,0,1,0,0]) [(6,.ptr 0 0 0 0),(22,.int .i64 m),(23,.int .i64 i)] [⟨[.agg [.vec fm 1 (T.map Iw.a),.row 1 0,.row 2 0,.ref 3 v 0 q]],4,0,false,false⟩,⟨D.map (.bool),1,0,false,true⟩,⟨A.map (.int .i64),1,0,false,true⟩,⟨X.map (.int .i64),1,v,false,true⟩]) Q
def pCcFd_at (fm:Bool) (T:List Iw) (D:List Bool) (A X:List Int) (v:Nat) (q:Nat) (m i:Int) (Q:AV->Heap->Prop):Prop:=Wp M1 (.run fi17 (atC (cd Try.f17) [1,1,1,0,1,0,0]) [(6,.ptr 0 0 0 0),(22,.int .i64 m),(23,.int .i64 i)] [⟨[.agg [.vec fm 1 (T.map Iw.a),.row 1 0,.row 2 0,.ref 3 v 0 q]],4,0,false,false⟩,⟨D.map (.bool),1,0,false,true⟩,⟨A.map (.int .i64),1,0,false,true⟩,⟨X.map (.int .i64),1,v,false,true⟩]) Q
def pCi_at (f g:Bool) (ps:List Pr) (l:List Int) (Q:AV->Heap->Prop):Prop:=Wp M1 (.run fi19 (atC (cd Try.f19) []) [(0,.vec f 2 (ps.map Pr.v)),(1,.vec g 1 (l.map (.int .i64)))] []) Q
def ZeG (f g:Bool) (ps:List Pr) (l:List Int) (i:Int) (Q:AV->Heap->Prop):Prop:=Wp M1 (.run fi19 (atC (cd Try.f19) [1,0,1,0,0]) [(0,.vec f 2 (ps.map Pr.v)),(1,.vec g 1 (l.map (.int .i64))),(5,.int .i64 i)] []) Q
theorem call17 {args:List AV} {d:AV} (h:wc M1 fi17 Try.f17 args d):Ev M1 (.pure 17 args) d []:=pcl _ _ (by kernel_rfl) h
theorem call19 {args:List AV} {d:AV} (h:wc M1 fi19 Try.f19 args d):Ev M1 (.pure 19 args) d []:=pcl _ _ (by kernel_rfl) h
theorem pCc (n:Int) (f:Bool) (ps:List Pr)  (dq:AV) (H :
  ((¬Sp.vd n ps = 0) -> Weak (tu [AV.vnil,vb false]) dq) /\
  (¬(¬Sp.vd n ps = 0) -> Wp M1 (.run fi17 (atC (cd Try.f17) [1,1,0]) [(0,vi n),(1,AV.vec f 2 (List.map Pr.v ps)),(12,vb (Sp.vd n ps != 0))] []) (Zay dq))) :
 pCc_at n f ps (Zay dq):=by
 unfold pCc_at
 refine Zae (G:=Zaf kp17 [(1,2,.call (vi (Sp.vd n ps)) none)] []) 5 [] ⟨(atC (cd Try.f17) [1,0,1]),[(0,vi n),(1,AV.vec f 2 (List.map Pr.v ps)),(12,vb (Sp.vd n ps != 0))],[],_,[],_⟩ (by kernel_rfl) b0 q0 (ce (@ev14 (n) (f) (ps)) c0) ?_
 rcases xq H with ⟨d2,H⟩|⟨d2,H⟩
 ·exact Zbv (G:=Zaf kp17 [] []) 1000 [true] (tu [AV.vnil,vb false]) (by kernel_rfl) (bc (ZaK (i_ne.2 d2)) b0) q0 c0 H
 ·exact Zae (G:=Zaf kp17 [] []) 3 [false] ⟨(atC (cd Try.f17) [1,1,0]),[(0,vi n),(1,AV.vec f 2 (List.map Pr.v ps)),(12,vb (Sp.vd n ps != 0))],[],_,[],_⟩ (by kernel_rfl) (bc (ZaI (fun h => d2 (i_ne.1 h))) b0) q0 c0 (H)
theorem pCcB (n:Int) (fm:Bool) (T:List Iw) (D:List Bool) (A:List Int)  (dq:AV) (H :
  Zed (fm) (T) (D) (A) (n) (0) (Zay dq)) :
 pCcB_at n fm T D A (Zay dq):=by
 unfold pCcB_at
 exact Zae (G:=Zaf kp17 [] []) 1000 [] ⟨(atC (cd Try.f17) [1,1,1,0,1,0,0]),[(6,AV.ptr 0 0 0 0),(22,vi n),(23,vi 0)],[⟨[ag [AV.vec fm 1 (List.map Iw.a T),AV.row 1 0,AV.row 2 0,AV.vnil]],4,0,false,false⟩,⟨List.map vb D,1,0,false,true⟩,⟨List.map (vi) A,1,0,false,true⟩],_,[],_⟩ (by kernel_rfl) b0 q0 c0 (H)
theorem pCcNf (fm:Bool) (T:List Iw) (D:List Bool) (A:List Int) (m i:Int) (D':List Bool) (X':List Int) (v' q':Nat) (dq:AV) (H :
  ((i < m) -> (Ev M1 (Conf.own 35 [AV.ptr 0 0 0 0,vi i] [{ elems:=[ag [AV.vec fm 1 (List.map Iw.a T),AV.row 1 0,AV.row 2 0,AV.vnil]],es:=4,ver:=0,frozen:=false,clean:=false },{ elems:=List.map vb D,es:=1,ver:=0,frozen:=false,clean:=true },{ elems:=List.map (vi) A,es:=1,ver:=0,frozen:=false,clean:=true }]) AV.vnil [{ elems:=[ag [AV.vec fm 1 (List.map Iw.a T),AV.row 1 0,AV.row 2 0,AV.ref 3 v' 0 q']],es:=4,ver:=0,frozen:=false,clean:=false },{ elems:=List.map vb D',es:=1,ver:=0,frozen:=false,clean:=true },{ elems:=List.map (vi) A,es:=1,ver:=0,frozen:=false,clean:=true },{ elems:=List.map (vi) X',es:=1,ver:=v',frozen:=false,clean:=true }]) /\
   (-9223372036854775808 <= i + 1 /\ i + 1 <= 9223372036854775807) /\
   Zdp (fm) (T) (D') (A) (X') (v') (q') (m) (i + 1) (Zay dq)) /\
  (¬(i < m) -> Weak (tu [AV.vnil,vb false]) dq)) :
 Zed fm T D A m i (Zay dq):=by
 unfold Zed
 rcases xq H with ⟨d2,H⟩|⟨d2,H⟩
 ·obtain ⟨k3,k4,H⟩:=H
  have w5:wi (i + 1) = i + 1:=wI64 k4
  exact Zae (G:=Zaf kp17 [(7,1,(.call .vnil (some [⟨[.agg [.vec fm 1 (T.map Iw.a),.row 1 0,.row 2 0,.ref 3 v' 0 q']],4,0,false,false⟩,⟨D'.map (.bool),1,0,false,true⟩,⟨A.map (.int .i64),1,0,false,true⟩,⟨X'.map (.int .i64),1,v',false,true⟩]):Ans))] []) 1000 [true,false] ⟨(atC (cd Try.f17) [1,1,1,0,1,0,0]),[(6,AV.ptr 0 0 0 0),(22,vi m),(23,vi (wi (i + 1)))],[⟨[ag [AV.vec fm 1 (List.map Iw.a T),AV.row 1 0,AV.row 2 0,AV.ref 3 v' 0 q']],4,0,false,false⟩,⟨List.map vb D',1,0,false,true⟩,⟨List.map (vi) A,1,0,false,true⟩,⟨List.map (vi) X',1,v',false,true⟩],_,[],[⟨true,true,35,[AV.ptr 0 0 0 0,vi i],[⟨[ag [AV.vec fm 1 (List.map Iw.a T),AV.row 1 0,AV.row 2 0,AV.vnil]],4,0,false,false⟩,⟨List.map vb D,1,0,false,true⟩,⟨List.map (vi) A,1,0,false,true⟩],AV.vnil,[⟨[ag [AV.vec fm 1 (List.map Iw.a T),AV.row 1 0,AV.row 2 0,AV.ref 3 v' 0 q']],4,0,false,false⟩,⟨List.map vb D',1,0,false,true⟩,⟨List.map (vi) A,1,0,false,true⟩,⟨List.map (vi) X',1,v',false,true⟩]⟩]⟩ (by kernel_rfl) (bc (ZaK (Zab.2 d2)) (bc rfl b0)) q0 (cc (fun _ => k3) c0) (by (try rw [w5]);all_goals exact H)
 ·exact Zbv (G:=Zaf kp17 [] []) 1000 [false] (tu [AV.vnil,vb false]) (by kernel_rfl) (bc (ZaI (fun h => d2 (Zab.1 h))) b0) q0 c0 H
theorem pCcNc (fm:Bool) (T:List Iw) (D:List Bool) (A:List Int) (m i:Int) (D':List Bool) (A' X':List Int) (v':Nat) (fz:Bool) (c:Int) (cs:List Int) (dq:AV) (H :
  ((i < m) -> (Ev M1 (Conf.own 35 [AV.ptr 0 0 0 0,vi i] [{ elems:=[ag [AV.vec fm 1 (List.map Iw.a T),AV.row 1 0,AV.row 2 0,AV.vnil]],es:=4,ver:=0,frozen:=false,clean:=false },{ elems:=List.map vb D,es:=1,ver:=0,frozen:=false,clean:=true },{ elems:=List.map (vi) A,es:=1,ver:=0,frozen:=false,clean:=true }]) (vf (vi c :: List.map (vi) cs)) [{ elems:=[ag [AV.vec fm 1 (List.map Iw.a T),AV.row 1 0,AV.row 2 0,AV.row 3 v']],es:=4,ver:=0,frozen:=false,clean:=false },{ elems:=List.map vb D',es:=1,ver:=0,frozen:=false,clean:=true },{ elems:=List.map (vi) A',es:=1,ver:=0,frozen:=false,clean:=true },{ elems:=List.map (vi) X',es:=1,ver:=v',frozen:=fz,clean:=true }]) /\
   Weak (tu [vf (vi c :: List.map (vi) cs),vb true]) dq) /\
  (¬(i < m) -> Weak (tu [AV.vnil,vb false]) dq)) :
 pCcNc_at fm T D A m i (Zay dq):=by
 unfold pCcNc_at
 rcases xq H with ⟨d2,H⟩|⟨d2,H⟩
 ·obtain ⟨k3,H⟩:=H
  exact Zbv (G:=Zaf kp17 [(7,1,(.call (.vec false 1 ((c :: cs).map (.int .i64))) (some [⟨[.agg [.vec fm 1 (T.map Iw.a),.row 1 0,.row 2 0,.row 3 v']],4,0,false,false⟩,⟨D'.map (.bool),1,0,false,true⟩,⟨A'.map (.int .i64),1,0,false,true⟩,⟨X'.map (.int .i64),1,v',fz,true⟩]):Ans))] []) 1000 [true,true] (calls:=[⟨true,true,35,[AV.ptr 0 0 0 0,vi i],[⟨[ag [AV.vec fm 1 (List.map Iw.a T),AV.row 1 0,AV.row 2 0,AV.vnil]],4,0,false,false⟩,⟨List.map vb D,1,0,false,true⟩,⟨List.map (vi) A,1,0,false,true⟩],vf (vi c :: List.map (vi) cs),[⟨[ag [AV.vec fm 1 (List.map Iw.a T),AV.row 1 0,AV.row 2 0,AV.row 3 v']],4,0,false,false⟩,⟨List.map vb D',1,0,false,true⟩,⟨List.map (vi) A',1,0,false,true⟩,⟨List.map (vi) X',1,v',fz,true⟩]⟩]) (tu [vf (vi c :: List.map (vi) cs),vb true]) (by kernel_rfl) (bc (ZaK (Zab.2 d2)) (bc rfl b0)) q0 (cc (fun _ => k3) c0) H
 ·exact Zbv (G:=Zaf kp17 [] []) 1000 [false] (tu [AV.vnil,vb false]) (by kernel_rfl) (bc (ZaI (fun h => d2 (Zab.1 h))) b0) q0 c0 H
theorem pCcNd (fm:Bool) (T:List Iw) (D:List Bool) (A:List Int) (m i:Int) (D':List Bool) (A' X':List Int) (v' q':Nat) (fz:Bool) (c:Int) (cs:List Int) (dq:AV) (H :
  ((i < m) -> (Ev M1 (Conf.own 35 [AV.ptr 0 0 0 0,vi i] [{ elems:=[ag [AV.vec fm 1 (List.map Iw.a T),AV.row 1 0,AV.row 2 0,AV.vnil]],es:=4,ver:=0,frozen:=false,clean:=false },{ elems:=List.map vb D,es:=1,ver:=0,frozen:=false,clean:=true },{ elems:=List.map (vi) A,es:=1,ver:=0,frozen:=false,clean:=true }]) (vf (vi c :: List.map (vi) cs)) [{ elems:=[ag [AV.vec fm 1 (List.map Iw.a T),AV.row 1 0,AV.row 2 0,AV.ref 3 v' 0 q']],es:=4,ver:=0,frozen:=false,clean:=false },{ elems:=List.map vb D',es:=1,ver:=0,frozen:=false,clean:=true },{ elems:=List.map (vi) A',es:=1,ver:=0,frozen:=false,clean:=true },{ elems:=List.map (vi) X',es:=1,ver:=v',frozen:=fz,clean:=true }]) /\
   Weak (tu [vf (vi c :: List.map (vi) cs),vb true]) dq) /\
  (¬(i < m) -> Weak (tu [AV.vnil,vb false]) dq)) :
 pCcNd_at fm T D A m i (Zay dq):=by
 unfold pCcNd_at
 rcases xq H with ⟨d2,H⟩|⟨d2,H⟩
 ·obtain ⟨k3,H⟩:=H
  exact Zbv (G:=Zaf kp17 [(7,1,(.call (.vec false 1 ((c :: cs).map (.int .i64))) (some [⟨[.agg [.vec fm 1 (T.map Iw.a),.row 1 0,.row 2 0,.ref 3 v' 0 q']],4,0,false,false⟩,⟨D'.map (.bool),1,0,false,true⟩,⟨A'.map (.int .i64),1,0,false,true⟩,⟨X'.map (.int .i64),1,v',fz,true⟩]):Ans))] []) 1000 [true,true] (calls:=[⟨true,true,35,[AV.ptr 0 0 0 0,vi i],[⟨[ag [AV.vec fm 1 (List.map Iw.a T),AV.row 1 0,AV.row 2 0,AV.vnil]],4,0,false,false⟩,⟨List.map vb D,1,0,false,true⟩,⟨List.map (vi) A,1,0,false,true⟩],vf (vi c :: List.map (vi) cs),[⟨[ag [AV.vec fm 1 (List.map Iw.a T),AV.row 1 0,AV.row 2 0,AV.ref 3 v' 0 q']],4,0,false,false⟩,⟨List.map vb D',1,0,false,true⟩,⟨List.map (vi) A',1,0,false,true⟩,⟨List.map (vi) X',1,v',fz,true⟩]⟩]) (tu [vf (vi c :: List.map (vi) cs),vb true]) (by kernel_rfl) (bc (ZaK (Zab.2 d2)) (bc rfl b0)) q0 (cc (fun _ => k3) c0) H
 ·exact Zbv (G:=Zaf kp17 [] []) 1000 [false] (tu [AV.vnil,vb false]) (by kernel_rfl) (bc (ZaI (fun h => d2 (Zab.1 h))) b0) q0 c0 H
theorem pCcFf (fm:Bool) (T:List Iw) (D:List Bool) (A X:List Int) (v:Nat) (q:Nat) (m i:Int) (D':List Bool) (X':List Int) (v' q':Nat) (dq:AV) (H :
  ((i < m) -> (Ev M1 (Conf.own 35 [AV.ptr 0 0 0 0,vi i] [{ elems:=[ag [AV.vec fm 1 (List.map Iw.a T),AV.row 1 0,AV.row 2 0,AV.ref 3 v 0 q]],es:=4,ver:=0,frozen:=false,clean:=false },{ elems:=List.map vb D,es:=1,ver:=0,frozen:=false,clean:=true },{ elems:=List.map (vi) A,es:=1,ver:=0,frozen:=false,clean:=true },{ elems:=List.map (vi) X,es:=1,ver:=v,frozen:=false,clean:=true }]) AV.vnil [{ elems:=[ag [AV.vec fm 1 (List.map Iw.a T),AV.row 1 0,AV.row 2 0,AV.ref 3 v' 0 q']],es:=4,ver:=0,frozen:=false,clean:=false },{ elems:=List.map vb D',es:=1,ver:=0,frozen:=false,clean:=true },{ elems:=List.map (vi) A,es:=1,ver:=0,frozen:=false,clean:=true },{ elems:=List.map (vi) X',es:=1,ver:=v',frozen:=false,clean:=true }]) /\
   (-9223372036854775808 <= i + 1 /\ i + 1 <= 9223372036854775807) /\
   Zdp (fm) (T) (D') (A) (X') (v') (q') (m) (i + 1) (Zay dq)) /\
  (¬(i < m) -> Weak (tu [AV.vnil,vb false]) dq)) :
 Zdp fm T D A X v q m i (Zay dq):=by
 unfold Zdp
 rcases xq H with ⟨d2,H⟩|⟨d2,H⟩
 ·obtain ⟨k3,k4,H⟩:=H
  have w5:wi (i + 1) = i + 1:=wI64 k4
  exact Zae (G:=Zaf kp17 [(7,1,(.call .vnil (some [⟨[.agg [.vec fm 1 (T.map Iw.a),.row 1 0,.row 2 0,.ref 3 v' 0 q']],4,0,false,false⟩,⟨D'.map (.bool),1,0,false,true⟩,⟨A.map (.int .i64),1,0,false,true⟩,⟨X'.map (.int .i64),1,v',false,true⟩]):Ans))] []) 1000 [true,false] ⟨(atC (cd Try.f17) [1,1,1,0,1,0,0]),[(6,AV.ptr 0 0 0 0),(22,vi m),(23,vi (wi (i + 1)))],[⟨[ag [AV.vec fm 1 (List.map Iw.a T),AV.row 1 0,AV.row 2 0,AV.ref 3 v' 0 q']],4,0,false,false⟩,⟨List.map vb D',1,0,false,true⟩,⟨List.map (vi) A,1,0,false,true⟩,⟨List.map (vi) X',1,v',false,true⟩],_,[],[⟨true,true,35,[AV.ptr 0 0 0 0,vi i],[⟨[ag [AV.vec fm 1 (List.map Iw.a T),AV.row 1 0,AV.row 2 0,AV.ref 3 v 0 q]],4,0,false,false⟩,⟨List.map vb D,1,0,false,true⟩,⟨List.map (vi) A,1,0,false,true⟩,⟨List.map (vi) X,1,v,false,true⟩],AV.vnil,[⟨[ag [AV.vec fm 1 (List.map Iw.a T),AV.row 1 0,AV.row 2 0,AV.ref 3 v' 0 q']],4,0,false,false⟩,⟨List.map vb D',1,0,false,true⟩,⟨List.map (vi) A,1,0,false,true⟩,⟨List.map (vi) X',1,v',false,true⟩]⟩]⟩ (by kernel_rfl) (bc (ZaK (Zab.2 d2)) (bc rfl b0)) q0 (cc (fun _ => k3) c0) (by (try rw [w5]);all_goals exact H)
 ·exact Zbv (G:=Zaf kp17 [] []) 1000 [false] (tu [AV.vnil,vb false]) (by kernel_rfl) (bc (ZaI (fun h => d2 (Zab.1 h))) b0) q0 c0 H
theorem pCcFc (fm:Bool) (T:List Iw) (D:List Bool) (A X:List Int) (v:Nat) (q:Nat) (m i:Int) (D':List Bool) (A' X':List Int) (v':Nat) (fz:Bool) (c:Int) (cs:List Int) (dq:AV) (H :
  ((i < m) -> (Ev M1 (Conf.own 35 [AV.ptr 0 0 0 0,vi i] [{ elems:=[ag [AV.vec fm 1 (List.map Iw.a T),AV.row 1 0,AV.row 2 0,AV.ref 3 v 0 q]],es:=4,ver:=0,frozen:=false,clean:=false },{ elems:=List.map vb D,es:=1,ver:=0,frozen:=false,clean:=true },{ elems:=List.map (vi) A,es:=1,ver:=0,frozen:=false,clean:=true },{ elems:=List.map (vi) X,es:=1,ver:=v,frozen:=false,clean:=true }]) (vf (vi c :: List.map (vi) cs)) [{ elems:=[ag [AV.vec fm 1 (List.map Iw.a T),AV.row 1 0,AV.row 2 0,AV.row 3 v']],es:=4,ver:=0,frozen:=false,clean:=false },{ elems:=List.map vb D',es:=1,ver:=0,frozen:=false,clean:=true },{ elems:=List.map (vi) A',es:=1,ver:=0,frozen:=false,clean:=true },{ elems:=List.map (vi) X',es:=1,ver:=v',frozen:=fz,clean:=true }]) /\
   Weak (tu [vf (vi c :: List.map (vi) cs),vb true]) dq) /\
  (¬(i < m) -> Weak (tu [AV.vnil,vb false]) dq)) :
 pCcFc_at fm T D A X v q m i (Zay dq):=by
 unfold pCcFc_at
 rcases xq H with ⟨d2,H⟩|⟨d2,H⟩
 ·obtain ⟨k3,H⟩:=H
  exact Zbv (G:=Zaf kp17 [(7,1,(.call (.vec false 1 ((c :: cs).map (.int .i64))) (some [⟨[.agg [.vec fm 1 (T.map Iw.a),.row 1 0,.row 2 0,.row 3 v']],4,0,false,false⟩,⟨D'.map (.bool),1,0,false,true⟩,⟨A'.map (.int .i64),1,0,false,true⟩,⟨X'.map (.int .i64),1,v',fz,true⟩]):Ans))] []) 1000 [true,true] (calls:=[⟨true,true,35,[AV.ptr 0 0 0 0,vi i],[⟨[ag [AV.vec fm 1 (List.map Iw.a T),AV.row 1 0,AV.row 2 0,AV.ref 3 v 0 q]],4,0,false,false⟩,⟨List.map vb D,1,0,false,true⟩,⟨List.map (vi) A,1,0,false,true⟩,⟨List.map (vi) X,1,v,false,true⟩],vf (vi c :: List.map (vi) cs),[⟨[ag [AV.vec fm 1 (List.map Iw.a T),AV.row 1 0,AV.row 2 0,AV.row 3 v']],4,0,false,false⟩,⟨List.map vb D',1,0,false,true⟩,⟨List.map (vi) A',1,0,false,true⟩,⟨List.map (vi) X',1,v',fz,true⟩]⟩]) (tu [vf (vi c :: List.map (vi) cs),vb true]) (by kernel_rfl) (bc (ZaK (Zab.2 d2)) (bc rfl b0)) q0 (cc (fun _ => k3) c0) H
 ·exact Zbv (G:=Zaf kp17 [] []) 1000 [false] (tu [AV.vnil,vb false]) (by kernel_rfl) (bc (ZaI (fun h => d2 (Zab.1 h))) b0) q0 c0 H
theorem pCcFd (fm:Bool) (T:List Iw) (D:List Bool) (A X:List Int) (v:Nat) (q:Nat) (m i:Int) (D':List Bool) (A' X':List Int) (v' q':Nat) (fz:Bool) (c:Int) (cs:List Int) (dq:AV) (H :
  ((i < m) -> (Ev M1 (Conf.own 35 [AV.ptr 0 0 0 0,vi i] [{ elems:=[ag [AV.vec fm 1 (List.map Iw.a T),AV.row 1 0,AV.row 2 0,AV.ref 3 v 0 q]],es:=4,ver:=0,frozen:=false,clean:=false },{ elems:=List.map vb D,es:=1,ver:=0,frozen:=false,clean:=true },{ elems:=List.map (vi) A,es:=1,ver:=0,frozen:=false,clean:=true },{ elems:=List.map (vi) X,es:=1,ver:=v,frozen:=false,clean:=true }]) (vf (vi c :: List.map (vi) cs)) [{ elems:=[ag [AV.vec fm 1 (List.map Iw.a T),AV.row 1 0,AV.row 2 0,AV.ref 3 v' 0 q']],es:=4,ver:=0,frozen:=false,clean:=false },{ elems:=List.map vb D',es:=1,ver:=0,frozen:=false,clean:=true },{ elems:=List.map (vi) A',es:=1,ver:=0,frozen:=false,clean:=true },{ elems:=List.map (vi) X',es:=1,ver:=v',frozen:=fz,clean:=true }]) /\
   Weak (tu [vf (vi c :: List.map (vi) cs),vb true]) dq) /\
  (¬(i < m) -> Weak (tu [AV.vnil,vb false]) dq)) :
 pCcFd_at fm T D A X v q m i (Zay dq):=by
 unfold pCcFd_at
 rcases xq H with ⟨d2,H⟩|⟨d2,H⟩
 ·obtain ⟨k3,H⟩:=H
  exact Zbv (G:=Zaf kp17 [(7,1,(.call (.vec false 1 ((c :: cs).map (.int .i64))) (some [⟨[.agg [.vec fm 1 (T.map Iw.a),.row 1 0,.row 2 0,.ref 3 v' 0 q']],4,0,false,false⟩,⟨D'.map (.bool),1,0,false,true⟩,⟨A'.map (.int .i64),1,0,false,true⟩,⟨X'.map (.int .i64),1,v',fz,true⟩]):Ans))] []) 1000 [true,true] (calls:=[⟨true,true,35,[AV.ptr 0 0 0 0,vi i],[⟨[ag [AV.vec fm 1 (List.map Iw.a T),AV.row 1 0,AV.row 2 0,AV.ref 3 v 0 q]],4,0,false,false⟩,⟨List.map vb D,1,0,false,true⟩,⟨List.map (vi) A,1,0,false,true⟩,⟨List.map (vi) X,1,v,false,true⟩],vf (vi c :: List.map (vi) cs),[⟨[ag [AV.vec fm 1 (List.map Iw.a T),AV.row 1 0,AV.row 2 0,AV.ref 3 v' 0 q']],4,0,false,false⟩,⟨List.map vb D',1,0,false,true⟩,⟨List.map (vi) A',1,0,false,true⟩,⟨List.map (vi) X',1,v',fz,true⟩]⟩]) (tu [vf (vi c :: List.map (vi) cs),vb true]) (by kernel_rfl) (bc (ZaK (Zab.2 d2)) (bc rfl b0)) q0 (cc (fun _ => k3) c0) H
 ·exact Zbv (G:=Zaf kp17 [] []) 1000 [false] (tu [AV.vnil,vb false]) (by kernel_rfl) (bc (ZaI (fun h => d2 (Zab.1 h))) b0) q0 c0 H
theorem pCi (f g:Bool) (ps:List Pr) (l:List Int)  (dq:AV) (H :
  ZeG (f) (g) (ps) (l) (0) (Zay dq)) :
 pCi_at f g ps l (Zay dq):=by
 unfold pCi_at
 exact Zae (G:=Zaf kp19 [] []) 1000 [] ⟨(atC (cd Try.f19) [1,0,1,0,0]),[(0,AV.vec f 2 (List.map Pr.v ps)),(1,AV.vec g 1 (List.map (vi) l)),(5,vi 0)],[],_,[],_⟩ (by kernel_rfl) b0 q0 c0 (H)
noncomputable abbrev Zej (i:Int) (l:List Int):=Sp.mem (List.drop 0 (List.take i.toNat l)) (l.getD i.toNat default)==false&&true
noncomputable abbrev zPxP2 (i:Int) (l:List Int) (ps:List Pr):=bif Sp.mem (List.drop 0 (List.take i.toNat l)) (l.getD i.toNat default) then true else !Sp.has ps (l.getD i.toNat default) (l.getD ((i+1).tmod (↑l.length:Int)).toNat default)
noncomputable abbrev zPxP3 (i:Int) (l:List Int):=Sp.mem (List.drop 0 (List.take i.toNat l)) (l.getD i.toNat default)=true
noncomputable abbrev zPxP4 (ps:List Pr) (l:List Int) (i:Int):=Sp.has ps (l.getD i.toNat default) (l.getD ((i+1).tmod (↑l.length:Int)).toNat default)
theorem pCiL (f g:Bool) (ps:List Pr) (l:List Int) (i:Int)  (dq:AV) (H :
  ((i < (↑l.length:Int)) -> (Sp.few (List.drop 0 (List.take i.toNat l)).length 4000000000) /\
   (-9223372036854775808 <= i + 1 /\ i + 1 <= 9223372036854775807) /\
   ((¬(Sp.mem (List.drop 0 (List.take i.toNat l)) (l.getD i.toNat default) = true)) -> (Sp.few ps.length 4000000000)) /\
   (0 <= i) /\
   (0 <= i.toNat) /\
   (i.toNat <= l.length) /\
   (i.toNat < l.length) /\
   ((¬(Sp.mem (List.drop 0 (List.take i.toNat l)) (l.getD i.toNat default) = true)) -> (¬(↑l.length:Int) = 0)) /\
   ((¬(Sp.mem (List.drop 0 (List.take i.toNat l)) (l.getD i.toNat default) = true)) -> (0 <= (i + 1).tmod (↑l.length:Int))) /\
   ((¬(Sp.mem (List.drop 0 (List.take i.toNat l)) (l.getD i.toNat default) = true)) -> (((i + 1).tmod (↑l.length:Int)).toNat < l.length)) /\
   (((Sp.mem (List.drop 0 (List.take i.toNat l)) (l.getD i.toNat default) = true) \/ (¬(Sp.has ps (l.getD i.toNat default) (l.getD ((i + 1).tmod (↑l.length:Int)).toNat default) = true))) -> vb false = dq) /\
   (¬((Sp.mem (List.drop 0 (List.take i.toNat l)) (l.getD i.toNat default) = true) \/ (¬(Sp.has ps (l.getD i.toNat default) (l.getD ((i + 1).tmod (↑l.length:Int)).toNat default) = true))) -> ZeG (f) (g) (ps) (l) (i + 1) (Zay dq))) /\
  (¬(i < (↑l.length:Int)) -> vb (decide ((↑l.length:Int) >= 2)) = dq)) :
 ZeG f g ps l i (Zay dq):=by
 unfold ZeG
 have w1:(List.map (vi) l).length = l.length:=List.length_map ..
 have i2:(decide (i < (↑(List.map (vi) l).length:Int))) = true ↔ (i < (↑l.length:Int)):=(by (try rw [w1]);all_goals exact Zab)
 rcases xq H with ⟨d3,H⟩|⟨d3,H⟩
 ·have w4:List.take i.toNat (List.map (vi) l) = List.map (vi) (List.take i.toNat l):=(lm_take rfl)
  have w5:List.drop 0 (List.map (vi) (List.take i.toNat l)) = List.map (vi) (List.drop 0 (List.take i.toNat l)):=(lm_drop rfl)
  obtain ⟨k6,k7,H⟩:=H
  have w8:wi (i + 1) = i + 1:=wI64 k7
  obtain ⟨k10,k12,k14,H⟩:=H
  have i15:(decide (i.toNat <= (List.map (vi) l).length)) = true ↔ (i.toNat <= l.length):=(by (try rw [w1]);all_goals exact Zab)
  obtain ⟨k16,H⟩:=H
  have i18:(decide (i.toNat < (List.map (vi) l).length)) = true ↔ (i.toNat < l.length):=(by (try rw [w1]);all_goals exact Zab)
  obtain ⟨k19,H⟩:=H
  have i21:(!(Zej i l) || decide (i.toNat < (List.map (vi) l).length)) = true ↔ ((¬(zPxP3 i l)) -> (i.toNat < l.length)):=(by (try rw [w1]);all_goals exact (Zbe (i_at (i_bf (Zat _))) Zab))
  have i22:(!(Zej i l) || !(↑(List.map (vi) l).length:Int) == 0) = true ↔ ((¬(zPxP3 i l)) -> (¬(↑l.length:Int) = 0)):=(by (try rw [w1]);all_goals exact (Zbe (i_at (i_bf (Zat _))) i_neq))
  obtain ⟨k23,H⟩:=H
  have i24:(!(Zej i l) || decide (0 <= (wi (i + 1)).tmod (↑(List.map (vi) l).length:Int))) = true ↔ ((¬(zPxP3 i l)) -> (0 <= (i + 1).tmod (↑l.length:Int))):=(by (try rw [w1]);(try rw [w8]);all_goals exact (Zbe (i_at (i_bf (Zat _))) Zab))
  obtain ⟨k25,H⟩:=H
  have i26:(!(Zej i l) || decide (((wi (i + 1)).tmod (↑(List.map (vi) l).length:Int)).toNat < (List.map (vi) l).length)) = true ↔ ((¬(zPxP3 i l)) -> (((i + 1).tmod (↑l.length:Int)).toNat < l.length)):=(by (try rw [w1]);(try rw [w8]);all_goals exact (Zbe (i_at (i_bf (Zat _))) Zab))
  obtain ⟨k27,H⟩:=H
  refine Zae (G:=Zaf kp19 [(4,6,.elem (vi (l.getD i.toNat default))),(4,7,.call (vb (Sp.mem (List.drop 0 (List.take i.toNat l)) (l.getD i.toNat default))) none),(4,13,.elem (vi (l.getD i.toNat default))),(4,21,.elem (vi (l.getD ((i + 1).tmod (↑l.length:Int)).toNat default))),(4,22,.call (vb (zPxP4 ps l i)) none)] []) 9 [true] ⟨(atC (cd Try.f19) [1,0,1,0,0,1,0,0,1]),[(0,AV.vec f 2 (List.map Pr.v ps)),(1,AV.vec g 1 (List.map (vi) l)),(5,vi i),(36,vb (zPxP2 i l ps))],[],[(decide (i < (↑(List.map (vi) l).length:Int))) == true,decide (0 <= i),decide (0 <= i.toNat),decide (i.toNat <= (List.map (vi) l).length),decide (0 <= i),decide (i.toNat < (List.map (vi) l).length),!(Zej i l) || decide (0 <= i),!(Zej i l) || decide (i.toNat < (List.map (vi) l).length),!(Zej i l) || !(↑(List.map (vi) l).length:Int) == 0,!(Zej i l) || decide (0 <= (wi (i + 1)).tmod (↑(List.map (vi) l).length:Int)),!(Zej i l) || decide (((wi (i + 1)).tmod (↑(List.map (vi) l).length:Int)).toNat < (List.map (vi) l).length)],[((List.map (vi) l).get?Internal i.toNat = some (vi (l.getD i.toNat default))),((Zej i l) = true -> (List.map (vi) l).get?Internal i.toNat = some (vi (l.getD i.toNat default))),((Zej i l) = true -> (List.map (vi) l).get?Internal ((wi (i + 1)).tmod (↑(List.map (vi) l).length:Int)).toNat = some (vi (l.getD ((i + 1).tmod (↑l.length:Int)).toNat default)))],[⟨true,false,37,[AV.vec (g && false) 1 (List.drop 0 (List.take i.toNat (List.map (vi) l))),vi (l.getD i.toNat default)],[],vb (Sp.mem (List.drop 0 (List.take i.toNat l)) (l.getD i.toNat default)),[]⟩,⟨Sp.mem (List.drop 0 (List.take i.toNat l)) (l.getD i.toNat default) == false && true && true,false,38,[AV.vec f 2 (List.map Pr.v ps),vi (l.getD i.toNat default),vi (l.getD ((i + 1).tmod (↑l.length:Int)).toNat default)],[],vb (zPxP4 ps l i),[]⟩]⟩ (by kernel_rfl) (bc (ZaK (i2.2 d3)) (bc (Zab.2 k12) (bc (Zab.2 k14) (bc (i15.2 k16) (bc (Zab.2 k12) (bc (i18.2 k19) (bc ((Zbe (i_at (i_bf (Zat _))) Zab).2 (fun _ => k12)) (bc (i21.2 (fun _ => k19)) (bc (i22.2 k23) (bc (i24.2 k25) (bc (i26.2 k27) b0))))))))))) (qc (Zak k19) (qc (fun h => Zak k19) (qc (by (try rw [w1]);(try rw [w8]);all_goals exact (fun h => Zak (k27 ((i_at (i_bf (Zat _))).1 h)))) q0))) (cc (fun _ => (by (try rw [w4]);(try rw [w5]);all_goals exact (@ev37 (g && false) (List.drop 0 (List.take i.toNat l)) (l.getD i.toNat default) k6))) (cc (fun hc => ((@ev38 (f) (ps) (l.getD i.toNat default) (l.getD ((i + 1).tmod (↑l.length:Int)).toNat default) (k10 ((i_at (i_at (i_bf (Zat _)))).1 hc))):Ev M1 (Conf.pure 38 [AV.vec f 2 (List.map Pr.v ps),vi (l.getD i.toNat default),vi (l.getD ((i + 1).tmod (↑l.length:Int)).toNat default)]) (vb (zPxP4 ps l i)) [])) c0)) ?_
  rcases xq H with ⟨d31,H⟩|⟨d31,H⟩
  ·exact ZaQ (G:=Zaf kp19 [] []) 1000 [true] (asm:=[(zPxP2 i l ps) == true]) (vb false) (by kernel_rfl) (bc (ZaK ((Zcx (Zat _) (i_not (Zat _))).2 d31)) b0) q0 c0 H
  ·exact Zae (G:=Zaf kp19 [] []) 1000 [false] ⟨(atC (cd Try.f19) [1,0,1,0,0]),[(0,AV.vec f 2 (List.map Pr.v ps)),(1,AV.vec g 1 (List.map (vi) l)),(5,vi (wi (i + 1)))],[],[(zPxP2 i l ps) == false],[],_⟩ (by kernel_rfl) (bc (ZaI (fun h => d31 ((Zcx (Zat _) (i_not (Zat _))).1 h))) b0) q0 c0 (by (try rw [w8]);all_goals exact H)
 ·exact ZaQ (G:=Zaf kp19 [] []) 1000 [false] (vb (decide ((↑(List.map (vi) l).length:Int) >= 2))) (by kernel_rfl) (bc (ZaI (fun h => d3 (i2.1 h))) b0) q0 c0 (by (try rw [w1]);all_goals exact H)
end Go.Av

namespace Go.Av
open Go.RowKit
theorem wp_any3c {M:Mach} (hm:(M.P ()).follows .mixedOrders = true) {fi:Fi} {id:Nat} {ops:Array Oper} {ans:Nat -> Option Ans} {keep:List Nat} {env e1:Vars} {L L1:Heap} {k:List Item} {Q:AV -> Heap -> Prop} {c d g:Nat} {a1:List Nat -> List Bool} {cs:List Nat -> List CF}
  (hcd:Zd6 [c,d,g] = true) (h1:∀ σ ∈ [[c,d,g],[d,c,g],[d,g,c],[c,g,d],[g,c,d],[g,d,c]],ordX M (fun _ _ _ => none) fi.n ops ans keep [c,d,g] env L σ = some (e1,L1,a1 σ,[],cs σ))
  (hA:∀ σ,∀ b ∈ a1 σ,b = true) (hC:∀ σ,∀ x ∈ cs σ,x.own = false /\ Wp M (.pure x.f x.args) (isR x.v [])) (hk:Wp M (.run fi k e1 L1) Q):Wp M (.run fi (.code (.region id ops true) :: k) env L) Q:=by
 refine .sem (ZaH.after fun S a h5 h6 h7 h8 b k2 cs2 hbb => ?_)
 obtain ⟨a',w',⟨S',e0,n1,n2,n3,n4,n5,n6⟩,hs⟩:=Ze8 hm (id:=id) (fi:=fi) (ops:=ops) (env:=env) (L:=L) (call:=fun _ _ _ => none) (ans:=ans) (keep:=keep) (C:=[c,d,g])
  (hot:=hotX M (fun _ _ _ => none) fi.n ops ans [c,d,g] env L) (l:=fun σ => ordGo ops [c,d,g] ops.size σ (List.range ops.size) []) (rs:=rsX M (fun _ _ _ => none) fi.n ops ans [c,d,g] env L) (e1:=e1) (L1:=L1) ((ZaR [c,d,g]).1 hcd) (fun σ hσ => by
   refine ⟨a1 σ,[],cs σ,h1 σ ?_,hA σ,by simp,fun x hx _ => ?_⟩
   ·simp only [perms,ZcH,List.flatMap_cons,List.flatMap_nil,List.map_cons,List.map_nil,List.append_nil,List.mem_append,List.mem_cons,List.not_mem_nil,or_false] at hσ ⊢
    rcases hσ with (h | h | h) | h | h | h <;> subst h <;> simp
   ·obtain ⟨h1,h2⟩:=hC σ x hx
    unfold ZbA
    rw [h1]
    exact PureR.snd (Zbl hm (c:=.pure x.f x.args) h2)) h5 h6 h7 h8 b k2 cs2 hbb
 exact ⟨a',w',⟨S',e1,e0,n1,n2,n3.symm ▸ Zbl hm hk,n4,n5,n6⟩,hs⟩
end Go.Av

namespace Go.Av
open Go.Proofs
noncomputable def cyO3:Array Oper:=match atC (cd Try.f17) [1,1,0] with
 | .code (.region _ ops _) :: _ => ops
 | _ => #[]
noncomputable def cyK:List Item:=(atC (cd Try.f17) [1,1,0]).tail
noncomputable def cyAns (B T:AV) (i:Nat):Option Ans:=bif Nat.beq i 2 then some (.call (.agg [B,T]) none) else none
noncomputable def cyX (n:Int) (f b:Bool) (ps:List AV) (B T:AV) (σ:List Nat):=ordX M1 (fun _ _ _=>none) fi17.n cyO3 (cyAns B T) [0,6] [9,5,7] [(0,.int .i64 n),(1,.vec f 2 ps),(12,.bool b)] [] σ
def cyA1 (n b:Int):List Bool:=[decide (0<=n),decide (n<=n),decide (n*b<=1099511627776),decide (n<=1099511627776)]
def cyA (n:Int) (σ:List Nat):List Bool:=(bif Nat.blt (Zah σ 5) (Zah σ 7) then cyA1 n 1++cyA1 n 8 else cyA1 n 8++cyA1 n 1)++[0==0]
def cyEnd (n:Int) (T:AV):Vars × Heap:=([(0,.int .i64 n),(6,AV.ptr 0 0 0 0)],[⟨[.agg [T,.row 1 0,.row 2 0,.vnil]],4,0,false,false⟩,⟨List.replicate n.toNat (.bool false),1,0,false,true⟩,⟨List.replicate n.toNat (.int .i64 0),1,0,false,true⟩])
def cyC (n:Int) (f:Bool) (ps:List AV) (B T:AV):CF:=⟨true,false,34,[.int .i64 n,.vec f 2 ps],[],.agg [B,T],[]⟩
theorem cyX_all (n:Int) (f b:Bool) (ps B T:List AV):∀ σ ∈ [[9,5,7],[5,9,7],[5,7,9],[9,7,5],[7,9,5],[7,5,9]],cyX n f b ps (.vec false 1 B) (.vec false 1 T) σ = some ((cyEnd n (.vec false 1 T)).1,(cyEnd n (.vec false 1 T)).2,cyA n σ,[],[cyC n f ps (.vec false 1 B) (.vec false 1 T)]):=by
 intro σ h
 simp only [List.mem_cons,List.not_mem_nil,or_false] at h
 rcases h with h | h | h | h | h | h <;> subst h <;> kernel_rfl
theorem cyA_ok {n:Int} (h:0 <= n /\ n <= 1000000) (σ:List Nat):∀ b ∈ cyA n σ,b = true:=by
 intro b hb
 unfold cyA cyA1 at hb
 have h0:(0 == 0) = true:=rfl
 cases hc:Nat.blt (Zah σ 5) (Zah σ 7) <;> rw [hc] at hb <;> simp only [cond_true,cond_false,List.mem_append,List.mem_cons,List.not_mem_nil,or_false] at hb
 all_goals
  rcases hb with ((rfl | rfl | rfl | rfl) | (rfl | rfl | rfl | rfl)) | rfl
  all_goals first | rfl | exact decide_eq_true (by omega)
theorem cyC3:atC (cd Try.f17) [1,1,0] = .code (.region 3 cyO3 true)::cyK:=by kernel_rfl
noncomputable def cyB:Code:=match cyK with
 | .code b :: _ => b
 | _ => .skip
theorem cyK1:cyK=[.code cyB]:=by kernel_rfl
theorem cyK2:atC (cd Try.f17) [1,1,1]=[.code cyB]:=by kernel_rfl
theorem cy3 {n:Int} {f b:Bool} {ps:List Pr} {Q:AV -> Heap -> Prop} (h:Sp.vd n ps = 0) (H:pCcB_at n false (Sp.Zci n.toNat ps) (List.replicate n.toNat false) (List.replicate n.toNat 0) Q):Wp M1 (.run fi17 (atC (cd Try.f17) [1,1,0]) [(0,.int .i64 n),(1,.vec f 2 (ps.map Pr.v)),(12,.bool b)] []) Q:=by
 have hn:=vd_zero h
 rw [cyC3]
 refine wp_any3c hm1 (id:=3) (ops:=cyO3) (c:=9) (d:=5) (g:=7) (a1:=cyA n) (cs:=fun _ => [cyC n f (ps.map Pr.v) (.vec false 1 ((Sp.befW n.toNat ps).map Iw.a)) (.vec false 1 ((Sp.Zci n.toNat ps).map Iw.a))]) rfl (cyX_all n f b (ps.map Pr.v) _ _) (cyA_ok (by omega)) (fun σ x hx => ?_) ?_
 ·rw [List.mem_singleton] at hx
  subst hx
  exact ⟨rfl,ev34 n f ps h⟩
 ·rw [cyK1]
  unfold pCcB_at at H
  rw [cyK2] at H
  unfold cyEnd
  rw [List.map_replicate,List.map_replicate] at H
  exact H
section
variable {n:Nat} {ps:List Pr} {fm:Bool}
def CyO (n:Nat) (ps:List Pr) (res:AV):Prop:=(¬Sp.cyc n ps/\res = .tup [.vec false 1 (([]:List Int).map (.int .i64)),.bool false]) \/ ∃ c cs,Sp.circ ps (c::cs)=true/\res = .tup [.vec false 1 ((c::cs).map (.int .i64)),.bool true]
theorem cyc_no {D:List Bool} {A P:List Int} (hV:Sp.VI n ps D A P) (hd:∀ k:Nat,k < n -> D.getD k default = true):¬Sp.cyc n ps:=by
 rintro ⟨i,hi,hd'⟩
 have:=hV.fn i.toNat (by omega) (hd _ (by omega))
 rw [show ((i.toNat:Nat):Int) = i by omega] at this
 exact fin_dep this hd'
theorem cy_loop (hv:Sp.okV n ps) (hs:∀ p ∈ ps,p.a ≠ p.b) (hn:n <= 1000) (hpl:ps.length <= 1000000):∀ (c i:Nat) (D:List Bool) (A X:List Int) (v q:Nat),i + c = n -> Sp.VI n ps D A [] -> pth X (some q) = [] -> qok X (some q) -> (∀ k:Nat,k < i -> D.getD k default = true) ->
  ∃ res,Zdp fm (Sp.Zci n ps) D A X v q (n:Int) (i:Int) (Zay res) /\ CyO n ps res:=by
 intro c
 induction c with
 | zero =>
  intro i D A X v q hi hV hP hq hd
  refine ⟨_,pCcFf fm _ D A X v q _ _ D X v q _ ⟨fun z => absurd z (by omega),fun _ => Zek _⟩,.inl ⟨cyc_no hV fun k hk => hd k (by omega),rfl⟩⟩
 | succ c ih =>
  intro i D A X v q hi hV hP hq hd
  obtain ⟨res,K,hE,hO⟩:=Zfh (fm:=fm) hv hs hn hpl _ D A X v (some q) (i:Int) rfl (by rw [hP];exact hV) hq ⟨by omega,by omega⟩ (fun x hx => by rw [hP] at hx;cases hx)
  rw [hP] at hO
  rcases hO with ⟨D2,X2,v2,q2,rfl,rfl,hq2,hX2,hV2,hD2,hDk,hqq⟩ | ⟨x,cs,D2,A2,X2,v2,q2,fz,rfl,rfl,hc⟩
  ·cases q2 with
   | none => exact absurd rfl (hqq (by simp))
   | some q2 =>
    obtain ⟨res,h1,h2⟩:=ih (i + 1) D2 A X2 v2 q2 (by omega) hV2 hX2 hq2 (fun k hk => by
     by_cases e:k = i
     ·rw [e];rw [Int.toNat_natCast] at hDk;exact hDk
     ·exact hD2 k (hd k (by omega)))
    exact ⟨res,pCcFf fm _ D A X v q _ _ D2 X2 v2 q2 _ ⟨fun _ => ⟨hE,by omega,h1⟩,fun z => absurd (by omega) z⟩,h2⟩
  ·cases q2 with
   | none => exact ⟨_,pCcFc fm _ D A X v q _ _ D2 A2 X2 v2 fz x cs _ ⟨fun _ => ⟨hE,.refl _⟩,fun z => absurd (by omega) z⟩,.inr ⟨x,cs,hc,rfl⟩⟩
   | some q2 => exact ⟨_,pCcFd fm _ D A X v q _ _ D2 A2 X2 v2 q2 fz x cs _ ⟨fun _ => ⟨hE,.refl _⟩,fun z => absurd (by omega) z⟩,.inr ⟨x,cs,hc,rfl⟩⟩
end
end Go.Av
