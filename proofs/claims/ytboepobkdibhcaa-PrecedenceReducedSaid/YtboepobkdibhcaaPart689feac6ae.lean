/- PART 4 of the texts of a claim, joined by a program: what each part shows stands at its head. -/
import Derived.Test.YtboepobkdibhcaaPartdf4364fb6d

namespace Go.Av
open Go.Proofs
set_option maxRecDepth 100000
def fi34:Fi:=⟨51,[.cell 4 50]⟩
def kp34:List (Nat × List Nat):=[(0,[0,1,4]),(1,[1,4,5]),(2,[4,5,13,14,15]),(3,[4,5,13,14,15,16]),(4,[4,5,7,13,14,15]),(5,[4,5,7,13,14,15]),(6,[4,5,13,14,15]),(7,[4,5,13,14,15]),(8,[4])]
def ZfW (f:Bool) (ps:List Pr) (C D:List AV) (cv dv:Nat) (R:Heap) (m i:Int) (p:Pr) (Q:AV->Heap->Prop):Prop:=Wp M1 (.run fi34 (atC (cd Try.f34) [1,1,0,1,0,0,1,1,0,0,1,0]) [(4,.ptr 0 0 0 0),(5,.ptr 3 0 0 0),(13,.vec f 2 (ps.map Pr.v)),(14,.int .i64 m),(15,.int .i64 i),(7,.ptr 4 0 0 0)] (⟨[.agg [.vnil,.vnil]],2,0,false,false⟩::⟨C,1,cv,false,false⟩::⟨D,1,dv,false,false⟩::⟨[.agg [.row 1 cv,.row 2 dv]],2,0,false,false⟩::⟨[.agg [.int .i64 p.a,.int .i64 p.b]],2,0,false,false⟩::R)) Q
def rrn_at (f:Bool) (ps:List Pr) (C D:List AV) (cv dv:Nat) (R:Heap) (m i:Int) (p:Pr) (q:List Int) (v:Nat) (Q:AV->Heap->Prop):Prop:=Wp M1 (.run fi34 (atC (cd Try.f34) [1,1,0,1,0,0,1,1,0,0,1,0]) [(4,.ptr 0 0 0 0),(5,.ptr 3 0 0 0),(13,.vec f 2 (ps.map Pr.v)),(14,.int .i64 m),(15,.int .i64 i),(7,.ptr 4 0 0 0)] (⟨[.agg [.vnil,.vnil]],2,0,false,false⟩::⟨C,1,cv,false,false⟩::⟨D,1,dv,false,false⟩::⟨[.agg [.row 1 cv,.row 2 dv]],2,0,false,false⟩::⟨[.agg [.int .i64 p.a,.int .i64 p.b]],2,0,false,false⟩::⟨q.map (.int .i64),1,v,false,true⟩::R)) Q
def rnr_at (f:Bool) (ps:List Pr) (C D:List AV) (cv dv:Nat) (R:Heap) (m i:Int) (p:Pr) (r:List Int) (w:Nat) (Q:AV->Heap->Prop):Prop:=Wp M1 (.run fi34 (atC (cd Try.f34) [1,1,0,1,0,0,1,1,0,0,1,0]) [(4,.ptr 0 0 0 0),(5,.ptr 3 0 0 0),(13,.vec f 2 (ps.map Pr.v)),(14,.int .i64 m),(15,.int .i64 i),(7,.ptr 4 0 0 0)] (⟨[.agg [.vnil,.vnil]],2,0,false,false⟩::⟨C,1,cv,false,false⟩::⟨D,1,dv,false,false⟩::⟨[.agg [.row 1 cv,.row 2 dv]],2,0,false,false⟩::⟨[.agg [.int .i64 p.a,.int .i64 p.b]],2,0,false,false⟩::⟨r.map (.int .i64),1,w,false,true⟩::R)) Q
def rrr_at (f:Bool) (ps:List Pr) (C D:List AV) (cv dv:Nat) (R:Heap) (m i:Int) (p:Pr) (q:List Int) (v:Nat) (r:List Int) (w:Nat) (Q:AV->Heap->Prop):Prop:=Wp M1 (.run fi34 (atC (cd Try.f34) [1,1,0,1,0,0,1,1,0,0,1,0]) [(4,.ptr 0 0 0 0),(5,.ptr 3 0 0 0),(13,.vec f 2 (ps.map Pr.v)),(14,.int .i64 m),(15,.int .i64 i),(7,.ptr 4 0 0 0)] (⟨[.agg [.vnil,.vnil]],2,0,false,false⟩::⟨C,1,cv,false,false⟩::⟨D,1,dv,false,false⟩::⟨[.agg [.row 1 cv,.row 2 dv]],2,0,false,false⟩::⟨[.agg [.int .i64 p.a,.int .i64 p.b]],2,0,false,false⟩::⟨q.map (.int .i64),1,v,false,true⟩::⟨r.map (.int .i64),1,w,false,true⟩::R)) Q
def r00_at (f:Bool) (ps:List Pr) (C D:List AV) (cv dv:Nat) (R:Heap) (m i:Int) (p:Pr) (Q:AV->Heap->Prop):Prop:=Wp M1 (.run fi34 (atC (cd Try.f34) [1,1,0,1,0,0,1,1,0,0,1,0]) [(4,.ptr 0 0 0 0),(5,.ptr 3 0 0 0),(13,.vec f 2 (ps.map Pr.v)),(14,.int .i64 m),(15,.int .i64 i),(7,.ptr 4 0 0 0)] (⟨[.agg [.vnil,.vnil]],2,0,false,false⟩::⟨C,1,cv,false,true⟩::⟨D,1,dv,false,true⟩::⟨[.agg [.row 1 cv,.row 2 dv]],2,0,false,false⟩::⟨[.agg [.int .i64 p.a,.int .i64 p.b]],2,0,false,false⟩::R)) Q
def rB_at (f:Bool) (ps:List Pr) (xc:Bool) (C D:List AV) (cv dv:Nat) (R:Heap) (Q:AV->Heap->Prop):Prop:=Wp M1 (.run fi34 (atC (cd Try.f34) [1,1]) [(4,.ptr 0 0 0 0),(5,.ptr 3 0 0 0),(1,.vec f 2 (ps.map Pr.v))] (⟨[.agg [.vnil,.vnil]],2,0,false,false⟩::⟨C,1,cv,false,xc⟩::⟨D,1,dv,false,xc⟩::⟨[.agg [.row 1 cv,.row 2 dv]],2,0,false,false⟩::R)) Q
def ZfM (f:Bool) (ps:List Pr) (xc:Bool) (C D:List AV) (cv dv:Nat) (R:Heap) (m i:Int) (Q:AV->Heap->Prop):Prop:=Wp M1 (.run fi34 (atC (cd Try.f34) [1,1,0,1,0,0]) [(4,.ptr 0 0 0 0),(5,.ptr 3 0 0 0),(13,.vec f 2 (ps.map Pr.v)),(14,.int .i64 m),(15,.int .i64 i)] (⟨[.agg [.vnil,.vnil]],2,0,false,false⟩::⟨C,1,cv,false,xc⟩::⟨D,1,dv,false,xc⟩::⟨[.agg [.row 1 cv,.row 2 dv]],2,0,false,false⟩::R)) Q
theorem rnn (f:Bool) (ps:List Pr) (C D:List AV) (cv dv:Nat) (R:Heap) (m i:Int) (p:Pr)  (Q:AV -> Heap -> Prop) (H :
  (0 <= p.a) /\
  (p.a.toNat < D.length) /\
  (D.get?Internal p.a.toNat = some AV.vnil) /\
  (0 <= p.b) /\
  (p.b.toNat < C.length) /\
  (C.get?Internal p.b.toNat = some AV.vnil) /\
  (-9223372036854775808 <= i + 1 /\ i + 1 <= 9223372036854775807) /\
  ZfM (f) (ps) (false) (C.set p.b.toNat (AV.row ((List.append R [{ elems:=[vi p.b],es:=((fun x => Try.prog) ()).types[3].size,ver:=0,frozen:=false,clean:=true }]).length + 1 + 1 + 1 + 1 + 1) 0)) (D.set p.a.toNat (AV.row (List.length R + 1 + 1 + 1 + 1 + 1) 0)) (cv) (dv) ({ elems:=[ag [vi p.a,vi p.b]],es:=2,ver:=0,frozen:=false,clean:=false } :: (List.append R [{ elems:=[vi p.b],es:=((fun x => Try.prog) ()).types[3].size,ver:=0,frozen:=false,clean:=true }]).append [{ elems:=[vi p.a],es:=((fun x => Try.prog) ()).types[3].size,ver:=0,frozen:=false,clean:=true }]) (m) (i + 1) Q) :
 ZfW f ps C D cv dv R m i p Q:=by
 unfold ZfW
 obtain ⟨k2,k4,k7,k9,k11,k14,k15,H⟩:=H
 have w16:wi (i + 1) = i + 1:=wI64 k15
 exact Zad (G:=Zaf kp34 [(5,9,(.elem .vnil:Ans)),(5,15,(.elem .vnil:Ans)),(6,9,(.elem .vnil:Ans)),(6,15,(.elem .vnil:Ans))] [(6,[1013]),(5,[1013])]) 1000 [] ⟨(atC (cd Try.f34) [1,1,0,1,0,0]),[(4,AV.ptr 0 0 0 0),(5,AV.ptr 3 0 0 0),(13,AV.vec f 2 (List.map Pr.v ps)),(14,vi m),(15,vi (wi (i + 1)))],⟨[ag [AV.vnil,AV.vnil]],2,0,false,false⟩ :: ⟨C.set p.b.toNat (AV.row ((List.append R [⟨[vi p.b],((fun x => Try.prog) ()).types[3].size,0,false,true⟩]).length + 1 + 1 + 1 + 1 + 1) 0),1,cv,false,false⟩ :: ⟨D.set p.a.toNat (AV.row (List.length R + 1 + 1 + 1 + 1 + 1) 0),1,dv,false,false⟩ :: ⟨[ag [AV.row 1 cv,AV.row 2 dv]],2,0,false,false⟩ :: ⟨[ag [vi p.a,vi p.b]],2,0,false,false⟩ :: (List.append R [⟨[vi p.b],((fun x => Try.prog) ()).types[3].size,0,false,true⟩]).append [⟨[vi p.a],((fun x => Try.prog) ()).types[3].size,0,false,true⟩],[true,true,true,true,true,true,true,true,dv == dv,decide (0 <= p.a),decide (p.a.toNat < D.length),dv == dv,true,true,true,true,dv == dv,decide (0 <= p.a),decide (p.a.toNat < D.length),dv == dv,true,true,true,true,true,true,true,true,cv == cv,decide (0 <= p.b),decide (p.b.toNat < C.length),cv == cv,true,true,true,true,cv == cv,decide (0 <= p.b),decide (p.b.toNat < C.length),cv == cv],[(D.get?Internal p.a.toNat = some AV.vnil),(D.get?Internal p.a.toNat = some AV.vnil),(C.get?Internal p.b.toNat = some AV.vnil),(C.get?Internal p.b.toNat = some AV.vnil)],_⟩ (by kernel_rfl) (bc rfl (bc rfl (bc rfl (bc rfl (bc rfl (bc rfl (bc rfl (bc rfl (bc (beq_self_eq_true _) (bc (Zaa.2 k2) (bc (Zaa.2 k4) (bc (beq_self_eq_true _) (bc rfl (bc rfl (bc rfl (bc rfl (bc (beq_self_eq_true _) (bc (Zaa.2 k2) (bc (Zaa.2 k4) (bc (beq_self_eq_true _) (bc rfl (bc rfl (bc rfl (bc rfl (bc rfl (bc rfl (bc rfl (bc rfl (bc (beq_self_eq_true _) (bc (Zaa.2 k9) (bc (Zaa.2 k11) (bc (beq_self_eq_true _) (bc rfl (bc rfl (bc rfl (bc rfl (bc (beq_self_eq_true _) (bc (Zaa.2 k9) (bc (Zaa.2 k11) (bc (beq_self_eq_true _) b0)))))))))))))))))))))))))))))))))))))))) (qc k7 (qc k7 (qc k14 (qc k14 q0)))) c0 (by (try rw [w16]);all_goals exact H)
theorem rrn (f:Bool) (ps:List Pr) (C D:List AV) (cv dv:Nat) (R:Heap) (m i:Int) (p:Pr) (q:List Int) (v:Nat)  (Q:AV -> Heap -> Prop) (H :
  (0 <= p.a) /\
  (p.a.toNat < D.length) /\
  ((q.length + 1) * 8 <= 1099511627776) /\
  (D.get?Internal p.a.toNat = some (AV.row 5 v)) /\
  (0 <= p.b) /\
  (p.b.toNat < C.length) /\
  (C.get?Internal p.b.toNat = some AV.vnil) /\
  (-9223372036854775808 <= i + 1 /\ i + 1 <= 9223372036854775807) /\
  ZfM (f) (ps) (false) (C.set p.b.toNat (AV.row (List.length R + 1 + 1 + 1 + 1 + 1 + 1) 0)) (D.set p.a.toNat (AV.row 5 (v + 1))) (cv) (dv) ({ elems:=[ag [vi p.a,vi p.b]],es:=2,ver:=0,frozen:=false,clean:=false } :: { elems:=List.map (vi) (q ++ [p.b]),es:=1,ver:=v + 1,frozen:=false,clean:=true } :: List.append R [{ elems:=[vi p.a],es:=((fun x => Try.prog) ()).types[3].size,ver:=0,frozen:=false,clean:=true }]) (m) (i + 1) Q) :
 rrn_at f ps C D cv dv R m i p q v Q:=by
 unfold rrn_at
 obtain ⟨k2,k4,H⟩:=H
 have w5:(List.map (vi) q).length = q.length:=List.length_map ..
 have i6:(decide (((List.map (vi) q).length + 1) * 8 <= 1099511627776)) = true ↔ ((q.length + 1) * 8 <= 1099511627776):=(by (try rw [w5]);all_goals exact Zaa)
 obtain ⟨k7,k10,H⟩:=H
 have w11:List.map (vi) q ++ [vi p.b] = List.map (vi) (q ++ [p.b]):=(Zey rfl rfl)
 obtain ⟨k13,k15,k18,k19,H⟩:=H
 have w20:wi (i + 1) = i + 1:=wI64 k19
 exact Zad (G:=Zaf kp34 [(5,9,(.elem (.row 5 v):Ans)),(5,15,(.elem (.row 5 v):Ans)),(6,9,(.elem .vnil:Ans)),(6,15,(.elem .vnil:Ans))] [(6,[1013]),(5,[4015,4014,7013,902012,6011,6010,4009,4008,6007,6006,5005,6003,6002,5001])]) 1000 [] ⟨(atC (cd Try.f34) [1,1,0,1,0,0]),[(4,AV.ptr 0 0 0 0),(5,AV.ptr 3 0 0 0),(13,AV.vec f 2 (List.map Pr.v ps)),(14,vi m),(15,vi (wi (i + 1)))],⟨[ag [AV.vnil,AV.vnil]],2,0,false,false⟩ :: ⟨C.set p.b.toNat (AV.row (List.length R + 1 + 1 + 1 + 1 + 1 + 1) 0),1,cv,false,false⟩ :: ⟨D.set p.a.toNat (AV.row 5 (v + 1)),1,dv,false,false⟩ :: ⟨[ag [AV.row 1 cv,AV.row 2 dv]],2,0,false,false⟩ :: ⟨[ag [vi p.a,vi p.b]],2,0,false,false⟩ :: ⟨List.map (vi) q ++ [vi p.b],1,v + 1,false,true⟩ :: List.append R [⟨[vi p.a],((fun x => Try.prog) ()).types[3].size,0,false,true⟩],[true,true,true,true,true,true,true,true,dv == dv,decide (0 <= p.a),decide (p.a.toNat < D.length),dv == dv,true,true,true,v == v,decide (((List.map (vi) q).length + 1) * 8 <= 1099511627776),dv == dv,decide (0 <= p.a),decide (p.a.toNat < D.length),dv == dv,true,true,true,true,true,true,true,true,cv == cv,decide (0 <= p.b),decide (p.b.toNat < C.length),cv == cv,true,true,true,true,cv == cv,decide (0 <= p.b),decide (p.b.toNat < C.length),cv == cv],[(D.get?Internal p.a.toNat = some (AV.row 5 v)),(D.get?Internal p.a.toNat = some (AV.row 5 v)),(C.get?Internal p.b.toNat = some AV.vnil),(C.get?Internal p.b.toNat = some AV.vnil)],_⟩ (by kernel_rfl) (bc rfl (bc rfl (bc rfl (bc rfl (bc rfl (bc rfl (bc rfl (bc rfl (bc (beq_self_eq_true _) (bc (Zaa.2 k2) (bc (Zaa.2 k4) (bc (beq_self_eq_true _) (bc rfl (bc rfl (bc rfl (bc (beq_self_eq_true _) (bc (i6.2 k7) (bc (beq_self_eq_true _) (bc (Zaa.2 k2) (bc (Zaa.2 k4) (bc (beq_self_eq_true _) (bc rfl (bc rfl (bc rfl (bc rfl (bc rfl (bc rfl (bc rfl (bc rfl (bc (beq_self_eq_true _) (bc (Zaa.2 k13) (bc (Zaa.2 k15) (bc (beq_self_eq_true _) (bc rfl (bc rfl (bc rfl (bc rfl (bc (beq_self_eq_true _) (bc (Zaa.2 k13) (bc (Zaa.2 k15) (bc (beq_self_eq_true _) b0))))))))))))))))))))))))))))))))))))))))) (qc k10 (qc k10 (qc k18 (qc k18 q0)))) c0 (by (try rw [w11]);(try rw [w20]);all_goals exact H)
theorem rnr (f:Bool) (ps:List Pr) (C D:List AV) (cv dv:Nat) (R:Heap) (m i:Int) (p:Pr) (r:List Int) (w:Nat)  (Q:AV -> Heap -> Prop) (H :
  (0 <= p.a) /\
  (p.a.toNat < D.length) /\
  (D.get?Internal p.a.toNat = some AV.vnil) /\
  (0 <= p.b) /\
  (p.b.toNat < C.length) /\
  ((r.length + 1) * 8 <= 1099511627776) /\
  (C.get?Internal p.b.toNat = some (AV.row 5 w)) /\
  (-9223372036854775808 <= i + 1 /\ i + 1 <= 9223372036854775807) /\
  ZfM (f) (ps) (false) (C.set p.b.toNat (AV.row 5 (w + 1))) (D.set p.a.toNat (AV.row (List.length R + 1 + 1 + 1 + 1 + 1 + 1) 0)) (cv) (dv) ({ elems:=[ag [vi p.a,vi p.b]],es:=2,ver:=0,frozen:=false,clean:=false } :: { elems:=List.map (vi) (r ++ [p.a]),es:=1,ver:=w + 1,frozen:=false,clean:=true } :: List.append R [{ elems:=[vi p.b],es:=((fun x => Try.prog) ()).types[3].size,ver:=0,frozen:=false,clean:=true }]) (m) (i + 1) Q) :
 rnr_at f ps C D cv dv R m i p r w Q:=by
 unfold rnr_at
 obtain ⟨k2,k4,k7,k9,k11,H⟩:=H
 have w12:(List.map (vi) r).length = r.length:=List.length_map ..
 have i13:(decide (((List.map (vi) r).length + 1) * 8 <= 1099511627776)) = true ↔ ((r.length + 1) * 8 <= 1099511627776):=(by (try rw [w12]);all_goals exact Zaa)
 obtain ⟨k14,k17,H⟩:=H
 have w18:List.map (vi) r ++ [vi p.a] = List.map (vi) (r ++ [p.a]):=(Zey rfl rfl)
 obtain ⟨k19,H⟩:=H
 have w20:wi (i + 1) = i + 1:=wI64 k19
 exact Zad (G:=Zaf kp34 [(5,9,(.elem .vnil:Ans)),(5,15,(.elem .vnil:Ans)),(6,9,(.elem (.row 5 w):Ans)),(6,15,(.elem (.row 5 w):Ans))] [(6,[3015,3014,7013,902012,6011,6010,3009,3008,6007,6006,5005,6003,6002,5001]),(5,[1013])]) 1000 [] ⟨(atC (cd Try.f34) [1,1,0,1,0,0]),[(4,AV.ptr 0 0 0 0),(5,AV.ptr 3 0 0 0),(13,AV.vec f 2 (List.map Pr.v ps)),(14,vi m),(15,vi (wi (i + 1)))],⟨[ag [AV.vnil,AV.vnil]],2,0,false,false⟩ :: ⟨C.set p.b.toNat (AV.row 5 (w + 1)),1,cv,false,false⟩ :: ⟨D.set p.a.toNat (AV.row (List.length R + 1 + 1 + 1 + 1 + 1 + 1) 0),1,dv,false,false⟩ :: ⟨[ag [AV.row 1 cv,AV.row 2 dv]],2,0,false,false⟩ :: ⟨[ag [vi p.a,vi p.b]],2,0,false,false⟩ :: ⟨List.map (vi) r ++ [vi p.a],1,w + 1,false,true⟩ :: List.append R [⟨[vi p.b],((fun x => Try.prog) ()).types[3].size,0,false,true⟩],[true,true,true,true,true,true,true,true,dv == dv,decide (0 <= p.a),decide (p.a.toNat < D.length),dv == dv,true,true,true,true,dv == dv,decide (0 <= p.a),decide (p.a.toNat < D.length),dv == dv,true,true,true,true,true,true,true,true,cv == cv,decide (0 <= p.b),decide (p.b.toNat < C.length),cv == cv,true,true,true,w == w,decide (((List.map (vi) r).length + 1) * 8 <= 1099511627776),cv == cv,decide (0 <= p.b),decide (p.b.toNat < C.length),cv == cv],[(D.get?Internal p.a.toNat = some AV.vnil),(D.get?Internal p.a.toNat = some AV.vnil),(C.get?Internal p.b.toNat = some (AV.row 5 w)),(C.get?Internal p.b.toNat = some (AV.row 5 w))],_⟩ (by kernel_rfl) (bc rfl (bc rfl (bc rfl (bc rfl (bc rfl (bc rfl (bc rfl (bc rfl (bc (beq_self_eq_true _) (bc (Zaa.2 k2) (bc (Zaa.2 k4) (bc (beq_self_eq_true _) (bc rfl (bc rfl (bc rfl (bc rfl (bc (beq_self_eq_true _) (bc (Zaa.2 k2) (bc (Zaa.2 k4) (bc (beq_self_eq_true _) (bc rfl (bc rfl (bc rfl (bc rfl (bc rfl (bc rfl (bc rfl (bc rfl (bc (beq_self_eq_true _) (bc (Zaa.2 k9) (bc (Zaa.2 k11) (bc (beq_self_eq_true _) (bc rfl (bc rfl (bc rfl (bc (beq_self_eq_true _) (bc (i13.2 k14) (bc (beq_self_eq_true _) (bc (Zaa.2 k9) (bc (Zaa.2 k11) (bc (beq_self_eq_true _) b0))))))))))))))))))))))))))))))))))))))))) (qc k7 (qc k7 (qc k17 (qc k17 q0)))) c0 (by (try rw [w18]);(try rw [w20]);all_goals exact H)
theorem rrr (f:Bool) (ps:List Pr) (C D:List AV) (cv dv:Nat) (R:Heap) (m i:Int) (p:Pr) (q:List Int) (v:Nat) (r:List Int) (w:Nat)  (Q:AV -> Heap -> Prop) (H :
  (0 <= p.a) /\
  (p.a.toNat < D.length) /\
  ((q.length + 1) * 8 <= 1099511627776) /\
  (D.get?Internal p.a.toNat = some (AV.row 5 v)) /\
  (0 <= p.b) /\
  (p.b.toNat < C.length) /\
  ((r.length + 1) * 8 <= 1099511627776) /\
  (C.get?Internal p.b.toNat = some (AV.row 6 w)) /\
  (-9223372036854775808 <= i + 1 /\ i + 1 <= 9223372036854775807) /\
  ZfM (f) (ps) (false) (C.set p.b.toNat (AV.row 6 (w + 1))) (D.set p.a.toNat (AV.row 5 (v + 1))) (cv) (dv) ({ elems:=[ag [vi p.a,vi p.b]],es:=2,ver:=0,frozen:=false,clean:=false } :: { elems:=List.map (vi) (q ++ [p.b]),es:=1,ver:=v + 1,frozen:=false,clean:=true } :: { elems:=List.map (vi) (r ++ [p.a]),es:=1,ver:=w + 1,frozen:=false,clean:=true } :: R) (m) (i + 1) Q) :
 rrr_at f ps C D cv dv R m i p q v r w Q:=by
 unfold rrr_at
 obtain ⟨k2,k4,H⟩:=H
 have w5:(List.map (vi) q).length = q.length:=List.length_map ..
 have i6:(decide (((List.map (vi) q).length + 1) * 8 <= 1099511627776)) = true ↔ ((q.length + 1) * 8 <= 1099511627776):=(by (try rw [w5]);all_goals exact Zaa)
 obtain ⟨k7,k10,H⟩:=H
 have w11:List.map (vi) q ++ [vi p.b] = List.map (vi) (q ++ [p.b]):=(Zey rfl rfl)
 obtain ⟨k13,k15,H⟩:=H
 have w16:(List.map (vi) r).length = r.length:=List.length_map ..
 have i17:(decide (((List.map (vi) r).length + 1) * 8 <= 1099511627776)) = true ↔ ((r.length + 1) * 8 <= 1099511627776):=(by (try rw [w16]);all_goals exact Zaa)
 obtain ⟨k18,k21,H⟩:=H
 have w22:List.map (vi) r ++ [vi p.a] = List.map (vi) (r ++ [p.a]):=(Zey rfl rfl)
 obtain ⟨k23,H⟩:=H
 have w24:wi (i + 1) = i + 1:=wI64 k23
 exact Zad (G:=Zaf kp34 [(5,9,(.elem (.row 5 v):Ans)),(5,15,(.elem (.row 5 v):Ans)),(6,9,(.elem (.row 6 w):Ans)),(6,15,(.elem (.row 6 w):Ans))] [(6,[3015,3014,8013,902012,6011,6010,3009,3008,6007,6006,5005,6003,6002,5001]),(5,[4015,4014,7013,902012,6011,6010,4009,4008,6007,6006,5005,6003,6002,5001])]) 1000 [] ⟨(atC (cd Try.f34) [1,1,0,1,0,0]),[(4,AV.ptr 0 0 0 0),(5,AV.ptr 3 0 0 0),(13,AV.vec f 2 (List.map Pr.v ps)),(14,vi m),(15,vi (wi (i + 1)))],⟨[ag [AV.vnil,AV.vnil]],2,0,false,false⟩ :: ⟨C.set p.b.toNat (AV.row 6 (w + 1)),1,cv,false,false⟩ :: ⟨D.set p.a.toNat (AV.row 5 (v + 1)),1,dv,false,false⟩ :: ⟨[ag [AV.row 1 cv,AV.row 2 dv]],2,0,false,false⟩ :: ⟨[ag [vi p.a,vi p.b]],2,0,false,false⟩ :: ⟨List.map (vi) q ++ [vi p.b],1,v + 1,false,true⟩ :: ⟨List.map (vi) r ++ [vi p.a],1,w + 1,false,true⟩ :: R,[true,true,true,true,true,true,true,true,dv == dv,decide (0 <= p.a),decide (p.a.toNat < D.length),dv == dv,true,true,true,v == v,decide (((List.map (vi) q).length + 1) * 8 <= 1099511627776),dv == dv,decide (0 <= p.a),decide (p.a.toNat < D.length),dv == dv,true,true,true,true,true,true,true,true,cv == cv,decide (0 <= p.b),decide (p.b.toNat < C.length),cv == cv,true,true,true,w == w,decide (((List.map (vi) r).length + 1) * 8 <= 1099511627776),cv == cv,decide (0 <= p.b),decide (p.b.toNat < C.length),cv == cv],[(D.get?Internal p.a.toNat = some (AV.row 5 v)),(D.get?Internal p.a.toNat = some (AV.row 5 v)),(C.get?Internal p.b.toNat = some (AV.row 6 w)),(C.get?Internal p.b.toNat = some (AV.row 6 w))],_⟩ (by kernel_rfl) (bc rfl (bc rfl (bc rfl (bc rfl (bc rfl (bc rfl (bc rfl (bc rfl (bc (beq_self_eq_true _) (bc (Zaa.2 k2) (bc (Zaa.2 k4) (bc (beq_self_eq_true _) (bc rfl (bc rfl (bc rfl (bc (beq_self_eq_true _) (bc (i6.2 k7) (bc (beq_self_eq_true _) (bc (Zaa.2 k2) (bc (Zaa.2 k4) (bc (beq_self_eq_true _) (bc rfl (bc rfl (bc rfl (bc rfl (bc rfl (bc rfl (bc rfl (bc rfl (bc (beq_self_eq_true _) (bc (Zaa.2 k13) (bc (Zaa.2 k15) (bc (beq_self_eq_true _) (bc rfl (bc rfl (bc rfl (bc (beq_self_eq_true _) (bc (i17.2 k18) (bc (beq_self_eq_true _) (bc (Zaa.2 k13) (bc (Zaa.2 k15) (bc (beq_self_eq_true _) b0)))))))))))))))))))))))))))))))))))))))))) (qc k10 (qc k10 (qc k21 (qc k21 q0)))) c0 (by (try rw [w11]);(try rw [w22]);(try rw [w24]);all_goals exact H)
theorem r00 (f:Bool) (ps:List Pr) (C D:List AV) (cv dv:Nat) (R:Heap) (m i:Int) (p:Pr)  (Q:AV -> Heap -> Prop) (H :
  (0 <= p.a) /\
  (p.a.toNat < D.length) /\
  (D.get?Internal p.a.toNat = some AV.vnil) /\
  (0 <= p.b) /\
  (p.b.toNat < C.length) /\
  (C.get?Internal p.b.toNat = some AV.vnil) /\
  (-9223372036854775808 <= i + 1 /\ i + 1 <= 9223372036854775807) /\
  ZfM (f) (ps) (false) (C.set p.b.toNat (AV.row ((List.append R [{ elems:=[vi p.b],es:=((fun x => Try.prog) ()).types[3].size,ver:=0,frozen:=false,clean:=true }]).length + 1 + 1 + 1 + 1 + 1) 0)) (D.set p.a.toNat (AV.row (List.length R + 1 + 1 + 1 + 1 + 1) 0)) (cv) (dv) ({ elems:=[ag [vi p.a,vi p.b]],es:=2,ver:=0,frozen:=false,clean:=false } :: (List.append R [{ elems:=[vi p.b],es:=((fun x => Try.prog) ()).types[3].size,ver:=0,frozen:=false,clean:=true }]).append [{ elems:=[vi p.a],es:=((fun x => Try.prog) ()).types[3].size,ver:=0,frozen:=false,clean:=true }]) (m) (i + 1) Q) :
 r00_at f ps C D cv dv R m i p Q:=by
 unfold r00_at
 obtain ⟨k2,k4,k7,k9,k11,k14,k15,H⟩:=H
 have w16:wi (i + 1) = i + 1:=wI64 k15
 exact Zad (G:=Zaf kp34 [(5,9,(.elem .vnil:Ans)),(5,15,(.elem .vnil:Ans)),(6,9,(.elem .vnil:Ans)),(6,15,(.elem .vnil:Ans))] [(6,[1013]),(5,[1013])]) 1000 [] ⟨(atC (cd Try.f34) [1,1,0,1,0,0]),[(4,AV.ptr 0 0 0 0),(5,AV.ptr 3 0 0 0),(13,AV.vec f 2 (List.map Pr.v ps)),(14,vi m),(15,vi (wi (i + 1)))],⟨[ag [AV.vnil,AV.vnil]],2,0,false,false⟩ :: ⟨C.set p.b.toNat (AV.row ((List.append R [⟨[vi p.b],((fun x => Try.prog) ()).types[3].size,0,false,true⟩]).length + 1 + 1 + 1 + 1 + 1) 0),1,cv,false,false⟩ :: ⟨D.set p.a.toNat (AV.row (List.length R + 1 + 1 + 1 + 1 + 1) 0),1,dv,false,false⟩ :: ⟨[ag [AV.row 1 cv,AV.row 2 dv]],2,0,false,false⟩ :: ⟨[ag [vi p.a,vi p.b]],2,0,false,false⟩ :: (List.append R [⟨[vi p.b],((fun x => Try.prog) ()).types[3].size,0,false,true⟩]).append [⟨[vi p.a],((fun x => Try.prog) ()).types[3].size,0,false,true⟩],[true,true,true,true,true,true,true,true,dv == dv,decide (0 <= p.a),decide (p.a.toNat < D.length),dv == dv,true,true,true,true,dv == dv,decide (0 <= p.a),decide (p.a.toNat < D.length),dv == dv,true,true,true,true,true,true,true,true,cv == cv,decide (0 <= p.b),decide (p.b.toNat < C.length),cv == cv,true,true,true,true,cv == cv,decide (0 <= p.b),decide (p.b.toNat < C.length),cv == cv],[(D.get?Internal p.a.toNat = some AV.vnil),(D.get?Internal p.a.toNat = some AV.vnil),(C.get?Internal p.b.toNat = some AV.vnil),(C.get?Internal p.b.toNat = some AV.vnil)],_⟩ (by kernel_rfl) (bc rfl (bc rfl (bc rfl (bc rfl (bc rfl (bc rfl (bc rfl (bc rfl (bc (beq_self_eq_true _) (bc (Zaa.2 k2) (bc (Zaa.2 k4) (bc (beq_self_eq_true _) (bc rfl (bc rfl (bc rfl (bc rfl (bc (beq_self_eq_true _) (bc (Zaa.2 k2) (bc (Zaa.2 k4) (bc (beq_self_eq_true _) (bc rfl (bc rfl (bc rfl (bc rfl (bc rfl (bc rfl (bc rfl (bc rfl (bc (beq_self_eq_true _) (bc (Zaa.2 k9) (bc (Zaa.2 k11) (bc (beq_self_eq_true _) (bc rfl (bc rfl (bc rfl (bc rfl (bc (beq_self_eq_true _) (bc (Zaa.2 k9) (bc (Zaa.2 k11) (bc (beq_self_eq_true _) b0)))))))))))))))))))))))))))))))))))))))) (qc k7 (qc k7 (qc k14 (qc k14 q0)))) c0 (by (try rw [w16]);all_goals exact H)
theorem rB (f:Bool) (ps:List Pr) (xc:Bool) (C D:List AV) (cv dv:Nat) (R:Heap)  (Q:AV -> Heap -> Prop) (H :
  ZfM (f) (ps) (xc) (C) (D) (cv) (dv) (R) ((↑ps.length:Int)) (0) Q) :
 rB_at f ps xc C D cv dv R Q:=by
 unfold rB_at
 have w1:(List.map Pr.v ps).length = ps.length:=List.length_map ..
 exact Zad (G:=Zaf kp34 [] []) 1000 [] ⟨(atC (cd Try.f34) [1,1,0,1,0,0]),[(4,AV.ptr 0 0 0 0),(5,AV.ptr 3 0 0 0),(13,AV.vec f 2 (List.map Pr.v ps)),(14,vi (↑(List.map Pr.v ps).length:Int)),(15,vi 0)],⟨[ag [AV.vnil,AV.vnil]],2,0,false,false⟩ :: ⟨C,1,cv,false,xc⟩ :: ⟨D,1,dv,false,xc⟩ :: ⟨[ag [AV.row 1 cv,AV.row 2 dv]],2,0,false,false⟩ :: R,_,[],_⟩ (by kernel_rfl) b0 q0 c0 (by (try rw [w1]);all_goals exact H)
theorem rH (f:Bool) (ps:List Pr) (xc:Bool) (C D:List AV) (cv dv:Nat) (R:Heap) (m i:Int)  (Q:AV -> Heap -> Prop) (H :
  ((i < m) -> Wp M1 (.run fi34 (atC (cd Try.f34) [1,1,0,1,0,0,1,1,0,0,0]) [(4,AV.ptr 0 0 0 0),(5,AV.ptr 3 0 0 0),(13,AV.vec f 2 (List.map Pr.v ps)),(14,vi m),(15,vi i),(16,vb (decide (i < m)))] ({ elems:=[ag [AV.vnil,AV.vnil]],es:=2,ver:=0,frozen:=false,clean:=false } :: { elems:=C,es:=1,ver:=cv,frozen:=false,clean:=xc } :: { elems:=D,es:=1,ver:=dv,frozen:=false,clean:=xc } :: { elems:=[ag [AV.row 1 cv,AV.row 2 dv]],es:=2,ver:=0,frozen:=false,clean:=false } :: R)) Q) /\
  (¬(i < m) -> Q (ag [AV.row 1 cv,AV.row 2 dv]) ({ elems:=[ag [AV.row 1 cv,AV.row 2 dv]],es:=2,ver:=0,frozen:=false,clean:=false } :: { elems:=C,es:=1,ver:=cv,frozen:=false,clean:=xc } :: { elems:=D,es:=1,ver:=dv,frozen:=false,clean:=xc } :: { elems:=[ag [AV.row 1 cv,AV.row 2 dv]],es:=2,ver:=0,frozen:=false,clean:=false } :: R))) :
 ZfM f ps xc C D cv dv R m i Q:=by
 unfold ZfM
 rcases xq H with ⟨d2,H⟩|⟨d2,H⟩
 ·exact Zad (G:=Zaf kp34 [] []) 8 [true] ⟨(atC (cd Try.f34) [1,1,0,1,0,0,1,1,0,0,0]),[(4,AV.ptr 0 0 0 0),(5,AV.ptr 3 0 0 0),(13,AV.vec f 2 (List.map Pr.v ps)),(14,vi m),(15,vi i),(16,vb (decide (i < m)))],⟨[ag [AV.vnil,AV.vnil]],2,0,false,false⟩ :: ⟨C,1,cv,false,xc⟩ :: ⟨D,1,dv,false,xc⟩ :: ⟨[ag [AV.row 1 cv,AV.row 2 dv]],2,0,false,false⟩ :: R,_,[],_⟩ (by kernel_rfl) (bc (ZaG (Zaa.2 d2)) b0) q0 c0 (H)
 ·exact Zbf (G:=Zaf kp34 [] []) 1000 [false] (k:=((atC (cd Try.f34) [1,1,1,1])).tail) (env':=[(4,AV.ptr 0 0 0 0)]) (L':=⟨[ag [AV.row 1 cv,AV.row 2 dv]],2,0,false,false⟩ :: ⟨C,1,cv,false,xc⟩ :: ⟨D,1,dv,false,xc⟩ :: ⟨[ag [AV.row 1 cv,AV.row 2 dv]],2,0,false,false⟩ :: R) (asm:=[(decide (i < m)) == false,true,true]) (eqs:=[]) (calls:=[]) (ag [AV.row 1 cv,AV.row 2 dv]) (by kernel_rfl) (by kernel_rfl) (Zam (ZaD (fun h => d2 (Zaa.1 h))) (Zam rfl (Zam rfl Zax))) Za6 Za7 H
end Go.Av

namespace Go.Av
open Go.RowKit
theorem wp_any3 {M:Mach} (hm:(M.P ()).follows .mixedOrders = true) {fi:Fi} {id:Nat} {ops:Array Oper} {ans:Nat -> Option Ans} {keep:List Nat} {env e1:Vars} {L L1:Heap} {k:List Item} {Q:AV -> Heap -> Prop} {c d g:Nat} {a1:List Nat -> List Bool}
  (hcd:Zfe [c,d,g] = true) (h1:∀ σ ∈ [[c,d,g],[d,c,g],[d,g,c],[c,g,d],[g,c,d],[g,d,c]],ordX M (fun _ _ _ => none) fi.n ops ans keep [c,d,g] env L σ = some (e1,L1,a1 σ,[],[]))
  (hA:∀ σ,∀ b ∈ a1 σ,b = true) (hk:Wp M (.run fi k e1 L1) Q):Wp M (.run fi (.code (.region id ops true) :: k) env L) Q:=by
 refine .sem (Zay.after fun S a h5 h6 h7 h8 b k2 cs hbb => ?_)
 obtain ⟨a',w',⟨S',e0,n1,n2,n3,n4,n5,n6⟩,hs⟩:=any_sound hm (id:=id) (fi:=fi) (ops:=ops) (env:=env) (L:=L) (call:=fun _ _ _ => none) (ans:=ans) (keep:=keep) (C:=[c,d,g])
  (hot:=hotX M (fun _ _ _ => none) fi.n ops ans [c,d,g] env L) (l:=fun σ => ordGo ops [c,d,g] ops.size σ (List.range ops.size) []) (rs:=rsX M (fun _ _ _ => none) fi.n ops ans [c,d,g] env L) (e1:=e1) (L1:=L1) ((ZaN [c,d,g]).1 hcd) (fun σ hσ => by
   refine ⟨a1 σ,[],[],h1 σ ?_,hA σ,by simp,by simp⟩
   simp only [perms,Zdt,List.flatMap_cons,List.flatMap_nil,List.map_cons,List.map_nil,List.append_nil,List.mem_append,List.mem_cons,List.not_mem_nil,or_false] at hσ ⊢
   rcases hσ with (h | h | h) | h | h | h <;> subst h <;> simp) h5 h6 h7 h8 b k2 cs hbb
 exact ⟨a',w',⟨S',e1,e0,n1,n2,n3.symm ▸ Zbd hm hk,n4,n5,n6⟩,hs⟩
end Go.Av

namespace Go.Av
open Go.Proofs
noncomputable def rdO1:Array Oper:=match atC (cd Try.f34) [1,0] with
 | .code (.region _ ops _) :: _ => ops
 | _ => #[]
noncomputable def rdX (n:Int) (f:Bool) (ps:List AV) (σ:List Nat):=ordX M1 (fun _ _ _=>none) fi34.n rdO1 (fun _=>none) [4,5,1] [1,3,5] [(0,.int .i64 n),(1,.vec f 2 ps),(4,AV.ptr 0 0 0 0)] [⟨[.agg [.vnil,.vnil]],2,0,false,false⟩] σ
def nrow (n:Nat):Row:=⟨List.replicate n .vnil,1,0,false,true⟩
def rdAsm (n:Int):List Bool:=[decide (0<=n),decide (n<=n),decide (n*24<=1099511627776),decide (n<=1099511627776)]
def rdEnd (f:Bool) (ps:List AV) (n:Nat):Vars × Heap:=([(4,AV.ptr 0 0 0 0),(5,AV.ptr 3 0 0 0),(1,.vec f 2 ps)],[⟨[.agg [.vnil,.vnil]],2,0,false,false⟩,nrow n,nrow n,⟨[.agg [.row 1 0,.row 2 0]],2,0,false,false⟩])
def rdAll (n:Int):List Bool:=rdAsm n++(rdAsm n++[0==0])
theorem rdX_all (n:Int) (f:Bool) (ps:List AV):∀ σ ∈ [[1,3,5],[3,1,5],[3,5,1],[1,5,3],[5,1,3],[5,3,1]],rdX n f ps σ = some ((rdEnd f ps n.toNat).1,(rdEnd f ps n.toNat).2,rdAll n,[],[]):=by
 intro σ h
 simp only [List.mem_cons,List.not_mem_nil,or_false] at h
 rcases h with h | h | h | h | h | h <;> subst h <;> kernel_rfl
theorem rdAll_ok {n:Nat} (h:n <= 1000000):∀ b ∈ rdAll n,b = true:=by
 intro b hb
 unfold rdAll rdAsm at hb
 simp only [List.mem_append,List.mem_cons,List.not_mem_nil,or_false] at hb
 rcases hb with (rfl | rfl | rfl | rfl) | (rfl | rfl | rfl | rfl) | rfl
 all_goals first | rfl | exact decide_eq_true (by omega)
theorem rd1 {n:Nat} {f:Bool} {ps:List Pr} {Q:AV -> Heap -> Prop} (hn:n <= 1000000) (H:rB_at f ps true (List.replicate n .vnil) (List.replicate n .vnil) 0 0 [] Q):Wp M1 (.run fi34 (atC (cd Try.f34) [1,0]) [(0,.int .i64 n),(1,.vec f 2 (ps.map Pr.v)),(4,AV.ptr 0 0 0 0)] [⟨[.agg [.vnil,.vnil]],2,0,false,false⟩]) Q:=by
 refine wp_any3 (id:=1) (ops:=rdO1) (c:=1) (d:=3) (g:=5) (a1:=fun _ => rdAll n) hm1 rfl (rdX_all n f (ps.map Pr.v)) (fun _ => rdAll_ok hn) ?_
 rw [Int.toNat_natCast]
 unfold rB_at at H
 exact H
end Go.Av

namespace Go.Av
open Go.Proofs
theorem store_last {P:Unit -> Program} {el:Option AV} {L:Heap} {z:Row} {T:TypeId} {ver i j:Nat} {v:AV}:Zdm P el (L ++ [z]) T (.ptr L.length ver i j) v = (Zdm P el [z] T (.ptr 0 ver i j) v).map fun s => { s with L':=s.L'.map fun l => L ++ l }:=by
 have h1:(L ++ [z])[L.length]? = some z:=by simp
 have h2:∀ y:Row,(L ++ [z]).set L.length y = L ++ [y]:=fun y => by simp
 unfold Zdm
 simp only [h1,h2,List.getElem?_cons_zero,List.set_cons_zero]
 repeat' split
 all_goals rfl
noncomputable def rdO4:Array Oper:=match atC (cd Try.f34) [1,1,0,1,0,0,1,1,0,0,0] with
 | .code (.region _ ops _) :: _ => ops
 | _ => #[]
def rdAns (x:AV) (i:Nat):Option Ans:=bif Nat.beq i 1 then some (.elem x) else none
def rdE (f b:Bool) (ps:List AV) (m i:Int):Vars:=[(4,AV.ptr 0 0 0 0),(5,AV.ptr 3 0 0 0),(13,.vec f 2 ps),(14,.int .i64 m),(15,.int .i64 i),(16,.bool b)]
noncomputable def rdS2 (f b:Bool) (ps:List AV) (x:AV) (m i:Int) (L:Heap):Option RS:=Zai M1.P M1.inl (fun _ _ _=>none) fi34.n rdO4 (rdAns x) (fun _=>2) [0,1,2] ⟨lift (rdE f b ps m i),L,[],[],[]⟩
abbrev rdP (x y:Int):AV:=.agg [.int .i64 x,.int .i64 y]
noncomputable def rdT (f b:Bool) (ps:List AV) (x y m i:Int) (L:Heap) (z:AV) (q:List Bool):RS:=⟨(7,[],.ptr L.length 0 0 0)::(18,[],rdP x y)::(17,[],.eptr 2 ps i.toNat 0)::lift (rdE f b ps m i),L++[⟨[z],2,0,false,false⟩],[decide (0<=i),decide (i.toNat<ps.length)]++q,[ps[i.toNat]? = some (rdP x y)],[]⟩
theorem rdS2_eq (f b:Bool) (ps:List AV) (x y m i:Int) (L:Heap):rdS2 f b ps (rdP x y) m i L=some (rdT f b ps x y m i L (rdP 0 0) []):=by kernel_rfl
noncomputable def rdO43:Oper:=match rdO4[3]? with
 | some o => o
 | none => ⟨none,.load 47 (.tmp 7),0,"",#[],none⟩
theorem rdO4_3:rdO4[3]? = some rdO43:=by kernel_rfl
theorem rdO4_g:rdO43.guard=none:=by kernel_rfl
theorem rdO4_d:rdO43.dst=none:=by kernel_rfl
theorem rdO4_o:rdO43.op = .store 47 (.tmp 7) (.tmp 18):=by kernel_rfl
theorem rdO4_run (f b:Bool) (ps:List AV) (x y m i:Int) (L:Heap):Zai M1.P M1.inl (fun _ _ _ => none) fi34.n rdO4 (rdAns (rdP x y)) (fun _ => 2) (List.range rdO4.size) ⟨lift (rdE f b ps m i),L,[],[],[]⟩ = some (rdT f b ps x y m i L (rdP x y) [0 == 0]):=by
 have hr:List.range rdO4.size = [0,1,2] ++ [3]:=by kernel_rfl
 rw [hr,runOps_append]
 have h2:Zai M1.P M1.inl (fun _ _ _ => none) fi34.n rdO4 (rdAns (rdP x y)) (fun _ => 2) [0,1,2] ⟨lift (rdE f b ps m i),L,[],[],[]⟩ = some (rdT f b ps x y m i L (rdP 0 0) []):=rdS2_eq f b ps x y m i L
 rw [h2,Option.bind_some]
 have ho:=rdO4_3
 have hs:ZaH M1.P M1.inl (fun _ _ _ => none) (rdAns (rdP x y) 3) (fun ex => ev (rdT f b ps x y m i L (rdP 0 0) []).env (ex ++ [])) (rdT f b ps x y m i L (rdP 0 0) []).L rdO43 = some { v:=.tup [],L':=some (L ++ [⟨[rdP x y],2,0,false,false⟩]),asm:=[0 == 0] }:=by
  unfold ZaH
  rw [rdO4_o]
  show Zdm M1.P none (L ++ [⟨[rdP 0 0],2,0,false,false⟩]) 47 (.ptr L.length 0 0 0) (rdP x y) = _
  rw [store_last]
  kernel_rfl
 have h3:Zba M1.P M1.inl (fun _ _ _ => none) fi34.n rdO4 (rdAns (rdP x y) 3) 2 rdO43 (rdT f b ps x y m i L (rdP 0 0) []) = some (rdT f b ps x y m i L (rdP x y) [0 == 0]):=
  ZbX.2 ⟨_,_,(ZcA rdO4_g).2 ⟨_,hs,rfl,rfl⟩,by rw [rdO4_d];rfl,rfl⟩
 simp only [Zai,ho,h3]
end Go.Av

namespace Go.Av
open Go.Proofs
noncomputable def rdO0:Array Oper:=match cd Try.f34 with
 | .seq (.region _ ops _) _ => ops
 | _ => #[]
noncomputable def rdB0:Code:=match cd Try.f34 with
 | .seq _ b => b
 | _ => .skip
noncomputable def rdB1:Code:=match rdB0 with
 | .seq _ b => b
 | _ => .skip
theorem rdC0:cd Try.f34 = .seq (.region 0 rdO0 false) rdB0:=by kernel_rfl
theorem rdC1:rdB0 = .seq (.region 1 rdO1 true) rdB1:=by kernel_rfl
theorem rdC1':atC (cd Try.f34) [1,0]=[.code (.region 1 rdO1 true),.code rdB1]:=by kernel_rfl
noncomputable def rdK4:List Item:=(atC (cd Try.f34) [1,1,0,1,0,0,1,1,0,0,0]).tail
noncomputable def rdA4:Code:=match rdK4 with
 | .code (.seq a _) :: _ => a
 | _ => .skip
noncomputable def rdB4:Code:=match rdK4 with
 | .code (.seq _ b) :: _ => b
 | _ => .skip
theorem rdC4:atC (cd Try.f34) [1,1,0,1,0,0,1,1,0,0,0] = .code (.region 4 rdO4 false)::rdK4:=by kernel_rfl
theorem rdC4a:rdK4 = .code (.seq rdA4 rdB4)::rdK4.tail:=by kernel_rfl
theorem rdC4b:atC (cd Try.f34) [1,1,0,1,0,0,1,1,0,0,1,0] = .code rdA4 :: .code rdB4::rdK4.tail:=by kernel_rfl
noncomputable def rdT0 (n:Int) (f:Bool) (ps:List AV):RS:=⟨[(4,[],.ptr 0 0 0 0),(0,[],.int .i64 n),(1,[],.vec f 2 ps)],[⟨[.agg [.vnil,.vnil]],2,0,false,false⟩],[],[],[]⟩
theorem rdT0_eq (n:Int) (f:Bool) (ps:List AV):Zai M1.P M1.inl (fun _ _ _=>none) fi34.n rdO0 (fun _=>none) (fun _=>2) (List.range rdO0.size) ⟨lift [(0,.int .i64 n),(1,.vec f 2 ps)],[],[],[],[]⟩=some (rdT0 n f ps):=by kernel_rfl
theorem rd0 {n:Int} {f:Bool} {ps:List AV} {Q:AV -> Heap -> Prop} (H:Wp M1 (.run fi34 (atC (cd Try.f34) [1,0]) [(0,.int .i64 n),(1,.vec f 2 ps),(4,AV.ptr 0 0 0 0)] [⟨[.agg [.vnil,.vnil]],2,0,false,false⟩]) Q):Wp M1 (.run fi34 [.code (cd Try.f34)] [(0,.int .i64 n),(1,.vec f 2 ps)] []) Q:=by
 rw [rdC0]
 refine .seq (.region (fun _ _ _ => none) (fun _ => none) (fun _ => 2) [0,1,4] (rdT0 n f ps) (by intro h;cases h) (rdT0_eq n f ps) ?_ ?_ ?_ ?_ ?_)
 ·intro b hb;cases hb
 ·intro b hb;cases hb
 ·intro b hb;cases hb
 ·intro b hb;cases hb
 ·rw [rdC1]
  rw [rdC1'] at H
  exact .seq H
theorem rdF4 (f b:Bool) (ps:List AV) (x y m i:Int) (L:Heap):Za0 [4,5,13,14,15,7] (rdT f b ps x y m i L (rdP x y) [0==0]).env=[(4,AV.ptr 0 0 0 0),(5,AV.ptr 3 0 0 0),(13,.vec f 2 ps),(14,.int .i64 m),(15,.int .i64 i),(7,.ptr L.length 0 0 0)]:=by kernel_rfl
theorem rd4 {f b:Bool} {ps:List AV} {x y m i:Int} {L:Heap} {Q:AV -> Heap -> Prop} (hi:0 <= i) (hl:i.toNat < ps.length) (hx:ps[i.toNat]? = some (rdP x y))
  (H:Wp M1 (.run fi34 (atC (cd Try.f34) [1,1,0,1,0,0,1,1,0,0,1,0]) [(4,AV.ptr 0 0 0 0),(5,AV.ptr 3 0 0 0),(13,.vec f 2 ps),(14,.int .i64 m),(15,.int .i64 i),(7,.ptr L.length 0 0 0)] (L ++ [⟨[rdP x y],2,0,false,false⟩])) Q) :
  Wp M1 (.run fi34 (atC (cd Try.f34) [1,1,0,1,0,0,1,1,0,0,0]) (rdE f b ps m i) L) Q:=by
 rw [rdC4]
 refine .region (fun _ _ _ => none) (rdAns (rdP x y)) (fun _ => 2) [4,5,13,14,15,7] _ (by intro h;cases h) (rdO4_run f b ps x y m i L) ?_ ?_ ?_ ?_ ?_
 ·intro c hc
  have hc:c ∈ [decide (0 <= i),decide (i.toNat < ps.length)] ++ [0 == 0]:=hc
  simp only [List.mem_append,List.mem_cons,List.not_mem_nil,or_false] at hc
  rcases hc with (rfl | rfl) | rfl
  ·exact decide_eq_true hi
  ·exact decide_eq_true hl
  ·rfl
 ·intro p hp
  have hp:p ∈ [ps[i.toNat]? = some (rdP x y)]:=hp
  rw [List.mem_singleton] at hp
  rw [hp];exact hx
 ·intro c hc;cases hc
 ·intro c hc;cases hc
 ·rw [rdF4,rdC4a]
  rw [rdC4b] at H
  exact .seq H
namespace Sp
def bfl (ps:List Pr) (b:Int):List Int:=(ps.filter fun p=>p.b==b).map Pr.a
def bhl (ps:List Pr) (a:Int):List Int:=(ps.filter fun p=>p.a==a).map Pr.b
end Sp
abbrev nR (l:List Int) (v:Nat):Row:=⟨l.map (.int .i64),1,v,false,true⟩
def Cel (l:List Int) (m:Option Row):Prop:=(l=[]/\m=none)\/(l ≠ [] /\ ∃ v,m=some (nR l v))
abbrev CC {α:Type} (x y:α):Nat->α:=fun u=>if u=1 then x else y
abbrev rF0:Row:=⟨[.agg [.vnil,.vnil]],2,0,false,false⟩
abbrev rBX (cv dv:Nat):Row:=⟨[.agg [.row 1 cv,.row 2 dv]],2,0,false,false⟩
abbrev rPB (p:Pr):Row:=⟨[.agg [.int .i64 p.a,.int .i64 p.b]],2,0,false,false⟩
def Cels (n:Nat) (g:Int->List Int) (M:List (Option Row)):Prop:=M.length=n /\ ∀ j,j<n -> ∃ x,M[j]? = some x/\Cel (g j) x
abbrev rL (C D:List AV) (cv dv:Nat) (R:Heap):Heap:=rF0::⟨C,1,cv,false,false⟩::⟨D,1,dv,false,false⟩::rBX cv dv::R
def RI (U n:Nat) (C D:List AV) (cv dv:Nat) (R:Heap) (M N:List (Option Row)) (ρ:Nat->Nat->Nat):Prop:=Mx U [1,2] (rL C D cv dv R) (CC C D) (CC cv dv) (CC M N) ρ
theorem cels_set {n:Nat} {g g':Int -> List Int} {M:List (Option Row)} {a:Int} {l:List Int} {v:Nat} (h:Cels n g M) (ha:0 <= a /\ a < n) (hl:l ≠ []) (hg:g' a = l) (hne:∀ j:Nat,(j:Int) ≠ a -> g' j = g j):Cels n g' (M.set a.toNat (some (nR l v))):=by
 refine ⟨by rw [List.length_set];exact h.1,fun j hj => ?_⟩
 rw [List.getElem?_set]
 by_cases e:a.toNat = j
 ·rw [if_pos e,if_pos (by rw [h.1];omega)]
  refine ⟨_,rfl,.inr ⟨?_,v,?_⟩⟩
  ·rw [show (j:Int) = a by omega,hg];exact hl
  ·rw [show (j:Int) = a by omega,hg]
 ·rw [if_neg e,hne j (by omega)]
  exact h.2 j hj
theorem bfl_snoc (qs:List Pr) (p:Pr) (b:Int):Sp.bfl (qs ++ [p]) b = if p.b = b then Sp.bfl qs b ++ [p.a] else Sp.bfl qs b:=by
 unfold Sp.bfl
 rw [List.filter_append,List.map_append]
 by_cases e:p.b = b
 ·rw [if_pos e,List.filter_cons_of_pos (by simpa using e)];rfl
 ·rw [if_neg e,List.filter_cons_of_neg (by simpa using e)];simp
theorem bhl_snoc (qs:List Pr) (p:Pr) (a:Int):Sp.bhl (qs ++ [p]) a = if p.a = a then Sp.bhl qs a ++ [p.b] else Sp.bhl qs a:=by
 unfold Sp.bhl
 rw [List.filter_append,List.map_append]
 by_cases e:p.a = a
 ·rw [if_pos e,List.filter_cons_of_pos (by simpa using e)];rfl
 ·rw [if_neg e,List.filter_cons_of_neg (by simpa using e)];simp
theorem cels_bf {n:Nat} {qs:List Pr} {p:Pr} {M:List (Option Row)} {v:Nat} (h:Cels n (Sp.bfl qs) M) (hp:0 <= p.b /\ p.b < n):Cels n (Sp.bfl (qs ++ [p])) (M.set p.b.toNat (some (nR (Sp.bfl qs p.b ++ [p.a]) v))):=
 cels_set h hp (by simp) (by rw [bfl_snoc,if_pos rfl]) fun j hj => by rw [bfl_snoc,if_neg fun e => hj e.symm]
theorem cels_bh {n:Nat} {qs:List Pr} {p:Pr} {M:List (Option Row)} {v:Nat} (h:Cels n (Sp.bhl qs) M) (hp:0 <= p.a /\ p.a < n):Cels n (Sp.bhl (qs ++ [p])) (M.set p.a.toNat (some (nR (Sp.bhl qs p.a ++ [p.b]) v))):=
 cels_set h hp (by simp) (by rw [bhl_snoc,if_pos rfl]) fun j hj => by rw [bhl_snoc,if_neg fun e => hj e.symm]
section
variable {U n:Nat} {C D:List AV} {cv dv:Nat} {R:Heap} {M N:List (Option Row)} {ρ:Nat->Nat->Nat} {z:Row}
theorem RI.cellD (h:RI 5 n C D cv dv (z :: R) M N ρ) {a:Nat} (ha:a < N.length) {rb:Row} (hc:rb.clean = true) (hv:rb.ver = 0):∃ ρ',RI 5 n C (D.set a (.row (R.length + 5) 0)) cv dv (z :: (R ++ [rb])) M (N.set a (some rb)) ρ':=by
 have:=Mx.cell h (u:=2) (a:=a) (by simp) ha hc
 rw [hv] at this
 exact ⟨fun w j => if w = 2 /\ j = a then R.length + 5 else ρ w j,Mx.congr this fun u hu => by
  simp only [List.mem_cons,List.not_mem_nil,or_false] at hu
  rcases hu with rfl | rfl
  ·exact ⟨rfl,rfl,rfl,fun j => rfl⟩
  ·exact ⟨rfl,rfl,rfl,fun j => rfl⟩⟩
theorem RI.cellC (h:RI 5 n C D cv dv (z :: R) M N ρ) {a:Nat} (ha:a < M.length) {rb:Row} (hc:rb.clean = true) (hv:rb.ver = 0):∃ ρ',RI 5 n (C.set a (.row (R.length + 5) 0)) D cv dv (z :: (R ++ [rb])) (M.set a (some rb)) N ρ':=by
 have:=Mx.cell h (u:=1) (a:=a) (by simp) ha hc
 rw [hv] at this
 exact ⟨fun w j => if w = 1 /\ j = a then R.length + 5 else ρ w j,Mx.congr this fun u hu => by
  simp only [List.mem_cons,List.not_mem_nil,or_false] at hu
  rcases hu with rfl | rfl
  ·exact ⟨rfl,rfl,rfl,fun j => rfl⟩
  ·exact ⟨rfl,rfl,rfl,fun j => rfl⟩⟩
theorem RI.appD {x ra rb:Row} {p:Nat} (h:RI 5 n C D cv dv R M N ρ) {a:Nat} (ha:N[a]? = some (some ra)) (hp:ρ 2 a = p) (hc:rb.clean = true) {R':Heap} (hR:((rL C D cv dv R).set p rb).set 2 ⟨D.set a (.row p rb.ver),1,dv,false,false⟩ = rL C (D.set a (.row p rb.ver)) cv dv R'):RI 5 n C (D.set a (.row p rb.ver)) cv dv R' M (N.set a (some rb)) ρ:=by
 have:=Mx.app h (u:=2) (a:=a) (by simp) ha hc
 rw [hp] at this
 unfold RI
 rw [<- hR]
 exact Mx.congr this fun u hu => by
  simp only [List.mem_cons,List.not_mem_nil,or_false] at hu
  rcases hu with rfl | rfl
  ·exact ⟨rfl,rfl,rfl,fun j => rfl⟩
  ·exact ⟨rfl,rfl,rfl,fun j => rfl⟩
theorem RI.appC {ra rb:Row} {p:Nat} (h:RI 5 n C D cv dv R M N ρ) {a:Nat} (ha:M[a]? = some (some ra)) (hp:ρ 1 a = p) (hc:rb.clean = true) {R':Heap} (hR:((rL C D cv dv R).set p rb).set 1 ⟨C.set a (.row p rb.ver),1,cv,false,false⟩ = rL (C.set a (.row p rb.ver)) D cv dv R'):RI 5 n (C.set a (.row p rb.ver)) D cv dv R' (M.set a (some rb)) N ρ:=by
 have:=Mx.app h (u:=1) (a:=a) (by simp) ha hc
 rw [hp] at this
 unfold RI
 rw [<- hR]
 exact Mx.congr this fun u hu => by
  simp only [List.mem_cons,List.not_mem_nil,or_false] at hu
  rcases hu with rfl | rfl
  ·exact ⟨rfl,rfl,rfl,fun j => rfl⟩
  ·exact ⟨rfl,rfl,rfl,fun j => rfl⟩
theorem rL_fix {C D:List AV} {cv dv:Nat} {R:Heap} (r:Nat) (row:Row) (hr:r < 4) (hno:r ∉ [1,2]) (h:(rL C D cv dv R)[r]? = some row):∀ s ∈ Zae row,s < 4:=by
 have:r = 0 \/ r = 3:=by
  simp only [List.mem_cons,List.not_mem_nil,or_false] at hno
  omega
 rcases this with rfl | rfl
 ·have e:row = rF0:=(Option.some.inj h).symm
  subst e
  intro s hs;simp [Zae,rowsL,rowsA] at hs
 ·have e:row = rBX cv dv:=(Option.some.inj h).symm
  subst e
  intro s hs;simp [Zae,rowsL,rowsA] at hs;omega
theorem RI.dn {p:Pr} (h:RI 5 n C D cv dv (rPB p :: R) M N ρ):RI 4 n C D cv dv (rPB p :: R) M N ρ:=by
 refine Mx.down h (by intro u hu;simp only [List.mem_cons,List.not_mem_nil,or_false] at hu;omega) (z:=rPB p) rfl (by simp [Zae,rowsL,rowsA]) fun r row hr hno hrow => rL_fix r row hr hno hrow
end
end Go.Av

namespace Go.Av
open Go.Proofs
theorem Mx.fixd {U:Nat} {os:List Nat} {L:Heap} {C:Nat -> List AV} {cv:Nat -> Nat} {M:Nat -> List (Option Row)} {ρ:Nat -> Nat -> Nat} (h:Mx U os L C cv M ρ) {r:Nat} {z:Row} (hr:r < U) (hno:r ∉ os) (hz:∀ s ∈ Zae z,s < U):Mx U os (L.set r z) C cv M ρ:=by
 have hne:∀ q,q ≠ r -> (L.set r z)[q]? = L[q]?:=fun q hq => by rw [List.getElem?_set,if_neg fun e => hq e.symm]
 refine ⟨by rw [List.length_set];exact h.len,h.osU,fun u hu => ?_,fun q row hq hqo hrow => ?_,fun q row hq hrow => ?_,fun u hu j row hm => ?_,h.nil,h.inj,h.hcl⟩
 ·rw [hne u fun e => hno (e ▸ hu)];exact h.out u hu
 ·by_cases e:q = r
  ·subst e
   rw [List.getElem?_set,if_pos rfl,if_pos (by have:=h.len;omega)] at hrow
   rw [<- Option.some.inj hrow];exact hz
  ·rw [hne q e] at hrow;exact h.fix q row hq hqo hrow
 ·rw [hne q (by omega)] at hrow;exact h.cln q row hq hrow
 ·obtain ⟨e1,e2,e3⟩:=h.hit u hu j row hm
  rw [hne _ (by omega)];exact ⟨e1,e2,e3⟩
theorem Zds {α:Type}:∀ {k:Nat} {L P:List α},P.length = k -> (∀ r,r < k -> L[r]? = P[r]?) -> ∃ R,L = P ++ R
 | 0,L,P,hP,_ => ⟨L,by rw [List.length_eq_zero_iff.1 hP];rfl⟩
 | k + 1,L,P,hP,h => by
  match P,hP with
  | x :: P,hP =>
   have h0:=h 0 (by omega)
   match L,h0 with
   | y :: L,h0 =>
    obtain ⟨R,hR⟩:=Zds (k:=k) (L:=L) (P:=P) (by simpa using hP) fun r hr => by simpa using h (r + 1) (by omega)
    have:y = x:=by simpa using h0
    exact ⟨R,by rw [hR,this];rfl⟩
section
variable {n:Nat} {C D:List AV} {cv dv:Nat} {R:Heap} {M N:List (Option Row)} {ρ:Nat->Nat->Nat} {z:Row} {fi:Fi} {k:List Item} {env:Vars} {d:AV}
theorem RI.focD (h:RI 5 n C D cv dv (z :: R) M N ρ) (henv:(rowsL (env.map (·.2))).all (fun r => Nat.blt r 5) = true) {a:Nat} {ra:Row} (ha:N[a]? = some (some ra))
  (H:∀ C' D' R' ρ',RI 5 n C' D' cv dv (z :: ra :: R') M N ρ' -> ρ' 2 a = 5 -> Wp M1 (.run fi k env (rL C' D' cv dv (z :: ra :: R'))) (Zbq d)):Wp M1 (.run fi k env (rL C D cv dv (z :: R))) (Zbq d):=by
 obtain ⟨e1,e2,e3⟩:=Mx.hit h 2 (by simp) a ra ha
 have hl:=(List.getElem?_eq_some_iff.1 e2).1
 refine wp_focus h henv (u:=2) (a:=a) (p:=5) (by simp) ha (Nat.le_refl 5) (by omega) fun L' C' ρ' hM hlen hp hρ _ hfix => ?_
 have h1:=(hM.out 1 (by simp)).1
 have h2:=(hM.out 2 (by simp)).1
 have h0:=hfix 0 (by omega) (by simp)
 have h3:=hfix 3 (by omega) (by simp)
 have h4:=hfix 4 (by omega) (by simp)
 obtain ⟨R',rfl⟩:=Zds (k:=6) (L:=L') (P:=rL (C' 1) (C' 2) cv dv [z,ra]) rfl fun r hr => by
  have:r = 0 \/ r = 1 \/ r = 2 \/ r = 3 \/ r = 4 \/ r = 5:=by omega
  rcases this with rfl | rfl | rfl | rfl | rfl | rfl
  ·exact h0
  ·exact h1
  ·exact h2
  ·exact h3
  ·exact h4
  ·exact hp
 exact H _ _ R' ρ' (hM.congr fun u hu => by
  simp only [List.mem_cons,List.not_mem_nil,or_false] at hu
  rcases hu with rfl | rfl
  ·exact ⟨rfl,rfl,rfl,fun j => rfl⟩
  ·exact ⟨rfl,rfl,rfl,fun j => rfl⟩) hρ
theorem RI.focC (h:RI 5 n C D cv dv (z :: R) M N ρ) (henv:(rowsL (env.map (·.2))).all (fun r => Nat.blt r 5) = true) {b:Nat} {rb:Row} (hb:M[b]? = some (some rb))
  (H:∀ C' D' R' ρ',RI 5 n C' D' cv dv (z :: rb :: R') M N ρ' -> ρ' 1 b = 5 -> Wp M1 (.run fi k env (rL C' D' cv dv (z :: rb :: R'))) (Zbq d)):Wp M1 (.run fi k env (rL C D cv dv (z :: R))) (Zbq d):=by
 obtain ⟨e1,e2,e3⟩:=Mx.hit h 1 (by simp) b rb hb
 have hl:=(List.getElem?_eq_some_iff.1 e2).1
 refine wp_focus h henv (u:=1) (a:=b) (p:=5) (by simp) hb (Nat.le_refl 5) (by omega) fun L' C' ρ' hM hlen hp hρ _ hfix => ?_
 have h1:=(hM.out 1 (by simp)).1
 have h2:=(hM.out 2 (by simp)).1
 have h0:=hfix 0 (by omega) (by simp)
 have h3:=hfix 3 (by omega) (by simp)
 have h4:=hfix 4 (by omega) (by simp)
 obtain ⟨R',rfl⟩:=Zds (k:=6) (L:=L') (P:=rL (C' 1) (C' 2) cv dv [z,rb]) rfl fun r hr => by
  have:r = 0 \/ r = 1 \/ r = 2 \/ r = 3 \/ r = 4 \/ r = 5:=by omega
  rcases this with rfl | rfl | rfl | rfl | rfl | rfl
  ·exact h0
  ·exact h1
  ·exact h2
  ·exact h3
  ·exact h4
  ·exact hp
 exact H _ _ R' ρ' (hM.congr fun u hu => by
  simp only [List.mem_cons,List.not_mem_nil,or_false] at hu
  rcases hu with rfl | rfl
  ·exact ⟨rfl,rfl,rfl,fun j => rfl⟩
  ·exact ⟨rfl,rfl,rfl,fun j => rfl⟩) hρ
theorem RI.focDC (h:RI 5 n C D cv dv (z :: R) M N ρ) (henv:(rowsL (env.map (·.2))).all (fun r => Nat.blt r 5) = true) {a b:Nat} {ra rb:Row} (ha:N[a]? = some (some ra)) (hb:M[b]? = some (some rb))
  (H:∀ C' D' R' ρ',RI 5 n C' D' cv dv (z :: ra :: rb :: R') M N ρ' -> ρ' 2 a = 5 -> ρ' 1 b = 6 -> Wp M1 (.run fi k env (rL C' D' cv dv (z :: ra :: rb :: R'))) (Zbq d)):Wp M1 (.run fi k env (rL C D cv dv (z :: R))) (Zbq d):=by
 refine h.focD henv ha fun C1 D1 R1 ρ1 h1 h1a => ?_
 obtain ⟨e1,e2,e3⟩:=Mx.hit h1 1 (by simp) b rb hb
 have hl:=(List.getElem?_eq_some_iff.1 e2).1
 have hne:ρ1 1 b ≠ 5:=fun e => by
  have:=(Mx.inj h1 1 (by simp) 2 (by simp) b a rb ra hb ha (by rw [h1a,e])).1
  omega
 refine wp_focus h1 henv (u:=1) (a:=b) (p:=6) (by simp) hb (by omega) (by omega) fun L' C' ρ' hM hlen hp hρ ho hfix => ?_
 have hra:ρ' 2 a = 5:=by
  have:=ho 2 (by simp) a ra ha (by rw [h1a];omega) (by rw [h1a];exact fun e => hne e.symm)
  rw [this];exact h1a
 have hr5:=(hM.hit 2 (by simp) a ra ha).2.1
 rw [hra] at hr5
 have h1':=(hM.out 1 (by simp)).1
 have h2:=(hM.out 2 (by simp)).1
 have h0:=hfix 0 (by omega) (by simp)
 have h3:=hfix 3 (by omega) (by simp)
 have h4:=hfix 4 (by omega) (by simp)
 obtain ⟨R',rfl⟩:=Zds (k:=7) (L:=L') (P:=rL (C' 1) (C' 2) cv dv [z,ra,rb]) rfl fun r hr => by
  have:r = 0 \/ r = 1 \/ r = 2 \/ r = 3 \/ r = 4 \/ r = 5 \/ r = 6:=by omega
  rcases this with rfl | rfl | rfl | rfl | rfl | rfl | rfl
  ·exact h0
  ·exact h1'
  ·exact h2
  ·exact h3
  ·exact h4
  ·exact hr5
  ·exact hp
 exact H _ _ R' ρ' (hM.congr fun u hu => by
  simp only [List.mem_cons,List.not_mem_nil,or_false] at hu
  rcases hu with rfl | rfl
  ·exact ⟨rfl,rfl,rfl,fun j => rfl⟩
  ·exact ⟨rfl,rfl,rfl,fun j => rfl⟩) hra hρ
theorem RI.lenC {U:Nat} (h:RI U n C D cv dv R M N ρ):C.length=M.length:=(Mx.out h 1 (by simp)).2
theorem RI.lenD {U:Nat} (h:RI U n C D cv dv R M N ρ):D.length=N.length:=(Mx.out h 2 (by simp)).2
theorem RI.nilC {U:Nat} (h:RI U n C D cv dv R M N ρ) {b:Nat} (hb:M[b]? = some none):C[b]? = some AV.vnil:=Mx.nil h 1 (by simp) b hb
theorem RI.nilD {U:Nat} (h:RI U n C D cv dv R M N ρ) {a:Nat} (ha:N[a]? = some none):D[a]? = some AV.vnil:=Mx.nil h 2 (by simp) a ha
theorem RI.hitC {U:Nat} (h:RI U n C D cv dv R M N ρ) {b:Nat} {rb:Row} (hb:M[b]? = some (some rb)):C[b]? = some (.row (ρ 1 b) rb.ver):=(Mx.hit h 1 (by simp) b rb hb).1
theorem RI.hitD {U:Nat} (h:RI U n C D cv dv R M N ρ) {a:Nat} {ra:Row} (ha:N[a]? = some (some ra)):D[a]? = some (.row (ρ 2 a) ra.ver):=(Mx.hit h 2 (by simp) a ra ha).1
end
def RJ (n:Nat) (qs:List Pr) (C D:List AV) (cv dv:Nat) (R:Heap):Prop:=∃ M N ρ,RI 4 n C D cv dv R M N ρ/\Cels n (Sp.bfl qs) M/\Cels n (Sp.bhl qs) N
section
variable {n:Nat} {C D:List AV} {cv dv:Nat} {R:Heap} {M N:List (Option Row)} {ρ:Nat->Nat->Nat} {p:Pr} {qs ps:List Pr} {m i:Int} {d:AV} {f:Bool}
theorem RI.nn (h:RI 5 n C D cv dv (rPB p :: R) M N ρ) (hM:Cels n (Sp.bfl qs) M) (hN:Cels n (Sp.bhl qs) N) (ha:N[p.a.toNat]? = some none) (hb:M[p.b.toNat]? = some none) (hp:(0 <= p.a /\ p.a < n) /\ 0 <= p.b /\ p.b < n) (ea:Sp.bhl qs p.a = []) (eb:Sp.bfl qs p.b = []) :
  RJ n (qs ++ [p]) (C.set p.b.toNat (.row ((R ++ [nR [p.b] 0]).length + 5) 0)) (D.set p.a.toNat (.row (R.length + 5) 0)) cv dv (rPB p :: ((R ++ [nR [p.b] 0]) ++ [nR [p.a] 0])):=by
 obtain ⟨ρ1,h1⟩:=h.cellD (a:=p.a.toNat) (rb:=nR [p.b] 0) (by rw [hN.1];omega) rfl rfl
 obtain ⟨ρ2,h2⟩:=h1.cellC (a:=p.b.toNat) (rb:=nR [p.a] 0) (by rw [hM.1];omega) rfl rfl
 have cM:=cels_bf (v:=0) hM hp.2
 have cN:=cels_bh (v:=0) hN hp.1
 rw [eb,List.nil_append] at cM
 rw [ea,List.nil_append] at cN
 exact ⟨_,_,_,h2.dn,cM,cN⟩
theorem es3:((fun _=>Try.prog) ():Program).types[3].size=1:=by kernel_rfl
theorem bfl_len (qs:List Pr) (b:Int):(Sp.bfl qs b).length<=qs.length:=by unfold Sp.bfl;rw [List.length_map];exact List.length_filter_le ..
theorem bhl_len (qs:List Pr) (b:Int):(Sp.bhl qs b).length<=qs.length:=by unfold Sp.bhl;rw [List.length_map];exact List.length_filter_le ..
theorem rd_body (h:RI 5 n C D cv dv (rPB p :: R) M N ρ) (hM:Cels n (Sp.bfl qs) M) (hN:Cels n (Sp.bhl qs) N) (hp:(0 <= p.a /\ p.a < n) /\ 0 <= p.b /\ p.b < n) (hq:qs.length <= 1000000) (hi:0 <= i /\ i <= 1000000)
  (H:∀ C D R,RJ n (qs ++ [p]) C D cv dv R -> ZfM f ps false C D cv dv R m (i + 1) (Zbq d)):ZfW f ps C D cv dv R m i p (Zbq d):=by
 have l1:=bfl_len qs p.b
 have l2:=bhl_len qs p.a
 obtain ⟨x,hx,cx⟩:=hN.2 p.a.toNat (by omega)
 obtain ⟨y,hy,cy⟩:=hM.2 p.b.toNat (by omega)
 rw [show ((p.a.toNat:Nat):Int) = p.a by omega] at cx
 rw [show ((p.b.toNat:Nat):Int) = p.b by omega] at cy
 rcases cx with ⟨ea,rfl⟩ | ⟨_,v,rfl⟩ <;> rcases cy with ⟨eb,rfl⟩ | ⟨_,w,rfl⟩
 ·have hn:=H _ _ _ (h.nn hM hN hx hy hp ea eb)
  refine rnn _ _ _ _ _ _ _ _ _ _ _ ⟨hp.1.1,by rw [h.lenD,hN.1];omega,h.nilD hx,hp.2.1,by rw [h.lenC,hM.1];omega,h.nilC hy,by omega,?_⟩
  rw [es3];exact hn
 ·unfold ZfW
  refine h.focC rfl hy fun C' D' R' ρ' h' h1 => ?_
  have hC:=h'.hitC hy
  rw [h1] at hC
  have h2:=h'.appC (rb:=nR (Sp.bfl qs p.b ++ [p.a]) (w + 1)) hy h1 rfl (R':=rPB p :: nR (Sp.bfl qs p.b ++ [p.a]) (w + 1) :: R') rfl
  obtain ⟨ρ3,h3⟩:=h2.cellD (a:=p.a.toNat) (rb:=nR [p.b] 0) (by rw [hN.1];omega) rfl rfl
  have cN:=cels_bh (v:=0) hN hp.1
  rw [ea,List.nil_append] at cN
  have hn:=H _ _ _ ⟨_,_,_,h3.dn,cels_bf hM hp.2,cN⟩
  refine rnr f ps C' D' cv dv R' m i p (Sp.bfl qs p.b) w (Zbq d) ⟨hp.1.1,by rw [h'.lenD,hN.1];omega,h'.nilD hx,hp.2.1,by rw [h'.lenC,hM.1];omega,by omega,hC,by omega,?_⟩
  rw [es3];exact hn
 ·unfold ZfW
  refine h.focD rfl hx fun C' D' R' ρ' h' h1 => ?_
  have hD:=h'.hitD hx
  rw [h1] at hD
  have h2:=h'.appD (x:=rF0) (rb:=nR (Sp.bhl qs p.a ++ [p.b]) (v + 1)) hx h1 rfl (R':=rPB p :: nR (Sp.bhl qs p.a ++ [p.b]) (v + 1) :: R') rfl
  obtain ⟨ρ3,h3⟩:=h2.cellC (a:=p.b.toNat) (rb:=nR [p.a] 0) (by rw [hM.1];omega) rfl rfl
  have cM:=cels_bf (v:=0) hM hp.2
  rw [eb,List.nil_append] at cM
  have hn:=H _ _ _ ⟨_,_,_,h3.dn,cM,cels_bh hN hp.1⟩
  refine rrn f ps C' D' cv dv R' m i p (Sp.bhl qs p.a) v (Zbq d) ⟨hp.1.1,by rw [h'.lenD,hN.1];omega,by omega,hD,hp.2.1,by rw [h'.lenC,hM.1];omega,h'.nilC hy,by omega,?_⟩
  rw [es3];exact hn
 ·unfold ZfW
  refine h.focDC rfl hx hy fun C' D' R' ρ' h' h1 h1b => ?_
  have hD:=h'.hitD hx
  rw [h1] at hD
  have hC:=h'.hitC hy
  rw [h1b] at hC
  have h2:=h'.appD (x:=rF0) (rb:=nR (Sp.bhl qs p.a ++ [p.b]) (v + 1)) hx h1 rfl (R':=rPB p :: nR (Sp.bhl qs p.a ++ [p.b]) (v + 1) :: nR (Sp.bfl qs p.b) w :: R') rfl
  have h3:=h2.appC (rb:=nR (Sp.bfl qs p.b ++ [p.a]) (w + 1)) hy h1b rfl (R':=rPB p :: nR (Sp.bhl qs p.a ++ [p.b]) (v + 1) :: nR (Sp.bfl qs p.b ++ [p.a]) (w + 1) :: R') rfl
  have hn:=H _ _ _ ⟨_,_,_,h3.dn,cels_bf hM hp.2,cels_bh hN hp.1⟩
  exact rrr f ps C' D' cv dv R' m i p (Sp.bhl qs p.a) v (Sp.bfl qs p.b) w (Zbq d) ⟨hp.1.1,by rw [h'.lenD,hN.1];omega,by omega,hD,hp.2.1,by rw [h'.lenC,hM.1];omega,by omega,hC,by omega,hn⟩
end
end Go.Av

namespace Go.Av
open Go.Proofs
structure Iw where
 l:List Int
 deriving Inhabited
def Iw.a (x:Iw):AV:=.vec false 1 (x.l.map (.int .i64))
namespace Sp
def Zes (n:Nat) (ps:List Pr):List Iw:=(List.range n).map fun (j:Nat)=>⟨bfl ps j⟩
def ZeE (n:Nat) (ps:List Pr):List Iw:=(List.range n).map fun (j:Nat)=>⟨bhl ps j⟩
end Sp
def rdV (n:Nat) (ps:List Pr):AV:=.agg [.vec false 1 ((Sp.Zes n ps).map Iw.a),.vec false 1 ((Sp.ZeE n ps).map Iw.a)]
theorem cel_weak {l:List Int} {m:Option Row} (h:Cel l m):Weak (ZcJ m) (Iw.a ⟨l⟩):=by
 rcases h with ⟨rfl,rfl⟩ | ⟨_,v,rfl⟩
 ·exact .vnil 1
 ·exact .refl _
theorem iw_plain (l:List Int):(Iw.a ⟨l⟩).cells=[Iw.a ⟨l⟩]/\(Iw.a ⟨l⟩).plain=true:=⟨rfl,rfl⟩
theorem Zd3 {n:Nat} {g:Int -> List Int} {M:List (Option Row)} (h:Cels n g M):Weak (.vec false 1 (M.map ZcJ)) (.vec false 1 (((List.range n).map fun (j:Nat) => (⟨g j⟩:Iw)).map Iw.a)):=by
 refine .cells false 1 _ _ (by simp [h.1]) (fun i x y hx hy => ?_) (fun y hy => ?_) (fun x hx => ?_)
 ·have hi:i < n:=by have:=(List.getElem?_eq_some_iff.1 hx).1;rw [List.length_map,h.1] at this;exact this
  obtain ⟨m,hm,hc⟩:=h.2 i hi
  rw [List.getElem?_map,hm] at hx
  rw [List.getElem?_map,List.getElem?_map,List.getElem?_range hi] at hy
  rw [<- Option.some.inj hx,<- Option.some.inj hy]
  exact cel_weak hc
 ·obtain ⟨w,_,rfl⟩:=List.mem_map.1 hy
  exact iw_plain w.l
 ·obtain ⟨m,_,rfl⟩:=List.mem_map.1 hx
  cases m <;> rfl
theorem rd_end {n:Nat} {C D:List AV} {cv dv:Nat} {R:Heap} {ps:List Pr} (h:RJ n ps C D cv dv R):Zbq (rdV n ps) (.agg [.row 1 cv,.row 2 dv]) (rBX cv dv :: ⟨C,1,cv,false,false⟩ :: ⟨D,1,dv,false,false⟩ :: rBX cv dv :: R):=by
 obtain ⟨M,N,ρ,hx,hM,hN⟩:=h
 have h':=Mx.fixd hx (r:=0) (z:=rBX cv dv) (by omega) (by simp) (by intro s hs;simp [Zae,rowsL,rowsA] at hs;omega)
 obtain ⟨a1,a2⟩:=h'.deep (u:=1) (by simp)
 obtain ⟨b1,b2⟩:=h'.deep (u:=2) (by simp)
 have e:(rL C D cv dv R).set 0 (rBX cv dv) = rBX cv dv :: ⟨C,1,cv,false,false⟩ :: ⟨D,1,dv,false,false⟩ :: rBX cv dv :: R:=rfl
 rw [e] at a1 a2 b1 b2
 have a1:deepA _ (AV.row 1 cv) = some (.vec false 1 (M.map ZcJ)):=a1
 have b1:deepA _ (AV.row 2 dv) = some (.vec false 1 (N.map ZcJ)):=b1
 refine ⟨.agg [.vec false 1 (M.map ZcJ),.vec false 1 (N.map ZcJ)],?_,?_,?_⟩
 ·have hl:∀ L:Heap,deepA L (.row 1 cv) = some (.vec false 1 (M.map ZcJ)) -> deepA L (.row 2 dv) = some (.vec false 1 (N.map ZcJ)) -> deepL L [.row 1 cv,.row 2 dv] = some [.vec false 1 (M.map ZcJ),.vec false 1 (N.map ZcJ)]:=fun L e1 e2 => by
   rw [deepL,e1,deepL,e2];rfl
  have hA:∀ (L:Heap) cs ds,deepL L cs = some ds -> deepA L (.agg cs) = some (.agg ds):=fun L cs ds e => by rw [deepA,e]
  exact hA _ _ _ (hl _ a1 b1)
 ·rw [ZbA] at a2 b2 ⊢
  intro b hb
  have hb:b ∈ deepV _ (AV.row 1 cv) ++ (deepV _ (AV.row 2 dv) ++ []):=hb
  rw [List.append_nil,List.mem_append] at hb
  rcases hb with hb | hb
  ·exact a2 b hb
  ·exact b2 b hb
 ·refine .agg _ _ rfl fun i x y hx hy => ?_
  match i with
  | 0 => rw [<- Option.some.inj hx,<- Option.some.inj hy];exact Zd3 hM
  | 1 => rw [<- Option.some.inj hx,<- Option.some.inj hy];exact Zd3 hN
  | i + 2 => cases hx
theorem rdQ_eq {ps:List Pr} {i:Nat} (h:i < ps.length):(ps.map Pr.v)[((i:Nat):Int).toNat]? = some (rdP (ps[i]).a (ps[i]).b):=by
 rw [Int.toNat_natCast,List.getElem?_map,List.getElem?_eq_getElem h];rfl
theorem ZcN {α:Type} {l:List α} {i:Nat} (h:i < l.length):l.take (i + 1) = l.take i ++ [l[i]]:=by
 rw [List.take_add_one,List.getElem?_eq_getElem h];rfl
theorem rd_loop {n:Nat} {ps:List Pr} {f:Bool} (hv:Sp.okV n ps) (hpl:ps.length <= 1000000):∀ (c i:Nat) (C D:List AV) (cv dv:Nat) (R:Heap),i + c = ps.length -> RJ n (ps.take i) C D cv dv R -> ZfM f ps false C D cv dv R (ps.length:Int) (i:Int) (Zbq (rdV n ps)):=by
 intro c
 induction c with
 | zero =>
  intro i C D cv dv R hi h
  rw [List.take_of_length_le (by omega)] at h
  exact rH _ _ _ _ _ _ _ _ _ _ _ ⟨fun z => absurd z (by omega),fun _ => rd_end h⟩
 | succ c ih =>
  intro i C D cv dv R hi h
  have hil:i < ps.length:=by omega
  have hp:=hv ps[i] (List.getElem_mem hil)
  refine rH _ _ _ _ _ _ _ _ _ _ _ ⟨fun _ => ?_,fun z => absurd (by omega) z⟩
  refine rd4 (f:=f) (b:=decide ((i:Int) < ps.length)) (ps:=ps.map Pr.v) (m:=ps.length) (i:=i) (by omega) (by rw [List.length_map];omega) (rdQ_eq hil) ?_
  obtain ⟨M,N,ρ,hx,hM,hN⟩:=h
  have s0:swp 4 (rL C D cv dv R).length 0 = 0:=Zch (by omega) (by simp)
  have s3:swp 4 (rL C D cv dv R).length 3 = 3:=Zch (by omega) (by simp)
  have sL:swp 4 (rL C D cv dv R).length (rL C D cv dv R).length = 4:=swp_q ..
  refine wp_box hx (z:=rPB ps[i]) (by simp [Zae,rowsL,rowsA]) (by intro r hr;simp [rowsL,rowsA] at hr;simp;omega) (env':=[(4,AV.ptr 0 0 0 0),(5,AV.ptr 3 0 0 0),(13,.vec f 2 (ps.map Pr.v)),(14,.int .i64 ps.length),(15,.int .i64 i),(7,.ptr 4 0 0 0)]) ?_ fun L' C' ρ' h' hU hfix => ?_
  ·unfold renV
   simp only [List.map_cons,List.map_nil,renA,s0,s3,sL]
  ·have h1:=(h'.out 1 (by simp)).1
   have h2:=(h'.out 2 (by simp)).1
   have h0:=hfix 0 (by omega) (by simp)
   have h3:=hfix 3 (by omega) (by simp)
   obtain ⟨R',rfl⟩:=Zds (k:=5) (L:=L') (P:=rL (C' 1) (C' 2) cv dv [rPB ps[i]]) rfl fun r hr => by
    have:r = 0 \/ r = 1 \/ r = 2 \/ r = 3 \/ r = 4:=by omega
    rcases this with rfl | rfl | rfl | rfl | rfl
    ·exact h0
    ·exact h1
    ·exact h2
    ·exact h3
    ·exact hU
   have hR:RI 5 n (C' 1) (C' 2) cv dv (rPB ps[i] :: R') M N ρ':=h'.congr fun u hu => by
    simp only [List.mem_cons,List.not_mem_nil,or_false] at hu
    rcases hu with rfl | rfl
    ·exact ⟨rfl,rfl,rfl,fun j => rfl⟩
    ·exact ⟨rfl,rfl,rfl,fun j => rfl⟩
   refine rd_body hR hM hN ⟨by omega,by omega⟩ (by rw [List.length_take];omega) (by omega) fun C D R hj => ?_
   rw [<- ZcN hil] at hj
   exact ih (i + 1) C D cv dv R (by omega) hj
theorem ri_base (n:Nat):RI 4 n (List.replicate n .vnil) (List.replicate n .vnil) 0 0 [] (List.replicate n none) (List.replicate n none) (fun _ _ => 0):=by
 have no:∀ (j:Nat) (row:Row),(List.replicate n (none:Option Row))[j]? = some (some row) -> False:=fun j row h => by
  rw [List.getElem?_replicate] at h
  split at h
  ·cases h
  ·cases h
 have no':∀ u,∀ (j:Nat) (row:Row),(CC (List.replicate n (none:Option Row)) (List.replicate n none) u)[j]? = some (some row) -> False:=fun u j row h => by
  unfold CC at h
  split at h <;> exact no j row h
 refine ⟨by simp,by simp,fun u hu => ?_,fun r row hr hno hrow => rL_fix r row hr hno hrow,fun r row hr hrow => ?_,fun u _ j row h => (no' u j row h).elim,fun u _ j h => ?_,fun u _ w _ i j r s h => (no' u i r h).elim,fun u _ j row h => (no' u j row h).elim⟩
 ·simp only [List.mem_cons,List.not_mem_nil,or_false] at hu
  rcases hu with rfl | rfl
  ·exact ⟨rfl,by simp [CC]⟩
  ·exact ⟨rfl,by simp [CC]⟩
 ·have:=(List.getElem?_eq_some_iff.1 hrow).1
  simp at this;omega
 ·have e:∀ (α:Type) (x:α),CC x x u = x:=fun α x => by unfold CC;split <;> rfl
  rw [e] at h ⊢
  rw [List.getElem?_replicate] at h ⊢
  split at h
  ·rename_i hj;rw [if_pos hj]
  ·cases h
theorem Zd4 (n:Nat) (g:Int->List Int) (hg:∀ j,g j=[]):Cels n g (List.replicate n none):=⟨by simp,fun j hj=>⟨none,by rw [List.getElem?_replicate,if_pos hj],.inl ⟨hg _,rfl⟩⟩⟩
theorem rd_start {n:Nat} {ps:List Pr} {f:Bool} (hv:Sp.okV n ps) (hpl:ps.length <= 1000000):rB_at f ps true (List.replicate n .vnil) (List.replicate n .vnil) 0 0 [] (Zbq (rdV n ps)):=by
 refine rB _ _ _ _ _ _ _ _ _ (rH _ _ _ _ _ _ _ _ _ _ _ ⟨fun hm => ?_,fun hm => ?_⟩)
 ·have hil:0 < ps.length:=by omega
  have hp:=hv ps[0] (List.getElem_mem hil)
  refine rd4 (f:=f) (b:=decide ((0:Int) < ps.length)) (ps:=ps.map Pr.v) (m:=ps.length) (i:=0) (by omega) (by rw [List.length_map];exact hil) (rdQ_eq hil) ?_
  have h5:RI 5 n (List.replicate n .vnil) (List.replicate n .vnil) 0 0 [rPB ps[0]] (List.replicate n none) (List.replicate n none) (fun _ _ => 0):=by
   refine Mx.up (U:=4) ((ri_base n).push (z:=rPB ps[0]) (by simp [Zae,rowsL,rowsA])) (by simp) fun u _ j row h => ?_
   unfold CC at h
   split at h <;> rw [List.getElem?_replicate] at h <;> split at h <;> cases h
  have hj:=h5.nn (qs:=[]) (Zd4 n _ fun _ => rfl) (Zd4 n _ fun _ => rfl) (by rw [List.getElem?_replicate,if_pos (by omega)]) (by rw [List.getElem?_replicate,if_pos (by omega)]) ⟨by omega,by omega⟩ rfl rfl
  have hn:=rd_loop (f:=f) hv hpl (ps.length - 1) 1 _ _ _ _ _ (by omega) (by rw [ZcN hil];exact hj)
  have nl:∀ k:Nat,k < n -> (List.replicate n AV.vnil)[k]? = some .vnil:=fun k hk => by rw [List.getElem?_replicate,if_pos hk]
  refine r00 f ps _ _ 0 0 [] ps.length 0 ps[0] _ ⟨by omega,by rw [List.length_replicate];omega,nl _ (by omega),by omega,by rw [List.length_replicate];omega,nl _ (by omega),by omega,?_⟩
  rw [es3];exact hn
 ·have hps:ps = []:=List.length_eq_zero_iff.1 (by omega)
  subst hps
  refine ⟨.agg [.vec false 1 ((List.replicate n none).map ZcJ),.vec false 1 ((List.replicate n none).map ZcJ)],?_,?_,?_⟩
  ·have e:(List.replicate n (none:Option Row)).map ZcJ = List.replicate n .vnil:=by rw [List.map_replicate];rfl
   rw [e];rfl
  ·exact Zam (by simp [Zbg]) (Zam (by simp [Zbg]) Zax)
  ·refine .agg _ _ rfl fun i x y hx hy => ?_
   match i with
   | 0 => rw [<- Option.some.inj hx,<- Option.some.inj hy];exact Zd3 (Zd4 n _ fun _ => rfl)
   | 1 => rw [<- Option.some.inj hx,<- Option.some.inj hy];exact Zd3 (Zd4 n _ fun _ => rfl)
   | i + 2 => cases hx
theorem rd_ev (n:Nat) (f:Bool) (ps:List Pr) (h:Sp.okV n ps /\ n <= 1000 /\ ps.length <= 1000000):Ev M1 (.pure 34 [.int .i64 n,.vec f 2 (ps.map Pr.v)]) (.agg [.vec false 1 ((Sp.Zes n ps).map Iw.a),.vec false 1 ((Sp.ZeE n ps).map Iw.a)]) []:=by
 obtain ⟨hv,hn,hpl⟩:=h
 exact deep_call hm1 Try.f34 fi34 (by kernel_rfl) (by kernel_rfl) (by kernel_rfl) (by kernel_rfl) (rd0 (rd1 (by omega) (rd_start hv hpl)))
theorem ev34 (n:Int) (f:Bool) (ps:List Pr) (h:Sp.vd n ps = 0):Ev M1 (.pure 34 [.int .i64 n,.vec f 2 (ps.map Pr.v)]) (.agg [.vec false 1 ((Sp.Zes n.toNat ps).map Iw.a),.vec false 1 ((Sp.ZeE n.toNat ps).map Iw.a)]) []:=by
 obtain ⟨m,rfl,hm⟩:=vd_okV h
 rw [Int.toNat_natCast]
 exact rd_ev m f ps hm
end Go.Av

namespace Go.Av
open Go.Proofs
namespace Sp
def cycB (n:Nat) (ps:List Pr):Bool:=(ord n ps).isNone
def ordL (n:Int) (ps:List Pr):List Int:=if vd n ps=0 then (ord n.toNat ps).getD [] else []
def ZaQ (n:Int) (ps:List Pr):Int:=if vd n ps=0 then (if cycB n.toNat ps=true then 12 else 0) else vd n ps
def ix (x:Int):List Int -> Int -> Int
 | [],_ => -1
 | a :: l,i => if x = a then i else ix x l (i + 1)
end Sp
theorem cycB_iff {n:Nat} {ps:List Pr} (hv:Sp.okV n ps):Sp.cycB n ps = true ↔ Sp.cyc n ps:=by
 unfold Sp.cycB
 rw [<- ord_cyc hv,Option.isNone_iff_eq_none]
theorem tabW_dep {n:Nat} {ps:List Pr} {a b:Nat} (ha:a < n) (hb:b < n):((Sp.ZcG n ps).getD a default).l.getD b default = true ↔ Sp.dep ps a b:=by
 rw [tabW_get ha];exact tab_get ha hb
theorem tabW_row {n:Nat} {ps:List Pr} {a:Nat} (ha:a < n):((Sp.ZcG n ps).getD a default).l.length = n:=by
 rw [tabW_get ha];exact (tab_dim n ps).2 a ha
end Go.Av

namespace Go.Av
open Go.Proofs
set_option maxRecDepth 100000
def fi39:Fi:=⟨19,[.tmp 4]⟩
def kp39:List (Nat × List Nat):=[(0,[0,1]),(1,[0,1,7,8]),(2,[0,1,7,8,9]),(3,[0,1,5,7,8]),(4,[0,1,5,7,8,16]),(5,[4]),(6,[0,1,7,8]),(7,[4])]
def pIi_at (A:List Int) (x:Int) (v:Nat) (Q:AV->Heap->Prop):Prop:=Wp M1 (.run fi39 (atC (cd Try.f39) []) [(0,.row 0 v),(1,.int .i64 x)] [⟨A.map (.int .i64),1,v,false,true⟩]) Q
def Zfc (A:List Int) (x:Int) (v:Nat) (m i:Int) (Q:AV->Heap->Prop):Prop:=Wp M1 (.run fi39 (atC (cd Try.f39) [1,0,1,0,0]) [(0,.row 0 v),(1,.int .i64 x),(7,.int .i64 m),(8,.int .i64 i)] [⟨A.map (.int .i64),1,v,false,true⟩]) Q
theorem owncall39 {args:List AV} {L:Heap} {Q:AV -> Heap -> Prop} (h:Wp M1 (.run fi39 [.code (cd Try.f39)] (Zbp 0 args) L) Q):Wp M1 (.own 39 args L) Q:=
 own_wp Try.f39 fi39 (by kernel_rfl) (by kernel_rfl) (by kernel_rfl) (by kernel_rfl) h
theorem pIi (A:List Int) (x:Int) (v:Nat)  (Q:AV -> Heap -> Prop) (H :
  Zfc (A) (x) (v) ((↑A.length:Int)) (0) Q) :
 pIi_at A x v Q:=by
 unfold pIi_at
 have w1:(List.map (vi) A).length = A.length:=List.length_map ..
 exact Zad (G:=Zaf kp39 [] []) 1000 [] ⟨(atC (cd Try.f39) [1,0,1,0,0]),[(0,AV.row 0 v),(1,vi x),(7,vi (↑(List.map (vi) A).length:Int)),(8,vi 0)],[⟨List.map (vi) A,1,v,false,true⟩],[v == v],[],_⟩ (by kernel_rfl) (bc (beq_self_eq_true _) b0) q0 c0 (by (try rw [w1]);all_goals exact H)
theorem pIiL (A:List Int) (x:Int) (v:Nat) (m i:Int)  (Q:AV -> Heap -> Prop) (H :
  ((i < m) -> (0 <= i) /\
   (i.toNat < A.length) /\
   ((x = A.getD i.toNat default) -> Q (vi i) [{ elems:=List.map (vi) A,es:=1,ver:=v,frozen:=false,clean:=true }]) /\
   (¬(x = A.getD i.toNat default) -> (-9223372036854775808 <= i + 1 /\ i + 1 <= 9223372036854775807) /\
    Zfc (A) (x) (v) (m) (i + 1) Q)) /\
  (¬(i < m) -> Q (vi (-1)) [{ elems:=List.map (vi) A,es:=1,ver:=v,frozen:=false,clean:=true }])) :
 Zfc A x v m i Q:=by
 unfold Zfc
 rcases xq H with ⟨d2,H⟩|⟨d2,H⟩
 ·obtain ⟨k4,H⟩:=H
  have w5:(List.map (vi) A).length = A.length:=List.length_map ..
  have i6:(decide (i.toNat < (List.map (vi) A).length)) = true ↔ (i.toNat < A.length):=(by (try rw [w5]);all_goals exact Zaa)
  obtain ⟨k7,H⟩:=H
  refine Zad (G:=Zaf kp39 [(4,4,.elem (vi (A.getD i.toNat default)))] []) 11 [true] ⟨(atC (cd Try.f39) [1,0,1,0,0,1,1,0,0,1,1]),[(0,AV.row 0 v),(1,vi x),(5,vi i),(7,vi m),(8,vi i),(16,vb (x == A.getD i.toNat default))],[⟨List.map (vi) A,1,v,false,true⟩],[(decide (i < m)) == true,v == v,decide (0 <= i),decide (i.toNat < (List.map (vi) A).length),v == v],[((List.map (vi) A).get?Internal i.toNat = some (vi (A.getD i.toNat default)))],_⟩ (by kernel_rfl) (bc (ZaG (Zaa.2 d2)) (bc (beq_self_eq_true _) (bc (Zaa.2 k4) (bc (i6.2 k7) (bc (beq_self_eq_true _) b0))))) (qc (ZaC k7) q0) c0 ?_
  rcases xq H with ⟨d9,H⟩|⟨d9,H⟩
  ·exact Zbf (G:=Zaf kp39 [] []) 1000 [true] (k:=((atC (cd Try.f39) [1,0,1,0,0,1,1,0,0,1,1,0,1])).tail) (env':=[(4,vi i)]) (L':=[⟨List.map (vi) A,1,v,false,true⟩]) (asm:=[(x == A.getD i.toNat default) == true]) (eqs:=[]) (calls:=[]) (vi i) (by kernel_rfl) (by kernel_rfl) (Zam (ZaG (i_eq.2 d9)) Zax) Za6 Za7 H
  ·obtain ⟨k10,H⟩:=H
   have w11:wi (i + 1) = i + 1:=wI64 k10
   exact Zad (G:=Zaf kp39 [] []) 1000 [false] ⟨(atC (cd Try.f39) [1,0,1,0,0]),[(0,AV.row 0 v),(1,vi x),(7,vi m),(8,vi (wi (i + 1)))],[⟨List.map (vi) A,1,v,false,true⟩],_,[],_⟩ (by kernel_rfl) (bc (ZaD (fun h => d9 (i_eq.1 h))) b0) q0 c0 (by (try rw [w11]);all_goals exact H)
 ·exact Zbf (G:=Zaf kp39 [] []) 1000 [false] (k:=((atC (cd Try.f39) [1,1,1])).tail) (env':=[(4,vi (-1))]) (L':=[⟨List.map (vi) A,1,v,false,true⟩]) (asm:=[(decide (i < m)) == false]) (eqs:=[]) (calls:=[]) (vi (-1)) (by kernel_rfl) (by kernel_rfl) (Zam (ZaD (fun h => d2 (Zaa.1 h))) Zax) Za6 Za7 H
end Go.Av

namespace Go.Av
open Go.Proofs
theorem pIiL_loop {A:List Int} {x:Int} {v:Nat} (hb:A.length <= 4000000000):∀ (c i:Nat),i + c = A.length -> Zfc A x v (A.length:Int) (i:Int) (isR (.int .i64 (Sp.ix x (A.drop i) i)) [⟨A.map (.int .i64),1,v,false,true⟩]):=by
 intro c
 induction c with
 | zero =>
  intro i hi
  refine pIiL _ _ _ _ _ _ ⟨fun z => absurd z (by omega),fun _ => ?_⟩
  rw [List.drop_of_length_le (by omega)]
  exact ⟨rfl,rfl⟩
 | succ c ih =>
  intro i hi
  have hil:i < A.length:=by omega
  have e:((i:Nat):Int).toNat = i:=Int.toNat_natCast i
  have g1:A.getD i default = A[i]:=by rw [List.getD_eq_getElem?_getD,List.getElem?_eq_getElem hil];rfl
  refine pIiL _ _ _ _ _ _ ⟨fun _ => ⟨by omega,by omega,fun h1 => ?_,fun h1 => ⟨by omega,?_⟩⟩,fun z => absurd (by omega) z⟩
  ·rw [e,g1] at h1
   rw [List.drop_eq_getElem_cons hil,Sp.ix,if_pos h1]
   exact ⟨rfl,rfl⟩
  ·rw [e,g1] at h1
   rw [List.drop_eq_getElem_cons hil,Sp.ix,if_neg h1]
   exact ih (i + 1) (by omega)
theorem evo39 (A:List Int) (x:Int) (v:Nat) (h:Sp.few A.length 4000000000):Ev M1 (.own 39 [.row 0 v,.int .i64 x] [⟨A.map (.int .i64),1,v,false,true⟩]) (.int .i64 (Sp.ix x A 0)) [⟨A.map (.int .i64),1,v,false,true⟩]:=
 owncall39 (pIi _ _ _ _ (pIiL_loop h A.length 0 (by omega)))
end Go.Av

namespace Go.Av
open Go.Proofs
set_option maxRecDepth 100000
def fi20:Fi:=⟨73,[.tmp 4,.tmp 5]⟩
def kp20:List (Nat × List Nat):=[(0,[0,1]),(1,[0,1,6]),(2,[0,1,6,19]),(3,[4,5]),(4,[0,7]),(5,[0,7,8]),(6,[0,7,8,27,28,29]),(7,[0,7,8,27,28,29,30]),(8,[0,7,8,9,10,27,28,29]),(9,[0,7,8,27,28,29]),(10,[0,7,8,27,28,29]),(11,[0,7,8,11]),(12,[0,7,8,11,43]),(13,[0,7,8,11,12]),(14,[0,7,8,11,12,47]),(15,[4,5]),(16,[0,7,8,11,12]),(17,[0,7,8,11,12,55,56,57]),(18,[0,7,8,11,12,55,56,57,58]),(19,[0,7,8,11,12,14,55,56,57]),(20,[0,7,8,11,12,55,56,57]),(21,[0,7,8,11,12,55,56,57]),(22,[0,7,8,11]),(23,[4,5])]
def pOr_at (n:Int) (f:Bool) (ps:List Pr) (Q:AV->Heap->Prop):Prop:=Wp M1 (.run fi20 (atC (cd Try.f20) []) [(0,.int .i64 n),(1,.vec f 2 (ps.map Pr.v))] []) Q
def Zfb (n:Int) (fb ft:Bool) (B T:List Iw) (A:List Int) (fm:Bool) (W:List Iw) (m i:Int) (Q:AV->Heap->Prop):Prop:=Wp M1 (.run fi20 (atC (cd Try.f20) [1,1,1,1,0,1,0,0]) [(0,.int .i64 n),(7,.ptr 0 0 0 0),(8,.row 1 0),(27,.vec fm 1 (W.map Iw.a)),(28,.int .i64 m),(29,.int .i64 i)] [⟨[.agg [.vec fb 1 (B.map Iw.a),.vec ft 1 (T.map Iw.a)]],2,0,false,false⟩,⟨A.map (.int .i64),1,0,false,true⟩]) Q
def pOrN_at (n:Int) (fb ft:Bool) (B T:List Iw) (A:List Int) (Q:AV->Heap->Prop):Prop:=Wp M1 (.run fi20 (atC (cd Try.f20) [1,1,1,1,1,1,0,0,0]) [(0,.int .i64 n),(7,.ptr 0 0 0 0),(8,.row 1 0),(11,.vnil)] [⟨[.agg [.vec fb 1 (B.map Iw.a),.vec ft 1 (T.map Iw.a)]],2,0,false,false⟩,⟨A.map (.int .i64),1,0,false,true⟩]) Q
def Zfa (n:Int) (fb ft:Bool) (B T:List Iw) (A:List Int) (O:List Int) (v:Nat) (Q:AV->Heap->Prop):Prop:=Wp M1 (.run fi20 (atC (cd Try.f20) [1,1,1,1,1,1,0,0,0]) [(0,.int .i64 n),(7,.ptr 0 0 0 0),(8,.row 1 0),(11,.row 2 v)] [⟨[.agg [.vec fb 1 (B.map Iw.a),.vec ft 1 (T.map Iw.a)]],2,0,false,false⟩,⟨A.map (.int .i64),1,0,false,true⟩,⟨O.map (.int .i64),1,v,false,true⟩]) Q
def ZdO (n:Int) (fb ft:Bool) (B T:List Iw) (A:List Int) (k:Int) (g:Bool) (l:List Int) (m i:Int) (Q:AV->Heap->Prop):Prop:=Wp M1 (.run fi20 (atC (cd Try.f20) [1,1,1,1,1,1,0,0,0,1,0,1,1,1,0,1,0,0]) [(0,.int .i64 n),(7,.ptr 0 0 0 0),(8,.row 1 0),(11,.vnil),(12,.int .i64 k),(55,.vec g 1 (l.map (.int .i64))),(56,.int .i64 m),(57,.int .i64 i)] [⟨[.agg [.vec fb 1 (B.map Iw.a),.vec ft 1 (T.map Iw.a)]],2,0,false,false⟩,⟨A.map (.int .i64),1,0,false,true⟩]) Q
def ZdN (n:Int) (fb ft:Bool) (B T:List Iw) (A:List Int) (O:List Int) (v:Nat) (k:Int) (g:Bool) (l:List Int) (m i:Int) (Q:AV->Heap->Prop):Prop:=Wp M1 (.run fi20 (atC (cd Try.f20) [1,1,1,1,1,1,0,0,0,1,0,1,1,1,0,1,0,0]) [(0,.int .i64 n),(7,.ptr 0 0 0 0),(8,.row 1 0),(11,.row 2 v),(12,.int .i64 k),(55,.vec g 1 (l.map (.int .i64))),(56,.int .i64 m),(57,.int .i64 i)] [⟨[.agg [.vec fb 1 (B.map Iw.a),.vec ft 1 (T.map Iw.a)]],2,0,false,false⟩,⟨A.map (.int .i64),1,0,false,true⟩,⟨O.map (.int .i64),1,v,false,true⟩]) Q
theorem call20 {args:List AV} {d:AV} (h:wc M1 fi20 Try.f20 args d):Ev M1 (.pure 20 args) d []:=pcl _ _ (by kernel_rfl) h
theorem pOr (n:Int) (f:Bool) (ps:List Pr)  (dq:AV) (H :
  ((¬Sp.vd n ps = 0) -> Weak (tu [AV.vnil,vi (Sp.vd n ps)]) dq) /\
  (¬(¬Sp.vd n ps = 0) -> (Sp.vd n ps = 0) /\
   (0 <= n) /\
   (n * 8 <= 1099511627776) /\
   (n <= 1099511627776) /\
   Zfb (n) (false) (false) (Sp.Zes n.toNat ps) (Sp.ZeE n.toNat ps) (List.replicate n.toNat (0:Int)) (false) (Sp.Zes n.toNat ps) ((↑(Sp.Zes n.toNat ps).length:Int)) (0) (Zaj dq))) :
 pOr_at n f ps (Zaj dq):=by
 unfold pOr_at
 refine Zad (G:=Zaf kp20 [(1,2,.call (vi (Sp.vd n ps)) none)] []) 7 [] ⟨(atC (cd Try.f20) [1,0,1,1]),[(0,vi n),(1,AV.vec f 2 (List.map Pr.v ps)),(6,vi (Sp.vd n ps)),(19,vb (Sp.vd n ps != 0))],[],_,[],_⟩ (by kernel_rfl) b0 q0 (ce (@ev14 (n) (f) (ps)) c0) ?_
 rcases xq H with ⟨d2,H⟩|⟨d2,H⟩
 ·exact ZbJ (G:=Zaf kp20 [] []) 1000 [true] (tu [AV.vnil,vi (Sp.vd n ps)]) (by kernel_rfl) (bc (ZaG (i_ne.2 d2)) b0) q0 c0 H
 ·obtain ⟨k3,k5,k8,k10,H⟩:=H
  have w11:List.replicate n.toNat (vi 0) = List.map (vi) (List.replicate n.toNat (0:Int)):=(lm_rep rfl)
  have w12:(List.map Iw.a (Sp.Zes n.toNat ps)).length = (Sp.Zes n.toNat ps).length:=List.length_map ..
  exact Zad (G:=Zaf kp20 [(4,2,.call (ag [vf (List.map Iw.a (Sp.Zes n.toNat ps)),vf (List.map Iw.a (Sp.ZeE n.toNat ps))]) none)] []) 1000 [false] ⟨(atC (cd Try.f20) [1,1,1,1,0,1,0,0]),[(0,vi n),(7,AV.ptr 0 0 0 0),(8,AV.row 1 0),(27,vf (List.map Iw.a (Sp.Zes n.toNat ps))),(28,vi (↑(List.map Iw.a (Sp.Zes n.toNat ps)).length:Int)),(29,vi 0)],[⟨[ag [vf (List.map Iw.a (Sp.Zes n.toNat ps)),vf (List.map Iw.a (Sp.ZeE n.toNat ps))]],2,0,false,false⟩,⟨List.replicate n.toNat (vi 0),1,0,false,true⟩],[(Sp.vd n ps != 0) == false,true,decide (0 <= n),decide (n <= n),decide (n * 8 <= 1099511627776),decide (n <= 1099511627776),true],[],_⟩ (by kernel_rfl) (bc (ZaD (fun h => d2 (i_ne.1 h))) (bc rfl (bc (Zaa.2 k5) (bc (Zaa.2 (by omega)) (bc (Zaa.2 k8) (bc (Zaa.2 k10) (bc rfl b0))))))) q0 (ce (@ev34 (n) (f) (ps) k3) c0) (by (try rw [w11]);(try rw [w12]);all_goals exact H)
theorem pOrA (n:Int) (fb ft:Bool) (B T:List Iw) (A:List Int) (fm:Bool) (W:List Iw) (m i:Int)  (dq:AV) (H :
  ((i < m) -> (0 <= i) /\
   (i.toNat < W.length) /\
   (i.toNat < A.length) /\
   (-9223372036854775808 <= i + 1 /\ i + 1 <= 9223372036854775807) /\
   Zfb (n) (fb) (ft) (B) (T) (A.set i.toNat (↑(W.getD i.toNat default).1.length:Int)) (fm) (W) (m) (i + 1) (Zaj dq)) /\
  (¬(i < m) -> pOrN_at (n) (fb) (ft) (B) (T) (A) (Zaj dq))) :
 Zfb n fb ft B T A fm W m i (Zaj dq):=by
 unfold Zfb
 rcases xq H with ⟨d2,H⟩|⟨d2,H⟩
 ·obtain ⟨k4,H⟩:=H
  have w5:(List.map Iw.a W).length = W.length:=List.length_map ..
  have i6:(decide (i.toNat < (List.map Iw.a W).length)) = true ↔ (i.toNat < W.length):=(by (try rw [w5]);all_goals exact Zaa)
  obtain ⟨k7,H⟩:=H
  have w9:(List.map (vi) A).length = A.length:=List.length_map ..
  have i10:(decide (i.toNat < (List.map (vi) A).length)) = true ↔ (i.toNat < A.length):=(by (try rw [w9]);all_goals exact Zaa)
  obtain ⟨k11,H⟩:=H
  have w12:(List.map (vi) (W.getD i.toNat default).1).length = (W.getD i.toNat default).1.length:=List.length_map ..
  have w13:(List.map (vi) A).set i.toNat (vi (↑(W.getD i.toNat default).1.length:Int)) = List.map (vi) (A.set i.toNat (↑(W.getD i.toNat default).1.length:Int)):=(Zfi rfl rfl)
  obtain ⟨k14,H⟩:=H
  have w15:wi (i + 1) = i + 1:=wI64 k14
  exact Zad (G:=Zaf kp20 [(8,2,.elem (vf (List.map (vi) (W.getD i.toNat default).1))),(9,5,.elem (vi (A.getD i.toNat default)))] []) 1000 [true] ⟨(atC (cd Try.f20) [1,1,1,1,0,1,0,0]),[(0,vi n),(7,AV.ptr 0 0 0 0),(8,AV.row 1 0),(27,AV.vec fm 1 (List.map Iw.a W)),(28,vi m),(29,vi (wi (i + 1)))],[⟨[ag [AV.vec fb 1 (List.map Iw.a B),AV.vec ft 1 (List.map Iw.a T)]],2,0,false,false⟩,⟨(List.map (vi) A).set i.toNat (vi (↑(List.map (vi) (W.getD i.toNat default).1).length:Int)),1,0,false,true⟩],_,[((List.map Iw.a W).get?Internal i.toNat = some (vf (List.map (vi) (W.getD i.toNat default).1))),((List.map (vi) A).get?Internal i.toNat = some (vi (A.getD i.toNat default)))],_⟩ (by kernel_rfl) (bc (ZaG (Zaa.2 d2)) (bc (Zaa.2 k4) (bc (i6.2 k7) (bc rfl (bc (Zaa.2 k4) (bc (i10.2 k11) (bc rfl b0))))))) (qc (ZaC k7) (qc (ZaC k11) q0)) c0 (by (try rw [w12]);(try rw [w13]);(try rw [w15]);all_goals exact H)
 ·exact Zad (G:=Zaf kp20 [] []) 1000 [false] ⟨(atC (cd Try.f20) [1,1,1,1,1,1,0,0,0]),[(0,vi n),(7,AV.ptr 0 0 0 0),(8,AV.row 1 0),(11,AV.vnil)],[⟨[ag [AV.vec fb 1 (List.map Iw.a B),AV.vec ft 1 (List.map Iw.a T)]],2,0,false,false⟩,⟨List.map (vi) A,1,0,false,true⟩],_,[],_⟩ (by kernel_rfl) (bc (ZaD (fun h => d2 (Zaa.1 h))) b0) q0 c0 (H)
theorem pOrN (n:Int) (fb ft:Bool) (B T:List Iw) (A:List Int)  (dq:AV) (H :
  ((0 < n) -> (Sp.few A.length 4000000000) /\
   ((Sp.ix 0 A 0 < 0) -> Weak (tu [AV.vnil,vi 12]) dq) /\
   (¬(Sp.ix 0 A 0 < 0) -> (0 <= Sp.ix 0 A 0) /\
    ((Sp.ix 0 A 0).toNat < A.length) /\
    ((Sp.ix 0 A 0).toNat < T.length) /\
    ZdO (n) (fb) (ft) (B) (T) (A.set (Sp.ix 0 A 0).toNat (-1)) (Sp.ix 0 A 0) (false) ((T.getD (Sp.ix 0 A 0).toNat default).1) ((↑(T.getD (Sp.ix 0 A 0).toNat default).1.length:Int)) (0) (Zaj dq))) /\
  (¬(0 < n) -> Weak (tu [AV.vnil,vi 0]) dq)) :
 pOrN_at n fb ft B T A (Zaj dq):=by
 unfold pOrN_at
 rcases xq H with ⟨d2,H⟩|⟨d2,H⟩
 ·obtain ⟨k3,H⟩:=H
  refine Zad (G:=Zaf kp20 [(13,1,.call (vi (Sp.ix 0 A 0)) none)] []) 11 [true] ⟨(atC (cd Try.f20) [1,1,1,1,1,1,0,0,0,1,0,1,0,1]),[(0,vi n),(7,AV.ptr 0 0 0 0),(8,AV.row 1 0),(11,AV.vnil),(12,vi (Sp.ix 0 A 0)),(47,vb (decide (Sp.ix 0 A 0 < 0)))],[⟨[ag [AV.vec fb 1 (List.map Iw.a B),AV.vec ft 1 (List.map Iw.a T)]],2,0,false,false⟩,⟨List.map (vi) A,1,0,false,true⟩],_,[],[⟨true,true,39,[AV.row 0 0,vi 0],[⟨List.map (vi) A,1,0,false,true⟩],vi (Sp.ix 0 A 0),[⟨List.map (vi) A,1,0,false,true⟩]⟩]⟩ (by kernel_rfl) (bc (ZaG (Zaa.2 d2)) b0) q0 (cc (fun _ => (@evo39 (A) (0) (0) k3)) c0) ?_
  rcases xq H with ⟨d5,H⟩|⟨d5,H⟩
  ·exact ZbJ (G:=Zaf kp20 [] []) 1000 [true] (tu [AV.vnil,vi 12]) (by kernel_rfl) (bc (ZaG (Zaa.2 d5)) b0) q0 c0 H
  ·obtain ⟨k7,H⟩:=H
   have w8:(List.map (vi) A).length = A.length:=List.length_map ..
   have i9:(decide ((Sp.ix 0 A 0).toNat < (List.map (vi) A).length)) = true ↔ ((Sp.ix 0 A 0).toNat < A.length):=(by (try rw [w8]);all_goals exact Zaa)
   obtain ⟨k10,H⟩:=H
   have w11:(List.map (vi) A).set (Sp.ix 0 A 0).toNat (vi (-1)) = List.map (vi) (A.set (Sp.ix 0 A 0).toNat (-1)):=(Zfi rfl rfl)
   have w13:(List.map Iw.a T).length = T.length:=List.length_map ..
   have i14:(decide ((Sp.ix 0 A 0).toNat < (List.map Iw.a T).length)) = true ↔ ((Sp.ix 0 A 0).toNat < T.length):=(by (try rw [w13]);all_goals exact Zaa)
   obtain ⟨k15,H⟩:=H
   have w16:(List.map (vi) (T.getD (Sp.ix 0 A 0).toNat default).1).length = (T.getD (Sp.ix 0 A 0).toNat default).1.length:=List.length_map ..
   exact Zad (G:=Zaf kp20 [(16,3,.elem (vi (A.getD (Sp.ix 0 A 0).toNat default))),(17,4,.elem (vf (List.map (vi) (T.getD (Sp.ix 0 A 0).toNat default).1)))] []) 1000 [false] ⟨(atC (cd Try.f20) [1,1,1,1,1,1,0,0,0,1,0,1,1,1,0,1,0,0]),[(0,vi n),(7,AV.ptr 0 0 0 0),(8,AV.row 1 0),(11,AV.vnil),(12,vi (Sp.ix 0 A 0)),(55,vf (List.map (vi) (T.getD (Sp.ix 0 A 0).toNat default).1)),(56,vi (↑(List.map (vi) (T.getD (Sp.ix 0 A 0).toNat default).1).length:Int)),(57,vi 0)],[⟨[ag [AV.vec fb 1 (List.map Iw.a B),AV.vec ft 1 (List.map Iw.a T)]],2,0,false,false⟩,⟨(List.map (vi) A).set (Sp.ix 0 A 0).toNat (vi (-1)),1,0,false,true⟩],_,[((List.map (vi) A).get?Internal (Sp.ix 0 A 0).toNat = some (vi (A.getD (Sp.ix 0 A 0).toNat default))),((List.map Iw.a T).get?Internal (Sp.ix 0 A 0).toNat = some (vf (List.map (vi) (T.getD (Sp.ix 0 A 0).toNat default).1)))],_⟩ (by kernel_rfl) (bc (ZaD (fun h => d5 (Zaa.1 h))) (bc rfl (bc (Zaa.2 k7) (bc (i9.2 k10) (bc rfl (bc rfl (bc (Zaa.2 k7) (bc (i14.2 k15) b0)))))))) (qc (ZaC k10) (qc (ZaC k15) q0)) c0 (by (try rw [w11]);(try rw [w16]);all_goals exact H)
 ·exact ZbJ (G:=Zaf kp20 [] []) 1000 [false] (tu [AV.vnil,vi 0]) (by kernel_rfl) (bc (ZaD (fun h => d2 (Zaa.1 h))) b0) q0 c0 H
theorem pOrO (n:Int) (fb ft:Bool) (B T:List Iw) (A:List Int) (O:List Int) (v:Nat)  (dq:AV) (H :
  (((↑O.length:Int) < n) -> (Sp.few A.length 4000000000) /\
   ((Sp.ix 0 A 0 < 0) -> Weak (tu [AV.vnil,vi 12]) dq) /\
   (¬(Sp.ix 0 A 0 < 0) -> (0 <= Sp.ix 0 A 0) /\
    ((Sp.ix 0 A 0).toNat < A.length) /\
    ((Sp.ix 0 A 0).toNat < T.length) /\
    ZdN (n) (fb) (ft) (B) (T) (A.set (Sp.ix 0 A 0).toNat (-1)) (O) (v) (Sp.ix 0 A 0) (false) ((T.getD (Sp.ix 0 A 0).toNat default).1) ((↑(T.getD (Sp.ix 0 A 0).toNat default).1.length:Int)) (0) (Zaj dq))) /\
  (¬((↑O.length:Int) < n) -> Weak (tu [vf (List.map (vi) O),vi 0]) dq)) :
 Zfa n fb ft B T A O v (Zaj dq):=by
 unfold Zfa
 have w1:(List.map (vi) O).length = O.length:=List.length_map ..
 have i2:(decide ((↑(List.map (vi) O).length:Int) < n)) = true ↔ ((↑O.length:Int) < n):=(by (try rw [w1]);all_goals exact Zaa)
 rcases xq H with ⟨d3,H⟩|⟨d3,H⟩
 ·obtain ⟨k4,H⟩:=H
  refine Zad (G:=Zaf kp20 [(13,1,.call (vi (Sp.ix 0 A 0)) none)] []) 11 [true] ⟨(atC (cd Try.f20) [1,1,1,1,1,1,0,0,0,1,0,1,0,1]),[(0,vi n),(7,AV.ptr 0 0 0 0),(8,AV.row 1 0),(11,AV.row 2 v),(12,vi (Sp.ix 0 A 0)),(47,vb (decide (Sp.ix 0 A 0 < 0)))],[⟨[ag [AV.vec fb 1 (List.map Iw.a B),AV.vec ft 1 (List.map Iw.a T)]],2,0,false,false⟩,⟨List.map (vi) A,1,0,false,true⟩,⟨List.map (vi) O,1,v,false,true⟩],[v == v,(decide ((↑(List.map (vi) O).length:Int) < n)) == true],[],[⟨true,true,39,[AV.row 0 0,vi 0],[⟨List.map (vi) A,1,0,false,true⟩],vi (Sp.ix 0 A 0),[⟨List.map (vi) A,1,0,false,true⟩]⟩]⟩ (by kernel_rfl) (bc (beq_self_eq_true _) (bc (ZaG (i2.2 d3)) b0)) q0 (cc (fun _ => (@evo39 (A) (0) (0) k4)) c0) ?_
  rcases xq H with ⟨d6,H⟩|⟨d6,H⟩
  ·exact ZbJ (G:=Zaf kp20 [] []) 1000 [true] (tu [AV.vnil,vi 12]) (by kernel_rfl) (bc (ZaG (Zaa.2 d6)) b0) q0 c0 H
  ·obtain ⟨k8,H⟩:=H
   have w9:(List.map (vi) A).length = A.length:=List.length_map ..
   have i10:(decide ((Sp.ix 0 A 0).toNat < (List.map (vi) A).length)) = true ↔ ((Sp.ix 0 A 0).toNat < A.length):=(by (try rw [w9]);all_goals exact Zaa)
   obtain ⟨k11,H⟩:=H
   have w12:(List.map (vi) A).set (Sp.ix 0 A 0).toNat (vi (-1)) = List.map (vi) (A.set (Sp.ix 0 A 0).toNat (-1)):=(Zfi rfl rfl)
   have w14:(List.map Iw.a T).length = T.length:=List.length_map ..
   have i15:(decide ((Sp.ix 0 A 0).toNat < (List.map Iw.a T).length)) = true ↔ ((Sp.ix 0 A 0).toNat < T.length):=(by (try rw [w14]);all_goals exact Zaa)
   obtain ⟨k16,H⟩:=H
   have w17:(List.map (vi) (T.getD (Sp.ix 0 A 0).toNat default).1).length = (T.getD (Sp.ix 0 A 0).toNat default).1.length:=List.length_map ..
   exact Zad (G:=Zaf kp20 [(16,3,.elem (vi (A.getD (Sp.ix 0 A 0).toNat default))),(17,4,.elem (vf (List.map (vi) (T.getD (Sp.ix 0 A 0).toNat default).1)))] []) 1000 [false] ⟨(atC (cd Try.f20) [1,1,1,1,1,1,0,0,0,1,0,1,1,1,0,1,0,0]),[(0,vi n),(7,AV.ptr 0 0 0 0),(8,AV.row 1 0),(11,AV.row 2 v),(12,vi (Sp.ix 0 A 0)),(55,vf (List.map (vi) (T.getD (Sp.ix 0 A 0).toNat default).1)),(56,vi (↑(List.map (vi) (T.getD (Sp.ix 0 A 0).toNat default).1).length:Int)),(57,vi 0)],[⟨[ag [AV.vec fb 1 (List.map Iw.a B),AV.vec ft 1 (List.map Iw.a T)]],2,0,false,false⟩,⟨(List.map (vi) A).set (Sp.ix 0 A 0).toNat (vi (-1)),1,0,false,true⟩,⟨List.map (vi) O,1,v,false,true⟩],_,[((List.map (vi) A).get?Internal (Sp.ix 0 A 0).toNat = some (vi (A.getD (Sp.ix 0 A 0).toNat default))),((List.map Iw.a T).get?Internal (Sp.ix 0 A 0).toNat = some (vf (List.map (vi) (T.getD (Sp.ix 0 A 0).toNat default).1)))],_⟩ (by kernel_rfl) (bc (ZaD (fun h => d6 (Zaa.1 h))) (bc rfl (bc (Zaa.2 k8) (bc (i10.2 k11) (bc rfl (bc rfl (bc (Zaa.2 k8) (bc (i15.2 k16) b0)))))))) (qc (ZaC k11) (qc (ZaC k16) q0)) c0 (by (try rw [w12]);(try rw [w17]);all_goals exact H)
 ·exact Zbf (G:=Zaf kp20 [] []) 1000 [false] (k:=((atC (cd Try.f20) [1,1,1,1,1,1,1,1])).tail) (env':=[(4,AV.row 2 v),(5,vi 0)]) (L':=[⟨[ag [AV.vec fb 1 (List.map Iw.a B),AV.vec ft 1 (List.map Iw.a T)]],2,0,false,false⟩,⟨List.map (vi) A,1,0,false,true⟩,⟨List.map (vi) O,1,v,false,true⟩]) (asm:=[v == v,(decide ((↑(List.map (vi) O).length:Int) < n)) == false]) (eqs:=[]) (calls:=[]) (tu [AV.row 2 v,vi 0]) (by kernel_rfl) (by kernel_rfl) (Zam (beq_self_eq_true _) (Zam (ZaD (fun h => d3 (i2.1 h))) Zax)) Za6 Za7 (Ze6 (d:=(tu [vf (List.map (vi) O),vi 0])) (bs:=[v == v]) (by kernel_rfl) (by kernel_rfl) (Zam (beq_self_eq_true _) Zax) (by kernel_rfl) H)
noncomputable abbrev zPxL1 (A:List Int) (l:List Int) (i:Int):=vi (A.getD (l.getD i.toNat default).toNat default)
theorem pOrNi (n:Int) (fb ft:Bool) (B T:List Iw) (A:List Int) (k:Int) (g:Bool) (l:List Int) (m i:Int)  (dq:AV) (H :
  ((i < m) -> (0 <= i) /\
   (i.toNat < l.length) /\
   (0 <= l.getD i.toNat default) /\
   ((l.getD i.toNat default).toNat < A.length) /\
   (-9223372036854775808 <= A.getD (l.getD i.toNat default).toNat default - 1 /\ A.getD (l.getD i.toNat default).toNat default - 1 <= 9223372036854775807) /\
   (-9223372036854775808 <= i + 1 /\ i + 1 <= 9223372036854775807) /\
   ZdO (n) (fb) (ft) (B) (T) (A.set (l.getD i.toNat default).toNat (A.getD (l.getD i.toNat default).toNat default - 1)) (k) (g) (l) (m) (i + 1) (Zaj dq)) /\
  (¬(i < m) -> Zfa (n) (fb) (ft) (B) (T) (A) ([k]) (0) (Zaj dq))) :
 ZdO n fb ft B T A k g l m i (Zaj dq):=by
 unfold ZdO
 rcases xq H with ⟨d2,H⟩|⟨d2,H⟩
 ·obtain ⟨k4,H⟩:=H
  have w5:(List.map (vi) l).length = l.length:=List.length_map ..
  have i6:(decide (i.toNat < (List.map (vi) l).length)) = true ↔ (i.toNat < l.length):=(by (try rw [w5]);all_goals exact Zaa)
  obtain ⟨k7,k9,H⟩:=H
  have w10:(List.map (vi) A).length = A.length:=List.length_map ..
  have i11:(decide ((l.getD i.toNat default).toNat < (List.map (vi) A).length)) = true ↔ ((l.getD i.toNat default).toNat < A.length):=(by (try rw [w10]);all_goals exact Zaa)
  obtain ⟨k12,H⟩:=H
  have i14:(decide ((l.getD i.toNat default).toNat < (List.map (vi) A).length)) = true ↔ ((l.getD i.toNat default).toNat < A.length):=(by (try rw [w10]);all_goals exact Zaa)
  obtain ⟨k15,H⟩:=H
  have w16:wi (A.getD (l.getD i.toNat default).toNat default - 1) = A.getD (l.getD i.toNat default).toNat default - 1:=wI64 k15
  have w17:(List.map (vi) A).set (l.getD i.toNat default).toNat (vi (A.getD (l.getD i.toNat default).toNat default - 1)) = List.map (vi) (A.set (l.getD i.toNat default).toNat (A.getD (l.getD i.toNat default).toNat default - 1)):=(Zfi rfl rfl)
  obtain ⟨k18,H⟩:=H
  have w19:wi (i + 1) = i + 1:=wI64 k18
  exact Zad (G:=Zaf kp20 [(19,1,.elem (vi (l.getD i.toNat default))),(20,3,.elem (zPxL1 A l i)),(20,6,.elem (zPxL1 A l i))] []) 1000 [true] ⟨(atC (cd Try.f20) [1,1,1,1,1,1,0,0,0,1,0,1,1,1,0,1,0,0]),[(0,vi n),(7,AV.ptr 0 0 0 0),(8,AV.row 1 0),(11,AV.vnil),(12,vi k),(55,AV.vec g 1 (List.map (vi) l)),(56,vi m),(57,vi (wi (i + 1)))],[⟨[ag [AV.vec fb 1 (List.map Iw.a B),AV.vec ft 1 (List.map Iw.a T)]],2,0,false,false⟩,⟨(List.map (vi) A).set (l.getD i.toNat default).toNat (vi (wi (A.getD (l.getD i.toNat default).toNat default - 1))),1,0,false,true⟩],_,[((List.map (vi) l).get?Internal i.toNat = some (vi (l.getD i.toNat default))),((List.map (vi) A).get?Internal (l.getD i.toNat default).toNat = some (zPxL1 A l i)),((List.map (vi) A).get?Internal (l.getD i.toNat default).toNat = some (zPxL1 A l i))],_⟩ (by kernel_rfl) (bc (ZaG (Zaa.2 d2)) (bc (Zaa.2 k4) (bc (i6.2 k7) (bc rfl (bc (Zaa.2 k9) (bc (i11.2 k12) (bc rfl (bc rfl (bc (Zaa.2 k9) (bc (i14.2 k12) (bc rfl b0))))))))))) (qc (ZaC k7) (qc (ZaC k12) (qc (ZaC k12) q0))) c0 (by (try rw [w16]);(try rw [w17]);(try rw [w19]);all_goals exact H)
 ·have w20:[vi k] = List.map (vi) [k]:=rfl
  exact Zad (G:=Zaf kp20 [] []) 1000 [false] ⟨(atC (cd Try.f20) [1,1,1,1,1,1,0,0,0]),[(0,vi n),(7,AV.ptr 0 0 0 0),(8,AV.row 1 0),(11,AV.row 2 0)],[⟨[ag [AV.vec fb 1 (List.map Iw.a B),AV.vec ft 1 (List.map Iw.a T)]],2,0,false,false⟩,⟨List.map (vi) A,1,0,false,true⟩,⟨[vi k],1,0,false,true⟩],_,[],_⟩ (by kernel_rfl) (bc (ZaD (fun h => d2 (Zaa.1 h))) (bc rfl b0)) q0 c0 (by (try rw [w20]);all_goals exact H)
noncomputable abbrev zPxL2 (A:List Int) (l:List Int) (i:Int):=vi (A.getD (l.getD i.toNat default).toNat default)
theorem pOrOi (n:Int) (fb ft:Bool) (B T:List Iw) (A:List Int) (O:List Int) (v:Nat) (k:Int) (g:Bool) (l:List Int) (m i:Int)  (dq:AV) (H :
  ((i < m) -> (0 <= i) /\
   (i.toNat < l.length) /\
   (0 <= l.getD i.toNat default) /\
   ((l.getD i.toNat default).toNat < A.length) /\
   (-9223372036854775808 <= A.getD (l.getD i.toNat default).toNat default - 1 /\ A.getD (l.getD i.toNat default).toNat default - 1 <= 9223372036854775807) /\
   (-9223372036854775808 <= i + 1 /\ i + 1 <= 9223372036854775807) /\
   ZdN (n) (fb) (ft) (B) (T) (A.set (l.getD i.toNat default).toNat (A.getD (l.getD i.toNat default).toNat default - 1)) (O) (v) (k) (g) (l) (m) (i + 1) (Zaj dq)) /\
  (¬(i < m) -> ((O.length + 1) * 8 <= 1099511627776) /\
   Zfa (n) (fb) (ft) (B) (T) (A) (O ++ [k]) (v + 1) (Zaj dq))) :
 ZdN n fb ft B T A O v k g l m i (Zaj dq):=by
 unfold ZdN
 rcases xq H with ⟨d2,H⟩|⟨d2,H⟩
 ·obtain ⟨k4,H⟩:=H
  have w5:(List.map (vi) l).length = l.length:=List.length_map ..
  have i6:(decide (i.toNat < (List.map (vi) l).length)) = true ↔ (i.toNat < l.length):=(by (try rw [w5]);all_goals exact Zaa)
  obtain ⟨k7,k9,H⟩:=H
  have w10:(List.map (vi) A).length = A.length:=List.length_map ..
  have i11:(decide ((l.getD i.toNat default).toNat < (List.map (vi) A).length)) = true ↔ ((l.getD i.toNat default).toNat < A.length):=(by (try rw [w10]);all_goals exact Zaa)
  obtain ⟨k12,H⟩:=H
  have i14:(decide ((l.getD i.toNat default).toNat < (List.map (vi) A).length)) = true ↔ ((l.getD i.toNat default).toNat < A.length):=(by (try rw [w10]);all_goals exact Zaa)
  obtain ⟨k15,H⟩:=H
  have w16:wi (A.getD (l.getD i.toNat default).toNat default - 1) = A.getD (l.getD i.toNat default).toNat default - 1:=wI64 k15
  have w17:(List.map (vi) A).set (l.getD i.toNat default).toNat (vi (A.getD (l.getD i.toNat default).toNat default - 1)) = List.map (vi) (A.set (l.getD i.toNat default).toNat (A.getD (l.getD i.toNat default).toNat default - 1)):=(Zfi rfl rfl)
  obtain ⟨k18,H⟩:=H
  have w19:wi (i + 1) = i + 1:=wI64 k18
  exact Zad (G:=Zaf kp20 [(19,1,.elem (vi (l.getD i.toNat default))),(20,3,.elem (zPxL2 A l i)),(20,6,.elem (zPxL2 A l i))] []) 1000 [true] ⟨(atC (cd Try.f20) [1,1,1,1,1,1,0,0,0,1,0,1,1,1,0,1,0,0]),[(0,vi n),(7,AV.ptr 0 0 0 0),(8,AV.row 1 0),(11,AV.row 2 v),(12,vi k),(55,AV.vec g 1 (List.map (vi) l)),(56,vi m),(57,vi (wi (i + 1)))],[⟨[ag [AV.vec fb 1 (List.map Iw.a B),AV.vec ft 1 (List.map Iw.a T)]],2,0,false,false⟩,⟨(List.map (vi) A).set (l.getD i.toNat default).toNat (vi (wi (A.getD (l.getD i.toNat default).toNat default - 1))),1,0,false,true⟩,⟨List.map (vi) O,1,v,false,true⟩],_,[((List.map (vi) l).get?Internal i.toNat = some (vi (l.getD i.toNat default))),((List.map (vi) A).get?Internal (l.getD i.toNat default).toNat = some (zPxL2 A l i)),((List.map (vi) A).get?Internal (l.getD i.toNat default).toNat = some (zPxL2 A l i))],_⟩ (by kernel_rfl) (bc (ZaG (Zaa.2 d2)) (bc (Zaa.2 k4) (bc (i6.2 k7) (bc rfl (bc (Zaa.2 k9) (bc (i11.2 k12) (bc rfl (bc rfl (bc (Zaa.2 k9) (bc (i14.2 k12) (bc rfl b0))))))))))) (qc (ZaC k7) (qc (ZaC k12) (qc (ZaC k12) q0))) c0 (by (try rw [w16]);(try rw [w17]);(try rw [w19]);all_goals exact H)
 ·have w20:(List.map (vi) O).length = O.length:=List.length_map ..
  have i21:(decide (((List.map (vi) O).length + 1) * 8 <= 1099511627776)) = true ↔ ((O.length + 1) * 8 <= 1099511627776):=(by (try rw [w20]);all_goals exact Zaa)
  obtain ⟨k22,H⟩:=H
  have w23:List.map (vi) O ++ [vi k] = List.map (vi) (O ++ [k]):=(Zey rfl rfl)
  exact Zad (G:=Zaf kp20 [] []) 1000 [false] ⟨(atC (cd Try.f20) [1,1,1,1,1,1,0,0,0]),[(0,vi n),(7,AV.ptr 0 0 0 0),(8,AV.row 1 0),(11,AV.row 2 (v + 1))],[⟨[ag [AV.vec fb 1 (List.map Iw.a B),AV.vec ft 1 (List.map Iw.a T)]],2,0,false,false⟩,⟨List.map (vi) A,1,0,false,true⟩,⟨List.map (vi) O ++ [vi k],1,v + 1,false,true⟩],[(decide (i < m)) == false,v == v,decide (((List.map (vi) O).length + 1) * 8 <= 1099511627776)],[],_⟩ (by kernel_rfl) (bc (ZaD (fun h => d2 (Zaa.1 h))) (bc (beq_self_eq_true _) (bc (i21.2 k22) b0))) q0 c0 (by (try rw [w23]);all_goals exact H)
end Go.Av

namespace Go.Av
open Go.Proofs
namespace Sp
def cnt (ps:List Pr) (O:List Int) (k:Int):Nat:=ps.countP fun p=>p.b==k && !mem O p.a
def msF (ps:List Pr) (O:List Int) (a:Nat):Int:=if mem O a=true then -1 else (cnt ps O a:Int)
def msg (n:Nat) (ps:List Pr) (O:List Int):List Int:=(List.range' 0 n).map (msF ps O)
def dec1 (A:List Int) (k:Int):List Int:=A.set k.toNat (A.getD k.toNat default-1)
def clo (ps:List Pr) (O:List Int):Prop:=∀ k ∈ O,rdy ps O k=true
def ordA:Option (List Int) -> AV
 | some l => .tup [.vec false 1 (l.map (.int .i64)),.int .i64 0]
 | none => .tup [.vec false 1 [],.int .i64 12]
end Sp
theorem cnt_zero {ps:List Pr} {O:List Int} {k:Int}:Sp.cnt ps O k = 0 ↔ Sp.rdy ps O k = true:=by
 unfold Sp.cnt Sp.rdy
 rw [List.countP_eq_zero,List.all_eq_true]
 constructor
 ·intro h p hp
  have:=h p hp
  cases h1:(p.b == k) <;> cases h2:Sp.mem O p.a <;> simp_all
 ·intro h p hp
  have:=h p hp
  cases h1:(p.b == k) <;> cases h2:Sp.mem O p.a <;> simp_all
theorem ix_nx {ps:List Pr} {O:List Int}:∀ (c k:Nat),Sp.ix 0 ((List.range' k c).map (Sp.msF ps O)) k = match Sp.nx ps O c k with
  | some j => j
  | none => -1
 | 0,k => rfl
 | c + 1,k => by
  rw [List.range'_succ,List.map_cons,Sp.ix,Sp.nx]
  have e:(0 = Sp.msF ps O k) ↔ (!Sp.mem O k && Sp.rdy ps O k) = true:=by
   unfold Sp.msF
   cases hm:Sp.mem O (k:Int) with
   | true => rw [if_pos rfl];simp
   | false =>
    rw [if_neg (by simp)]
    simp only [Bool.not_false,Bool.true_and]
    rw [<- cnt_zero];omega
  by_cases h:(!Sp.mem O k && Sp.rdy ps O k) = true
  ·rw [if_pos (e.2 h),if_pos h]
  ·rw [if_neg (fun x => h (e.1 x)),if_neg h]
   have:=ix_nx (ps:=ps) (O:=O) c (k + 1)
   rw [show ((k + 1:Nat):Int) = (k:Int) + 1 by omega] at this
   exact this
theorem ZbM (n:Nat) (ps:List Pr) (O:List Int):(Sp.msg n ps O).length=n:=by unfold Sp.msg;simp
theorem msg_get {n:Nat} {ps:List Pr} {O:List Int} {j:Nat} (h:j < n):(Sp.msg n ps O).getD j default = Sp.msF ps O j:=by
 unfold Sp.msg
 rw [List.getD_eq_getElem?_getD,List.getElem?_map,List.getElem?_range' (by omega)]
 simp
theorem dec1_len (A:List Int) (k:Int):(Sp.dec1 A k).length=A.length:=by unfold Sp.dec1;rw [List.length_set]
theorem dec1_get {A:List Int} {k:Int} (hk:0 <= k /\ k < A.length) (j:Nat):(Sp.dec1 A k).getD j default = if (j:Int) = k then A.getD j default - 1 else A.getD j default:=by
 unfold Sp.dec1
 rw [List.getD_eq_getElem?_getD,List.getElem?_set]
 by_cases e:k.toNat = j
 ·rw [if_pos e,if_pos (by omega),if_pos (by omega),Option.getD_some,e]
 ·rw [if_neg e,if_neg (by omega),<- List.getD_eq_getElem?_getD]
theorem fold_len:∀ (l A:List Int),(l.foldl Sp.dec1 A).length = A.length
 | [],A => rfl
 | x :: l,A => by rw [List.foldl_cons,fold_len l,dec1_len]
theorem fold_get:∀ (l A:List Int),(∀ x ∈ l,0 <= x /\ x < (A.length:Int)) -> ∀ j:Nat,(l.foldl Sp.dec1 A).getD j default = A.getD j default - (l.count (j:Int):Int)
 | [],A,_,j => by simp
 | x :: l,A,h,j => by
  rw [List.foldl_cons,fold_get l _ (fun y hy => by rw [dec1_len];exact h y (List.mem_cons_of_mem _ hy)),dec1_get (h x (by simp)),List.count_cons]
  by_cases e:(j:Int) = x
  ·rw [if_pos e,if_pos (by simpa using e.symm)];omega
  ·rw [if_neg e,if_neg (by simpa using fun y:x = j => e y.symm)];omega
theorem mem_snoc {O:List Int} {i a:Int}:Sp.mem (O ++ [i]) a = (Sp.mem O a || (i == a)):=by
 unfold Sp.mem;rw [List.any_append];simp
theorem cnt_split {O:List Int} {i j:Int} (hi:Sp.mem O i = false):∀ (ps:List Pr),Sp.cnt ps O j = Sp.cnt ps (O ++ [i]) j + (Sp.bhl ps i).count j
 | [] => rfl
 | p :: ps => by
  have ih:=cnt_split hi (j:=j) ps
  unfold Sp.cnt Sp.bhl at ih ⊢
  rw [List.countP_cons,List.countP_cons,ih,mem_snoc]
  by_cases e:p.a = i
  ·rw [List.filter_cons_of_pos (by simpa using e),List.map_cons,List.count_cons,e,hi]
   by_cases eb:p.b = j
   ·simp [eb];omega
   ·simp [eb]
  ·rw [List.filter_cons_of_neg (by simpa using e)]
   have:(i == p.a) = false:=by simpa using fun x:i = p.a => e x.symm
   rw [this,Bool.or_false];omega
theorem Zc6 {ps:List Pr} {i j:Int}:j ∈ Sp.bhl ps i ↔ Sp.edge ps i j:=by
 unfold Sp.bhl Sp.edge
 rw [List.mem_map]
 constructor
 ·rintro ⟨p,hp,rfl⟩
  rw [List.mem_filter] at hp
  exact ⟨p,hp.1,by simpa using hp.2,rfl⟩
 ·rintro ⟨p,hp,h1,rfl⟩
  exact ⟨p,List.mem_filter.2 ⟨hp,by simpa using h1⟩,rfl⟩
theorem cnt_nil (ps:List Pr) (k:Int):Sp.cnt ps [] k = (Sp.bfl ps k).length:=by
 unfold Sp.cnt Sp.bfl
 rw [List.length_map,List.countP_eq_length_filter]
 congr 1
 exact List.filter_congr fun p _ => by simp [Sp.mem]
theorem ZdS {n:Nat} {A B:List Int} (hA:A.length = n) (hB:B.length = n) (h:∀ j,j < n -> A.getD j default = B.getD j default):A = B:=by
 apply List.ext_getElem (by omega)
 intro j h1 h2
 have:=h j (by omega)
 rw [List.getD_eq_getElem?_getD,List.getElem?_eq_getElem h1,List.getD_eq_getElem?_getD,List.getElem?_eq_getElem h2] at this
 exact this
theorem msg_step {n:Nat} {ps:List Pr} {O:List Int} {i:Int} (hv:Sp.okV n ps) (hc:Sp.clo ps O) (hi:0 <= i /\ i < n) (hm:Sp.mem O i = false) (hr:Sp.rdy ps O i = true):(Sp.bhl ps i).foldl Sp.dec1 ((Sp.msg n ps O).set i.toNat (-1)) = Sp.msg n ps (O ++ [i]):=by
 have hin:i ∉ O:=fun h => by rw [Zb8.2 h] at hm;cases hm
 have hb:∀ x ∈ Sp.bhl ps i,0 <= x /\ x < (((Sp.msg n ps O).set i.toNat (-1)).length:Int):=fun x hx => by
  obtain ⟨p,hp,_,rfl⟩:=Zc6.1 hx
  have:=hv p hp
  rw [List.length_set,ZbM];omega
 refine ZdS (n:=n) (by rw [fold_len,List.length_set,ZbM]) (ZbM ..) fun j hj => ?_
 rw [fold_get _ _ hb,msg_get hj,List.getD_eq_getElem?_getD,List.getElem?_set]
 unfold Sp.msF
 rw [mem_snoc]
 by_cases e:i.toNat = j
 ·have ei:i = (j:Int):=by omega
  rw [if_pos e,if_pos (by rw [ZbM];omega),Option.getD_some,if_pos (by rw [show (i == (j:Int)) = true by simpa using ei,Bool.or_true])]
  have:(Sp.bhl ps i).count (j:Int) = 0:=List.count_eq_zero.2 fun h => by
   rw [<- ei] at h
   exact hin (Zcv.1 hr _ (Zc6.1 h))
  rw [this];rfl
 ·have ei:(i == (j:Int)) = false:=by simpa using fun x:i = (j:Int) => e (by omega)
  rw [if_neg e,<- List.getD_eq_getElem?_getD,msg_get hj,ei,Bool.or_false]
  unfold Sp.msF
  by_cases hmj:Sp.mem O (j:Int) = true
  ·rw [if_pos hmj,if_pos hmj]
   have:(Sp.bhl ps i).count (j:Int) = 0:=List.count_eq_zero.2 fun h => hin (Zcv.1 (hc _ (Zb8.1 hmj)) _ (Zc6.1 h))
   rw [this];rfl
  ·rw [if_neg hmj,if_neg hmj]
   have:=cnt_split (j:=(j:Int)) hm ps
   omega
theorem rdy_mono {ps:List Pr} {O:List Int} {i k:Int} (h:Sp.rdy ps O k = true):Sp.rdy ps (O ++ [i]) k = true:=
 Zcv.2 fun a ha => List.mem_append_left _ (Zcv.1 h a ha)
theorem clo_step {ps:List Pr} {O:List Int} {i:Int} (hc:Sp.clo ps O) (hr:Sp.rdy ps O i = true):Sp.clo ps (O ++ [i]):=fun k hk => by
 rcases List.mem_append.1 hk with h | h
 ·exact rdy_mono (hc k h)
 ·rw [List.mem_singleton] at h
  rw [h];exact rdy_mono hr
theorem dec_loop {P:List Int -> Int -> Prop} {n:Nat} {l A0:List Int} (hl:∀ x ∈ l,0 <= x /\ x < n) (hA:A0.length = n) (hb:∀ j,j < n -> -1 <= A0.getD j default /\ A0.getD j default <= 1000000) (hll:l.length <= 1000000)
  (step:∀ (A:List Int) (i:Nat),i < l.length -> A.length = n -> (0 <= l.getD i default /\ (l.getD i default).toNat < n) -> (-9223372036854775808 <= A.getD (l.getD i default).toNat default - 1 /\ A.getD (l.getD i default).toNat default - 1 <= 9223372036854775807) -> P (Sp.dec1 A (l.getD i default)) ((i:Int) + 1) -> P A i)
  (fin:P (l.foldl Sp.dec1 A0) l.length):P A0 0:=by
 have main:∀ (c i:Nat),i + c = l.length -> P ((l.take i).foldl Sp.dec1 A0) i:=by
  intro c
  induction c with
  | zero => intro i hi;rw [List.take_of_length_le (by omega),show i = l.length by omega];exact fin
  | succ c ih =>
   intro i hi
   have hil:i < l.length:=by omega
   have g:l.getD i default = l[i]:=by rw [List.getD_eq_getElem?_getD,List.getElem?_eq_getElem hil];rfl
   have hx:=hl l[i] (List.getElem_mem hil)
   have hn:=ih (i + 1) (by omega)
   rw [ZcN hil,List.foldl_append,List.foldl_cons,List.foldl_nil,<- g] at hn
   refine step _ i hil (by rw [fold_len,hA]) (by rw [g];omega) ?_ (by rw [show ((i:Int) + 1) = ((i + 1:Nat):Int) by omega];exact hn)
   rw [g,fold_get _ _ (fun x hx => by rw [hA];exact hl x (List.mem_of_mem_take hx))]
   have:=hb l[i].toNat (by omega)
   have h2:(l.take i).count ((l[i].toNat:Nat):Int) <= (l.take i).length:=List.count_le_length
   rw [List.length_take] at h2
   omega
 exact main l.length 0 (by omega)
end Go.Av

namespace Go.Av
open Go.RowKit
end Go.Av

namespace Go.Av
open Go.Proofs
theorem weak_tup2 {a b a' b':AV} (h1:Weak a a') (h2:Weak b b'):Weak (.tup [a,b]) (.tup [a',b']):=by
 refine .tup _ _ rfl fun i x y hx hy => ?_
 match i with
 | 0 => rw [<- Option.some.inj hx,<- Option.some.inj hy];exact h1
 | 1 => rw [<- Option.some.inj hx,<- Option.some.inj hy];exact h2
 | i + 2 => cases hx
theorem ZcL (b:AV):Weak (.tup [.vnil,b]) (.tup [.vec false 1 [],b]):=weak_tup2 (.vnil 1) (.refl _)
theorem ZeN {n:Nat} {ps:List Pr} {j:Nat} (h:j < n):((Sp.ZeE n ps).getD j default).l = Sp.bhl ps j:=by
 unfold Sp.ZeE
 rw [List.getD_eq_getElem?_getD,List.getElem?_map,List.getElem?_range h];rfl
theorem befW_get {n:Nat} {ps:List Pr} {j:Nat} (h:j < n):((Sp.Zes n ps).getD j default).l = Sp.bfl ps j:=by
 unfold Sp.Zes
 rw [List.getD_eq_getElem?_getD,List.getElem?_map,List.getElem?_range h];rfl
theorem ZeM (n:Nat) (ps:List Pr):(Sp.ZeE n ps).length=n:=by unfold Sp.ZeE;simp
theorem befW_len (n:Nat) (ps:List Pr):(Sp.Zes n ps).length=n:=by unfold Sp.Zes;simp
theorem msg_bd {n:Nat} {ps:List Pr} {O:List Int} (hpl:ps.length <= 1000000) (i j:Nat) (hj:j < n):-1 <= ((Sp.msg n ps O).set i (-1)).getD j default /\ ((Sp.msg n ps O).set i (-1)).getD j default <= 1000000:=by
 rw [List.getD_eq_getElem?_getD,List.getElem?_set]
 by_cases e:i = j
 ·rw [if_pos e,if_pos (by rw [ZbM];omega),Option.getD_some];omega
 ·rw [if_neg e,<- List.getD_eq_getElem?_getD,msg_get hj]
  unfold Sp.msF
  have:Sp.cnt ps O j <= ps.length:=List.countP_le_length
  split <;> omega
theorem bhl_in {n:Nat} {ps:List Pr} (hv:Sp.okV n ps) (i:Int):∀ x ∈ Sp.bhl ps i,0 <= x /\ x < n:=fun x hx => by
 obtain ⟨p,hp,_,rfl⟩:=Zc6.1 hx
 have:=hv p hp
 omega
section
variable {n:Nat} {ps:List Pr} {fb ft:Bool} {B:List Iw}
theorem pOrO_loop (hv:Sp.okV n ps) (hn:n <= 1000) (hpl:ps.length <= 1000000):∀ (c:Nat) (O:List Int) (v:Nat),O.length + c = n -> Sp.clo ps O -> Zfa (n:Int) fb ft B (Sp.ZeE n ps) (Sp.msg n ps O) O v (Zaj (Sp.ordA (Sp.kahn n ps c O))):=by
 intro c
 induction c with
 | zero =>
  intro O v hl hc
  exact pOrO _ _ _ _ _ _ _ _ _ ⟨fun z => absurd z (by omega),fun _ => .refl _⟩
 | succ c ih =>
  intro O v hl hc
  have hx:=ix_nx (ps:=ps) (O:=O) n 0
  have hx:Sp.ix 0 (Sp.msg n ps O) 0 = _:=hx
  refine pOrO _ _ _ _ _ _ _ _ _ ⟨fun _ => ⟨by unfold Sp.few;rw [ZbM];omega,fun h => ?_,fun h => ?_⟩,fun z => absurd (by omega) z⟩
  ·rw [hx] at h
   rw [Sp.kahn]
   cases hnx:Sp.nx ps O n 0 with
   | none => exact ZcL _
   | some i =>
    rw [show ((0:Nat):Int) = 0 from rfl,hnx] at h
    have:=(Zec hnx).1
    simp only at h;omega
  ·cases hnx:Sp.nx ps O n 0 with
   | none =>
    rw [hx,show ((0:Nat):Int) = 0 from rfl,hnx] at h
    simp only at h;omega
   | some i =>
    rw [show ((0:Nat):Int) = 0 from rfl,hnx] at hx
    simp only at hx
    obtain ⟨h1,h2,h3,_⟩:=Zec hnx
    rw [hx]
    have hi:i.toNat < n:=by omega
    have hik:((i.toNat:Nat):Int) = i:=by omega
    refine ⟨by omega,by rw [ZbM];exact hi,by rw [ZeM];exact hi,?_⟩
    rw [ZeN hi,hik]
    have hbl:=bhl_len ps i
    refine dec_loop (P:=fun A j => ZdN (n:Int) fb ft B (Sp.ZeE n ps) A O v i false (Sp.bhl ps i) ((Sp.bhl ps i).length:Int) j (Zaj (Sp.ordA (Sp.kahn n ps (c + 1) O)))) (n:=n) (bhl_in hv i) (by rw [List.length_set,ZbM]) (fun j hj => msg_bd hpl _ j hj) (by omega) (fun A j hj hA hg hr hp => ?_) ?_
    ·have e:((j:Nat):Int).toNat = j:=Int.toNat_natCast j
     refine pOrOi _ _ _ _ _ _ _ _ _ _ _ _ _ _ ⟨fun _ => ?_,fun z => absurd (by omega) z⟩
     rw [e]
     exact ⟨by omega,hj,hg.1,by rw [hA];exact hg.2,hr,by omega,hp⟩
    ·refine pOrOi _ _ _ _ _ _ _ _ _ _ _ _ _ _ ⟨fun z => absurd z (by omega),fun _ => ⟨by omega,?_⟩⟩
     rw [msg_step hv hc ⟨by omega,by omega⟩ h2 h3,Sp.kahn,hnx]
     exact ih _ _ (by rw [List.length_append,List.length_singleton];omega) (clo_step hc h3)
theorem pOrN_loop (hv:Sp.okV n ps) (hn:n <= 1000) (hpl:ps.length <= 1000000):pOrN_at (n:Int) fb ft B (Sp.ZeE n ps) (Sp.msg n ps []) (Zaj (Sp.ordA (Sp.ord n ps))):=by
 unfold Sp.ord
 have hc:Sp.clo ps []:=fun k hk => by cases hk
 cases n with
 | zero => exact pOrN _ _ _ _ _ _ _ ⟨fun z => absurd z (by omega),fun _ => ZcL _⟩
 | succ c =>
  have hx:=ix_nx (ps:=ps) (O:=[]) (c + 1) 0
  have hx:Sp.ix 0 (Sp.msg (c + 1) ps []) 0 = _:=hx
  refine pOrN _ _ _ _ _ _ _ ⟨fun _ => ⟨by unfold Sp.few;rw [ZbM];omega,fun h => ?_,fun h => ?_⟩,fun z => absurd (by omega) z⟩
  ·rw [hx] at h
   rw [Sp.kahn]
   cases hnx:Sp.nx ps [] (c + 1) 0 with
   | none => exact ZcL _
   | some i =>
    rw [show ((0:Nat):Int) = 0 from rfl,hnx] at h
    have:=(Zec hnx).1
    simp only at h;omega
  ·cases hnx:Sp.nx ps [] (c + 1) 0 with
   | none =>
    rw [hx,show ((0:Nat):Int) = 0 from rfl,hnx] at h
    simp only at h;omega
   | some i =>
    rw [show ((0:Nat):Int) = 0 from rfl,hnx] at hx
    simp only at hx
    obtain ⟨h1,h2,h3,_⟩:=Zec hnx
    rw [hx]
    have hi:i.toNat < c + 1:=by omega
    have hik:((i.toNat:Nat):Int) = i:=by omega
    refine ⟨by omega,by rw [ZbM];exact hi,by rw [ZeM];exact hi,?_⟩
    rw [ZeN hi,hik]
    have hbl:=bhl_len ps i
    refine dec_loop (P:=fun A j => ZdO ((c + 1:Nat):Int) fb ft B (Sp.ZeE (c + 1) ps) A i false (Sp.bhl ps i) ((Sp.bhl ps i).length:Int) j (Zaj (Sp.ordA (Sp.kahn (c + 1) ps (c + 1) [])))) (n:=c + 1) (bhl_in hv i) (by rw [List.length_set,ZbM]) (fun j hj => msg_bd hpl _ j hj) (by omega) (fun A j hj hA hg hr hp => ?_) ?_
    ·have e:((j:Nat):Int).toNat = j:=Int.toNat_natCast j
     refine pOrNi _ _ _ _ _ _ _ _ _ _ _ _ ⟨fun _ => ?_,fun z => absurd (by omega) z⟩
     rw [e]
     exact ⟨by omega,hj,hg.1,by rw [hA];exact hg.2,hr,by omega,hp⟩
    ·refine pOrNi _ _ _ _ _ _ _ _ _ _ _ _ ⟨fun z => absurd z (by omega),fun _ => ?_⟩
     rw [msg_step hv hc ⟨by omega,by omega⟩ h2 h3,Sp.kahn,hnx]
     exact pOrO_loop hv hn hpl c [i] 0 (by simp;omega) (clo_step hc h3)
theorem pOrA_loop {fm:Bool} (hv:Sp.okV n ps) (hn:n <= 1000) (hpl:ps.length <= 1000000):∀ (c i:Nat) (A:List Int),i + c = n -> A.length = n -> (∀ j,j < i -> A.getD j default = ((Sp.bfl ps j).length:Int)) -> Zfb (n:Int) fb ft B (Sp.ZeE n ps) A fm (Sp.Zes n ps) (n:Int) (i:Int) (Zaj (Sp.ordA (Sp.ord n ps))):=by
 intro c
 induction c with
 | zero =>
  intro i A hi hA h
  refine pOrA _ _ _ _ _ _ _ _ _ _ _ ⟨fun z => absurd z (by omega),fun _ => ?_⟩
  have:A = Sp.msg n ps []:=ZdS hA (ZbM ..) fun j hj => by
   rw [h j (by omega),msg_get hj]
   unfold Sp.msF
   rw [if_neg (by simp [Sp.mem]),cnt_nil]
  rw [this]
  exact pOrN_loop hv hn hpl
 | succ c ih =>
  intro i A hi hA h
  have e:((i:Nat):Int).toNat = i:=Int.toNat_natCast i
  refine pOrA _ _ _ _ _ _ _ _ _ _ _ ⟨fun _ => ?_,fun z => absurd (by omega) z⟩
  rw [e]
  refine ⟨by omega,by rw [befW_len];omega,by omega,by omega,ih (i + 1) _ (by omega) (by rw [List.length_set];exact hA) fun j hj => ?_⟩
  rw [List.getD_eq_getElem?_getD,List.getElem?_set]
  by_cases ej:i = j
  ·rw [if_pos ej,if_pos (by omega),Option.getD_some,befW_get (by omega),ej]
  ·rw [if_neg ej,<- List.getD_eq_getElem?_getD];exact h j (by omega)
end
theorem ordA_eq {m:Nat} {ps:List Pr} (h:Sp.vd m ps = 0):Sp.ordA (Sp.ord m ps) = .tup [.vec false 1 ((Sp.ordL m ps).map (.int .i64)),.int .i64 (Sp.ZaQ m ps)]:=by
 unfold Sp.ordL Sp.ZaQ Sp.cycB
 rw [if_pos h,if_pos h,Int.toNat_natCast]
 cases Sp.ord m ps with
 | none => rfl
 | some l => rfl
theorem ev20 (n:Int) (f:Bool) (ps:List Pr):Ev M1 (.pure 20 [.int .i64 n,.vec f 2 (ps.map Pr.v)]) (.tup [.vec false 1 ((Sp.ordL n ps).map (.int .i64)),.int .i64 (Sp.ZaQ n ps)]) []:=by
 refine call20 (pOr _ _ _ _ ⟨fun h => ?_,fun h => ?_⟩)
 ·unfold Sp.ordL Sp.ZaQ
  rw [if_neg h,if_neg h]
  exact ZcL _
 ·have h:=Classical.byContradiction h
  obtain ⟨m,rfl,hv,hm,hpl⟩:=vd_okV h
  refine ⟨h,by omega,by omega,by omega,?_⟩
  rw [Int.toNat_natCast,befW_len,<- ordA_eq h]
  exact pOrA_loop hv hm hpl m 0 _ (by omega) (by simp) fun j hj => by omega
section
variable {n:Nat} {ps:List Pr} {f:Bool}
end
end Go.Av

namespace Go.Av
open Go.Proofs
set_option maxRecDepth 100000
end Go.Av

namespace Go.Av
open Go.Proofs
end Go.Av

namespace Go.Av
open Go.Proofs
set_option maxRecDepth 100000
end Go.Av

namespace Go.Av
open Go.Proofs
namespace Sp
inductive fin (ps:List Pr):Int -> Prop
 | mk {a:Int}:(∀ b,edge ps a b -> fin ps b) -> fin ps a
structure VI (n:Nat) (ps:List Pr) (D:List Bool) (A P:List Int):Prop where
 dl:D.length = n
 al:A.length = n
 rng:∀ x ∈ P,0 <= x /\ x < n
 nd:P.Nodup
 at1:∀ (j:Nat) x,P[j]? = some x -> A.getD x.toNat default = (j:Int) + 1
 at0:∀ k:Nat,k < n -> (k:Int) ∉ P -> A.getD k default = 0
 ch:∀ (j:Nat) x y,P[j]? = some x -> P[j + 1]? = some y -> edge ps x y
 fn:∀ k:Nat,k < n -> D.getD k default = true -> fin ps k
end Sp
theorem Sp.VI.push {n:Nat} {ps:List Pr} {D:List Bool} {A P:List Int} (h:Sp.VI n ps D A P) {i:Int} (hi:0 <= i /\ i < n) (hn:i ∉ P) (he:∀ x,P.getLast? = some x -> Sp.edge ps x i):Sp.VI n ps D (A.set i.toNat ((P.length:Int) + 1)) (P ++ [i]):=by
 refine ⟨h.dl,by rw [List.length_set];exact h.al,fun x hx => ?_,?_,fun j x hx => ?_,fun k hk hkP => ?_,fun j x y hx hy => ?_,h.fn⟩
 ·rcases List.mem_append.1 hx with hx | hx
  ·exact h.rng x hx
  ·rw [List.mem_singleton] at hx;rw [hx];exact hi
 ·rw [List.nodup_append]
  exact ⟨h.nd,by simp,fun a ha b hb => by simp at hb;subst hb;exact fun e => hn (e ▸ ha)⟩
 ·by_cases hj:j < P.length
  ·rw [List.getElem?_append_left hj] at hx
   have hx0:=h.rng x (List.mem_of_getElem? hx)
   have hne:x ≠ i:=fun e => hn (e ▸ List.mem_of_getElem? hx)
   rw [List.getD_eq_getElem?_getD,List.getElem?_set,if_neg (by omega),<- List.getD_eq_getElem?_getD]
   exact h.at1 j x hx
  ·have hj2:=(List.getElem?_eq_some_iff.1 hx).1
   rw [List.length_append,List.length_singleton] at hj2
   have:j = P.length:=by omega
   subst this
   rw [List.getElem?_append_right (by omega),Nat.sub_self] at hx
   have e:x = i:=(Option.some.inj hx).symm
   subst e
   rw [List.getD_eq_getElem?_getD,List.getElem?_set,if_pos rfl,if_pos (by rw [h.al];omega)];rfl
 ·have hne:(k:Int) ≠ i:=fun e => hkP (by rw [e];simp)
  rw [List.getD_eq_getElem?_getD,List.getElem?_set,if_neg (by omega),<- List.getD_eq_getElem?_getD]
  exact h.at0 k hk fun hm => hkP (List.mem_append_left _ hm)
 ·have hj2:=(List.getElem?_eq_some_iff.1 hy).1
  rw [List.length_append,List.length_singleton] at hj2
  by_cases hj:j + 1 < P.length
  ·rw [List.getElem?_append_left (by omega)] at hx
   rw [List.getElem?_append_left hj] at hy
   exact h.ch j x y hx hy
  ·have:j + 1 = P.length:=by omega
   rw [List.getElem?_append_left (by omega)] at hx
   rw [this,List.getElem?_append_right (by omega),Nat.sub_self] at hy
   rw [<- Option.some.inj hy]
   refine he x ?_
   rw [List.getLast?_eq_getElem?,show P.length - 1 = j by omega];exact hx
theorem Sp.VI.base (n:Nat) (ps:List Pr):Sp.VI n ps (List.replicate n false) (List.replicate n 0) []:=
 ⟨by simp,by simp,fun x hx => (by cases hx),List.nodup_nil,fun j x hx => (by simp at hx),fun k hk _ => (by rw [List.getD_eq_getElem?_getD,List.getElem?_replicate,if_pos hk];rfl),fun j x y hx hy => (by simp at hx),fun k hk hD => (by rw [List.getD_eq_getElem?_getD,List.getElem?_replicate,if_pos hk] at hD;cases hD)⟩
def Sp.one (l:List Int):Prop:=l ≠ []/\l.length<=1000000
end Go.Av

namespace Go.Av
open Go.Proofs
set_option maxRecDepth 100000
end Go.Av

namespace Go.Av
open Go.Proofs
section
variable {n:Nat} {ps:List Pr} {fm:Bool}
end
end Go.Av

namespace Go.Av
open Go.Proofs
set_option maxRecDepth 100000
end Go.Av

namespace Go.Av
open Go.RowKit
theorem range_inv {M:Mach} {fi:Fi} {g:Operand} {p0 p1:Tmp} {ida:Nat} {opsA:Array Oper} {body:Code} {k:List Item} {env:Vars} {L:Heap} {Q:AV -> Heap -> Prop} {it:FuncId} {A:AV} {xs:List (AV × AV)} {keepA:List Nat}
  (hg:evV env g = .func (.func it) [] [A]) (hit:∀ args w,(callFunc it args).run (M.P ()) w = .ok (.enter it args) w) (hI:ZdA M it A xs) (hna:ZbY opsA = true) (hnb:ZbG body = true) (hp0:p0 < fi.n) (hp1:p1 < fi.n)
  (Inv:Nat -> Heap -> Prop) (h0:Inv 0 L) (eA:Nat -> Heap -> Env)
  (hasg:∀ j (hj:j < xs.length) (K:Heap),Inv j K -> Zai M.P M.inl (fun _ _ _ => none) fi.n opsA (fun _ => none) (fun _ => 2) (List.range opsA.size) ⟨lift ((p1,(xs[j]).2) :: (p0,(xs[j]).1) :: env),K,[],[],[]⟩ = some ⟨eA j K,K,[],[],[]⟩)
  (hbody:∀ j,j < xs.length -> ∀ K:Heap,Inv j K -> Zay M fi [.code body] (Za0 keepA (eA j K)) K (fun _ L' => Inv (j + 1) L'))
  (hk:∀ K:Heap,Inv xs.length K -> Zay M fi k env K Q):Zay M fi (.code (.rangeFunc g #[p0,p1] (.region ida opsA false) body) :: k) env L Q:=by
 intro S b a cs fn h1 h2 h3 h4 h5 h6 h7 h8
 have hb:b.roundOf = none:=by
  rcases h4 with h | h
  ·exact h
  ·simp [Zb3,Zdi,ZbG] at h
 obtain ⟨R,hR⟩:∃ R:Loop,R = { state:=.ready,pending:=none,fn:=b.fn,tmps:=a.tmps,params:=#[p0,p1],assign:=.region ida opsA false,body,defers:=S.w.heap.size }:=⟨_,rfl⟩
 obtain ⟨B,hB⟩:∃ B:Loop,B = { R with state:=.busy }:=⟨_,rfl⟩
 obtain ⟨X,hX⟩:∃ X:Loop,X = { R with state:=.exhausted }:=⟨_,rfl⟩
 obtain ⟨W1,hW1⟩:∃ W1,(S.w.alloc (.deferred (some []))).alloc (.loop R) = W1:=⟨_,rfl⟩
 have hl1:W1.heap[S.w.heap.size + 1]? = some (.loop R):=by
  rw [<- hW1];have:=World.alloc_heap_new (S.w.alloc (.deferred (some []))) (.loop R);rwa [World.size_alloc] at this
 have hd1:W1.heap[S.w.heap.size]? = some (.deferred (some [])):=by
  rw [<- hW1];exact (Below.heap_alloc _ _ _ (by simp)).trans (World.alloc_heap_new S.w _)
 have hbelow:Below S.base S.w W1:=by
  rw [<- hW1];exact (((Below.refl _ S.w).alloc h5.base _).alloc (by simp;have:=h5.base;omega) _)
 have hsame:∀ q,q < S.w.heap.size -> W1.heap[q]? = S.w.heap[q]?:=fun q hq => by
  rw [<- hW1];exact (Below.heap_alloc _ _ q (by simp;omega)).trans (Below.heap_alloc _ _ q hq)
 obtain ⟨o1,e1⟩:=ZbC h5 hbelow hsame
 obtain ⟨cg,hcg⟩:∃ cg,a.eval g = cg:=⟨_,rfl⟩
 have hrg:=vget_rel (a:=a) h7 g
 rw [hg,hcg] at hrg
 obtain ⟨va,vb,rfl,l1,l2,r1,r2⟩:=ZbR hrg
 have hva:va = []:=List.length_eq_zero_iff.1 l1.symm
 subst hva
 obtain ⟨cA,rfl⟩:=List.length_eq_one_iff.1 l2.symm
 have hcA:Rel S A cA:=r2 0 A cA rfl rfl
 let J:Nat -> St -> Prop:=fun j T => HeapOk T /\ Ext S T /\ Inv j T.L /\ T.w.heap[S.w.heap.size + 1]? = some (.loop R) /\ T.w.heap[S.w.heap.size]? = some (.deferred (some []))
 have hbase:∀ {T:St},Ext S T -> T.base <= S.w.heap.size:=fun he => by rw [he.base];exact h5.base
 have hJ:∀ j T T',J j T -> HeapOk T' -> Ext T T' -> T'.L = T.L -> J j T':=fun j T T' ⟨q1,q2,q3,q4,q5⟩ hT' he hL =>
  ⟨hT',q2.trans he,(by rw [hL];exact q3),ZaJ q1 he q4 rfl (by have:=hbase q2;omega),ZaJ q1 he q5 rfl (hbase q2)⟩
 have hround:∀ j T v1 v2 (hj:j < xs.length),J j T -> Rel T (xs[j]).1 v1 -> Rel T (xs[j]).2 v2 -> ∃ fid tmps asg bd,(Instr.yield (S.w.heap.size + 1) #[v1,v2]).run (M.P ()) T.w = .ok (.round (S.w.heap.size + 1) fid tmps asg bd) T.w /\
   ∀ c cs,∃ T',J (j + 1) T' /\ (∀ a v,Rel T a v -> Rel T' a v) /\ Steps (M.P ()) (lone (Frame.round (S.w.heap.size + 1) fid tmps asg bd .normal) (c :: cs) T.w) (lone (c.finish (.bool true)) cs T'.w):=by
  intro j T v1 v2 hj ⟨q1,q2,q3,q4,q5⟩ hv1 hv2
  obtain ⟨tm,htm⟩:∃ tm:Array Value,tm = (a.tmps.setIfInBounds p0 v1).setIfInBounds p1 v2:=⟨_,rfl⟩
  have hy:(Instr.yield (S.w.heap.size + 1) #[v1,v2]).run (M.P ()) T.w = .ok (.round (S.w.heap.size + 1) b.fn tm (.region ida opsA false) body) T.w:=by
   have:=run_yield (P:=M.P ()) (args:=#[v1,v2]) q4 (by rw [hR];rfl)
   rw [hR] at this
   simp only [fold_two] at this
   rw [this,htm]
  refine ⟨b.fn,tm,.region ida opsA false,body,hy,fun c cs => ?_⟩
  have hV:VRel T ((p1,(xs[j]).2) :: (p0,(xs[j]).1) :: env) tm:=by
   rw [htm]
   exact ZdC (ZdC (vrel_mono q2 h7) (Nat.lt_of_lt_of_le hp0 h8) hv1) (by rw [Array.size_setIfInBounds];exact Nat.lt_of_lt_of_le hp1 h8) hv2
  let bR:Frame:={ (default:Frame) with fn:=b.fn,kind:=.normal,roundOf:=some (S.w.heap.size + 1) }
  have hfr:Frame.round (S.w.heap.size + 1) b.fn tm (.region ida opsA false) body .normal = bR.atR { tmps:=tm,defers:=[] } [.code (.region ida opsA false),.beginRound,.code body]:=by
   simp [Frame.round,Frame.atR,bR]
  have hsz:fi.n <= tm.size:=by rw [htm,Array.size_setIfInBounds,Array.size_setIfInBounds];exact h8
  rw [hfr]
  have hA:RegR (M.P ()) ida opsA false (fun a' w' => ∃ T2:St,T2.w = w' /\ HeapOk T2 /\ Ext T T2 /\ T2.L = T.L /\ VRel T2 (Za0 keepA (eA j T.L)) a'.tmps /\ a'.tmps.size = tm.size /\ a'.defers = []) { tmps:=tm,defers:=[] } T.w:=
   ZdJ (Zbs _ (hasg j hj T.L q3) (by simp) (by simp) (by simp) q1 rfl (Zb9 hV) hsz fun S' a' k1 k2 k3 k4 k5 k6 => ⟨S',rfl,k1,k2,k3,Za4 k4 keepA,k5,k6⟩)
  obtain ⟨a2,_,⟨T2,rfl,u1,u2,u3,u4,u5,u6⟩,st1⟩:=hA bR [.beginRound,.code body] (c :: cs) (.inr hna)
  have hl2:=ZaJ q1 u2 q4 rfl (by have:=hbase q2;omega)
  have hd2:=ZaJ q1 u2 q5 rfl (hbase q2)
  have hbr:=run_beginRound (P:=M.P ()) hl2 (by rw [hR])
  rw [<- hB] at hbr
  obtain ⟨v1',v2'⟩:=Zb7 (o':=.loop B) u1 hl2 rfl rfl
  have x3:Ext S ⟨T2.base,T2.acc,T2.L,T2.β,T2.w.putObj (S.w.heap.size + 1) (.loop B)⟩:=
   Zdq hl2 rfl rfl h5.base (by omega) (q2.trans u2)
  have hl3:(T2.w.putObj (S.w.heap.size + 1) (.loop B)).heap[S.w.heap.size + 1]? = some (.loop B):=World.putObj_heap_same (Array.getElem?_eq_some_iff.1 hl2).1
  have hd3:(T2.w.putObj (S.w.heap.size + 1) (.loop B)).heap[S.w.heap.size]? = some (.deferred (some [])):=(World.putObj_heap_other (by omega)).trans hd2
  obtain ⟨a4,todo4,Ds4,w4,β4,v4,L4,hq4,g1,g2,s4,d4,m4,r4,o4,x4⟩:=hbody j hj T.L q3 ⟨T2.base,T2.acc,T2.L,T2.β,T2.w.putObj (S.w.heap.size + 1) (.loop B)⟩ bR a2 (c :: cs) fn h1 h2 rfl
   (.inr (by simp [Zb3,Zdi,hnb])) v1' u3 (fun t => v2' _ _ (u4 t)) (by rw [u5];exact hsz)
  obtain ⟨rfl,rfl⟩:todo4 = [] /\ Ds4 = []:=by
   rcases g2 with g | g
   ·simp [bR] at g
   ·exact g
  have hb3:T2.base <= S.w.heap.size:=hbase (q2.trans u2)
  have hl4:=ZaJ v1' x4 hl3 rfl (by show T2.base <= _;omega)
  have hd4:=ZaJ v1' x4 hd3 rfl hb3
  have her:=run_endRound (P:=M.P ()) none hl4
  have hrr:({ B with state:=if (none:Option Code).isNone then .ready else .done,pending:=none }:Loop) = R:=by rw [hB,hR];rfl
  rw [hrr] at her
  obtain ⟨y1,y2⟩:=Zb7 (o':=.loop (R)) o4 hl4 rfl rfl
  have x5:=Zdq (o':=.loop (R)) hl4 rfl rfl h5.base (by omega) (x3.trans x4)
  refine ⟨_,⟨y1,x5,hq4,World.putObj_heap_same (Array.getElem?_eq_some_iff.1 hl4).1,(World.putObj_heap_other (by omega)).trans hd4⟩,fun a v h => y2 _ _ ((v2' _ _ (h.mono u2)).mono x4),?_⟩
  exact Steps.trans st1 (.head (stepR_beginRound rfl hbr) (Steps.trans s4 (.one (stepR_round_end rfl rfl her))))
 have hmono:∀ a v,Rel S a v -> Rel ⟨S.base,S.acc,S.L,S.β,W1⟩ a v:=fun a v h => h.mono e1
 obtain ⟨cv,fr,T,⟨q1,q2,q3,q4,q5⟩,t2,t3,t4⟩:=hI (S.w.heap.size + 1) J (fun j T h => h.1) hJ hround ⟨S.base,S.acc,S.L,S.β,W1⟩ cA ⟨o1,e1,(by show Inv 0 S.L;rw [h6];exact h0),hl1,hd1⟩ (hmono _ _ hcA)
  (b.atR { a with defers:=[Zdn S.w.heap.size] ++ a.defers } (.inRangeFunc (S.w.heap.size + 1) :: k) :: cs)
 have he:=run_enterLoop_outer (P:=M.P ()) (w:=S.w) b.fn a.tmps #[p0,p1] (.region ida opsA false) body
 have hW1':(S.w.alloc (.deferred (some []))).alloc (.loop { state:=.ready,pending:=none,fn:=b.fn,tmps:=a.tmps,params:=#[p0,p1],assign:=.region ida opsA false,body,defers:=S.w.heap.size }) = W1:=by rw [<- hW1,hR]
 rw [hW1',<- hb] at he
 have henter:=stepR_rangeFunc (P:=M.P ()) (b:=b) (a:=a) (k:=k) (cs:=cs) (w:=S.w) (g:=g) (d:={ target:=.fn (.func it) #[cA],args:=#[.func (.yield (S.w.heap.size + 1)) #[] #[]] }) (w₁':=W1) (w₂:=W1) (f:=it) (args:=#[.func (.yield (S.w.heap.size + 1)) #[] #[]] ++ #[cA]) he
  (by simp only [resolve,rangeCall,hcg];simp [go_sem]) (by simp [invoke,go_sem,hit])
 have hend:=run_endLoop (P:=M.P ()) q4 (by rw [hR];simp)
 rw [<- hX,(show R.pending = none by rw [hR])] at hend
 obtain ⟨z1,z2⟩:=Zb7 (o':=.loop X) q1 q4 rfl rfl
 have x6:=Zdq (o':=.loop X) q4 rfl rfl h5.base (by omega) q2
 have hd6:(T.w.putObj (S.w.heap.size + 1) (.loop X)).heap[S.w.heap.size]? = some (.deferred (some [])):=(World.putObj_heap_other (by omega)).trans q5
 have hb6:=hbase q2
 obtain ⟨a7,todo7,Ds7,w7,β7,v7,L7,hq7,g1,g2,s7,d7,m7,r7,o7,x7⟩:=hk T.L q3 ⟨T.base,T.acc,T.L,T.β,T.w.putObj (S.w.heap.size + 1) (.loop X)⟩ b { a with defers:=[Zdn S.w.heap.size] ++ a.defers } cs fn h1 h2 h3 (.inl hb) z1 rfl
  (fun t => z2 _ _ ((h7 t).mono q2)) h8
 have hd7:=ZaJ z1 x7 hd6 rfl hb6
 have hsz7:S.w.heap.size < (T.w.putObj (S.w.heap.size + 1) (.loop X)).heap.size:=(Array.getElem?_eq_some_iff.1 hd6).1
 have hb7:T.base = S.base:=q2.base
 have ha7:T.acc = S.acc:=q2.acc
 refine ⟨a7,todo7,Ds7 ++ [S.w.heap.size],w7,β7,v7,L7,hq7,g1,.inl hb,?_,by rw [d7];simp,⟨?_,fun D hD => ?_⟩,?_,?_,?_⟩
 ·refine .head henter (Steps.trans t3 (.head ?_ (.head (stepR_endRangeFunc hend) s7)))
  rw [<- finish_atR_inRangeFunc (S.w.heap.size + 1) cv]
  exact step_leave_returned t4
 ·rw [List.nodup_append]
  refine ⟨m7.1,by simp,fun x hx y hy => ?_⟩
  simp only [List.mem_singleton] at hy
  have:=(m7.2 x hx).1
  simp only at this
  omega
 ·rcases List.mem_append.1 hD with h | h
  ·obtain ⟨n1,n2⟩:=m7.2 D h
   simp only at n1
   exact ⟨by omega,n2⟩
  ·simp only [List.mem_singleton] at h;subst h
   exact ⟨Nat.le_refl _,hd7⟩
 ·intro w'' hn
  obtain ⟨cv',n1,n2⟩:=r7 w'' hn
  simp only [hb7,ha7] at n2
  exact ⟨cv',n1,n2⟩
 ·simpa only [hb7,ha7] using o7
 ·have:=x6.trans x7
  simpa only [hb7,ha7] using this
theorem backAt_sw {n p q:Nat} (hp:p < n) (hq:q < n):Zb2 n ((List.range n).map (swp p q)) = swp p q:=by
 funext i
 unfold Zb2
 by_cases h:i < n
 ·have hb:Nat.blt i ((List.range n).map (swp p q)).length = true:=Nat.blt_eq.mpr (by simpa using h)
  rw [hb,cond_true,List.getD_eq_getElem?_getD,List.getElem?_map,List.getElem?_range h];rfl
 ·have hb:Nat.blt i ((List.range n).map (swp p q)).length = false:=by
   cases hb:Nat.blt i ((List.range n).map (swp p q)).length with
   | false => rfl
   | true => exact absurd (by simpa using Nat.blt_eq.mp hb) h
  rw [hb,cond_false,List.length_map,List.length_range,Zch (by omega) (by omega)];omega
theorem backAll_sw {L L1:Heap} {p q:Nat} (hp:p < L.length) (hq:q < L.length) (hl:L.length <= L1.length):ZcF L ((List.range L.length).map (swp p q)) L1 = swH p q L1:=by
 have hmem:∀ r ∈ (List.range L.length).map (swp p q),r < L.length:=by
  intro r hr
  obtain ⟨a,ha,rfl⟩:=List.mem_map.1 hr
  exact ZcH hp hq (List.mem_range.1 ha)
 have hnd:((List.range L.length).map (swp p q)).Nodup:=by
  refine List.pairwise_map.2 (List.Pairwise.imp_of_mem ?_ List.nodup_range)
  intro a b _ _ hab e;exact hab (ZeS e)
 have hlen:(ZcF L ((List.range L.length).map (swp p q)) L1).length = L1.length:=by
  unfold ZcF
  rw [List.length_append,Zar,List.length_map,List.length_drop,List.length_map,List.length_range];omega
 have hp1:p < L1.length:=by omega
 have hq1:q < L1.length:=by omega
 apply List.ext_getElem?
 intro t
 by_cases ht:t < L1.length
 ·have hs:=ZcH hp1 hq1 ht
  have e1:=back_at (L:=L) (L1:=L1) (Zde _ hmem) hnd (swp p q t) _ (List.getElem?_eq_getElem hs)
  rw [backAt_sw hp hq,Zcd] at e1
  have e2:=ZdD hp1 hq1 (List.getElem?_eq_getElem hs)
  rw [Zcd] at e2
  rw [e1,e2]
 ·rw [List.getElem?_eq_none (by rw [hlen];omega),List.getElem?_eq_none (by rw [ZcP];omega)]
theorem wp_swapQ {M:Mach} {fi:Fi} {k:List Item} {env:Vars} {L:Heap} {Q:AV -> Heap -> Prop} {p q:Nat} (hp:p < L.length) (hq:q < L.length) (henv:∀ r ∈ rowsL (env.map (·.2)),r < L.length) (href:∀ row ∈ L,∀ r ∈ Zae row,r < L.length)
  (h:Wp M (.run fi k (renV (swp p q) env) (swH p q L)) (fun v L1 => L.length <= L1.length /\ Q (renA (swp p q) v) (swH p q L1))):Wp M (.run fi k env L) Q:=by
 have hmem:∀ r,r ∈ (List.range L.length).map (swp p q) ↔ r < L.length:=by
  intro r
  rw [List.mem_map]
  constructor
  ·rintro ⟨a,ha,rfl⟩;exact ZcH hp hq (List.mem_range.1 ha)
  ·intro hr;exact ⟨swp p q r,List.mem_range.2 (ZcH hp hq hr),Zcd p q r⟩
 have hnd:((List.range L.length).map (swp p q)).Nodup:=by
  refine List.pairwise_map.2 (List.Pairwise.imp_of_mem ?_ List.nodup_range)
  intro a b _ _ hab e;exact hab (ZeS e)
 refine .narrow ((List.range L.length).map (swp p q)) (renV (swp p q) env) (swH p q L) ?_ (.mono h fun v L1 ⟨h1,h2⟩ => by rw [backAt_sw hp hq,backAll_sw hp hq h1];exact h2)
 unfold ZaY
 rw [Zde _ fun r hr => (hmem r).1 hr]
 have hpos:∀ r,r < L.length -> Zah ((List.range L.length).map (swp p q)) r = swp p q r:=fun r hr =>
  ZbS hnd (by rw [List.getElem?_map,List.getElem?_range (ZcH hp hq hr)];simp [Zcd])
 have hrow:∀ r,r < L.length -> ∀ s ∈ Zae (L.getD r ⟨[],0,0,false,true⟩),s < L.length:=fun r hr s hs =>
  href _ (by rw [List.getD_eq_getElem?_getD,List.getElem?_eq_getElem hr];exact List.getElem_mem hr) s hs
 simp only
 rw [if_pos]
 ·congr 1
  refine Prod.ext ?_ ?_
  ·show renV _ env = renV _ env
   unfold renV
   refine List.map_congr_left fun e he => ?_
   have:∀ r ∈ rowsA e.2,Zah ((List.range L.length).map (swp p q)) r = swp p q r:=fun r hr => hpos r (henv r (by
    have hm:e.2 ∈ env.map (·.2):=List.mem_map_of_mem he
    obtain ⟨i,hi⟩:=List.getElem?_of_mem hm
    exact ZaU hi hr))
   rw [renA_ext e.2 this]
  ·show List.map _ _ = swH p q L
   unfold swH
   rw [List.map_map,List.map_map]
   refine List.map_congr_left fun j hj => ?_
   have hj:=List.mem_range.1 hj
   exact Zda fun s hs => hpos s (hrow _ (ZcH hp hq hj) s hs)
 ·simp only [Bool.and_eq_true,List.all_eq_true,List.contains_iff_mem]
  refine ⟨(ZaN _).2 hnd,fun r hr => (hmem r).2 (henv r hr),fun row hr s hs => ?_⟩
  obtain ⟨r,hr1,rfl⟩:=List.mem_map.1 hr
  exact (hmem s).2 (hrow r ((hmem r).1 hr1) s hs)
end Go.Av

namespace Go.Av
open Go.Proofs
section
variable {n:Nat} {ps:List Pr} {fm:Bool}
end
end Go.Av

namespace Go.Av
open Go.Proofs
end Go.Av

namespace Go.Av
open Go.Proofs
set_option maxRecDepth 100000
end Go.Av

namespace Go.Av
open Go.Proofs
end Go.Av

namespace Go.Av
open Go.Proofs
set_option maxRecDepth 100000
def fi53:Fi:=⟨4,[.tmp 2]⟩
def kp53:List (Nat × List Nat):=[(0,[1]),(1,[2])]
def rBk_at (f:Bool) (l:List Int) (Q:AV->Heap->Prop):Prop:=Wp M1 (.run fi53 (atC (cd Try.f53) []) [(0,.vec f 1 (l.map (.int .i64)))] []) Q
theorem call53 {args:List AV} {d:AV} (h:wc M1 fi53 Try.f53 args d):Ev M1 (.pure 53 args) d []:=pcl _ _ (by kernel_rfl) h
theorem rBk (f:Bool) (l:List Int)  (dq:AV) (H :
  Weak (AV.func (Fn.func 55) [] [AV.eptr 1 [AV.vec f 1 (List.map (vi) l)] 0 0]) dq) :
 rBk_at f l (Zaj dq):=by
 unfold rBk_at
 exact Zbf (G:=Zaf kp53 [] []) 1000 [] (k:=((atC (cd Try.f53) [1,1])).tail) (env':=[(2,AV.func (Fn.func 55) [] [AV.ptr 0 0 0 0])]) (L':=[⟨[AV.vec f 1 (List.map (vi) l)],1,0,false,false⟩]) (asm:=[]) (eqs:=[]) (calls:=[]) (AV.func (Fn.func 55) [] [AV.ptr 0 0 0 0]) (by kernel_rfl) (by kernel_rfl) Zax Za6 Za7 (Ze6 (d:=(AV.func (Fn.func 55) [] [AV.eptr 1 [AV.vec f 1 (List.map (vi) l)] 0 0])) (bs:=[0 == 0]) (by kernel_rfl) (by kernel_rfl) (Zam (beq_self_eq_true _) Zax) (by kernel_rfl) H)
end Go.Av

namespace Go.Av
open Go.Proofs
theorem ev53 (f:Bool) (l:List Int):Ev M1 (.pure 53 [.vec f 1 (l.map (.int .i64))]) (.func (.func 55) [] [.eptr 1 [.vec f 1 (l.map (.int .i64))] 0 0]) []:=call53 (rBk _ _ _ (.refl _))
namespace Sp
def put1 (m:List Bool) (k:Nat):List Bool:=m.set k true
def orR (m o:List Bool):Nat -> List Bool
 | 0 => m
 | j + 1 => (orR m o j).set j ((orR m o j).getD j default || o.getD j default)
noncomputable def rowD (n:Nat) (ps:List Pr) (a:Int):List Bool:=(List.range n).map fun (b:Nat) => @decide (dep ps a b) (Classical.propDecidable _)
def rowK (n:Nat) (ps:List Pr) (l:List Int) (m:List Bool):Prop:=m.length=n /\ ∀ b:Nat,b<n->(m.getD b default=true ↔ ∃ k ∈ l,k=(b:Int)\/dep ps k b)
end Sp
theorem orR_len (m o:List Bool):∀ j,(Sp.orR m o j).length = m.length
 | 0 => rfl
 | j + 1 => by rw [Sp.orR,List.length_set,orR_len m o j]
theorem orR_get {m o:List Bool}:∀ (j b:Nat),j <= m.length -> b < m.length -> (Sp.orR m o j).getD b default = if b < j then m.getD b default || o.getD b default else m.getD b default
 | 0,b,_,_ => by rw [if_neg (by omega)];rfl
 | j + 1,b,hj,hb => by
  rw [Sp.orR,List.getD_eq_getElem?_getD,List.getElem?_set]
  have ih:=fun b hb => orR_get (m:=m) (o:=o) j b (by omega) hb
  by_cases e:j = b
  ·subst e
   rw [if_pos rfl,if_pos (by rw [orR_len];exact hb),Option.getD_some,ih j hb,if_neg (by omega),if_pos (by omega)]
  ·rw [if_neg e,<- List.getD_eq_getElem?_getD,ih b hb]
   by_cases h:b < j
   ·rw [if_pos h,if_pos (by omega)]
   ·rw [if_neg h,if_neg (by omega)]
theorem rowD_len (n:Nat) (ps:List Pr) (a:Int):(Sp.rowD n ps a).length=n:=by unfold Sp.rowD;simp
theorem rowD_get {n:Nat} {ps:List Pr} {a:Int} {b:Nat} (hb:b < n):(Sp.rowD n ps a).getD b default = true ↔ Sp.dep ps a b:=by
 unfold Sp.rowD
 rw [List.getD_eq_getElem?_getD,List.getElem?_map,List.getElem?_range hb]
 exact @decide_eq_true_iff _ (Classical.propDecidable _)
theorem tab_row {n:Nat} {ps:List Pr}:Sp.tab n ps=(List.range n).map fun (a:Nat)=>Sp.rowD n ps a:=rfl
theorem put1_get {m:List Bool} {k b:Nat} (hb:b < m.length):(Sp.put1 m k).getD b default = true ↔ b = k \/ m.getD b default = true:=by
 unfold Sp.put1
 rw [List.getD_eq_getElem?_getD,List.getElem?_set]
 by_cases e:k = b
 ·subst e
  rw [if_pos rfl,if_pos hb];simp
 ·rw [if_neg e,<- List.getD_eq_getElem?_getD]
  exact ⟨fun h => .inr h,fun h => h.resolve_left fun x => e x.symm⟩
theorem rowK_step {n:Nat} {ps:List Pr} {l:List Int} {m:List Bool} {k:Int} (h:Sp.rowK n ps l m) (hk:0 <= k /\ k < n):Sp.rowK n ps (l ++ [k]) (Sp.orR (Sp.put1 m k.toNat) (Sp.rowD n ps k) n):=by
 obtain ⟨hl,hm⟩:=h
 have hpl:(Sp.put1 m k.toNat).length = n:=by unfold Sp.put1;rw [List.length_set];exact hl
 refine ⟨by rw [orR_len];exact hpl,fun b hb => ?_⟩
 rw [orR_get n b (by omega) (by omega),if_pos hb,Bool.or_eq_true,put1_get (by omega),rowD_get hb,hm b hb]
 constructor
 ·rintro ((e | ⟨j,hj,h⟩) | h)
  ·exact ⟨k,by simp,.inl (by omega)⟩
  ·exact ⟨j,List.mem_append_left _ hj,h⟩
  ·exact ⟨k,by simp,.inr h⟩
 ·rintro ⟨j,hj,h⟩
  rcases List.mem_append.1 hj with hj | hj
  ·exact .inl (.inr ⟨j,hj,h⟩)
  ·rw [List.mem_singleton] at hj
   subst hj
   rcases h with h | h
   ·exact .inl (.inl (by omega))
   ·exact .inr h
theorem rowK_nil (n:Nat) (ps:List Pr):Sp.rowK n ps [] (List.replicate n false):=⟨by simp,fun b hb => by
 rw [List.getD_eq_getElem?_getD,List.getElem?_replicate,if_pos hb];simp⟩
theorem rowK_end {n:Nat} {ps:List Pr} {a:Int} {m:List Bool} (h:Sp.rowK n ps (Sp.bhl ps a) m):m = Sp.rowD n ps a:=by
 obtain ⟨hl,hm⟩:=h
 apply List.ext_getElem (by rw [hl,rowD_len])
 intro b h1 h2
 have e1:m.getD b default = m[b]:=by rw [List.getD_eq_getElem?_getD,List.getElem?_eq_getElem h1];rfl
 have e2:(Sp.rowD n ps a).getD b default = (Sp.rowD n ps a)[b]:=by rw [List.getD_eq_getElem?_getD,List.getElem?_eq_getElem h2];rfl
 rw [<- e1,<- e2,Bool.eq_iff_iff,hm b (by omega),rowD_get (by omega)]
 constructor
 ·rintro ⟨k,hk,h⟩
  have:=Zc6.1 hk
  rcases h with rfl | h
  ·exact .one this
  ·exact .cons this h
 ·intro h
  cases h with
  | one e => exact ⟨_,Zc6.2 e,.inl rfl⟩
  | cons e d => exact ⟨_,Zc6.2 e,.inr d⟩
end Go.Av

namespace Go.Av
def Zeb (c:Code) (p:List Nat):Code:=match atC c p with
 | .code b :: _ => b
 | _ => .skip
theorem Mx.renV {N:Mach} {env:Vars} {L:Heap} {U:Nat} {p q:Nat} (hp:U <= p) (hq:U <= q) (henv:(rowsL (env.map (·.2))).all (fun r => Nat.blt r U) = true):Go.Av.renV (swp p q) env = env:=by
 have hE:∀ r ∈ rowsL (env.map (·.2)),r < U:=fun r hr => Nat.blt_eq.mp (List.all_eq_true.1 henv r hr)
 unfold Go.Av.renV
 have:env.map (fun e => (e.1,renA (swp p q) e.2)) = env.map id:=List.map_congr_left fun e he => by
  have:∀ r ∈ rowsA e.2,swp p q r = (fun r => r) r:=fun r hr => ZcO hp hq (hE r (by
   have hm:e.2 ∈ env.map (·.2):=List.mem_map_of_mem he
   obtain ⟨i,hi⟩:=List.getElem?_of_mem hm
   exact ZaU hi hr))
  rw [renA_ext e.2 this,renA_id];rfl
 rw [this,List.map_id]
theorem wp_focusI {N:Mach} {fi:Fi} {k:List Item} {env:Vars} {L:Heap} {U:Nat} {os:List Nat} {C:Nat -> List AV} {cv:Nat -> Nat} {M:Nat -> List (Option Row)} {ρ:Nat -> Nat -> Nat} {W:Heap -> Prop}
  (hW:∀ (p q:Nat) (L1:Heap),U <= p -> U <= q -> p < L1.length -> q < L1.length -> W L1 -> W (swH p q L1)) (h:Mx U os L C cv M ρ) (henv:(rowsL (env.map (·.2))).all (fun r => Nat.blt r U) = true) {u a p:Nat} (hu:u ∈ os) {ra:Row} (ha:(M u)[a]? = some (some ra)) (hp:U <= p) (hpl:p < L.length) {l0:Nat} (hl0:l0 <= L.length)
  (H:∀ L' C' ρ',Mx U os L' C' cv M ρ' -> L'.length = L.length -> L'[p]? = some ra -> ρ' u a = p -> (∀ w ∈ os,∀ (j:Nat) (r:Row),(M w)[j]? = some (some r) -> ρ w j ≠ p -> ρ w j ≠ ρ u a -> ρ' w j = ρ w j) -> (∀ (r:Nat),r < U -> r ∉ os -> L'[r]? = L[r]?) -> Wp N (.run fi k env L') (fun _ L1 => L'.length <= L1.length /\ W L1)):Wp N (.run fi k env L) (fun _ L1 => l0 <= L1.length /\ W L1):=by
 obtain ⟨e1,e2,e3⟩:=h.hit u hu a ra ha
 have hql:=(List.getElem?_eq_some_iff.1 e2).1
 have hE:∀ r ∈ rowsL (env.map (·.2)),r < U:=fun r hr => Nat.blt_eq.mp (List.all_eq_true.1 henv r hr)
 have hlen:=h.len
 refine wp_swapQ (p:=p) (q:=ρ u a) hpl hql (fun r hr => by have:=hE r hr;omega) h.refs ?_
 rw [Mx.renV (N:=N) (L:=L) hp e3 henv]
 have hs:=h.swap hp e3 hpl hql
 refine .mono (H _ _ _ hs (ZcP ..) ?_ (swp_q ..) (fun w hw j r hm n1 n2 => Zch n1 n2) (fun r hr hno => ?_)) fun v L1 ⟨h1,h2⟩ => ?_
 ·have:=(hs.hit u hu a ra ha).2.1
  rw [swp_q] at this;exact this
 ·have hrl:r < L.length:=by omega
  have:=ZdD hpl hql (List.getElem?_eq_getElem hrl)
  rw [ZcO hp e3 hr,Ze0 hp e3 (h.fix r _ hr hno (List.getElem?_eq_getElem hrl))] at this
  rw [this,List.getElem?_eq_getElem hrl]
 ·rw [ZcP] at h1
  exact ⟨h1,by rw [ZcP];omega,hW _ _ _ hp e3 (by omega) (by omega) h2⟩
end Go.Av

namespace Go.Av
open Go.Proofs
set_option maxRecDepth 100000
def fi45:Fi:=⟨84,[.tmp 4,.tmp 5]⟩
def kp45:List (Nat × List Nat):=[(0,[1,2,4,5]),(1,[1,2,4,5,6,7]),(2,[1,2,4,5,6,7,23]),(3,[4,5]),(4,[2,4,5,6,8]),(5,[2,4,5,6,8,9]),(6,[2,4,5,8,9,31]),(7,[2,4,5,8,9,11]),(8,[4,5,8,9,11]),(9,[4,5,9,11,43,44,45]),(10,[4,5,9,11,43,44,45,46]),(11,[4,5,9,11,13,43,44,45]),(12,[4,5,9,11,13,43,44,45]),(13,[4,5,9,11,43,44,45,58,59,60]),(14,[4,5,9,11,43,44,45,58,59,60,61]),(15,[4,5,9,11,14,15,43,44,45,58,59,60]),(16,[4,5,9,11,43,44,45,58,59,60]),(17,[4,5,9,11,43,44,45,58,59,60]),(18,[4,5,9,11,43,44,45]),(19,[4,5])]
def rcS_at (n:Int) (f:Bool) (ps:List Pr) (Q:AV->Heap->Prop):Prop:=Wp M1 (.run fi45 (atC (cd Try.f45) []) [(0,.int .i64 n),(1,.vec f 2 (ps.map Pr.v))] []) Q
def rcB_at (n:Int) (fb ft:Bool) (B T:List Iw) (C:List AV) (R:Heap) (i:Int) (Q:AV->Heap->Prop):Prop:=Wp M1 (.run fi45 (atC (Zeb (cd Try.f45) [1,1,1,1,1,0,1,0,1]) []) [(2,.ptr 0 0 0 0),(4,.vnil),(5,.int .i64 0),(8,.ptr 1 0 0 0),(9,.ptr 3 0 0 0),(11,.int .i64 i)] (⟨[.int .i64 n],1,0,false,false⟩::⟨[.agg [.vec fb 1 (B.map Iw.a),.vec ft 1 (T.map Iw.a)]],2,0,false,false⟩::⟨C,1,0,false,false⟩::⟨[.row 2 0],1,0,false,false⟩::R)) Q
def rcB0_at (n:Int) (fb ft:Bool) (B T:List Iw) (C:List AV) (R:Heap) (i:Int) (Q:AV->Heap->Prop):Prop:=Wp M1 (.run fi45 (atC (Zeb (cd Try.f45) [1,1,1,1,1,0,1,0,1]) []) [(2,.ptr 0 0 0 0),(4,.vnil),(5,.int .i64 0),(8,.ptr 1 0 0 0),(9,.ptr 3 0 0 0),(11,.int .i64 i)] (⟨[.int .i64 n],1,0,false,false⟩::⟨[.agg [.vec fb 1 (B.map Iw.a),.vec ft 1 (T.map Iw.a)]],2,0,false,false⟩::⟨C,1,0,false,true⟩::⟨[.row 2 0],1,0,false,false⟩::R)) Q
def Ze4 (n:Int) (fb ft:Bool) (B T:List Iw) (C:List AV) (R:Heap) (i:Int) (g:Bool) (l:List Int) (m j:Int) (Q:AV->Heap->Prop):Prop:=Wp M1 (.run fi45 (atC (Zeb (cd Try.f45) [1,1,1,1,1,0,1,0,1]) [0,1,1,0,0]) [(4,.vnil),(5,.int .i64 0),(9,.ptr 3 0 0 0),(11,.int .i64 i),(43,.vec g 1 (l.map (.int .i64))),(44,.int .i64 m),(45,.int .i64 j)] (⟨[.int .i64 n],1,0,false,false⟩::⟨[.agg [.vec fb 1 (B.map Iw.a),.vec ft 1 (T.map Iw.a)]],2,0,false,false⟩::⟨C,1,0,false,false⟩::⟨[.row 2 0],1,0,false,false⟩::R)) Q
def rcT_at (n:Int) (fb ft:Bool) (B T:List Iw) (C:List AV) (R:Heap) (i:Int) (g:Bool) (l:List Int) (m j:Int) (x:Int) (p o:List Bool) (Q:AV->Heap->Prop):Prop:=Wp M1 (.run fi45 (atC (Zeb (cd Try.f45) [1,1,1,1,1,0,1,0,1]) [0,1,1,0,0,1,1,0,0,1,0]) [(4,.vnil),(5,.int .i64 0),(9,.ptr 3 0 0 0),(11,.int .i64 i),(13,.int .i64 x),(43,.vec g 1 (l.map (.int .i64))),(44,.int .i64 m),(45,.int .i64 j)] (⟨[.int .i64 n],1,0,false,false⟩::⟨[.agg [.vec fb 1 (B.map Iw.a),.vec ft 1 (T.map Iw.a)]],2,0,false,false⟩::⟨C,1,0,false,false⟩::⟨[.row 2 0],1,0,false,false⟩::⟨p.map (.bool),1,0,false,true⟩::⟨o.map (.bool),1,0,false,true⟩::R)) Q
def rcI_at (n:Int) (fb ft:Bool) (B T:List Iw) (C:List AV) (R:Heap) (i:Int) (g:Bool) (l:List Int) (m j:Int) (p o:List Bool) (q b:Int) (Q:AV->Heap->Prop):Prop:=Wp M1 (.run fi45 (atC (Zeb (cd Try.f45) [1,1,1,1,1,0,1,0,1]) [0,1,1,0,0,1,1,0,0,1,1,1,0,0]) [(4,.vnil),(5,.int .i64 0),(9,.ptr 3 0 0 0),(11,.int .i64 i),(43,.vec g 1 (l.map (.int .i64))),(44,.int .i64 m),(45,.int .i64 j),(58,.row 5 0),(59,.int .i64 q),(60,.int .i64 b)] (⟨[.int .i64 n],1,0,false,false⟩::⟨[.agg [.vec fb 1 (B.map Iw.a),.vec ft 1 (T.map Iw.a)]],2,0,false,false⟩::⟨C,1,0,false,false⟩::⟨[.row 2 0],1,0,false,false⟩::⟨p.map (.bool),1,0,false,true⟩::⟨o.map (.bool),1,0,false,true⟩::R)) Q
def rcE_at (n:Int) (fb ft:Bool) (B T:List Iw) (C:List AV) (R:Heap) (Q:AV->Heap->Prop):Prop:=Wp M1 (.run fi45 (atC (cd Try.f45) [1,1,1,1,1,1]) [(9,.ptr 3 0 0 0)] (⟨[.int .i64 n],1,0,false,false⟩::⟨[.agg [.vec fb 1 (B.map Iw.a),.vec ft 1 (T.map Iw.a)]],2,0,false,false⟩::⟨C,1,0,false,false⟩::⟨[.row 2 0],1,0,false,false⟩::R)) Q
def rcE0_at (n:Int) (fb ft:Bool) (B T:List Iw) (C:List AV) (R:Heap) (Q:AV->Heap->Prop):Prop:=Wp M1 (.run fi45 (atC (cd Try.f45) [1,1,1,1,1,1]) [(9,.ptr 3 0 0 0)] (⟨[.int .i64 n],1,0,false,false⟩::⟨[.agg [.vec fb 1 (B.map Iw.a),.vec ft 1 (T.map Iw.a)]],2,0,false,false⟩::⟨C,1,0,false,true⟩::⟨[.row 2 0],1,0,false,false⟩::R)) Q
theorem rcS (n:Int) (f:Bool) (ps:List Pr)  (Q:AV -> Heap -> Prop) (H :
  ((¬Sp.ZaQ n ps = 0) -> Q (tu [AV.vnil,vi (Sp.ZaQ n ps)]) [{ elems:=[vi n],es:=1,ver:=0,frozen:=false,clean:=false }]) /\
  (¬(¬Sp.ZaQ n ps = 0) -> (Sp.vd n ps = 0) /\
   (0 <= n) /\
   (n * 24 <= 1099511627776) /\
   (n <= 1099511627776) /\
   Wp M1 (.run fi45 (atC (cd Try.f45) [1,1,1,1,1,0,1,0]) [(2,AV.ptr 0 0 0 0),(4,AV.vnil),(5,vi 0),(8,AV.ptr 1 0 0 0),(9,AV.ptr 3 0 0 0),(31,AV.func (Fn.func 55) [] [AV.eptr 1 [vf (List.map (vi) (Sp.ordL n ps))] 0 0])] [{ elems:=[vi n],es:=1,ver:=0,frozen:=false,clean:=false },{ elems:=[ag [vf (List.map Iw.a (Sp.Zes n.toNat ps)),vf (List.map Iw.a (Sp.ZeE n.toNat ps))]],es:=2,ver:=0,frozen:=false,clean:=false },{ elems:=List.replicate n.toNat AV.vnil,es:=1,ver:=0,frozen:=false,clean:=true },{ elems:=[AV.row 2 0],es:=1,ver:=0,frozen:=false,clean:=false }]) Q)) :
 rcS_at n f ps Q:=by
 unfold rcS_at
 refine Zad (G:=Zaf kp45 [(1,2,.call (tu [vf (List.map (vi) (Sp.ordL n ps)),vi (Sp.ZaQ n ps)]) none)] []) 7 [] ⟨(atC (cd Try.f45) [1,1,0,1]),[(1,AV.vec f 2 (List.map Pr.v ps)),(2,AV.ptr 0 0 0 0),(4,AV.vnil),(5,vi 0),(6,vf (List.map (vi) (Sp.ordL n ps))),(7,vi (Sp.ZaQ n ps)),(23,vb (Sp.ZaQ n ps != 0))],[⟨[vi n],1,0,false,false⟩],_,[],_⟩ (by kernel_rfl) (bc rfl b0) q0 (ce (@ev20 (n) (f) (ps)) c0) ?_
 rcases xq H with ⟨d2,H⟩|⟨d2,H⟩
 ·exact Zbf (G:=Zaf kp45 [] []) 1000 [true] (k:=((atC (cd Try.f45) [1,1,0,1,0,1])).tail) (env':=[(4,AV.vnil),(5,vi (Sp.ZaQ n ps))]) (L':=[⟨[vi n],1,0,false,false⟩]) (asm:=[(Sp.ZaQ n ps != 0) == true]) (eqs:=[]) (calls:=[]) (tu [AV.vnil,vi (Sp.ZaQ n ps)]) (by kernel_rfl) (by kernel_rfl) (Zam (ZaG (i_ne.2 d2)) Zax) Za6 Za7 H
 ·obtain ⟨k3,k5,k8,k10,H⟩:=H
  exact Zad (G:=Zaf kp45 [(4,2,.call (ag [vf (List.map Iw.a (Sp.Zes n.toNat ps)),vf (List.map Iw.a (Sp.ZeE n.toNat ps))]) none),(6,1,.call (AV.func (Fn.func 55) [] [AV.eptr 1 [vf (List.map (vi) (Sp.ordL n ps))] 0 0]) none)] []) 10 [false] ⟨(atC (cd Try.f45) [1,1,1,1,1,0,1,0]),[(2,AV.ptr 0 0 0 0),(4,AV.vnil),(5,vi 0),(8,AV.ptr 1 0 0 0),(9,AV.ptr 3 0 0 0),(31,AV.func (Fn.func 55) [] [AV.eptr 1 [vf (List.map (vi) (Sp.ordL n ps))] 0 0])],[⟨[vi n],1,0,false,false⟩,⟨[ag [vf (List.map Iw.a (Sp.Zes n.toNat ps)),vf (List.map Iw.a (Sp.ZeE n.toNat ps))]],2,0,false,false⟩,⟨List.replicate n.toNat AV.vnil,1,0,false,true⟩,⟨[AV.row 2 0],1,0,false,false⟩],[(Sp.ZaQ n ps != 0) == false,true,true,true,decide (0 <= n),decide (n <= n),decide (n * 24 <= 1099511627776),decide (n <= 1099511627776),true],[],_⟩ (by kernel_rfl) (bc (ZaD (fun h => d2 (i_ne.1 h))) (bc rfl (bc rfl (bc rfl (bc (Zaa.2 k5) (bc (Zaa.2 (by omega)) (bc (Zaa.2 k8) (bc (Zaa.2 k10) (bc rfl b0))))))))) q0 (ce (@ev34 (n) (f) (ps) k3) (ce (@ev53 (false) (Sp.ordL n ps)) c0)) (H)
theorem rcB (n:Int) (fb ft:Bool) (B T:List Iw) (C:List AV) (R:Heap) (i:Int)  (Q:AV -> Heap -> Prop) (H :
  (0 <= n) /\
  (n * 1 <= 1099511627776) /\
  (n <= 1099511627776) /\
  (0 <= i) /\
  (i.toNat < C.length) /\
  (C.get?Internal i.toNat = some AV.vnil) /\
  (i.toNat < T.length) /\
  Ze4 (n) (fb) (ft) (B) (T) (C.set i.toNat (AV.row (List.length R + 1 + 1 + 1 + 1) 0)) (List.append R [{ elems:=List.replicate n.toNat (ofC (Value.bool false)),es:=((fun x => Try.prog) ()).types[4].size,ver:=0,frozen:=false,clean:=true }]) (i) (false) ((T.getD i.toNat default).1) ((↑(T.getD i.toNat default).1.length:Int)) (0) Q) :
 rcB_at n fb ft B T C R i Q:=by
 unfold rcB_at
 obtain ⟨k2,k5,k7,k9,k11,k12,H⟩:=H
 have w14:(List.map Iw.a T).length = T.length:=List.length_map ..
 have i15:(decide (i.toNat < (List.map Iw.a T).length)) = true ↔ (i.toNat < T.length):=(by (try rw [w14]);all_goals exact Zaa)
 obtain ⟨k16,H⟩:=H
 have w17:(List.map (vi) (T.getD i.toNat default).1).length = (T.getD i.toNat default).1.length:=List.length_map ..
 exact Zad (G:=Zaf kp45 [(8,5,(.elem .vnil:Ans)),(9,4,.elem (vf (List.map (vi) (T.getD i.toNat default).1)))] [(8,[4005,4004,500005003,2002,5000])]) 1000 [] ⟨(atC (Zeb (cd Try.f45) [1,1,1,1,1,0,1,0,1]) [0,1,1,0,0]),[(4,AV.vnil),(5,vi 0),(9,AV.ptr 3 0 0 0),(11,vi i),(43,vf (List.map (vi) (T.getD i.toNat default).1)),(44,vi (↑(List.map (vi) (T.getD i.toNat default).1).length:Int)),(45,vi 0)],⟨[vi n],1,0,false,false⟩ :: ⟨[ag [AV.vec fb 1 (List.map Iw.a B),AV.vec ft 1 (List.map Iw.a T)]],2,0,false,false⟩ :: ⟨C.set i.toNat (AV.row (List.length R + 1 + 1 + 1 + 1) 0),1,0,false,false⟩ :: ⟨[AV.row 2 0],1,0,false,false⟩ :: List.append R [⟨List.replicate n.toNat (ofC (Value.bool false)),((fun x => Try.prog) ()).types[4].size,0,false,true⟩],[true,true,decide (0 <= n),decide (n <= n),decide (n * 1 <= 1099511627776),decide (n <= 1099511627776),true,decide (0 <= i),decide (i.toNat < C.length),true,true,decide (0 <= i),decide (i.toNat < (List.map Iw.a T).length)],[(C.get?Internal i.toNat = some AV.vnil),((List.map Iw.a T).get?Internal i.toNat = some (vf (List.map (vi) (T.getD i.toNat default).1)))],_⟩ (by kernel_rfl) (bc rfl (bc rfl (bc (Zaa.2 k2) (bc (Zaa.2 (by omega)) (bc (Zaa.2 k5) (bc (Zaa.2 k7) (bc rfl (bc (Zaa.2 k9) (bc (Zaa.2 k11) (bc rfl (bc rfl (bc (Zaa.2 k9) (bc (i15.2 k16) b0))))))))))))) (qc k12 (qc (ZaC k16) q0)) c0 (by (try rw [w17]);all_goals exact H)
theorem rcB0 (n:Int) (fb ft:Bool) (B T:List Iw) (C:List AV) (R:Heap) (i:Int)  (Q:AV -> Heap -> Prop) (H :
  (0 <= n) /\
  (n * 1 <= 1099511627776) /\
  (n <= 1099511627776) /\
  (0 <= i) /\
  (i.toNat < C.length) /\
  (C.get?Internal i.toNat = some AV.vnil) /\
  (i.toNat < T.length) /\
  Ze4 (n) (fb) (ft) (B) (T) (C.set i.toNat (AV.row (List.length R + 1 + 1 + 1 + 1) 0)) (List.append R [{ elems:=List.replicate n.toNat (ofC (Value.bool false)),es:=((fun x => Try.prog) ()).types[4].size,ver:=0,frozen:=false,clean:=true }]) (i) (false) ((T.getD i.toNat default).1) ((↑(T.getD i.toNat default).1.length:Int)) (0) Q) :
 rcB0_at n fb ft B T C R i Q:=by
 unfold rcB0_at
 obtain ⟨k2,k5,k7,k9,k11,k12,H⟩:=H
 have w14:(List.map Iw.a T).length = T.length:=List.length_map ..
 have i15:(decide (i.toNat < (List.map Iw.a T).length)) = true ↔ (i.toNat < T.length):=(by (try rw [w14]);all_goals exact Zaa)
 obtain ⟨k16,H⟩:=H
 have w17:(List.map (vi) (T.getD i.toNat default).1).length = (T.getD i.toNat default).1.length:=List.length_map ..
 exact Zad (G:=Zaf kp45 [(8,5,(.elem .vnil:Ans)),(9,4,.elem (vf (List.map (vi) (T.getD i.toNat default).1)))] [(8,[4005,4004,500005003,2002,5000])]) 1000 [] ⟨(atC (Zeb (cd Try.f45) [1,1,1,1,1,0,1,0,1]) [0,1,1,0,0]),[(4,AV.vnil),(5,vi 0),(9,AV.ptr 3 0 0 0),(11,vi i),(43,vf (List.map (vi) (T.getD i.toNat default).1)),(44,vi (↑(List.map (vi) (T.getD i.toNat default).1).length:Int)),(45,vi 0)],⟨[vi n],1,0,false,false⟩ :: ⟨[ag [AV.vec fb 1 (List.map Iw.a B),AV.vec ft 1 (List.map Iw.a T)]],2,0,false,false⟩ :: ⟨C.set i.toNat (AV.row (List.length R + 1 + 1 + 1 + 1) 0),1,0,false,false⟩ :: ⟨[AV.row 2 0],1,0,false,false⟩ :: List.append R [⟨List.replicate n.toNat (ofC (Value.bool false)),((fun x => Try.prog) ()).types[4].size,0,false,true⟩],[true,true,decide (0 <= n),decide (n <= n),decide (n * 1 <= 1099511627776),decide (n <= 1099511627776),true,decide (0 <= i),decide (i.toNat < C.length),true,true,decide (0 <= i),decide (i.toNat < (List.map Iw.a T).length)],[(C.get?Internal i.toNat = some AV.vnil),((List.map Iw.a T).get?Internal i.toNat = some (vf (List.map (vi) (T.getD i.toNat default).1)))],_⟩ (by kernel_rfl) (bc rfl (bc rfl (bc (Zaa.2 k2) (bc (Zaa.2 (by omega)) (bc (Zaa.2 k5) (bc (Zaa.2 k7) (bc rfl (bc (Zaa.2 k9) (bc (Zaa.2 k11) (bc rfl (bc rfl (bc (Zaa.2 k9) (bc (i15.2 k16) b0))))))))))))) (qc k12 (qc (ZaC k16) q0)) c0 (by (try rw [w17]);all_goals exact H)
theorem rcL (n:Int) (fb ft:Bool) (B T:List Iw) (C:List AV) (R:Heap) (i:Int) (g:Bool) (l:List Int) (m j:Int)  (Q:AV -> Heap -> Prop) (H :
  ((j < m) -> (0 <= j) /\
   (j.toNat < l.length) /\
   Wp M1 (.run fi45 (atC (Zeb (cd Try.f45) [1,1,1,1,1,0,1,0,1]) [0,1,1,0,0,1,1,0,0,1,0]) [(4,AV.vnil),(5,vi 0),(9,AV.ptr 3 0 0 0),(11,vi i),(13,vi (l.getD j.toNat default)),(43,AV.vec g 1 (List.map (vi) l)),(44,vi m),(45,vi j)] ({ elems:=[vi n],es:=1,ver:=0,frozen:=false,clean:=false } :: { elems:=[ag [AV.vec fb 1 (List.map Iw.a B),AV.vec ft 1 (List.map Iw.a T)]],es:=2,ver:=0,frozen:=false,clean:=false } :: { elems:=C,es:=1,ver:=0,frozen:=false,clean:=false } :: { elems:=[AV.row 2 0],es:=1,ver:=0,frozen:=false,clean:=false } :: R)) Q) /\
  (¬(j < m) -> Q (tu [AV.vnil,vi 0]) ({ elems:=[vi n],es:=1,ver:=0,frozen:=false,clean:=false } :: { elems:=[ag [AV.vec fb 1 (List.map Iw.a B),AV.vec ft 1 (List.map Iw.a T)]],es:=2,ver:=0,frozen:=false,clean:=false } :: { elems:=C,es:=1,ver:=0,frozen:=false,clean:=false } :: { elems:=[AV.row 2 0],es:=1,ver:=0,frozen:=false,clean:=false } :: R))) :
 Ze4 n fb ft B T C R i g l m j Q:=by
 unfold Ze4
 rcases xq H with ⟨d2,H⟩|⟨d2,H⟩
 ·obtain ⟨k4,H⟩:=H
  have w5:(List.map (vi) l).length = l.length:=List.length_map ..
  have i6:(decide (j.toNat < (List.map (vi) l).length)) = true ↔ (j.toNat < l.length):=(by (try rw [w5]);all_goals exact Zaa)
  obtain ⟨k7,H⟩:=H
  exact Zad (G:=Zaf kp45 [(11,1,.elem (vi (l.getD j.toNat default)))] []) 10 [true] ⟨(atC (Zeb (cd Try.f45) [1,1,1,1,1,0,1,0,1]) [0,1,1,0,0,1,1,0,0,1,0]),[(4,AV.vnil),(5,vi 0),(9,AV.ptr 3 0 0 0),(11,vi i),(13,vi (l.getD j.toNat default)),(43,AV.vec g 1 (List.map (vi) l)),(44,vi m),(45,vi j)],⟨[vi n],1,0,false,false⟩ :: ⟨[ag [AV.vec fb 1 (List.map Iw.a B),AV.vec ft 1 (List.map Iw.a T)]],2,0,false,false⟩ :: ⟨C,1,0,false,false⟩ :: ⟨[AV.row 2 0],1,0,false,false⟩ :: R,_,[((List.map (vi) l).get?Internal j.toNat = some (vi (l.getD j.toNat default)))],_⟩ (by kernel_rfl) (bc (ZaG (Zaa.2 d2)) (bc (Zaa.2 k4) (bc (i6.2 k7) b0))) (qc (ZaC k7) q0) c0 (H)
 ·exact path_end (G:=Zaf kp45 [] []) 1000 [false] (env':=[(4,AV.vnil),(5,vi 0),(9,AV.ptr 3 0 0 0),(11,vi i),(43,AV.vec g 1 (List.map (vi) l)),(44,vi m),(45,vi j),(46,vb (decide (j < m)))]) (L':=⟨[vi n],1,0,false,false⟩ :: ⟨[ag [AV.vec fb 1 (List.map Iw.a B),AV.vec ft 1 (List.map Iw.a T)]],2,0,false,false⟩ :: ⟨C,1,0,false,false⟩ :: ⟨[AV.row 2 0],1,0,false,false⟩ :: R) (asm:=[(decide (j < m)) == false]) (eqs:=[]) (calls:=[]) (tu [AV.vnil,vi 0]) (by kernel_rfl) (by kernel_rfl) (Zam (ZaD (fun h => d2 (Zaa.1 h))) Zax) Za6 Za7 H
theorem rcT (n:Int) (fb ft:Bool) (B T:List Iw) (C:List AV) (R:Heap) (i:Int) (g:Bool) (l:List Int) (m j:Int) (x:Int) (p o:List Bool)  (Q:AV -> Heap -> Prop) (H :
  (0 <= i) /\
  (i.toNat < C.length) /\
  (0 <= x) /\
  (x.toNat < p.length) /\
  (C.get?Internal i.toNat = some (AV.row 4 0)) /\
  (x.toNat < C.length) /\
  (C.get?Internal x.toNat = some (AV.row 5 0)) /\
  rcI_at (n) (fb) (ft) (B) (T) (C) (R) (i) (g) (l) (m) (j) (p.set x.toNat true) (o) ((↑o.length:Int)) (0) Q) :
 rcT_at n fb ft B T C R i g l m j x p o Q:=by
 unfold rcT_at
 obtain ⟨k2,k4,k6,H⟩:=H
 have w7:(List.map vb p).length = p.length:=List.length_map ..
 have i8:(decide (x.toNat < (List.map vb p).length)) = true ↔ (x.toNat < p.length):=(by (try rw [w7]);all_goals exact Zaa)
 obtain ⟨k9,k10,H⟩:=H
 have w11:(List.map vb p).set x.toNat (vb true) = List.map vb (p.set x.toNat true):=(Zfi rfl rfl)
 obtain ⟨k14,k15,H⟩:=H
 have w16:(List.map vb o).length = o.length:=List.length_map ..
 exact Zad (G:=Zaf kp45 [(12,3,(.elem (.row 4 0):Ans)),(12,6,.elem (vb (p.getD x.toNat default))),(13,3,(.elem (.row 5 0):Ans))] []) 1000 [] ⟨(atC (Zeb (cd Try.f45) [1,1,1,1,1,0,1,0,1]) [0,1,1,0,0,1,1,0,0,1,1,1,0,0]),[(4,AV.vnil),(5,vi 0),(9,AV.ptr 3 0 0 0),(11,vi i),(43,AV.vec g 1 (List.map (vi) l)),(44,vi m),(45,vi j),(58,AV.row 5 0),(59,vi (↑(List.map vb o).length:Int)),(60,vi 0)],⟨[vi n],1,0,false,false⟩ :: ⟨[ag [AV.vec fb 1 (List.map Iw.a B),AV.vec ft 1 (List.map Iw.a T)]],2,0,false,false⟩ :: ⟨C,1,0,false,false⟩ :: ⟨[AV.row 2 0],1,0,false,false⟩ :: ⟨(List.map vb p).set x.toNat (vb true),1,0,false,true⟩ :: ⟨List.map vb o,1,0,false,true⟩ :: R,_,[(C.get?Internal i.toNat = some (AV.row 4 0)),((List.map vb p).get?Internal x.toNat = some (vb (p.getD x.toNat default))),(C.get?Internal x.toNat = some (AV.row 5 0))],_⟩ (by kernel_rfl) (bc rfl (bc rfl (bc (Zaa.2 k2) (bc (Zaa.2 k4) (bc rfl (bc rfl (bc (Zaa.2 k6) (bc (i8.2 k9) (bc rfl (bc rfl (bc rfl (bc (Zaa.2 k6) (bc (Zaa.2 k14) (bc rfl (bc rfl b0))))))))))))))) (qc k10 (qc (ZaC k9) (qc k15 q0))) c0 (by (try rw [w11]);(try rw [w16]);all_goals exact H)
theorem rcI (n:Int) (fb ft:Bool) (B T:List Iw) (C:List AV) (R:Heap) (i:Int) (g:Bool) (l:List Int) (m j:Int) (p o:List Bool) (q b:Int)  (Q:AV -> Heap -> Prop) (H :
  ((b < q) -> (0 <= b) /\
   (b.toNat < o.length) /\
   (0 <= i) /\
   (i.toNat < C.length) /\
   (b.toNat < p.length) /\
   (C.get?Internal i.toNat = some (AV.row 4 0)) /\
   (-9223372036854775808 <= b + 1 /\ b + 1 <= 9223372036854775807) /\
   rcI_at (n) (fb) (ft) (B) (T) (C) (R) (i) (g) (l) (m) (j) (p.set b.toNat (bif p.getD b.toNat default then true else o.getD b.toNat default)) (o) (q) (b + 1) Q) /\
  (¬(b < q) -> (-9223372036854775808 <= j + 1 /\ j + 1 <= 9223372036854775807) /\
   Ze4 (n) (fb) (ft) (B) (T) (C) ({ elems:=List.map vb p,es:=1,ver:=0,frozen:=false,clean:=true } :: { elems:=List.map vb o,es:=1,ver:=0,frozen:=false,clean:=true } :: R) (i) (g) (l) (m) (j + 1) Q)) :
 rcI_at n fb ft B T C R i g l m j p o q b Q:=by
 unfold rcI_at
 rcases xq H with ⟨d2,H⟩|⟨d2,H⟩
 ·obtain ⟨k4,H⟩:=H
  have w5:(List.map vb o).length = o.length:=List.length_map ..
  have i6:(decide (b.toNat < (List.map vb o).length)) = true ↔ (b.toNat < o.length):=(by (try rw [w5]);all_goals exact Zaa)
  obtain ⟨k7,k9,k11,H⟩:=H
  have w15:(List.map vb p).length = p.length:=List.length_map ..
  have i16:(decide (b.toNat < (List.map vb p).length)) = true ↔ (b.toNat < p.length):=(by (try rw [w15]);all_goals exact Zaa)
  obtain ⟨k17,H⟩:=H
  have i19:(decide (b.toNat < (List.map vb p).length)) = true ↔ (b.toNat < p.length):=(by (try rw [w15]);all_goals exact Zaa)
  obtain ⟨k20,H⟩:=H
  have w21:(List.map vb p).set b.toNat (vb (bif p.getD b.toNat default then true else o.getD b.toNat default)) = List.map vb (p.set b.toNat (bif p.getD b.toNat default then true else o.getD b.toNat default)):=(Zfi rfl rfl)
  obtain ⟨k22,H⟩:=H
  have w23:wi (b + 1) = b + 1:=wI64 k22
  exact Zad (G:=Zaf kp45 [(15,2,.elem (vb (o.getD b.toNat default))),(16,3,(.elem (.row 4 0):Ans)),(16,8,(.elem (.row 4 0):Ans)),(16,11,.elem (vb (p.getD b.toNat default))),(16,16,.elem (vb (p.getD b.toNat default)))] []) 1000 [true] ⟨(atC (Zeb (cd Try.f45) [1,1,1,1,1,0,1,0,1]) [0,1,1,0,0,1,1,0,0,1,1,1,0,0]),[(4,AV.vnil),(5,vi 0),(9,AV.ptr 3 0 0 0),(11,vi i),(43,AV.vec g 1 (List.map (vi) l)),(44,vi m),(45,vi j),(58,AV.row 5 0),(59,vi q),(60,vi (wi (b + 1)))],⟨[vi n],1,0,false,false⟩ :: ⟨[ag [AV.vec fb 1 (List.map Iw.a B),AV.vec ft 1 (List.map Iw.a T)]],2,0,false,false⟩ :: ⟨C,1,0,false,false⟩ :: ⟨[AV.row 2 0],1,0,false,false⟩ :: ⟨(List.map vb p).set b.toNat (vb (bif p.getD b.toNat default then true else o.getD b.toNat default)),1,0,false,true⟩ :: ⟨List.map vb o,1,0,false,true⟩ :: R,_,[((List.map vb o).get?Internal b.toNat = some (vb (o.getD b.toNat default))),(C.get?Internal i.toNat = some (AV.row 4 0)),(C.get?Internal i.toNat = some (AV.row 4 0)),((List.map vb p).get?Internal b.toNat = some (vb (p.getD b.toNat default))),((List.map vb p).get?Internal b.toNat = some (vb (p.getD b.toNat default)))],_⟩ (by kernel_rfl) (bc (ZaG (Zaa.2 d2)) (bc rfl (bc (Zaa.2 k4) (bc (i6.2 k7) (bc rfl (bc rfl (bc rfl (bc (Zaa.2 k9) (bc (Zaa.2 k11) (bc rfl (bc rfl (bc rfl (bc (Zaa.2 k9) (bc (Zaa.2 k11) (bc rfl (bc rfl (bc (Zaa.2 k4) (bc (i16.2 k17) (bc rfl (bc rfl (bc (Zaa.2 k4) (bc (i19.2 k17) (bc rfl b0))))))))))))))))))))))) (qc (ZaC k7) (qc k20 (qc k20 (qc (ZaC k17) (qc (ZaC k17) q0))))) c0 (by (try rw [w21]);(try rw [w23]);all_goals exact H)
 ·obtain ⟨k24,H⟩:=H
  have w25:wi (j + 1) = j + 1:=wI64 k24
  exact Zad (G:=Zaf kp45 [] []) 1000 [false] ⟨(atC (Zeb (cd Try.f45) [1,1,1,1,1,0,1,0,1]) [0,1,1,0,0]),[(4,AV.vnil),(5,vi 0),(9,AV.ptr 3 0 0 0),(11,vi i),(43,AV.vec g 1 (List.map (vi) l)),(44,vi m),(45,vi (wi (j + 1)))],⟨[vi n],1,0,false,false⟩ :: ⟨[ag [AV.vec fb 1 (List.map Iw.a B),AV.vec ft 1 (List.map Iw.a T)]],2,0,false,false⟩ :: ⟨C,1,0,false,false⟩ :: ⟨[AV.row 2 0],1,0,false,false⟩ :: ⟨List.map vb p,1,0,false,true⟩ :: ⟨List.map vb o,1,0,false,true⟩ :: R,_,[],_⟩ (by kernel_rfl) (bc (ZaD (fun h => d2 (Zaa.1 h))) b0) q0 c0 (by (try rw [w25]);all_goals exact H)
theorem rcE (n:Int) (fb ft:Bool) (B T:List Iw) (C:List AV) (R:Heap)  (Q:AV -> Heap -> Prop) (H :
  Q (tu [AV.row 2 0,vi 0]) ({ elems:=[vi n],es:=1,ver:=0,frozen:=false,clean:=false } :: { elems:=[ag [AV.vec fb 1 (List.map Iw.a B),AV.vec ft 1 (List.map Iw.a T)]],es:=2,ver:=0,frozen:=false,clean:=false } :: { elems:=C,es:=1,ver:=0,frozen:=false,clean:=false } :: { elems:=[AV.row 2 0],es:=1,ver:=0,frozen:=false,clean:=false } :: R)) :
 rcE_at n fb ft B T C R Q:=by
 unfold rcE_at
 exact Zbf (G:=Zaf kp45 [] []) 1000 [] (k:=((atC (cd Try.f45) [1,1,1,1,1,1,1])).tail) (env':=[(4,AV.row 2 0),(5,vi 0)]) (L':=⟨[vi n],1,0,false,false⟩ :: ⟨[ag [AV.vec fb 1 (List.map Iw.a B),AV.vec ft 1 (List.map Iw.a T)]],2,0,false,false⟩ :: ⟨C,1,0,false,false⟩ :: ⟨[AV.row 2 0],1,0,false,false⟩ :: R) (asm:=[true]) (eqs:=[]) (calls:=[]) (tu [AV.row 2 0,vi 0]) (by kernel_rfl) (by kernel_rfl) (Zam rfl Zax) Za6 Za7 H
theorem rcE0 (n:Int) (fb ft:Bool) (B T:List Iw) (C:List AV) (R:Heap)  (Q:AV -> Heap -> Prop) (H :
  Q (tu [AV.row 2 0,vi 0]) ({ elems:=[vi n],es:=1,ver:=0,frozen:=false,clean:=false } :: { elems:=[ag [AV.vec fb 1 (List.map Iw.a B),AV.vec ft 1 (List.map Iw.a T)]],es:=2,ver:=0,frozen:=false,clean:=false } :: { elems:=C,es:=1,ver:=0,frozen:=false,clean:=true } :: { elems:=[AV.row 2 0],es:=1,ver:=0,frozen:=false,clean:=false } :: R)) :
 rcE0_at n fb ft B T C R Q:=by
 unfold rcE0_at
 exact Zbf (G:=Zaf kp45 [] []) 1000 [] (k:=((atC (cd Try.f45) [1,1,1,1,1,1,1])).tail) (env':=[(4,AV.row 2 0),(5,vi 0)]) (L':=⟨[vi n],1,0,false,false⟩ :: ⟨[ag [AV.vec fb 1 (List.map Iw.a B),AV.vec ft 1 (List.map Iw.a T)]],2,0,false,false⟩ :: ⟨C,1,0,false,true⟩ :: ⟨[AV.row 2 0],1,0,false,false⟩ :: R) (asm:=[true]) (eqs:=[]) (calls:=[]) (tu [AV.row 2 0,vi 0]) (by kernel_rfl) (by kernel_rfl) (Zam rfl Zax) Za6 Za7 H
end Go.Av

namespace Go.Av
open Go.Proofs
abbrev bR (m:List Bool):Row:=⟨m.map .bool,1,0,false,true⟩
abbrev rN (n:Int):Row:=⟨[.int .i64 n],1,0,false,false⟩
abbrev rR (n:Nat) (ps:List Pr):Row:=⟨[.agg [.vec false 1 ((Sp.Zes n ps).map Iw.a),.vec false 1 ((Sp.ZeE n ps).map Iw.a)]],2,0,false,false⟩
abbrev rO:Row:=⟨[.row 2 0],1,0,false,false⟩
abbrev rcH (n:Nat) (ps:List Pr) (C:List AV) (R:Heap):Heap:=rN n::rR n ps::⟨C,1,0,false,false⟩::rO::R
abbrev MX (L:Heap) (C:List AV) (M:List (Option Row)) (ρ:Nat->Nat):Prop:=Mx 4 [2] L (fun _=>C) (fun _=>0) (fun _=>M) (fun _=>ρ)
def rcM (n:Nat) (ps:List Pr) (l:List Int) (M:List (Option Row)):Prop:=M.length=n /\ ∀ a:Nat,a<n->M[a]? = some (if (a:Int) ∈ l then some (bR (Sp.rowD n ps a)) else none)
def RcJ (n:Nat) (ps:List Pr) (l:List Int) (L:Heap):Prop:=∃ C R M ρ,L=rcH n ps C R/\MX L C M ρ/\rcM n ps l M
section
variable {n:Nat} {ps:List Pr} {l:List Int}
theorem rc_refs {n:Nat} {ps:List Pr} {C:List AV} {R:Heap} (r:Nat) (row:Row) (hr:r < 4) (hno:r ∉ [2]) (h:(rcH n ps C R)[r]? = some row):∀ s ∈ Zae row,s < 4:=by
 have:r = 0 \/ r = 1 \/ r = 3:=by
  simp only [List.mem_cons,List.not_mem_nil,or_false] at hno
  omega
 rcases this with rfl | rfl | rfl
 ·have e:row = rN n:=(Option.some.inj h).symm
  subst e;intro s hs;simp [Zae,rowsL,rowsA] at hs
 ·have e:row = rR n ps:=(Option.some.inj h).symm
  subst e;intro s hs;simp [Zae,rowsL,rowsA] at hs
 ·have e:row = rO:=(Option.some.inj h).symm
  subst e;intro s hs;simp [Zae,rowsL,rowsA] at hs;omega
theorem Zf2 {L:Heap} {C:Nat -> List AV} {M:Nat -> List (Option Row)} {ρ:Nat -> Nat -> Nat} (h:Mx 4 [2] L C (fun _ => 0) M ρ):MX L (C 2) (M 2) (ρ 2):=
 h.congr fun u hu => by
  rw [List.mem_singleton] at hu;subst hu
  exact ⟨rfl,rfl,rfl,fun _ => rfl⟩
theorem rc_shape {C C':List AV} {R L':Heap} {M:List (Option Row)} {ρ:Nat -> Nat} (h:MX L' C' M ρ) (hf:∀ r,r < 4 -> r ∉ [2] -> L'[r]? = (rcH n ps C R)[r]?):∃ R',L' = rcH n ps C' R':=by
 have h2:=(Mx.out h 2 (by simp)).1
 have h0:=hf 0 (by omega) (by simp)
 have h1:=hf 1 (by omega) (by simp)
 have h3:=hf 3 (by omega) (by simp)
 obtain ⟨R',e⟩:=Zds (k:=4) (L:=L') (P:=rcH n ps C' []) rfl fun r hr => by
  have:r = 0 \/ r = 1 \/ r = 2 \/ r = 3:=by omega
  rcases this with rfl | rfl | rfl | rfl
  ·exact h0
  ·exact h1
  ·exact h2
  ·exact h3
 exact ⟨R',e⟩
theorem rcJ_swap (p q:Nat) (L:Heap) (hp:4 <= p) (hq:4 <= q) (hpl:p < L.length) (hql:q < L.length) (h:RcJ n ps l L):RcJ n ps l (swH p q L):=by
 obtain ⟨C,R,M,ρ,rfl,hx,hM⟩:=h
 have hs:=Zf2 (hx.swap hp hq hpl hql)
 obtain ⟨R',e⟩:=rc_shape (n:=n) (ps:=ps) (C:=C) (R:=R) hs fun r hr hno => by
  have hrl:r < (rcH n ps C R).length:=by show r < _ + 4;omega
  have:=ZdD hpl hql (List.getElem?_eq_getElem hrl)
  rw [ZcO hp hq hr,Ze0 hp hq (rc_refs r _ hr hno (List.getElem?_eq_getElem hrl))] at this
  rw [this,List.getElem?_eq_getElem hrl]
 exact ⟨_,R',M,_,e,hs,hM⟩
theorem rcI_loop {n:Nat} {ps:List Pr} {Q:AV -> Heap -> Prop} {C:List AV} {R:Heap} {i:Int} {l:List Int} {m j:Int} {p0 o:List Bool} (hi:0 <= i) (hiC:i.toNat < C.length) (hC:C[i.toNat]? = some (.row 4 0)) (hp:p0.length = n) (ho:o.length = n) (hn:n <= 1000) (hj:-1 <= j /\ j <= 1000000)
  (H:Ze4 n false false (Sp.Zes n ps) (Sp.ZeE n ps) C (bR (Sp.orR p0 o n) :: bR o :: R) i false l m (j + 1) Q) :
  ∀ (c b:Nat),b + c = n -> rcI_at n false false (Sp.Zes n ps) (Sp.ZeE n ps) C R i false l m j (Sp.orR p0 o b) o (n:Int) (b:Int) Q:=by
 intro c
 induction c with
 | zero =>
  intro b hb
  rw [show b = n by omega]
  exact rcI _ _ _ _ _ _ _ _ _ _ _ _ _ _ _ _ _ ⟨fun z => absurd z (by omega),fun _ => ⟨by omega,H⟩⟩
 | succ c ih =>
  intro b hb
  refine rcI _ _ _ _ _ _ _ _ _ _ _ _ _ _ _ _ _ ⟨fun _ => ⟨by omega,by omega,hi,hiC,by rw [orR_len];omega,hC,by omega,?_⟩,fun z => absurd (by omega) z⟩
  have h1:=ih (b + 1) (by omega)
  rw [Int.toNat_natCast]
  have e:Sp.orR p0 o (b + 1) = (Sp.orR p0 o b).set b (bif (Sp.orR p0 o b).getD b default then true else o.getD b default):=by
   rw [Sp.orR]
   cases (Sp.orR p0 o b).getD b default <;> rfl
  rw [e] at h1
  exact h1
def rcN (n:Nat) (ps:List Pr) (l:List Int) (i:Int) (m:List Bool) (M:List (Option Row)):Prop:=M.length=n /\ ∀ a:Nat,a<n->M[a]? = some (if (a:Int)=i then some (bR m) else if (a:Int) ∈ l then some (bR (Sp.rowD n ps a)) else none)
theorem rcN_upd {i:Int} {m m':List Bool} {M:List (Option Row)} (h:rcN n ps l i m M) (hi:0 <= i):rcN n ps l i m' (M.set i.toNat (some (bR m'))):=by
 refine ⟨by rw [List.length_set];exact h.1,fun a ha => ?_⟩
 rw [List.getElem?_set]
 by_cases e:i.toNat = a
 ·rw [if_pos e,if_pos (by rw [h.1];omega),if_pos (by omega)]
 ·rw [if_neg e,h.2 a ha,if_neg (show ¬(a:Int) = i by omega),if_neg (show ¬(a:Int) = i by omega)]
theorem rcL_loop {i:Int} (hv:Sp.okV n ps) (hn:n <= 1000) (hpl:ps.length <= 1000000) (hi:0 <= i /\ i < n) (hil:i ∉ l) (hb:∀ b ∈ Sp.bhl ps i,b ∈ l):∀ (c j:Nat) (C:List AV) (R:Heap) (M:List (Option Row)) (ρ:Nat -> Nat) (m:List Bool),j + c = (Sp.bhl ps i).length -> MX (rcH n ps C R) C M ρ -> rcN n ps l i m M -> Sp.rowK n ps ((Sp.bhl ps i).take j) m ->
  Ze4 n false false (Sp.Zes n ps) (Sp.ZeE n ps) C R i false (Sp.bhl ps i) ((Sp.bhl ps i).length:Int) (j:Int) (fun _ L1 => (rcH n ps C R).length <= L1.length /\ RcJ n ps (i :: l) L1):=by
 have hbl:=bhl_len ps i
 intro c
 induction c with
 | zero =>
  intro j C R M ρ m hj hx hM hK
  rw [List.take_of_length_le (by omega)] at hK
  refine rcL _ _ _ _ _ _ _ _ _ _ _ _ _ ⟨fun z => absurd z (by omega),fun _ => ⟨Nat.le_refl _,C,R,M,ρ,rfl,hx,hM.1,fun a ha => ?_⟩⟩
  rw [hM.2 a ha,rowK_end hK]
  by_cases e:(a:Int) = i
  ·rw [if_pos e,if_pos (by rw [e];simp),e]
  ·rw [if_neg e]
   have:((a:Int) ∈ i :: l) ↔ (a:Int) ∈ l:=by simp [e]
   simp only [this]
 | succ c ih =>
  intro j C R M ρ m hj hx hM hK
  have hjl:j < (Sp.bhl ps i).length:=by omega
  obtain ⟨x,hxe⟩:∃ x,(Sp.bhl ps i)[j] = x:=⟨_,rfl⟩
  have hxm:x ∈ Sp.bhl ps i:=by rw [<- hxe];exact List.getElem_mem hjl
  have hx1:=bhl_in hv i x hxm
  have hxl:=hb x hxm
  have hxi:x ≠ i:=fun e => hil (e ▸ hxl)
  have eg:(Sp.bhl ps i).getD ((j:Nat):Int).toNat default = x:=by
   rw [Int.toNat_natCast,List.getD_eq_getElem?_getD,List.getElem?_eq_getElem hjl,<- hxe];rfl
  refine rcL _ _ _ _ _ _ _ _ _ _ _ _ _ ⟨fun _ => ⟨by omega,by omega,?_⟩,fun z => absurd (by omega) z⟩
  rw [eg]
  have hMi:M[i.toNat]? = some (some (bR m)):=by rw [hM.2 _ (by omega),if_pos (by omega)]
  have hMx:M[x.toNat]? = some (some (bR (Sp.rowD n ps x))):=by
   rw [hM.2 _ (by omega),if_neg (by omega),show ((x.toNat:Nat):Int) = x by omega,if_pos hxl]
  obtain ⟨a1,a2,a3⟩:=Mx.hit hx 2 (by simp) i.toNat (bR m) hMi
  have a4:=(List.getElem?_eq_some_iff.1 a2).1
  refine wp_focusI (W:=RcJ n ps (i :: l)) (U:=4) (fun p q L1 hp hq hpl hql h => rcJ_swap p q L1 hp hq hpl hql h) hx rfl (u:=2) (a:=i.toNat) (p:=4) (by simp) hMi (Nat.le_refl 4) (by omega) (Nat.le_refl _) fun L1 C1 ρ1 hM1 hlen1 hp1 hρ1 _ hfix1 => ?_
  have hm1:=Zf2 hM1
  obtain ⟨b1,b2,b3⟩:=Mx.hit hm1 2 (by simp) x.toNat _ hMx
  have b4:=(List.getElem?_eq_some_iff.1 b2).1
  have hne:ρ1 2 x.toNat ≠ 4:=fun e => by
   have:=(Mx.inj hm1 2 (by simp) 2 (by simp) x.toNat i.toNat _ _ hMx hMi (by rw [hρ1];exact e)).2
   omega
  refine wp_focusI (W:=RcJ n ps (i :: l)) (U:=4) (fun p q L1 hp hq hpl hql h => rcJ_swap p q L1 hp hq hpl hql h) hm1 rfl (u:=2) (a:=x.toNat) (p:=5) (by simp) hMx (by omega) (by omega) (Nat.le_refl _) fun L2 C2 ρ2 hM2 hlen2 hp2 hρ2 ho2 hfix2 => ?_
  have hm2:=Zf2 hM2
  have hρi:ρ2 2 i.toNat = 4:=by
   rw [ho2 2 (by simp) i.toNat _ hMi (by rw [hρ1];omega) (by rw [hρ1];exact fun e => hne e.symm)]
   exact hρ1
  obtain ⟨c1,c2,_⟩:=Mx.hit hm2 2 (by simp) i.toNat (bR m) hMi
  rw [hρi] at c1 c2
  have c1x:=(Mx.hit hm2 2 (by simp) x.toNat _ hMx).1
  rw [hρ2] at c1x
  have hCl:(C2 2).length = n:=by rw [(Mx.out hm2 2 (by simp)).2];exact hM.1
  obtain ⟨R2,e2⟩:=rc_shape (n:=n) (ps:=ps) (C:=C) (R:=R) hm2 fun r hr hno => by rw [hfix2 r hr hno,hfix1 r hr hno]
  obtain ⟨R3,e3⟩:=Zds (k:=6) (L:=L2) (P:=rcH n ps (C2 2) [bR m,bR (Sp.rowD n ps x)]) rfl fun r hr => by
   by_cases h4:r < 4
   ·rw [e2]
    have:r = 0 \/ r = 1 \/ r = 2 \/ r = 3:=by omega
    rcases this with rfl | rfl | rfl | rfl <;> rfl
   ·have:r = 4 \/ r = 5:=by omega
    rcases this with rfl | rfl
    ·exact c2
    ·exact hp2
  have hml:=hK.1
  have hD:=rowD_len n ps x
  have hstep:=rowK_step hK hx1
  rw [show (Sp.bhl ps i).take j ++ [x] = (Sp.bhl ps i).take (j + 1) by rw [List.take_add_one,List.getElem?_eq_getElem hjl,hxe];rfl] at hstep
  have hup:=Mx.upd hm2 (u:=2) (a:=i.toNat) (by simp) hMi (rb:=bR (Sp.orR (Sp.put1 m x.toNat) (Sp.rowD n ps x) n)) rfl rfl
  have hup:=Zf2 hup
  rw [if_pos rfl,hρi] at hup
  subst e3
  have hnx:=ih (j + 1) (C2 2) (bR (Sp.orR (Sp.put1 m x.toNat) (Sp.rowD n ps x) n) :: bR (Sp.rowD n ps x) :: R3) _ _ _ (by omega) hup (rcN_upd hM hi.1) hstep
  refine rcT (n:=n) false false (Sp.Zes n ps) (Sp.ZeE n ps) (C2 2) R3 i false (Sp.bhl ps i) _ _ x m (Sp.rowD n ps x) _ ⟨hi.1,by omega,by omega,by omega,c1,by omega,c1x,?_⟩
  rw [hD]
  exact rcI_loop (p0:=Sp.put1 m x.toNat) hi.1 (by omega) c1 (by unfold Sp.put1;rw [List.length_set];omega) hD hn (by omega) hnx n 0 (by omega)
theorem es4:((fun _=>Try.prog) ():Program).types[4].size=1:=by kernel_rfl
theorem rcN_first {i:Int} {M:List (Option Row)} {m:List Bool} (h:rcM n ps l M) (hi:0 <= i /\ i < n):rcN n ps l i m (M.set i.toNat (some (bR m))):=by
 refine ⟨by rw [List.length_set];exact h.1,fun a ha => ?_⟩
 rw [List.getElem?_set]
 by_cases e:i.toNat = a
 ·rw [if_pos e,if_pos (by rw [h.1];omega),if_pos (by omega)]
 ·rw [if_neg e,h.2 a ha,if_neg (show ¬(a:Int) = i by omega)]
theorem rep_false (n:Nat):List.replicate n (ofC (.bool false))=(List.replicate n false).map AV.bool:=by rw [List.map_replicate];rfl
theorem rc_body {i:Int} {L:Heap} (hv:Sp.okV n ps) (hn:n <= 1000) (hpl:ps.length <= 1000000) (hi:0 <= i /\ i < n) (hil:i ∉ l) (hb:∀ b ∈ Sp.bhl ps i,b ∈ l) (h:RcJ n ps l L) :
  ∃ C R,L = rcH n ps C R /\ rcB_at n false false (Sp.Zes n ps) (Sp.ZeE n ps) C R i (fun _ L1 => RcJ n ps (i :: l) L1):=by
 obtain ⟨C,R,M,ρ,rfl,hx,hM⟩:=h
 have ho:=(Mx.out hx 2 (by simp)).2
 have hCl:C.length = n:=by rw [ho];exact hM.1
 have hMi:M[i.toNat]? = some none:=by rw [hM.2 _ (by omega),if_neg (by rw [show ((i.toNat:Nat):Int) = i by omega];exact hil)]
 have hnil:=Mx.nil hx 2 (by simp) i.toNat hMi
 have hc:=Zf2 (Mx.cell hx (u:=2) (a:=i.toNat) (by simp) (by show _ < M.length;rw [hM.1];omega) (rb:=bR (List.replicate n false)) rfl)
 rw [if_pos rfl,if_pos rfl] at hc
 have hgo:=rcL_loop hv hn hpl hi hil hb (Sp.bhl ps i).length 0 _ _ _ _ _ (by omega) hc (rcN_first hM hi) (rowK_nil n ps)
 refine ⟨C,R,rfl,rcB (n:=n) false false _ _ C R i _ ⟨by omega,by omega,by omega,hi.1,by omega,hnil,by rw [ZeM];omega,?_⟩⟩
 rw [ZeN (by omega),show ((i.toNat:Nat):Int) = i by omega,es4,Int.toNat_natCast,rep_false]
 exact .mono hgo fun _ _ h => h.2
abbrev rcH0 (n:Nat) (ps:List Pr):Heap:=[rN n,rR n ps,⟨List.replicate n .vnil,1,0,false,true⟩,rO]
theorem rc_base (n:Nat) (ps:List Pr):MX (rcH n ps (List.replicate n .vnil) []) (List.replicate n .vnil) (List.replicate n none) (fun _ => 0):=by
 have no:∀ (j:Nat) (row:Row),(List.replicate n (none:Option Row))[j]? = some (some row) -> False:=fun j row h => by
  rw [List.getElem?_replicate] at h
  split at h
  ·cases h
  ·cases h
 refine ⟨by simp,by simp,fun u hu => ?_,fun r row hr hno hrow => rc_refs r row hr hno hrow,fun r row hr hrow => ?_,fun u _ j row h => (no j row h).elim,fun u _ j h => ?_,fun u _ w _ i j r s h => (no i r h).elim,fun u _ j row h => (no j row h).elim⟩
 ·rw [List.mem_singleton] at hu
  subst hu
  exact ⟨rfl,by simp⟩
 ·have:=(List.getElem?_eq_some_iff.1 hrow).1
  simp at this;omega
 ·rw [List.getElem?_replicate] at h ⊢
  split at h
  ·rename_i hj;rw [if_pos hj]
  ·cases h
theorem rcM_base (n:Nat) (ps:List Pr):rcM n ps [] (List.replicate n none):=⟨by simp,fun a ha=>by rw [List.getElem?_replicate,if_pos ha,if_neg (by simp)]⟩
theorem rc_first {i:Int} (hv:Sp.okV n ps) (hn:n <= 1000) (hpl:ps.length <= 1000000) (hi:0 <= i /\ i < n) (hb:∀ b ∈ Sp.bhl ps i,b ∈ ([]:List Int)) :
  rcB0_at n false false (Sp.Zes n ps) (Sp.ZeE n ps) (List.replicate n .vnil) [] i (fun _ L1 => RcJ n ps [i] L1):=by
 have hM:=rcM_base n ps
 have hnil:(List.replicate n AV.vnil)[i.toNat]? = some .vnil:=by rw [List.getElem?_replicate,if_pos (by omega)]
 have hc:=Zf2 (Mx.cell (rc_base n ps) (u:=2) (a:=i.toNat) (by simp) (by show _ < (List.replicate n (none:Option Row)).length;rw [hM.1];omega) (rb:=bR (List.replicate n false)) rfl)
 rw [if_pos rfl,if_pos rfl] at hc
 have hgo:=rcL_loop hv hn hpl hi (by simp) hb (Sp.bhl ps i).length 0 _ _ _ _ _ (by omega) hc (rcN_first hM hi) (rowK_nil n ps)
 refine rcB0 (n:=n) false false _ _ _ [] i _ ⟨by omega,by omega,by omega,hi.1,by rw [List.length_replicate];omega,hnil,by rw [ZeM];omega,?_⟩
 rw [ZeN (by omega),show ((i.toNat:Nat):Int) = i by omega,es4,Int.toNat_natCast,rep_false]
 exact .mono hgo fun _ _ h => h.2
end
end Go.Av

namespace Go.Av
open Go.Proofs
theorem Zcb {n:Nat} {ps:List Pr} {l:List Int} (h:Sp.Za9 n ps l):l.Nodup:=by
 rw [List.nodup_iff_pairwise_ne,List.pairwise_iff_getElem]
 intro i j hi hj hij e
 have:=(h j hj).2.1
 have gd:∀ k (hk:k < l.length),l.getD k default = l[k]:=fun k hk => by rw [List.getD_eq_getElem?_getD,List.getElem?_eq_getElem hk];rfl
 rw [gd j hj] at this
 refine Bool.eq_false_iff.1 this (Zb8.2 ?_)
 rw [<- e,List.mem_take_iff_getElem]
 exact ⟨i,by omega,rfl⟩
theorem begins_in {n:Nat} {ps:List Pr} {l:List Int} (h:Sp.Za9 n ps l):∀ x ∈ l,0 <= x /\ x < n:=fun x hx => by
 obtain ⟨i,hi⟩:=List.getElem?_of_mem hx
 have hil:=(List.getElem?_eq_some_iff.1 hi).1
 have:=(h i hil).1
 rw [List.getD_eq_getElem?_getD,hi,Option.getD_some] at this
 exact this
theorem ZbW {n:Nat} {ps:List Pr} {l:List Int} (h:Sp.Za9 n ps l) (hl:l.length = n) {x:Int} (hx:0 <= x /\ x < n):x ∈ l:=Classical.byContradiction fun hno => by
 have:=pigeon n (x :: l) (List.nodup_cons.2 ⟨hno,Zcb h⟩) fun y hy => by
  rcases List.mem_cons.1 hy with rfl | hy
  ·exact hx
  ·exact begins_in h y hy
 simp only [List.length_cons] at this
 omega
theorem begins_later {n:Nat} {ps:List Pr} {l:List Int} (hv:Sp.okV n ps) (h:Sp.Za9 n ps l) (hl:l.length = n) {k:Nat} (hk:k < n) {b:Int} (hb:b ∈ Sp.bhl ps (l.getD k default)):b ∈ l.drop (k + 1):=by
 have hbi:=bhl_in hv _ b hb
 have he:=Zc6.1 hb
 obtain ⟨j,hj⟩:=List.getElem?_of_mem (ZbW h hl hbi)
 have hjl:=(List.getElem?_eq_some_iff.1 hj).1
 have hm:=Zer h (.one he) j hjl (by rw [List.getD_eq_getElem?_getD,hj,Option.getD_some])
 rw [List.mem_take_iff_getElem] at hm
 obtain ⟨q,hq,e⟩:=hm
 have hkl:k < l.length:=by omega
 have e2:l.getD k default = l[k]:=by rw [List.getD_eq_getElem?_getD,List.getElem?_eq_getElem hkl];rfl
 rw [e2] at e
 have:=(List.getElem_inj (Zcb h)).1 e
 rw [List.mem_drop_iff_getElem]
 refine ⟨j - (k + 1),by omega,?_⟩
 have:k + 1 + (j - (k + 1)) = j:=by omega
 simp only [this]
 exact (List.getElem?_eq_some_iff.1 hj).2
theorem begins_once {n:Nat} {ps:List Pr} {l:List Int} (h:Sp.Za9 n ps l) {k:Nat} (hk:k < l.length):l.getD k default ∉ l.drop (k + 1):=fun hm => by
 have e2:l.getD k default = l[k]:=by rw [List.getD_eq_getElem?_getD,List.getElem?_eq_getElem hk];rfl
 rw [e2,List.mem_drop_iff_getElem] at hm
 obtain ⟨q,hq,e⟩:=hm
 have:=(List.getElem_inj (Zcb h)).1 e
 omega
noncomputable def rcO7:Array Oper:=match atC (cd Try.f45) [1,1,1,1,1,0,1,0] with
 | .code (.rangeFunc _ _ (.region _ ops _) _) :: _ => ops
 | _ => #[]
noncomputable def rcK:List Item:=(atC (cd Try.f45) [1,1,1,1,1,0,1,0]).tail
theorem rcC:atC (cd Try.f45) [1,1,1,1,1,0,1,0] = .code (.rangeFunc (.tmp 31) #[32,33] (.region 7 rcO7 false) (Zeb (cd Try.f45) [1,1,1,1,1,0,1,0,1]))::rcK:=by kernel_rfl
theorem rcKe:rcK = .inBlock 0::atC (cd Try.f45) [1,1,1,1,1,1]:=by kernel_rfl
abbrev rcEn (l:List Int):Vars:=[(2,AV.ptr 0 0 0 0),(4,AV.vnil),(5,.int .i64 0),(8,AV.ptr 1 0 0 0),(9,AV.ptr 3 0 0 0),(31,AV.func (Fn.func 55) [] [AV.eptr 1 [AV.vec false 1 (l.map (.int .i64))] 0 0])]
def rcEA (l:List Int) (i x:Int):Env:=(11,[],.int .i64 x)::lift ((33,.int .i64 x)::(32,.int .i64 i)::rcEn l)
theorem rc7_run (l:List Int) (i x:Int) (K:Heap):Zai M1.P M1.inl (fun _ _ _=>none) fi45.n rcO7 (fun _=>none) (fun _=>2) (List.range rcO7.size) ⟨lift ((33,.int .i64 x)::(32,.int .i64 i)::rcEn l),K,[],[],[]⟩=some ⟨rcEA l i x,K,[],[],[]⟩:=by kernel_rfl
theorem rc7_keep (l:List Int) (i x:Int):Za0 [2,4,5,8,9,11] (rcEA l i x)=[(2,.ptr 0 0 0 0),(4,.vnil),(5,.int .i64 0),(8,.ptr 1 0 0 0),(9,.ptr 3 0 0 0),(11,.int .i64 x)]:=by kernel_rfl
theorem bkX_len (l:List Int):(bkX l).length=l.length:=by unfold bkX;simp
theorem bkX_get {l:List Int} {j:Nat} (hj:j < (bkX l).length):(bkX l)[j] = (.int .i64 ((l.length - 1 - j:Nat):Int),.int .i64 (l.getD (l.length - 1 - j) 0)):=by
 have hl:=bkX_len l
 apply Option.some.inj
 rw [<- List.getElem?_eq_getElem hj]
 unfold bkX
 rw [List.getElem?_map,List.getElem?_range (by omega)];rfl
def RcInv (n:Nat) (ps:List Pr) (l:List Int) (j:Nat) (K:Heap):Prop:=(j=0/\K=rcH0 n ps)\/(0<j/\RcJ n ps (l.drop (n-j)) K)
theorem rc_end {n:Nat} {ps:List Pr} {l:List Int} {K:Heap} (hb:Sp.Za9 n ps l) (hl:l.length = n) (h:RcInv n ps l n K):Wp M1 (.run fi45 rcK (rcEn l) K) (Zbq (.tup [.vec false 1 ((Sp.ZcG n ps).map Bw.a),.int .i64 0])):=by
 rw [rcKe]
 refine .inBlock (.less [9] ?_)
 have hA:∀ (L:Heap) d,deepA L (.row 2 0) = some d -> deepA L (.tup [.row 2 0,.int .i64 0]) = some (.tup [d,.int .i64 0]):=fun L d e => by
  have:deepL L [.row 2 0,.int .i64 0] = some [d,.int .i64 0]:=by rw [deepL,e];rfl
  rw [deepA,this]
 rcases h with ⟨rfl,rfl⟩ | ⟨_,C,R,M,ρ,rfl,hx,hM⟩
 ·refine rcE0 _ false false _ _ _ [] _ ⟨.tup [.vec false 1 [],.int .i64 0],by rfl,Zam rfl (Zax),?_⟩
  exact .refl _
 ·refine rcE _ false false _ _ _ R _ ?_
  obtain ⟨a1,a2⟩:=hx.deep (u:=2) (by simp)
  refine ⟨_,hA _ _ a1,?_,?_⟩
  ·rw [ZbA] at a2 ⊢
   intro b hb
   have hb:b ∈ deepV (rcH n ps C R) (AV.row 2 0) ++ []:=hb
   rw [List.append_nil] at hb
   exact a2 b hb
  ·have:M.map ZcJ = (Sp.ZcG n ps).map Bw.a:=by
    rw [tabW_a,tab_row,List.map_map]
    apply List.ext_getElem?
    intro a
    rw [List.getElem?_map,List.getElem?_map]
    by_cases ha:a < n
    ·rw [hM.2 a ha,List.getElem?_range ha,if_pos (by rw [Nat.sub_self,List.drop_zero];exact ZbW hb hl ⟨by omega,by omega⟩)];rfl
    ·rw [List.getElem?_eq_none (by rw [hM.1];omega),List.getElem?_eq_none (by simp;omega)];rfl
   rw [this]
   exact .refl _
theorem rc_range {n:Nat} {ps:List Pr} {l:List Int} (hv:Sp.okV n ps) (hn:n <= 1000) (hpl:ps.length <= 1000000) (hb:Sp.Za9 n ps l) (hl:l.length = n) :
  Wp M1 (.run fi45 (atC (cd Try.f45) [1,1,1,1,1,0,1,0]) (rcEn l) (rcH0 n ps)) (Zbq (.tup [.vec false 1 ((Sp.ZcG n ps).map Bw.a),.int .i64 0])):=by
 rw [rcC]
 have hlen:=bkX_len l
 refine .sem (range_inv (M:=M1) (it:=55) (A:=AV.eptr 1 [AV.vec false 1 (l.map (.int .i64))] 0 0) (xs:=bkX l) (keepA:=[2,4,5,8,9,11]) rfl bk_hit (bk_iter false l (by omega)) (by kernel_rfl) (by kernel_rfl) (by decide) (by decide) (RcInv n ps l) (.inl ⟨rfl,rfl⟩)
  (fun j _ => rcEA l ((l.length - 1 - j:Nat):Int) (l.getD (l.length - 1 - j) 0)) (fun j hj K _ => ?_) (fun j hj K hK => ?_) (fun K hK => ?_))
 ·rw [bkX_get hj]
  exact rc7_run l _ _ K
 ·rw [rc7_keep]
  have hjn:j < n:=by omega
  have hkn:l.length - 1 - j < n:=by omega
  have hin:=(hb _ (by omega:l.length - 1 - j < l.length)).1
  have hon:=begins_once hb (k:=l.length - 1 - j) (by omega)
  have hlt:=fun b => begins_later hv hb hl (k:=l.length - 1 - j) (b:=b) hkn
  have hsp:l.drop (n - (j + 1)) = l.getD (l.length - 1 - j) default :: l.drop (n - j):=by
   rw [hl,show n - (j + 1) = n - 1 - j by omega,List.drop_eq_getElem_cons (by omega:n - 1 - j < l.length),show n - 1 - j + 1 = n - j by omega,List.getD_eq_getElem?_getD,List.getElem?_eq_getElem (by omega)];rfl
  rw [show l.length - 1 - j + 1 = n - j by omega] at hon hlt
  rcases hK with ⟨rfl,rfl⟩ | ⟨h0,hK⟩
  ·rw [show l.drop (n - 0) = [] from List.drop_of_length_le (by omega)] at hlt hsp
   refine Zbd hm1 (c:=.run _ _ _ _) (.mono (rc_first hv hn hpl hin hlt) fun _ L1 h => .inr ⟨by omega,?_⟩)
   rw [hsp];exact h
  ·obtain ⟨C,R,rfl,hw⟩:=rc_body hv hn hpl hin hon hlt hK
   refine Zbd hm1 (c:=.run _ _ _ _) (.mono hw fun _ L1 h => .inr ⟨by omega,?_⟩)
   rw [hsp];exact h
 ·rw [bkX_len,hl] at hK
  exact Zbd hm1 (c:=.run _ _ _ _) (rc_end hb hl hK)
namespace Sp
noncomputable def reL (n:Int) (ps:List Pr):List Bw:=if ZaQ n ps=0 then ZcG n.toNat ps else []
end Sp
theorem Zcl {n:Int} {ps:List Pr} (h:Sp.ZaQ n ps = 0):∃ m:Nat,n = m /\ Sp.okV m ps /\ m <= 1000 /\ ps.length <= 1000000 /\ Sp.Za9 m ps (Sp.ordL n ps) /\ (Sp.ordL n ps).length = m:=by
 have hv:Sp.vd n ps = 0:=Classical.byContradiction fun hv => by
  unfold Sp.ZaQ at h
  rw [if_neg hv] at h
  exact hv h
 obtain ⟨m,rfl,hok,hm,hpl⟩:=vd_okV hv
 unfold Sp.ZaQ Sp.cycB at h
 rw [if_pos hv,Int.toNat_natCast] at h
 unfold Sp.ordL
 rw [if_pos hv,Int.toNat_natCast]
 cases hk:Sp.ord m ps with
 | none => rw [hk] at h;simp at h
 | some l =>
  obtain ⟨h1,h2⟩:=Zfl (fun j hj => by simp at hj) hk
  exact ⟨m,rfl,hok,hm,hpl,h1,by rw [Option.getD_some,h2];simp⟩
theorem ordE_vd {n:Int} {ps:List Pr} (h:Sp.ZaQ n ps = 0):Sp.vd n ps = 0:=Classical.byContradiction fun hv => by
 unfold Sp.ZaQ at h
 rw [if_neg hv] at h
 exact hv h
theorem ev45 (n:Int) (f:Bool) (ps:List Pr):Ev M1 (.pure 45 [.int .i64 n,.vec f 2 (ps.map Pr.v)]) (.tup [.vec false 1 ((Sp.reL n ps).map Bw.a),.int .i64 (Sp.ZaQ n ps)]) []:=by
 unfold Sp.reL
 refine deep_call hm1 Try.f45 fi45 (by kernel_rfl) (by kernel_rfl) (by kernel_rfl) (by kernel_rfl) (rcS n f ps _ ⟨fun h => ?_,fun h => ?_⟩)
 ·rw [if_neg h]
  exact ⟨.tup [.vnil,.int .i64 (Sp.ZaQ n ps)],rfl,Zax,ZcL _⟩
 ·have h:=Classical.not_not.1 h
  obtain ⟨m,rfl,hv,hn,hpl,hb,hl⟩:=Zcl h
  rw [if_pos h,h,Int.toNat_natCast]
  exact ⟨ordE_vd h,by omega,by omega,by omega,rc_range hv hn hpl hb hl⟩
end Go.Av

namespace Go.Av
open Go.Proofs
set_option maxRecDepth 100000
def fi32:Fi:=⟨26,[.tmp 4]⟩
def kp32:List (Nat × List Nat):=[(0,[0,1]),(1,[0,1,10]),(2,[4]),(3,[0,1,5]),(4,[0,1,5,14]),(5,[0,1,5]),(6,[0,1,5,25]),(7,[4]),(8,[4])]
def fi47:Fi:=⟨13,[.tmp 5]⟩
def kp47:List (Nat × List Nat):=[(0,[0,1,2]),(1,[5])]
def fi48:Fi:=⟨37,[.tmp 6]⟩
def kp48:List (Nat × List Nat):=[(0,[0,1,2,3]),(1,[0,1,2,3,15]),(2,[6]),(3,[0,1,2,16,17]),(4,[0,1,2,16,17,18]),(5,[0,1,2,7,16,17]),(6,[0,1,2,16,17,35]),(7,[6]),(8,[0,1,2,16,17]),(9,[6])]
def cl1_at (a b:Int) (fm:Bool) (T:List Bw) (Q:AV->Heap->Prop):Prop:=Wp M1 (.run fi47 (atC (cd Try.f47) []) [(0,.int .i64 a),(1,.int .i64 b),(2,.eptr 1 [.vec fm 1 (T.map Bw.a)] 0 0)] []) Q
def cr1_at (n a b:Int) (fm:Bool) (T:List Bw) (Q:AV->Heap->Prop):Prop:=Wp M1 (.run fi48 (atC (cd Try.f48) []) [(0,.int .i64 a),(1,.int .i64 b),(2,.eptr 1 [.vec fm 1 (T.map Bw.a)] 0 0),(3,.eptr 1 [.int .i64 n] 0 0)] []) Q
def Zfz (a b:Int) (fm:Bool) (T:List Bw) (m c:Int) (Q:AV->Heap->Prop):Prop:=Wp M1 (.run fi48 (atC (cd Try.f48) [1,1,0,1,0,0]) [(0,.int .i64 a),(1,.int .i64 b),(2,.eptr 1 [.vec fm 1 (T.map Bw.a)] 0 0),(16,.int .i64 m),(17,.int .i64 c)] []) Q
def pPr_at (f g:Bool) (l o:List Pr) (Q:AV->Heap->Prop):Prop:=Wp M1 (.run fi32 (atC (cd Try.f32) []) [(0,.vec f 2 (l.map Pr.v)),(1,.vec g 2 (o.map Pr.v))] []) Q
def Ze9 (f g:Bool) (l o:List Pr) (i:Int) (Q:AV->Heap->Prop):Prop:=Wp M1 (.run fi32 (atC (cd Try.f32) [1,1,0,1,0,0]) [(0,.vec f 2 (l.map Pr.v)),(1,.vec g 2 (o.map Pr.v)),(5,.int .i64 i)] []) Q
theorem call32 {args:List AV} {d:AV} (h:wc M1 fi32 Try.f32 args d):Ev M1 (.pure 32 args) d []:=pcl _ _ (by kernel_rfl) h
theorem call47 {args:List AV} {d:AV} (h:wc M1 fi47 Try.f47 args d):Ev M1 (.pure 47 args) d []:=pcl _ _ (by kernel_rfl) h
theorem call48 {args:List AV} {d:AV} (h:wc M1 fi48 Try.f48 args d):Ev M1 (.pure 48 args) d []:=pcl _ _ (by kernel_rfl) h
theorem cl1 (a b:Int) (fm:Bool) (T:List Bw)  (dq:AV) (H :
  (0 <= a) /\
  (a.toNat < T.length) /\
  (0 <= b) /\
  (b.toNat < (T.getD a.toNat default).1.length) /\
  vb ((T.getD a.toNat default).1.getD b.toNat default) = dq) :
 cl1_at a b fm T (Zaj dq):=by
 unfold cl1_at
 obtain ⟨k2,H⟩:=H
 have w3:(List.map Bw.a T).length = T.length:=List.length_map ..
 have i4:(decide (a.toNat < (List.map Bw.a T).length)) = true ↔ (a.toNat < T.length):=(by (try rw [w3]);all_goals exact Zaa)
 obtain ⟨k5,k7,H⟩:=H
 have w8:(List.map vb (T.getD a.toNat default).1).length = (T.getD a.toNat default).1.length:=List.length_map ..
 have i9:(decide (b.toNat < (List.map vb (T.getD a.toNat default).1).length)) = true ↔ (b.toNat < (T.getD a.toNat default).1.length):=(by (try rw [w8]);all_goals exact Zaa)
 obtain ⟨k10,H⟩:=H
 exact ZaF (G:=Zaf kp47 [(1,3,.elem (vf (List.map vb (T.getD a.toNat default).1))),(1,6,.elem (vb ((T.getD a.toNat default).1.getD b.toNat default)))] []) 1000 [] (eqs:=[((List.map Bw.a T).get?Internal a.toNat = some (vf (List.map vb (T.getD a.toNat default).1))),((List.map vb (T.getD a.toNat default).1).get?Internal b.toNat = some (vb ((T.getD a.toNat default).1.getD b.toNat default)))]) (vb ((T.getD a.toNat default).1.getD b.toNat default)) (by kernel_rfl) (bc (Zaa.2 k2) (bc (i4.2 k5) (bc (Zaa.2 k7) (bc (i9.2 k10) b0)))) (qc (ZaC k5) (qc (ZaC k10) q0)) c0 H
theorem cr1 (n a b:Int) (fm:Bool) (T:List Bw)  (dq:AV) (H :
  (0 <= a) /\
  (a.toNat < T.length) /\
  (0 <= b) /\
  (b.toNat < (T.getD a.toNat default).1.length) /\
  ((¬((T.getD a.toNat default).1.getD b.toNat default = true)) -> vb false = dq) /\
  (¬(¬((T.getD a.toNat default).1.getD b.toNat default = true)) -> Zfz (a) (b) (fm) (T) (n) (0) (Zaj dq))) :
 cr1_at n a b fm T (Zaj dq):=by
 unfold cr1_at
 obtain ⟨k2,H⟩:=H
 have w3:(List.map Bw.a T).length = T.length:=List.length_map ..
 have i4:(decide (a.toNat < (List.map Bw.a T).length)) = true ↔ (a.toNat < T.length):=(by (try rw [w3]);all_goals exact Zaa)
 obtain ⟨k5,k7,H⟩:=H
 have w8:(List.map vb (T.getD a.toNat default).1).length = (T.getD a.toNat default).1.length:=List.length_map ..
 have i9:(decide (b.toNat < (List.map vb (T.getD a.toNat default).1).length)) = true ↔ (b.toNat < (T.getD a.toNat default).1.length):=(by (try rw [w8]);all_goals exact Zaa)
 obtain ⟨k10,H⟩:=H
 refine Zad (G:=Zaf kp48 [(1,3,.elem (vf (List.map vb (T.getD a.toNat default).1))),(1,6,.elem (vb ((T.getD a.toNat default).1.getD b.toNat default)))] []) 5 [] ⟨(atC (cd Try.f48) [1,0,1]),[(0,vi a),(1,vi b),(2,AV.eptr 1 [AV.vec fm 1 (List.map Bw.a T)] 0 0),(3,AV.eptr 1 [vi n] 0 0),(15,vb !(T.getD a.toNat default).1.getD b.toNat default)],[],_,[((List.map Bw.a T).get?Internal a.toNat = some (vf (List.map vb (T.getD a.toNat default).1))),((List.map vb (T.getD a.toNat default).1).get?Internal b.toNat = some (vb ((T.getD a.toNat default).1.getD b.toNat default)))],_⟩ (by kernel_rfl) (bc (Zaa.2 k2) (bc (i4.2 k5) (bc (Zaa.2 k7) (bc (i9.2 k10) b0)))) (qc (ZaC k5) (qc (ZaC k10) q0)) c0 ?_
 rcases xq H with ⟨d12,H⟩|⟨d12,H⟩
 ·exact ZaF (G:=Zaf kp48 [] []) 1000 [true] (asm:=[(!(T.getD a.toNat default).1.getD b.toNat default) == true]) (vb false) (by kernel_rfl) (bc (ZaG ((i_not (Zb0 _)).2 d12)) b0) q0 c0 H
 ·exact Zad (G:=Zaf kp48 [] []) 1000 [false] ⟨(atC (cd Try.f48) [1,1,0,1,0,0]),[(0,vi a),(1,vi b),(2,AV.eptr 1 [AV.vec fm 1 (List.map Bw.a T)] 0 0),(16,vi n),(17,vi 0)],[],[(!(T.getD a.toNat default).1.getD b.toNat default) == false],[],_⟩ (by kernel_rfl) (bc (ZaD (fun h => d12 ((i_not (Zb0 _)).1 h))) b0) q0 c0 (H)
noncomputable abbrev zPxT1 (T:List Bw) (a:Int) (c:Int) (b:Int):=bif (T.getD a.toNat default).1.getD c.toNat default then (T.getD c.toNat default).1.getD b.toNat default else false
theorem cr1L (a b:Int) (fm:Bool) (T:List Bw) (m c:Int)  (dq:AV) (H :
  ((c < m) -> (0 <= a) /\
   (a.toNat < T.length) /\
   (0 <= c) /\
   (c.toNat < (T.getD a.toNat default).1.length) /\
   (((T.getD a.toNat default).1.getD c.toNat default = true) -> (c.toNat < T.length)) /\
   (((T.getD a.toNat default).1.getD c.toNat default = true) -> (0 <= b)) /\
   (((T.getD a.toNat default).1.getD c.toNat default = true) -> (b.toNat < (T.getD c.toNat default).1.length)) /\
   ((((T.getD a.toNat default).1.getD c.toNat default = true) /\ ((T.getD c.toNat default).1.getD b.toNat default = true)) -> vb false = dq) /\
   (¬(((T.getD a.toNat default).1.getD c.toNat default = true) /\ ((T.getD c.toNat default).1.getD b.toNat default = true)) -> (-9223372036854775808 <= c + 1 /\ c + 1 <= 9223372036854775807) /\
    Zfz (a) (b) (fm) (T) (m) (c + 1) (Zaj dq))) /\
  (¬(c < m) -> vb true = dq)) :
 Zfz a b fm T m c (Zaj dq):=by
 unfold Zfz
 rcases xq H with ⟨d2,H⟩|⟨d2,H⟩
 ·obtain ⟨k4,H⟩:=H
  have w5:(List.map Bw.a T).length = T.length:=List.length_map ..
  have i6:(decide (a.toNat < (List.map Bw.a T).length)) = true ↔ (a.toNat < T.length):=(by (try rw [w5]);all_goals exact Zaa)
  obtain ⟨k7,k9,H⟩:=H
  have w10:(List.map vb (T.getD a.toNat default).1).length = (T.getD a.toNat default).1.length:=List.length_map ..
  have i11:(decide (c.toNat < (List.map vb (T.getD a.toNat default).1).length)) = true ↔ (c.toNat < (T.getD a.toNat default).1.length):=(by (try rw [w10]);all_goals exact Zaa)
  obtain ⟨k12,H⟩:=H
  have i14:(!((T.getD a.toNat default).1.getD c.toNat default == true && true) || decide (c.toNat < (List.map Bw.a T).length)) = true ↔ (((T.getD a.toNat default).1.getD c.toNat default = true) -> (c.toNat < T.length)):=(by (try rw [w5]);all_goals exact (i_imp (i_at (i_bt (Zb0 _))) Zaa))
  obtain ⟨k15,k17,H⟩:=H
  have w18:(List.map vb (T.getD c.toNat default).1).length = (T.getD c.toNat default).1.length:=List.length_map ..
  have i19:(!((T.getD a.toNat default).1.getD c.toNat default == true && true) || decide (b.toNat < (List.map vb (T.getD c.toNat default).1).length)) = true ↔ (((T.getD a.toNat default).1.getD c.toNat default = true) -> (b.toNat < (T.getD c.toNat default).1.length)):=(by (try rw [w18]);all_goals exact (i_imp (i_at (i_bt (Zb0 _))) Zaa))
  obtain ⟨k20,H⟩:=H
  refine Zad (G:=Zaf kp48 [(6,3,.elem (vf (List.map vb (T.getD a.toNat default).1))),(6,6,.elem (vb ((T.getD a.toNat default).1.getD c.toNat default))),(6,11,.elem (vf (List.map vb (T.getD c.toNat default).1))),(6,14,.elem (vb ((T.getD c.toNat default).1.getD b.toNat default)))] []) 11 [true] ⟨(atC (cd Try.f48) [1,1,0,1,0,0,1,1,0,0,1,1]),[(0,vi a),(1,vi b),(2,AV.eptr 1 [AV.vec fm 1 (List.map Bw.a T)] 0 0),(16,vi m),(17,vi c),(35,vb (zPxT1 T a c b))],[],[(decide (c < m)) == true,decide (0 <= a),decide (a.toNat < (List.map Bw.a T).length),decide (0 <= c),decide (c.toNat < (List.map vb (T.getD a.toNat default).1).length),!((T.getD a.toNat default).1.getD c.toNat default == true && true) || decide (0 <= c),!((T.getD a.toNat default).1.getD c.toNat default == true && true) || decide (c.toNat < (List.map Bw.a T).length),!((T.getD a.toNat default).1.getD c.toNat default == true && true) || decide (0 <= b),!((T.getD a.toNat default).1.getD c.toNat default == true && true) || decide (b.toNat < (List.map vb (T.getD c.toNat default).1).length)],[((List.map Bw.a T).get?Internal a.toNat = some (vf (List.map vb (T.getD a.toNat default).1))),((List.map vb (T.getD a.toNat default).1).get?Internal c.toNat = some (vb ((T.getD a.toNat default).1.getD c.toNat default))),(((T.getD a.toNat default).1.getD c.toNat default == true && true) = true -> (List.map Bw.a T).get?Internal c.toNat = some (vf (List.map vb (T.getD c.toNat default).1))),(((T.getD a.toNat default).1.getD c.toNat default == true && true) = true -> (List.map vb (T.getD c.toNat default).1).get?Internal b.toNat = some (vb ((T.getD c.toNat default).1.getD b.toNat default)))],_⟩ (by kernel_rfl) (bc (ZaG (Zaa.2 d2)) (bc (Zaa.2 k4) (bc (i6.2 k7) (bc (Zaa.2 k9) (bc (i11.2 k12) (bc ((i_imp (i_at (i_bt (Zb0 _))) Zaa).2 (fun _ => k9)) (bc (i14.2 k15) (bc ((i_imp (i_at (i_bt (Zb0 _))) Zaa).2 k17) (bc (i19.2 k20) b0))))))))) (qc (ZaC k7) (qc (ZaC k12) (qc (fun h => ZaC (k15 ((i_at (i_bt (Zb0 _))).1 h))) (qc (fun h => ZaC (k20 ((i_at (i_bt (Zb0 _))).1 h))) q0)))) c0 ?_
  rcases xq H with ⟨d24,H⟩|⟨d24,H⟩
  ·exact ZaF (G:=Zaf kp48 [] []) 1000 [true] (asm:=[(zPxT1 T a c b) == true]) (vb false) (by kernel_rfl) (bc (ZaG ((i_band (Zb0 _) (Zb0 _)).2 d24)) b0) q0 c0 H
  ·obtain ⟨k25,H⟩:=H
   have w26:wi (c + 1) = c + 1:=wI64 k25
   exact Zad (G:=Zaf kp48 [] []) 1000 [false] ⟨(atC (cd Try.f48) [1,1,0,1,0,0]),[(0,vi a),(1,vi b),(2,AV.eptr 1 [AV.vec fm 1 (List.map Bw.a T)] 0 0),(16,vi m),(17,vi (wi (c + 1)))],[],[(zPxT1 T a c b) == false],[],_⟩ (by kernel_rfl) (bc (ZaD (fun h => d24 ((i_band (Zb0 _) (Zb0 _)).1 h))) b0) q0 c0 (by (try rw [w26]);all_goals exact H)
 ·exact ZaF (G:=Zaf kp48 [] []) 1000 [false] (vb true) (by kernel_rfl) (bc (ZaD (fun h => d2 (Zaa.1 h))) b0) q0 c0 H
theorem pPr (f g:Bool) (l o:List Pr)  (dq:AV) (H :
  ((¬(↑l.length:Int) = (↑o.length:Int)) -> vb false = dq) /\
  (¬(¬(↑l.length:Int) = (↑o.length:Int)) -> Ze9 (f) (g) (l) (o) (0) (Zaj dq))) :
 pPr_at f g l o (Zaj dq):=by
 unfold pPr_at
 have w1:(List.map Pr.v l).length = l.length:=List.length_map ..
 have w2:(List.map Pr.v o).length = o.length:=List.length_map ..
 have i3:((↑(List.map Pr.v l).length:Int) != (↑(List.map Pr.v o).length:Int)) = true ↔ (¬(↑l.length:Int) = (↑o.length:Int)):=(by (try rw [w1]);(try rw [w2]);all_goals exact i_ne)
 rcases xq H with ⟨d4,H⟩|⟨d4,H⟩
 ·exact ZaF (G:=Zaf kp32 [] []) 1000 [true] (vb false) (by kernel_rfl) (bc (ZaG (i3.2 d4)) b0) q0 c0 H
 ·exact Zad (G:=Zaf kp32 [] []) 1000 [false] ⟨(atC (cd Try.f32) [1,1,0,1,0,0]),[(0,AV.vec f 2 (List.map Pr.v l)),(1,AV.vec g 2 (List.map Pr.v o)),(5,vi 0)],[],_,[],_⟩ (by kernel_rfl) (bc (ZaD (fun h => d4 (i3.1 h))) b0) q0 c0 (H)
theorem pPrL (f g:Bool) (l o:List Pr) (i:Int)  (dq:AV) (H :
  ((i < (↑l.length:Int)) -> (0 <= i) /\
   (i.toNat < l.length) /\
   (i.toNat < o.length) /\
   ((¬(((l.getD i.toNat default).a = (o.getD i.toNat default).a) /\ ((l.getD i.toNat default).b = (o.getD i.toNat default).b))) -> vb false = dq) /\
   (¬(¬(((l.getD i.toNat default).a = (o.getD i.toNat default).a) /\ ((l.getD i.toNat default).b = (o.getD i.toNat default).b))) -> (-9223372036854775808 <= i + 1 /\ i + 1 <= 9223372036854775807) /\
    Ze9 (f) (g) (l) (o) (i + 1) (Zaj dq))) /\
  (¬(i < (↑l.length:Int)) -> vb true = dq)) :
 Ze9 f g l o i (Zaj dq):=by
 unfold Ze9
 have w1:(List.map Pr.v l).length = l.length:=List.length_map ..
 have i2:(decide (i < (↑(List.map Pr.v l).length:Int))) = true ↔ (i < (↑l.length:Int)):=(by (try rw [w1]);all_goals exact Zaa)
 rcases xq H with ⟨d3,H⟩|⟨d3,H⟩
 ·obtain ⟨k5,H⟩:=H
  have i6:(decide (i.toNat < (List.map Pr.v l).length)) = true ↔ (i.toNat < l.length):=(by (try rw [w1]);all_goals exact Zaa)
  obtain ⟨k7,H⟩:=H
  have w9:(List.map Pr.v o).length = o.length:=List.length_map ..
  have i10:(decide (i.toNat < (List.map Pr.v o).length)) = true ↔ (i.toNat < o.length):=(by (try rw [w9]);all_goals exact Zaa)
  obtain ⟨k11,H⟩:=H
  refine Zad (G:=Zaf kp32 [(6,3,.elem (ag [vi (l.getD i.toNat default).a,vi (l.getD i.toNat default).b])),(6,7,.elem (ag [vi (o.getD i.toNat default).a,vi (o.getD i.toNat default).b]))] []) 9 [true] ⟨(atC (cd Try.f32) [1,1,0,1,0,0,1,0,0,1]),[(0,AV.vec f 2 (List.map Pr.v l)),(1,AV.vec g 2 (List.map Pr.v o)),(5,vi i),(25,vb !((l.getD i.toNat default).a == (o.getD i.toNat default).a && ((l.getD i.toNat default).b == (o.getD i.toNat default).b && true)))],[],_,[((List.map Pr.v l).get?Internal i.toNat = some (ag [vi (l.getD i.toNat default).a,vi (l.getD i.toNat default).b])),((List.map Pr.v o).get?Internal i.toNat = some (ag [vi (o.getD i.toNat default).a,vi (o.getD i.toNat default).b]))],_⟩ (by kernel_rfl) (bc (ZaG (i2.2 d3)) (bc (Zaa.2 k5) (bc (i6.2 k7) (bc (Zaa.2 k5) (bc (i10.2 k11) b0))))) (qc (ZaC k7) (qc (ZaC k11) q0)) c0 ?_
  rcases xq H with ⟨d13,H⟩|⟨d13,H⟩
  ·exact ZaF (G:=Zaf kp32 [] []) 1000 [true] (vb false) (by kernel_rfl) (bc (ZaG ((i_not (i_and i_eq (i_at i_eq))).2 d13)) b0) q0 c0 H
  ·obtain ⟨k14,H⟩:=H
   have w15:wi (i + 1) = i + 1:=wI64 k14
   exact Zad (G:=Zaf kp32 [] []) 1000 [false] ⟨(atC (cd Try.f32) [1,1,0,1,0,0]),[(0,AV.vec f 2 (List.map Pr.v l)),(1,AV.vec g 2 (List.map Pr.v o)),(5,vi (wi (i + 1)))],[],_,[],_⟩ (by kernel_rfl) (bc (ZaD (fun h => d13 ((i_not (i_and i_eq (i_at i_eq))).1 h))) b0) q0 c0 (by (try rw [w15]);all_goals exact H)
 ·exact ZaF (G:=Zaf kp32 [] []) 1000 [false] (vb true) (by kernel_rfl) (bc (ZaD (fun h => d3 (i2.1 h))) b0) q0 c0 H
end Go.Av

namespace Go.Av
open Go.Proofs
namespace Sp
def tg (T:List Bw) (a b:Int):Bool:=(T.getD a.toNat default).l.getD b.toNat default
def red (T:List Bw) (a b:Int):Bool:=tg T a b && !((List.range T.length).any fun (c:Nat)=>tg T a c&&tg T c b)
def sqT (n:Nat) (T:List Bw):Prop:=T.length=n /\ ∀ r ∈ T,r.l.length=n
def inT (T:List Bw) (a b:Int):Prop:=(sqT T.length T/\T.length<=1000)/\(0<=a/\a<T.length)/\0<=b/\b<T.length
def inN (n:Int) (T:List Bw) (a b:Int):Prop:=n=T.length/\inT T a b
end Sp
theorem sqT_row {n:Nat} {T:List Bw} (h:Sp.sqT n T) {a:Nat} (ha:a < n):(T.getD a default).l.length = n:=by
 rw [List.getD_eq_getElem?_getD,List.getElem?_eq_getElem (by rw [h.1];exact ha)]
 exact h.2 _ (List.getElem_mem _)
theorem sqT_tab {n:Nat} {ps:List Pr}:Sp.sqT n (Sp.ZcG n ps):=⟨Zc8 n ps,fun r hr => by
 obtain ⟨i,hi⟩:=List.getElem?_of_mem hr
 have hil:=(List.getElem?_eq_some_iff.1 hi).1
 rw [Zc8] at hil
 have:=tabW_row (ps:=ps) hil
 rw [List.getD_eq_getElem?_getD,hi] at this
 exact this⟩
theorem ev47 (a b:Int) (fm:Bool) (T:List Bw) (h:Sp.inT T a b):Ev M1 (.pure 47 [.int .i64 a,.int .i64 b,.eptr 1 [.vec fm 1 (T.map Bw.a)] 0 0]) (.bool (Sp.tg T a b)) []:=by
 obtain ⟨⟨hs,hn⟩,ha,hb⟩:=h
 exact call47 (cl1 a b fm T _ ⟨ha.1,by rw [hs.1];omega,hb.1,by rw [sqT_row hs (by omega)];omega,rfl⟩)
theorem cr1_loop {n:Nat} {a b:Int} {fm:Bool} {T:List Bw} (hT:T.length = n) (h:Sp.inT T a b):∀ (k c:Nat),c + k = n -> Zfz a b fm T (n:Int) (c:Int) (Zaj (.bool (!((List.range' c k).any fun (c:Nat) => Sp.tg T a c && Sp.tg T c b)))):=by
 subst hT
 have h0:=h
 obtain ⟨⟨hs,hn⟩,ha,hb⟩:=h
 intro k
 induction k with
 | zero =>
  intro c hc
  exact cr1L _ _ _ _ _ _ _ ⟨fun z => absurd z (by omega),fun _ => rfl⟩
 | succ k ih =>
  intro c hc
  have e:((c:Nat):Int).toNat = c:=Int.toNat_natCast c
  refine cr1L _ _ _ _ _ _ _ ⟨fun _ => ⟨ha.1,by rw [hs.1];omega,by omega,by rw [sqT_row hs (by omega)];omega,fun _ => by rw [hs.1];omega,fun _ => hb.1,fun _ => by rw [e,sqT_row hs (by omega)];omega,fun hx => ?_,fun hx => ⟨by omega,?_⟩⟩,fun z => absurd (by omega) z⟩
  ·have:(Sp.tg T a c && Sp.tg T c b) = true:=by unfold Sp.tg;rw [hx.1,hx.2];rfl
   rw [List.range'_succ,List.any_cons,this];rfl
  ·have:(Sp.tg T a c && Sp.tg T c b) = false:=by
    unfold Sp.tg
    rw [Bool.eq_false_iff]
    intro y
    rw [Bool.and_eq_true] at y
    exact hx y
   rw [List.range'_succ,List.any_cons,this,Bool.false_or]
   exact ih (c + 1) (by omega)
theorem ev48 (n a b:Int) (fm:Bool) (T:List Bw) (h:Sp.inN n T a b):Ev M1 (.pure 48 [.int .i64 a,.int .i64 b,.eptr 1 [.vec fm 1 (T.map Bw.a)] 0 0,.eptr 1 [.int .i64 n] 0 0]) (.bool (Sp.red T a b)) []:=by
 obtain ⟨rfl,h⟩:=h
 have h0:=h
 obtain ⟨⟨hs,hn⟩,ha,hb⟩:=h
 refine call48 (cr1 _ a b fm T _ ⟨ha.1,by rw [hs.1];omega,hb.1,by rw [sqT_row hs (by omega)];omega,fun hx => ?_,fun hx => ?_⟩)
 ·unfold Sp.red
  have:Sp.tg T a b = false:=Bool.eq_false_iff.2 hx
  rw [this];rfl
 ·have:Sp.tg T a b = true:=Classical.not_not.1 hx
  unfold Sp.red
  rw [this,Bool.true_and,List.range_eq_range']
  exact cr1_loop rfl h0 T.length 0 (by omega)
theorem pPrL_loop {f g:Bool} {l o:List Pr} (hl:l.length = o.length) (hb:l.length <= 4000000000):∀ (c i:Nat),i + c = l.length -> l.take i = o.take i -> Ze9 f g l o (i:Int) (Zaj (.bool (decide (l = o)))):=by
 have gd:∀ (l:List Pr) i (hi:i < l.length),l.getD i default = l[i]:=fun l i hi => by rw [List.getD_eq_getElem?_getD,List.getElem?_eq_getElem hi];rfl
 intro c
 induction c with
 | zero =>
  intro i hi ht
  rw [List.take_of_length_le (by omega),List.take_of_length_le (by omega)] at ht
  exact pPrL _ _ _ _ _ _ ⟨fun z => absurd z (by omega),fun _ => by rw [decide_eq_true ht]⟩
 | succ c ih =>
  intro i hi ht
  have e:((i:Nat):Int).toNat = i:=Int.toNat_natCast i
  have h1:i < l.length:=by omega
  have h2:i < o.length:=by omega
  refine pPrL _ _ _ _ _ _ ⟨fun _ => ⟨by omega,by omega,by omega,fun hx => ?_,fun hx => ⟨by omega,?_⟩⟩,fun z => absurd (by omega) z⟩
  ·rw [decide_eq_false]
   intro hlo
   subst hlo
   exact hx ⟨rfl,rfl⟩
  ·have hx:=Classical.not_not.1 hx
   rw [e,gd l i h1,gd o i h2] at hx
   have:l[i] = o[i]:=by
    cases hA:l[i];cases hB:o[i]
    rw [hA,hB] at hx
    simp only at hx
    rw [hx.1,hx.2]
   exact ih (i + 1) (by omega) (by rw [ZcN h1,ZcN h2,ht,this])
theorem ev32 (f g:Bool) (l o:List Pr) (h:Sp.few l.length 4000000000):Ev M1 (.pure 32 [.vec f 2 (l.map Pr.v),.vec g 2 (o.map Pr.v)]) (.bool (decide (l = o))) []:=by
 refine call32 (pPr f g l o _ ⟨fun hx => ?_,fun hx => ?_⟩)
 ·rw [decide_eq_false]
  intro hlo;subst hlo;exact hx rfl
 ·exact pPrL_loop (by omega) h l.length 0 (by omega) rfl
end Go.Av

namespace Go.Av
open Go.Proofs
set_option maxRecDepth 100000
def fi46:Fi:=⟨29,[.tmp 4]⟩
def kp46:List (Nat × List Nat):=[(0,[0,1]),(1,[0,1,5]),(2,[0,1,5,8,9]),(3,[0,1,5,8,9,10]),(4,[0,1,5,6,8,9]),(5,[0,1,5,6,8,9,12,13]),(6,[0,1,5,6,8,9,12,13,14]),(7,[0,1,5,6,7,8,9,12,13]),(8,[0,1,5,6,7,8,9,12,13,19]),(9,[0,1,5,6,8,9,12,13]),(10,[0,1,5,6,8,9,12,13]),(11,[0,1,5,8,9]),(12,[4])]
def co1_at (n:Int) (fm:Bool) (T:List Bw) (Q:AV->Heap->Prop):Prop:=Wp M1 (.run fi46 (atC (cd Try.f46) []) [(0,.int .i64 n),(1,.func (.func 47) [] [.eptr 1 [.vec fm 1 (T.map Bw.a)] 0 0])] []) Q
def Zen (n:Int) (fm:Bool) (T:List Bw) (m a:Int) (Q:AV->Heap->Prop):Prop:=Wp M1 (.run fi46 (atC (cd Try.f46) [1,1,0,1,0,0]) [(0,.int .i64 n),(1,.func (.func 47) [] [.eptr 1 [.vec fm 1 (T.map Bw.a)] 0 0]),(5,.vnil),(8,.int .i64 m),(9,.int .i64 a)] []) Q
def Zd2 (n:Int) (fm:Bool) (T:List Bw) (m a k b:Int) (Q:AV->Heap->Prop):Prop:=Wp M1 (.run fi46 (atC (cd Try.f46) [1,1,0,1,0,0,1,1,0,0,1,1,0,0]) [(0,.int .i64 n),(1,.func (.func 47) [] [.eptr 1 [.vec fm 1 (T.map Bw.a)] 0 0]),(5,.vnil),(6,.int .i64 a),(8,.int .i64 m),(9,.int .i64 a),(12,.int .i64 k),(13,.int .i64 b)] []) Q
def co1R_at (n:Int) (fm:Bool) (T:List Bw) (P:List Pr) (v:Nat) (m a:Int) (Q:AV->Heap->Prop):Prop:=Wp M1 (.run fi46 (atC (cd Try.f46) [1,1,0,1,0,0]) [(0,.int .i64 n),(1,.func (.func 47) [] [.eptr 1 [.vec fm 1 (T.map Bw.a)] 0 0]),(5,.row 0 v),(8,.int .i64 m),(9,.int .i64 a)] [⟨P.map Pr.v,2,v,false,true⟩]) Q
def ZcC (n:Int) (fm:Bool) (T:List Bw) (P:List Pr) (v:Nat) (m a k b:Int) (Q:AV->Heap->Prop):Prop:=Wp M1 (.run fi46 (atC (cd Try.f46) [1,1,0,1,0,0,1,1,0,0,1,1,0,0]) [(0,.int .i64 n),(1,.func (.func 47) [] [.eptr 1 [.vec fm 1 (T.map Bw.a)] 0 0]),(5,.row 0 v),(6,.int .i64 a),(8,.int .i64 m),(9,.int .i64 a),(12,.int .i64 k),(13,.int .i64 b)] [⟨P.map Pr.v,2,v,false,true⟩]) Q
def co2_at (n:Int) (fm:Bool) (T:List Bw) (Q:AV->Heap->Prop):Prop:=Wp M1 (.run fi46 (atC (cd Try.f46) []) [(0,.int .i64 n),(1,.func (.func 48) [] [.eptr 1 [.vec fm 1 (T.map Bw.a)] 0 0,.eptr 1 [.int .i64 n] 0 0])] []) Q
def Zem (n:Int) (fm:Bool) (T:List Bw) (m a:Int) (Q:AV->Heap->Prop):Prop:=Wp M1 (.run fi46 (atC (cd Try.f46) [1,1,0,1,0,0]) [(0,.int .i64 n),(1,.func (.func 48) [] [.eptr 1 [.vec fm 1 (T.map Bw.a)] 0 0,.eptr 1 [.int .i64 n] 0 0]),(5,.vnil),(8,.int .i64 m),(9,.int .i64 a)] []) Q
def Zd1 (n:Int) (fm:Bool) (T:List Bw) (m a k b:Int) (Q:AV->Heap->Prop):Prop:=Wp M1 (.run fi46 (atC (cd Try.f46) [1,1,0,1,0,0,1,1,0,0,1,1,0,0]) [(0,.int .i64 n),(1,.func (.func 48) [] [.eptr 1 [.vec fm 1 (T.map Bw.a)] 0 0,.eptr 1 [.int .i64 n] 0 0]),(5,.vnil),(6,.int .i64 a),(8,.int .i64 m),(9,.int .i64 a),(12,.int .i64 k),(13,.int .i64 b)] []) Q
def co2R_at (n:Int) (fm:Bool) (T:List Bw) (P:List Pr) (v:Nat) (m a:Int) (Q:AV->Heap->Prop):Prop:=Wp M1 (.run fi46 (atC (cd Try.f46) [1,1,0,1,0,0]) [(0,.int .i64 n),(1,.func (.func 48) [] [.eptr 1 [.vec fm 1 (T.map Bw.a)] 0 0,.eptr 1 [.int .i64 n] 0 0]),(5,.row 0 v),(8,.int .i64 m),(9,.int .i64 a)] [⟨P.map Pr.v,2,v,false,true⟩]) Q
def ZcB (n:Int) (fm:Bool) (T:List Bw) (P:List Pr) (v:Nat) (m a k b:Int) (Q:AV->Heap->Prop):Prop:=Wp M1 (.run fi46 (atC (cd Try.f46) [1,1,0,1,0,0,1,1,0,0,1,1,0,0]) [(0,.int .i64 n),(1,.func (.func 48) [] [.eptr 1 [.vec fm 1 (T.map Bw.a)] 0 0,.eptr 1 [.int .i64 n] 0 0]),(5,.row 0 v),(6,.int .i64 a),(8,.int .i64 m),(9,.int .i64 a),(12,.int .i64 k),(13,.int .i64 b)] [⟨P.map Pr.v,2,v,false,true⟩]) Q
theorem call46 {args:List AV} {d:AV} (h:wc M1 fi46 Try.f46 args d):Ev M1 (.pure 46 args) d []:=pcl _ _ (by kernel_rfl) h
theorem co1 (n:Int) (fm:Bool) (T:List Bw)  (dq:AV) (H :
  Zen (n) (fm) (T) (n) (0) (Zaj dq)) :
 co1_at n fm T (Zaj dq):=by
 unfold co1_at
 exact Zad (G:=Zaf kp46 [] []) 1000 [] ⟨(atC (cd Try.f46) [1,1,0,1,0,0]),[(0,vi n),(1,AV.func (Fn.func 47) [] [AV.eptr 1 [AV.vec fm 1 (List.map Bw.a T)] 0 0]),(5,AV.vnil),(8,vi n),(9,vi 0)],[],_,[],_⟩ (by kernel_rfl) b0 q0 c0 (H)
theorem co1N (n:Int) (fm:Bool) (T:List Bw) (m a:Int)  (dq:AV) (H :
  ((a < m) -> Zd2 (n) (fm) (T) (m) (a) (n) (0) (Zaj dq)) /\
  (¬(a < m) -> Weak (AV.vnil) dq)) :
 Zen n fm T m a (Zaj dq):=by
 unfold Zen
 rcases xq H with ⟨d2,H⟩|⟨d2,H⟩
 ·exact Zad (G:=Zaf kp46 [] []) 1000 [true] ⟨(atC (cd Try.f46) [1,1,0,1,0,0,1,1,0,0,1,1,0,0]),[(0,vi n),(1,AV.func (Fn.func 47) [] [AV.eptr 1 [AV.vec fm 1 (List.map Bw.a T)] 0 0]),(5,AV.vnil),(6,vi a),(8,vi m),(9,vi a),(12,vi n),(13,vi 0)],[],_,[],_⟩ (by kernel_rfl) (bc (ZaG (Zaa.2 d2)) b0) q0 c0 (H)
 ·exact ZbJ (G:=Zaf kp46 [] []) 1000 [false] (AV.vnil) (by kernel_rfl) (bc (ZaD (fun h => d2 (Zaa.1 h))) b0) q0 c0 H
theorem co1Ni (n:Int) (fm:Bool) (T:List Bw) (m a k b:Int)  (dq:AV) (H :
  ((b < k) -> (Sp.inT T a b) /\
   ((Sp.tg T a b = true) -> (-9223372036854775808 <= b + 1 /\ b + 1 <= 9223372036854775807) /\
    ZcC (n) (fm) (T) ([{ a:=a,b:=b }]) (0) (m) (a) (k) (b + 1) (Zaj dq)) /\
   (¬(Sp.tg T a b = true) -> (-9223372036854775808 <= b + 1 /\ b + 1 <= 9223372036854775807) /\
    Zd2 (n) (fm) (T) (m) (a) (k) (b + 1) (Zaj dq))) /\
  (¬(b < k) -> (-9223372036854775808 <= a + 1 /\ a + 1 <= 9223372036854775807) /\
   Zen (n) (fm) (T) (m) (a + 1) (Zaj dq))) :
 Zd2 n fm T m a k b (Zaj dq):=by
 unfold Zd2
 rcases xq H with ⟨d2,H⟩|⟨d2,H⟩
 ·obtain ⟨k3,H⟩:=H
  refine Zad (G:=Zaf kp46 [(8,3,.call (vb (Sp.tg T a b)) none)] []) 11 [true] ⟨(atC (cd Try.f46) [1,1,0,1,0,0,1,1,0,0,1,1,0,0,1,1,0,0,1,1]),[(0,vi n),(1,AV.func (Fn.func 47) [] [AV.eptr 1 [AV.vec fm 1 (List.map Bw.a T)] 0 0]),(5,AV.vnil),(6,vi a),(7,vi b),(8,vi m),(9,vi a),(12,vi k),(13,vi b),(19,vb (Sp.tg T a b))],[],_,[],_⟩ (by kernel_rfl) (bc (ZaG (Zaa.2 d2)) b0) q0 (ce (@ev47 (a) (b) (fm) (T) k3) c0) ?_
  rcases xq H with ⟨d5,H⟩|⟨d5,H⟩
  ·obtain ⟨k6,H⟩:=H
   have w7:wi (b + 1) = b + 1:=wI64 k6
   have w8:[ag [vi a,vi b]] = List.map Pr.v [{ a:=a,b:=b }]:=rfl
   exact Zad (G:=Zaf kp46 [] []) 1000 [true] ⟨(atC (cd Try.f46) [1,1,0,1,0,0,1,1,0,0,1,1,0,0]),[(0,vi n),(1,AV.func (Fn.func 47) [] [AV.eptr 1 [AV.vec fm 1 (List.map Bw.a T)] 0 0]),(5,AV.row 0 0),(6,vi a),(8,vi m),(9,vi a),(12,vi k),(13,vi (wi (b + 1)))],[⟨[ag [vi a,vi b]],2,0,false,true⟩],[(Sp.tg T a b) == true,true],[],_⟩ (by kernel_rfl) (bc (ZaG ((Zb0 _).2 d5)) (bc rfl b0)) q0 c0 (by (try rw [w7]);(try rw [w8]);all_goals exact H)
  ·obtain ⟨k9,H⟩:=H
   have w10:wi (b + 1) = b + 1:=wI64 k9
   exact Zad (G:=Zaf kp46 [] []) 1000 [false] ⟨(atC (cd Try.f46) [1,1,0,1,0,0,1,1,0,0,1,1,0,0]),[(0,vi n),(1,AV.func (Fn.func 47) [] [AV.eptr 1 [AV.vec fm 1 (List.map Bw.a T)] 0 0]),(5,AV.vnil),(6,vi a),(8,vi m),(9,vi a),(12,vi k),(13,vi (wi (b + 1)))],[],[(Sp.tg T a b) == false],[],_⟩ (by kernel_rfl) (bc (ZaD (fun h => d5 ((Zb0 _).1 h))) b0) q0 c0 (by (try rw [w10]);all_goals exact H)
 ·obtain ⟨k11,H⟩:=H
  have w12:wi (a + 1) = a + 1:=wI64 k11
  exact Zad (G:=Zaf kp46 [] []) 1000 [false] ⟨(atC (cd Try.f46) [1,1,0,1,0,0]),[(0,vi n),(1,AV.func (Fn.func 47) [] [AV.eptr 1 [AV.vec fm 1 (List.map Bw.a T)] 0 0]),(5,AV.vnil),(8,vi m),(9,vi (wi (a + 1)))],[],_,[],_⟩ (by kernel_rfl) (bc (ZaD (fun h => d2 (Zaa.1 h))) b0) q0 c0 (by (try rw [w12]);all_goals exact H)
theorem co1R (n:Int) (fm:Bool) (T:List Bw) (P:List Pr) (v:Nat) (m a:Int)  (dq:AV) (H :
  ((a < m) -> ZcC (n) (fm) (T) (P) (v) (m) (a) (n) (0) (Zaj dq)) /\
  (¬(a < m) -> Weak (AV.vec false 2 (List.map Pr.v P)) dq)) :
 co1R_at n fm T P v m a (Zaj dq):=by
 unfold co1R_at
 rcases xq H with ⟨d2,H⟩|⟨d2,H⟩
 ·exact Zad (G:=Zaf kp46 [] []) 1000 [true] ⟨(atC (cd Try.f46) [1,1,0,1,0,0,1,1,0,0,1,1,0,0]),[(0,vi n),(1,AV.func (Fn.func 47) [] [AV.eptr 1 [AV.vec fm 1 (List.map Bw.a T)] 0 0]),(5,AV.row 0 v),(6,vi a),(8,vi m),(9,vi a),(12,vi n),(13,vi 0)],[⟨List.map Pr.v P,2,v,false,true⟩],_,[],_⟩ (by kernel_rfl) (bc (ZaG (Zaa.2 d2)) b0) q0 c0 (H)
 ·exact Zbf (G:=Zaf kp46 [] []) 1000 [false] (k:=((atC (cd Try.f46) [1,1,1,1])).tail) (env':=[(4,AV.row 0 v)]) (L':=[⟨List.map Pr.v P,2,v,false,true⟩]) (asm:=[(decide (a < m)) == false]) (eqs:=[]) (calls:=[]) (AV.row 0 v) (by kernel_rfl) (by kernel_rfl) (Zam (ZaD (fun h => d2 (Zaa.1 h))) Zax) Za6 Za7 (Ze6 (d:=(AV.vec false 2 (List.map Pr.v P))) (bs:=[v == v]) (by kernel_rfl) (by kernel_rfl) (Zam (beq_self_eq_true _) Zax) (by kernel_rfl) H)
theorem co1Ri (n:Int) (fm:Bool) (T:List Bw) (P:List Pr) (v:Nat) (m a k b:Int)  (dq:AV) (H :
  ((b < k) -> (Sp.inT T a b) /\
   ((Sp.tg T a b = true) -> ((P.length + 1) * 16 <= 1099511627776) /\
    (-9223372036854775808 <= b + 1 /\ b + 1 <= 9223372036854775807) /\
    ZcC (n) (fm) (T) (P ++ [{ a:=a,b:=b }]) (v + 1) (m) (a) (k) (b + 1) (Zaj dq)) /\
   (¬(Sp.tg T a b = true) -> (-9223372036854775808 <= b + 1 /\ b + 1 <= 9223372036854775807) /\
    ZcC (n) (fm) (T) (P) (v) (m) (a) (k) (b + 1) (Zaj dq))) /\
  (¬(b < k) -> (-9223372036854775808 <= a + 1 /\ a + 1 <= 9223372036854775807) /\
   co1R_at (n) (fm) (T) (P) (v) (m) (a + 1) (Zaj dq))) :
 ZcC n fm T P v m a k b (Zaj dq):=by
 unfold ZcC
 rcases xq H with ⟨d2,H⟩|⟨d2,H⟩
 ·obtain ⟨k3,H⟩:=H
  refine Zad (G:=Zaf kp46 [(8,3,.call (vb (Sp.tg T a b)) none)] []) 11 [true] ⟨(atC (cd Try.f46) [1,1,0,1,0,0,1,1,0,0,1,1,0,0,1,1,0,0,1,1]),[(0,vi n),(1,AV.func (Fn.func 47) [] [AV.eptr 1 [AV.vec fm 1 (List.map Bw.a T)] 0 0]),(5,AV.row 0 v),(6,vi a),(7,vi b),(8,vi m),(9,vi a),(12,vi k),(13,vi b),(19,vb (Sp.tg T a b))],[⟨List.map Pr.v P,2,v,false,true⟩],_,[],_⟩ (by kernel_rfl) (bc (ZaG (Zaa.2 d2)) b0) q0 (ce (@ev47 (a) (b) (fm) (T) k3) c0) ?_
  rcases xq H with ⟨d5,H⟩|⟨d5,H⟩
  ·have w6:(List.map Pr.v P).length = P.length:=List.length_map ..
   have i7:(decide (((List.map Pr.v P).length + 1) * 16 <= 1099511627776)) = true ↔ ((P.length + 1) * 16 <= 1099511627776):=(by (try rw [w6]);all_goals exact Zaa)
   obtain ⟨k8,H⟩:=H
   have w9:List.map Pr.v P ++ [ag [vi a,vi b]] = List.map Pr.v (P ++ [{ a:=a,b:=b }]):=(Zey rfl rfl)
   obtain ⟨k10,H⟩:=H
   have w11:wi (b + 1) = b + 1:=wI64 k10
   exact Zad (G:=Zaf kp46 [] []) 1000 [true] ⟨(atC (cd Try.f46) [1,1,0,1,0,0,1,1,0,0,1,1,0,0]),[(0,vi n),(1,AV.func (Fn.func 47) [] [AV.eptr 1 [AV.vec fm 1 (List.map Bw.a T)] 0 0]),(5,AV.row 0 (v + 1)),(6,vi a),(8,vi m),(9,vi a),(12,vi k),(13,vi (wi (b + 1)))],[⟨List.map Pr.v P ++ [ag [vi a,vi b]],2,v + 1,false,true⟩],[(Sp.tg T a b) == true,v == v,decide (((List.map Pr.v P).length + 1) * 16 <= 1099511627776)],[],_⟩ (by kernel_rfl) (bc (ZaG ((Zb0 _).2 d5)) (bc (beq_self_eq_true _) (bc (i7.2 k8) b0))) q0 c0 (by (try rw [w9]);(try rw [w11]);all_goals exact H)
  ·obtain ⟨k12,H⟩:=H
   have w13:wi (b + 1) = b + 1:=wI64 k12
   exact Zad (G:=Zaf kp46 [] []) 1000 [false] ⟨(atC (cd Try.f46) [1,1,0,1,0,0,1,1,0,0,1,1,0,0]),[(0,vi n),(1,AV.func (Fn.func 47) [] [AV.eptr 1 [AV.vec fm 1 (List.map Bw.a T)] 0 0]),(5,AV.row 0 v),(6,vi a),(8,vi m),(9,vi a),(12,vi k),(13,vi (wi (b + 1)))],[⟨List.map Pr.v P,2,v,false,true⟩],[(Sp.tg T a b) == false],[],_⟩ (by kernel_rfl) (bc (ZaD (fun h => d5 ((Zb0 _).1 h))) b0) q0 c0 (by (try rw [w13]);all_goals exact H)
 ·obtain ⟨k14,H⟩:=H
  have w15:wi (a + 1) = a + 1:=wI64 k14
  exact Zad (G:=Zaf kp46 [] []) 1000 [false] ⟨(atC (cd Try.f46) [1,1,0,1,0,0]),[(0,vi n),(1,AV.func (Fn.func 47) [] [AV.eptr 1 [AV.vec fm 1 (List.map Bw.a T)] 0 0]),(5,AV.row 0 v),(8,vi m),(9,vi (wi (a + 1)))],[⟨List.map Pr.v P,2,v,false,true⟩],_,[],_⟩ (by kernel_rfl) (bc (ZaD (fun h => d2 (Zaa.1 h))) b0) q0 c0 (by (try rw [w15]);all_goals exact H)
theorem co2 (n:Int) (fm:Bool) (T:List Bw)  (dq:AV) (H :
  Zem (n) (fm) (T) (n) (0) (Zaj dq)) :
 co2_at n fm T (Zaj dq):=by
 unfold co2_at
 exact Zad (G:=Zaf kp46 [] []) 1000 [] ⟨(atC (cd Try.f46) [1,1,0,1,0,0]),[(0,vi n),(1,AV.func (Fn.func 48) [] [AV.eptr 1 [AV.vec fm 1 (List.map Bw.a T)] 0 0,AV.eptr 1 [vi n] 0 0]),(5,AV.vnil),(8,vi n),(9,vi 0)],[],_,[],_⟩ (by kernel_rfl) b0 q0 c0 (H)
theorem co2N (n:Int) (fm:Bool) (T:List Bw) (m a:Int)  (dq:AV) (H :
  ((a < m) -> Zd1 (n) (fm) (T) (m) (a) (n) (0) (Zaj dq)) /\
  (¬(a < m) -> Weak (AV.vnil) dq)) :
 Zem n fm T m a (Zaj dq):=by
 unfold Zem
 rcases xq H with ⟨d2,H⟩|⟨d2,H⟩
 ·exact Zad (G:=Zaf kp46 [] []) 1000 [true] ⟨(atC (cd Try.f46) [1,1,0,1,0,0,1,1,0,0,1,1,0,0]),[(0,vi n),(1,AV.func (Fn.func 48) [] [AV.eptr 1 [AV.vec fm 1 (List.map Bw.a T)] 0 0,AV.eptr 1 [vi n] 0 0]),(5,AV.vnil),(6,vi a),(8,vi m),(9,vi a),(12,vi n),(13,vi 0)],[],_,[],_⟩ (by kernel_rfl) (bc (ZaG (Zaa.2 d2)) b0) q0 c0 (H)
 ·exact ZbJ (G:=Zaf kp46 [] []) 1000 [false] (AV.vnil) (by kernel_rfl) (bc (ZaD (fun h => d2 (Zaa.1 h))) b0) q0 c0 H
theorem co2Ni (n:Int) (fm:Bool) (T:List Bw) (m a k b:Int)  (dq:AV) (H :
  ((b < k) -> (Sp.inN n T a b) /\
   ((Sp.red T a b = true) -> (-9223372036854775808 <= b + 1 /\ b + 1 <= 9223372036854775807) /\
    ZcB (n) (fm) (T) ([{ a:=a,b:=b }]) (0) (m) (a) (k) (b + 1) (Zaj dq)) /\
   (¬(Sp.red T a b = true) -> (-9223372036854775808 <= b + 1 /\ b + 1 <= 9223372036854775807) /\
    Zd1 (n) (fm) (T) (m) (a) (k) (b + 1) (Zaj dq))) /\
  (¬(b < k) -> (-9223372036854775808 <= a + 1 /\ a + 1 <= 9223372036854775807) /\
   Zem (n) (fm) (T) (m) (a + 1) (Zaj dq))) :
 Zd1 n fm T m a k b (Zaj dq):=by
 unfold Zd1
 rcases xq H with ⟨d2,H⟩|⟨d2,H⟩
 ·obtain ⟨k3,H⟩:=H
  refine Zad (G:=Zaf kp46 [(8,3,.call (vb (Sp.red T a b)) none)] []) 11 [true] ⟨(atC (cd Try.f46) [1,1,0,1,0,0,1,1,0,0,1,1,0,0,1,1,0,0,1,1]),[(0,vi n),(1,AV.func (Fn.func 48) [] [AV.eptr 1 [AV.vec fm 1 (List.map Bw.a T)] 0 0,AV.eptr 1 [vi n] 0 0]),(5,AV.vnil),(6,vi a),(7,vi b),(8,vi m),(9,vi a),(12,vi k),(13,vi b),(19,vb (Sp.red T a b))],[],_,[],_⟩ (by kernel_rfl) (bc (ZaG (Zaa.2 d2)) b0) q0 (ce (@ev48 (n) (a) (b) (fm) (T) k3) c0) ?_
  rcases xq H with ⟨d5,H⟩|⟨d5,H⟩
  ·obtain ⟨k6,H⟩:=H
   have w7:wi (b + 1) = b + 1:=wI64 k6
   have w8:[ag [vi a,vi b]] = List.map Pr.v [{ a:=a,b:=b }]:=rfl
   exact Zad (G:=Zaf kp46 [] []) 1000 [true] ⟨(atC (cd Try.f46) [1,1,0,1,0,0,1,1,0,0,1,1,0,0]),[(0,vi n),(1,AV.func (Fn.func 48) [] [AV.eptr 1 [AV.vec fm 1 (List.map Bw.a T)] 0 0,AV.eptr 1 [vi n] 0 0]),(5,AV.row 0 0),(6,vi a),(8,vi m),(9,vi a),(12,vi k),(13,vi (wi (b + 1)))],[⟨[ag [vi a,vi b]],2,0,false,true⟩],[(Sp.red T a b) == true,true],[],_⟩ (by kernel_rfl) (bc (ZaG ((Zb0 _).2 d5)) (bc rfl b0)) q0 c0 (by (try rw [w7]);(try rw [w8]);all_goals exact H)
  ·obtain ⟨k9,H⟩:=H
   have w10:wi (b + 1) = b + 1:=wI64 k9
   exact Zad (G:=Zaf kp46 [] []) 1000 [false] ⟨(atC (cd Try.f46) [1,1,0,1,0,0,1,1,0,0,1,1,0,0]),[(0,vi n),(1,AV.func (Fn.func 48) [] [AV.eptr 1 [AV.vec fm 1 (List.map Bw.a T)] 0 0,AV.eptr 1 [vi n] 0 0]),(5,AV.vnil),(6,vi a),(8,vi m),(9,vi a),(12,vi k),(13,vi (wi (b + 1)))],[],[(Sp.red T a b) == false],[],_⟩ (by kernel_rfl) (bc (ZaD (fun h => d5 ((Zb0 _).1 h))) b0) q0 c0 (by (try rw [w10]);all_goals exact H)
 ·obtain ⟨k11,H⟩:=H
  have w12:wi (a + 1) = a + 1:=wI64 k11
  exact Zad (G:=Zaf kp46 [] []) 1000 [false] ⟨(atC (cd Try.f46) [1,1,0,1,0,0]),[(0,vi n),(1,AV.func (Fn.func 48) [] [AV.eptr 1 [AV.vec fm 1 (List.map Bw.a T)] 0 0,AV.eptr 1 [vi n] 0 0]),(5,AV.vnil),(8,vi m),(9,vi (wi (a + 1)))],[],_,[],_⟩ (by kernel_rfl) (bc (ZaD (fun h => d2 (Zaa.1 h))) b0) q0 c0 (by (try rw [w12]);all_goals exact H)
theorem co2R (n:Int) (fm:Bool) (T:List Bw) (P:List Pr) (v:Nat) (m a:Int)  (dq:AV) (H :
  ((a < m) -> ZcB (n) (fm) (T) (P) (v) (m) (a) (n) (0) (Zaj dq)) /\
  (¬(a < m) -> Weak (AV.vec false 2 (List.map Pr.v P)) dq)) :
 co2R_at n fm T P v m a (Zaj dq):=by
 unfold co2R_at
 rcases xq H with ⟨d2,H⟩|⟨d2,H⟩
 ·exact Zad (G:=Zaf kp46 [] []) 1000 [true] ⟨(atC (cd Try.f46) [1,1,0,1,0,0,1,1,0,0,1,1,0,0]),[(0,vi n),(1,AV.func (Fn.func 48) [] [AV.eptr 1 [AV.vec fm 1 (List.map Bw.a T)] 0 0,AV.eptr 1 [vi n] 0 0]),(5,AV.row 0 v),(6,vi a),(8,vi m),(9,vi a),(12,vi n),(13,vi 0)],[⟨List.map Pr.v P,2,v,false,true⟩],_,[],_⟩ (by kernel_rfl) (bc (ZaG (Zaa.2 d2)) b0) q0 c0 (H)
 ·exact Zbf (G:=Zaf kp46 [] []) 1000 [false] (k:=((atC (cd Try.f46) [1,1,1,1])).tail) (env':=[(4,AV.row 0 v)]) (L':=[⟨List.map Pr.v P,2,v,false,true⟩]) (asm:=[(decide (a < m)) == false]) (eqs:=[]) (calls:=[]) (AV.row 0 v) (by kernel_rfl) (by kernel_rfl) (Zam (ZaD (fun h => d2 (Zaa.1 h))) Zax) Za6 Za7 (Ze6 (d:=(AV.vec false 2 (List.map Pr.v P))) (bs:=[v == v]) (by kernel_rfl) (by kernel_rfl) (Zam (beq_self_eq_true _) Zax) (by kernel_rfl) H)
theorem co2Ri (n:Int) (fm:Bool) (T:List Bw) (P:List Pr) (v:Nat) (m a k b:Int)  (dq:AV) (H :
  ((b < k) -> (Sp.inN n T a b) /\
   ((Sp.red T a b = true) -> ((P.length + 1) * 16 <= 1099511627776) /\
    (-9223372036854775808 <= b + 1 /\ b + 1 <= 9223372036854775807) /\
    ZcB (n) (fm) (T) (P ++ [{ a:=a,b:=b }]) (v + 1) (m) (a) (k) (b + 1) (Zaj dq)) /\
   (¬(Sp.red T a b = true) -> (-9223372036854775808 <= b + 1 /\ b + 1 <= 9223372036854775807) /\
    ZcB (n) (fm) (T) (P) (v) (m) (a) (k) (b + 1) (Zaj dq))) /\
  (¬(b < k) -> (-9223372036854775808 <= a + 1 /\ a + 1 <= 9223372036854775807) /\
   co2R_at (n) (fm) (T) (P) (v) (m) (a + 1) (Zaj dq))) :
 ZcB n fm T P v m a k b (Zaj dq):=by
 unfold ZcB
 rcases xq H with ⟨d2,H⟩|⟨d2,H⟩
 ·obtain ⟨k3,H⟩:=H
  refine Zad (G:=Zaf kp46 [(8,3,.call (vb (Sp.red T a b)) none)] []) 11 [true] ⟨(atC (cd Try.f46) [1,1,0,1,0,0,1,1,0,0,1,1,0,0,1,1,0,0,1,1]),[(0,vi n),(1,AV.func (Fn.func 48) [] [AV.eptr 1 [AV.vec fm 1 (List.map Bw.a T)] 0 0,AV.eptr 1 [vi n] 0 0]),(5,AV.row 0 v),(6,vi a),(7,vi b),(8,vi m),(9,vi a),(12,vi k),(13,vi b),(19,vb (Sp.red T a b))],[⟨List.map Pr.v P,2,v,false,true⟩],_,[],_⟩ (by kernel_rfl) (bc (ZaG (Zaa.2 d2)) b0) q0 (ce (@ev48 (n) (a) (b) (fm) (T) k3) c0) ?_
  rcases xq H with ⟨d5,H⟩|⟨d5,H⟩
  ·have w6:(List.map Pr.v P).length = P.length:=List.length_map ..
   have i7:(decide (((List.map Pr.v P).length + 1) * 16 <= 1099511627776)) = true ↔ ((P.length + 1) * 16 <= 1099511627776):=(by (try rw [w6]);all_goals exact Zaa)
   obtain ⟨k8,H⟩:=H
   have w9:List.map Pr.v P ++ [ag [vi a,vi b]] = List.map Pr.v (P ++ [{ a:=a,b:=b }]):=(Zey rfl rfl)
   obtain ⟨k10,H⟩:=H
   have w11:wi (b + 1) = b + 1:=wI64 k10
   exact Zad (G:=Zaf kp46 [] []) 1000 [true] ⟨(atC (cd Try.f46) [1,1,0,1,0,0,1,1,0,0,1,1,0,0]),[(0,vi n),(1,AV.func (Fn.func 48) [] [AV.eptr 1 [AV.vec fm 1 (List.map Bw.a T)] 0 0,AV.eptr 1 [vi n] 0 0]),(5,AV.row 0 (v + 1)),(6,vi a),(8,vi m),(9,vi a),(12,vi k),(13,vi (wi (b + 1)))],[⟨List.map Pr.v P ++ [ag [vi a,vi b]],2,v + 1,false,true⟩],[(Sp.red T a b) == true,v == v,decide (((List.map Pr.v P).length + 1) * 16 <= 1099511627776)],[],_⟩ (by kernel_rfl) (bc (ZaG ((Zb0 _).2 d5)) (bc (beq_self_eq_true _) (bc (i7.2 k8) b0))) q0 c0 (by (try rw [w9]);(try rw [w11]);all_goals exact H)
  ·obtain ⟨k12,H⟩:=H
   have w13:wi (b + 1) = b + 1:=wI64 k12
   exact Zad (G:=Zaf kp46 [] []) 1000 [false] ⟨(atC (cd Try.f46) [1,1,0,1,0,0,1,1,0,0,1,1,0,0]),[(0,vi n),(1,AV.func (Fn.func 48) [] [AV.eptr 1 [AV.vec fm 1 (List.map Bw.a T)] 0 0,AV.eptr 1 [vi n] 0 0]),(5,AV.row 0 v),(6,vi a),(8,vi m),(9,vi a),(12,vi k),(13,vi (wi (b + 1)))],[⟨List.map Pr.v P,2,v,false,true⟩],[(Sp.red T a b) == false],[],_⟩ (by kernel_rfl) (bc (ZaD (fun h => d5 ((Zb0 _).1 h))) b0) q0 c0 (by (try rw [w13]);all_goals exact H)
 ·obtain ⟨k14,H⟩:=H
  have w15:wi (a + 1) = a + 1:=wI64 k14
  exact Zad (G:=Zaf kp46 [] []) 1000 [false] ⟨(atC (cd Try.f46) [1,1,0,1,0,0]),[(0,vi n),(1,AV.func (Fn.func 48) [] [AV.eptr 1 [AV.vec fm 1 (List.map Bw.a T)] 0 0,AV.eptr 1 [vi n] 0 0]),(5,AV.row 0 v),(8,vi m),(9,vi (wi (a + 1)))],[⟨List.map Pr.v P,2,v,false,true⟩],_,[],_⟩ (by kernel_rfl) (bc (ZaD (fun h => d2 (Zaa.1 h))) b0) q0 c0 (by (try rw [w15]);all_goals exact H)
end Go.Av

namespace Go.Av
open Go.Proofs
namespace Sp
def colR (F:Int -> Int -> Bool) (a b:Nat):Nat -> List Pr
 | 0 => []
 | k + 1 => if F a b = true then (⟨a,b⟩:Pr) :: colR F a (b + 1) k else colR F a (b + 1) k
def Zc5 (F:Int -> Int -> Bool) (n a:Nat):Nat -> List Pr
 | 0 => []
 | k + 1 => colR F a 0 n ++ Zc5 F n (a + 1) k
def sqN (n:Int) (T:List Bw):Prop:=n=T.length/\sqT T.length T/\T.length<=1000
end Sp
theorem colR_len (F:Int -> Int -> Bool) (a:Nat):∀ (k b:Nat),(Sp.colR F a b k).length <= k
 | 0,b => Nat.le_refl _
 | k + 1,b => by
  unfold Sp.colR
  have:=colR_len F a k (b + 1)
  split
  ·rw [List.length_cons];omega
  ·omega
theorem Zd0 (F:Int -> Int -> Bool) (n:Nat):∀ (k a:Nat),(Sp.Zc5 F n a k).length <= k * n
 | 0,a => by simp [Sp.Zc5]
 | k + 1,a => by
  unfold Sp.Zc5
  have h1:=Zd0 F n k (a + 1)
  have h2:=colR_len F a n 0
  rw [List.length_append,Nat.succ_mul];omega
theorem col_row {F:Int -> Int -> Bool} {n a:Nat} {X:Nat -> List Pr -> Prop} {Y:Nat -> Nat -> List Pr -> Prop} (ha:a < n)
  (hY1:∀ b P,b < n -> P.length <= n * n -> (F a b = true -> Y a (b + 1) (P ++ [⟨a,b⟩])) -> (¬F a b = true -> Y a (b + 1) P) -> Y a b P) (hY2:∀ P,X (a + 1) P -> Y a n P):∀ (k b:Nat) (P:List Pr),b + k = n -> P.length <= a * n + b -> X (a + 1) (P ++ Sp.colR F a b k) -> Y a b P:=by
 have hmul:a * n + n <= n * n:=by
  have:=Nat.mul_le_mul_right n (show a + 1 <= n by omega)
  rw [Nat.succ_mul] at this;exact this
 intro k
 induction k with
 | zero =>
  intro b P hb hP h
  rw [Sp.colR,List.append_nil] at h
  rw [show b = n by omega]
  exact hY2 P h
 | succ k ih =>
  intro b P hb hP h
  rw [Sp.colR] at h
  refine hY1 b P (by omega) (by omega) (fun hF => ?_) fun hF => ?_
  ·rw [if_pos hF] at h
   exact ih (b + 1) _ (by omega) (by rw [List.length_append,List.length_singleton];omega) (by rw [List.append_assoc];exact h)
  ·rw [if_neg hF] at h
   exact ih (b + 1) _ (by omega) (by omega) h
theorem col_all {F:Int -> Int -> Bool} {n:Nat} {X:Nat -> List Pr -> Prop} {Y:Nat -> Nat -> List Pr -> Prop}
  (hY1:∀ a b P,a < n -> b < n -> P.length <= n * n -> (F a b = true -> Y a (b + 1) (P ++ [⟨a,b⟩])) -> (¬F a b = true -> Y a (b + 1) P) -> Y a b P) (hY2:∀ a P,a < n -> X (a + 1) P -> Y a n P) (hX:∀ a P,a < n -> Y a 0 P -> X a P):∀ (k a:Nat) (P:List Pr),a + k = n -> P.length <= a * n -> X n (P ++ Sp.Zc5 F n a k) -> X a P:=by
 intro k
 induction k with
 | zero =>
  intro a P ha hP h
  rw [Sp.Zc5,List.append_nil] at h
  rw [show a = n by omega];exact h
 | succ k ih =>
  intro a P ha hP h
  rw [Sp.Zc5] at h
  refine hX a P (by omega) (col_row (X:=X) (by omega) (fun b P => hY1 a b P (by omega)) (fun P => hY2 a P (by omega)) n 0 P (by omega) (by omega) (ih (a + 1) _ (by omega) ?_ (by rw [List.append_assoc];exact h)))
  have:=colR_len F a n 0
  rw [List.length_append,Nat.succ_mul];omega
theorem app_ne {P:List Pr} {x:Pr}:P++[x] ≠ []:=by simp
section
variable {fm:Bool} {T:List Bw} {dq:AV} {n:Nat}
abbrev NR (A:Prop) (B:Nat->Prop) (P:List Pr):Prop:=(P=[]->A)/\(P ≠ [] -> ∀ v,B v)
theorem co1_loop (hT:T.length = n) (hs:Sp.sqT n T) (hn:n <= 1000):Zen (n:Int) fm T n 0 (Zaj (.vec false 2 ((Sp.Zc5 (Sp.tg T) n 0 n).map Pr.v))):=by
 subst hT
 obtain ⟨dq,hd⟩:∃ dq,dq = AV.vec false 2 ((Sp.Zc5 (Sp.tg T) T.length 0 T.length).map Pr.v):=⟨_,rfl⟩
 rw [<- hd]
 have hmul:T.length * T.length <= 1000 * 1000:=Nat.mul_le_mul hn hn
 have hin:∀ {a b:Nat},a < T.length -> b < T.length -> Sp.inT T a b:=fun ha hb => ⟨⟨hs,hn⟩,by omega,by omega⟩
 refine (col_all (F:=Sp.tg T) (n:=T.length) (X:=fun a P => NR (Zen (T.length:Int) fm T T.length a (Zaj dq)) (fun v => co1R_at (T.length:Int) fm T P v T.length a (Zaj dq)) P)
  (Y:=fun a b P => NR (Zd2 (T.length:Int) fm T T.length a T.length b (Zaj dq)) (fun v => ZcC (T.length:Int) fm T P v T.length a T.length b (Zaj dq)) P)
  (fun a b P ha hb hP h1 h2 => ⟨fun e => ?_,fun e v => ?_⟩) (fun a P ha hx => ⟨fun e => ?_,fun e v => ?_⟩) (fun a P ha hy => ⟨fun e => ?_,fun e v => ?_⟩) T.length 0 [] (by omega) (by simp) ⟨fun e => ?_,fun e v => ?_⟩).1 rfl
 ·subst e
  exact co1Ni _ _ _ _ _ _ _ _ ⟨fun _ => ⟨hin ha hb,fun h => ⟨by omega,(h1 h).2 app_ne 0⟩,fun h => ⟨by omega,(h2 h).1 rfl⟩⟩,fun z => absurd (by omega) z⟩
 ·exact co1Ri _ _ _ _ _ _ _ _ _ _ ⟨fun _ => ⟨hin ha hb,fun h => ⟨by omega,by omega,(h1 h).2 app_ne _⟩,fun h => ⟨by omega,(h2 h).2 e v⟩⟩,fun z => absurd (by omega) z⟩
 ·exact co1Ni _ _ _ _ _ _ _ _ ⟨fun z => absurd z (by omega),fun _ => ⟨by omega,hx.1 e⟩⟩
 ·exact co1Ri _ _ _ _ _ _ _ _ _ _ ⟨fun z => absurd z (by omega),fun _ => ⟨by omega,hx.2 e v⟩⟩
 ·exact co1N _ _ _ _ _ _ ⟨fun _ => hy.1 e,fun z => absurd (by omega) z⟩
 ·exact co1R _ _ _ _ _ _ _ _ ⟨fun _ => hy.2 e v,fun z => absurd (by omega) z⟩
 ·rw [List.nil_append] at e
  exact co1N _ _ _ _ _ _ ⟨fun z => absurd z (by omega),fun _ => by rw [hd,e];exact .vnil 2⟩
 ·exact co1R _ _ _ _ _ _ _ _ ⟨fun z => absurd z (by omega),fun _ => by rw [hd,List.nil_append];exact .refl _⟩
theorem co2_loop (hT:T.length = n) (hs:Sp.sqT n T) (hn:n <= 1000):Zem (n:Int) fm T n 0 (Zaj (.vec false 2 ((Sp.Zc5 (Sp.red T) n 0 n).map Pr.v))):=by
 subst hT
 obtain ⟨dq,hd⟩:∃ dq,dq = AV.vec false 2 ((Sp.Zc5 (Sp.red T) T.length 0 T.length).map Pr.v):=⟨_,rfl⟩
 rw [<- hd]
 have hmul:T.length * T.length <= 1000 * 1000:=Nat.mul_le_mul hn hn
 have hin:∀ {a b:Nat},a < T.length -> b < T.length -> Sp.inN T.length T a b:=fun ha hb => ⟨rfl,⟨hs,hn⟩,by omega,by omega⟩
 refine (col_all (F:=Sp.red T) (n:=T.length) (X:=fun a P => NR (Zem (T.length:Int) fm T T.length a (Zaj dq)) (fun v => co2R_at (T.length:Int) fm T P v T.length a (Zaj dq)) P)
  (Y:=fun a b P => NR (Zd1 (T.length:Int) fm T T.length a T.length b (Zaj dq)) (fun v => ZcB (T.length:Int) fm T P v T.length a T.length b (Zaj dq)) P)
  (fun a b P ha hb hP h1 h2 => ⟨fun e => ?_,fun e v => ?_⟩) (fun a P ha hx => ⟨fun e => ?_,fun e v => ?_⟩) (fun a P ha hy => ⟨fun e => ?_,fun e v => ?_⟩) T.length 0 [] (by omega) (by simp) ⟨fun e => ?_,fun e v => ?_⟩).1 rfl
 ·subst e
  exact co2Ni _ _ _ _ _ _ _ _ ⟨fun _ => ⟨hin ha hb,fun h => ⟨by omega,(h1 h).2 app_ne 0⟩,fun h => ⟨by omega,(h2 h).1 rfl⟩⟩,fun z => absurd (by omega) z⟩
 ·exact co2Ri _ _ _ _ _ _ _ _ _ _ ⟨fun _ => ⟨hin ha hb,fun h => ⟨by omega,by omega,(h1 h).2 app_ne _⟩,fun h => ⟨by omega,(h2 h).2 e v⟩⟩,fun z => absurd (by omega) z⟩
 ·exact co2Ni _ _ _ _ _ _ _ _ ⟨fun z => absurd z (by omega),fun _ => ⟨by omega,hx.1 e⟩⟩
 ·exact co2Ri _ _ _ _ _ _ _ _ _ _ ⟨fun z => absurd z (by omega),fun _ => ⟨by omega,hx.2 e v⟩⟩
 ·exact co2N _ _ _ _ _ _ ⟨fun _ => hy.1 e,fun z => absurd (by omega) z⟩
 ·exact co2R _ _ _ _ _ _ _ _ ⟨fun _ => hy.2 e v,fun z => absurd (by omega) z⟩
 ·rw [List.nil_append] at e
  exact co2N _ _ _ _ _ _ ⟨fun z => absurd z (by omega),fun _ => by rw [hd,e];exact .vnil 2⟩
 ·exact co2R _ _ _ _ _ _ _ _ ⟨fun z => absurd z (by omega),fun _ => by rw [hd,List.nil_append];exact .refl _⟩
end
end Go.Av

namespace Go.Av
open Go.Proofs
theorem ev46_a (n:Int) (fm:Bool) (T:List Bw) (h:Sp.sqN n T):Ev M1 (.pure 46 [.int .i64 n,.func (.func 47) [] [.eptr 1 [.vec fm 1 (T.map Bw.a)] 0 0]]) (.vec false 2 ((Sp.Zc5 (Sp.tg T) n.toNat 0 n.toNat).map Pr.v)) []:=by
 obtain ⟨rfl,hs,hn⟩:=h
 rw [Int.toNat_natCast]
 exact call46 (co1 _ fm T _ (co1_loop rfl hs hn))
theorem ev46_b (n:Int) (fm:Bool) (T:List Bw) (h:Sp.sqN n T):Ev M1 (.pure 46 [.int .i64 n,.func (.func 48) [] [.eptr 1 [.vec fm 1 (T.map Bw.a)] 0 0,.eptr 1 [.int .i64 n] 0 0]]) (.vec false 2 ((Sp.Zc5 (Sp.red T) n.toNat 0 n.toNat).map Pr.v)) []:=by
 obtain ⟨rfl,hs,hn⟩:=h
 rw [Int.toNat_natCast]
 exact call46 (co2 _ fm T _ (co2_loop rfl hs hn))
namespace Sp
noncomputable def clL (n:Int) (ps:List Pr):List Pr:=if ZaQ n ps=0 then Zc5 (tg (ZcG n.toNat ps)) n.toNat 0 n.toNat else []
noncomputable def rdL (n:Int) (ps:List Pr):List Pr:=if ZaQ n ps=0 then Zc5 (red (ZcG n.toNat ps)) n.toNat 0 n.toNat else []
end Sp
theorem weak_err {es:Nat} {e:Int}:Weak (.tup [.vnil,.int .i64 e]) (.tup [.vec false es [],.int .i64 e]):=weak_tup2 (.vnil es) (.refl _)
theorem ZfA {F:Int -> Int -> Bool} {q:Pr -> Bool} (a:Nat):∀ (k b:Nat),(Sp.colR F a b k).filter q = Sp.colR (fun a b => F a b && q ⟨a,b⟩) a b k
 | 0,b => rfl
 | k + 1,b => by
  unfold Sp.colR
  have ih:=ZfA (F:=F) (q:=q) a k (b + 1)
  cases hF:F a b with
  | false => simp only [Bool.false_eq_true,if_false,Bool.false_and];exact ih
  | true =>
   cases hq:q ⟨a,b⟩ with
   | false => simp only [if_true,Bool.and_false,Bool.false_eq_true,if_false];rw [List.filter_cons_of_neg (by rw [hq];simp)];exact ih
   | true => simp only [if_true,Bool.and_true];rw [List.filter_cons_of_pos hq,ih]
theorem ZfB {F:Int -> Int -> Bool} {q:Pr -> Bool} (n:Nat):∀ (k a:Nat),(Sp.Zc5 F n a k).filter q = Sp.Zc5 (fun a b => F a b && q ⟨a,b⟩) n a k
 | 0,a => rfl
 | k + 1,a => by
  unfold Sp.Zc5
  rw [List.filter_append,ZfA,ZfB n k (a + 1)]
theorem ZeL {F:Int -> Int -> Bool} {a:Nat}:∀ {k b:Nat} {p:Pr},p ∈ Sp.colR F a b k ↔ p.a = a /\ ((b:Int) <= p.b /\ p.b < b + k) /\ F p.a p.b = true
 | 0,b,p => by
  unfold Sp.colR
  exact ⟨fun h => (nomatch h),fun ⟨_,h,_⟩ => by omega⟩
 | k + 1,b,p => by
  unfold Sp.colR
  have ih:=ZeL (F:=F) (a:=a) (k:=k) (b:=b + 1) (p:=p)
  have key:(p.a = a /\ (((b:Nat):Int) <= p.b /\ p.b < b + (k + 1:Nat)) /\ F p.a p.b = true) ↔ (p = ⟨a,b⟩ /\ F a b = true) \/ (p.a = a /\ (((b + 1:Nat):Int) <= p.b /\ p.b < (b + 1:Nat) + k) /\ F p.a p.b = true):=by
   constructor
   ·rintro ⟨h1,h2,h3⟩
    by_cases e:p.b = b
    ·exact .inl ⟨by cases p;simp only at h1 e;rw [h1,e],by rw [<- h1,<- e];exact h3⟩
    ·exact .inr ⟨h1,by omega,h3⟩
   ·rintro (⟨rfl,h⟩ | ⟨h1,h2,h3⟩)
    ·exact ⟨rfl,⟨by simp only;omega,by simp only;omega⟩,h⟩
    ·exact ⟨h1,by omega,h3⟩
  rw [key]
  by_cases hF:F a b = true
  ·rw [if_pos hF,List.mem_cons,ih]
   simp only [hF,and_true]
  ·rw [if_neg hF,ih]
   exact ⟨.inr,fun h => h.resolve_left fun z => hF z.2⟩
theorem ZdZ {F:Int -> Int -> Bool} {n:Nat}:∀ {k a:Nat} {p:Pr},p ∈ Sp.Zc5 F n a k ↔ ((a:Int) <= p.a /\ p.a < a + k) /\ (0 <= p.b /\ p.b < n) /\ F p.a p.b = true
 | 0,a,p => by
  unfold Sp.Zc5
  exact ⟨fun h => (nomatch h),fun ⟨h,_⟩ => by omega⟩
 | k + 1,a,p => by
  unfold Sp.Zc5
  rw [List.mem_append,ZeL,ZdZ (k:=k) (a:=a + 1)]
  constructor
  ·rintro (⟨h1,h2,h3⟩ | ⟨h1,h2,h3⟩)
   ·exact ⟨by omega,by omega,h3⟩
   ·exact ⟨by omega,h2,h3⟩
  ·rintro ⟨h1,h2,h3⟩
   by_cases e:p.a = a
   ·exact .inl ⟨e,by omega,h3⟩
   ·exact .inr ⟨by omega,h2,h3⟩
end Go.Av

namespace Go.Av
open Go.Proofs
set_option maxRecDepth 100000
def fi28:Fi:=⟨20,[.tmp 4,.tmp 5]⟩
def kp28:List (Nat × List Nat):=[(0,[0,1]),(1,[0,6,7]),(2,[0,6,7,15]),(3,[4,5]),(4,[4,5])]
def fi30:Fi:=⟨20,[.tmp 4,.tmp 5]⟩
def kp30:List (Nat × List Nat):=[(0,[1,2]),(1,[2,6,7]),(2,[2,6,7,15]),(3,[4,5]),(4,[4,5])]
def qCl_at (n:Int) (f:Bool) (ps:List Pr) (Q:AV->Heap->Prop):Prop:=Wp M1 (.run fi28 (atC (cd Try.f28) []) [(0,.int .i64 n),(1,.vec f 2 (ps.map Pr.v))] []) Q
def qRd_at (n:Int) (f:Bool) (ps:List Pr) (Q:AV->Heap->Prop):Prop:=Wp M1 (.run fi30 (atC (cd Try.f30) []) [(0,.int .i64 n),(1,.vec f 2 (ps.map Pr.v))] []) Q
theorem call28 {args:List AV} {d:AV} (h:wc M1 fi28 Try.f28 args d):Ev M1 (.pure 28 args) d []:=pcl _ _ (by kernel_rfl) h
theorem call30 {args:List AV} {d:AV} (h:wc M1 fi30 Try.f30 args d):Ev M1 (.pure 30 args) d []:=pcl _ _ (by kernel_rfl) h
theorem qCl (n:Int) (f:Bool) (ps:List Pr)  (dq:AV) (H :
  ((¬Sp.ZaQ n ps = 0) -> Weak (tu [AV.vnil,vi (Sp.ZaQ n ps)]) dq) /\
  (¬(¬Sp.ZaQ n ps = 0) -> (Sp.sqN n (Sp.reL n ps)) /\
   Weak (tu [AV.vec false 2 (List.map Pr.v (Sp.Zc5 (Sp.tg (Sp.reL n ps)) n.toNat 0 n.toNat)),vi 0]) dq)) :
 qCl_at n f ps (Zaj dq):=by
 unfold qCl_at
 refine Zad (G:=Zaf kp28 [(1,2,.call (tu [vf (List.map Bw.a (Sp.reL n ps)),vi (Sp.ZaQ n ps)]) none)] []) 7 [] ⟨(atC (cd Try.f28) [1,1,0,1]),[(0,vi n),(6,AV.ptr 0 0 0 0),(7,vi (Sp.ZaQ n ps)),(15,vb (Sp.ZaQ n ps != 0))],[⟨[vf (List.map Bw.a (Sp.reL n ps))],1,0,false,false⟩],_,[],_⟩ (by kernel_rfl) (bc rfl b0) q0 (ce (@ev45 (n) (f) (ps)) c0) ?_
 rcases xq H with ⟨d2,H⟩|⟨d2,H⟩
 ·exact ZbJ (G:=Zaf kp28 [] []) 1000 [true] (tu [AV.vnil,vi (Sp.ZaQ n ps)]) (by kernel_rfl) (bc (ZaG (i_ne.2 d2)) b0) q0 c0 H
 ·obtain ⟨k3,H⟩:=H
  exact ZbJ (G:=Zaf kp28 [(4,2,.call (AV.vec false 2 (List.map Pr.v (Sp.Zc5 (Sp.tg (Sp.reL n ps)) n.toNat 0 n.toNat))) none)] []) 1000 [false] (tu [AV.vec false 2 (List.map Pr.v (Sp.Zc5 (Sp.tg (Sp.reL n ps)) n.toNat 0 n.toNat)),vi 0]) (by kernel_rfl) (bc (ZaD (fun h => d2 (i_ne.1 h))) (bc rfl b0)) q0 (ce (@ev46_a (n) (false) (Sp.reL n ps) k3) c0) H
theorem qRd (n:Int) (f:Bool) (ps:List Pr)  (dq:AV) (H :
  ((¬Sp.ZaQ n ps = 0) -> Weak (tu [AV.vnil,vi (Sp.ZaQ n ps)]) dq) /\
  (¬(¬Sp.ZaQ n ps = 0) -> (Sp.sqN n (Sp.reL n ps)) /\
   Weak (tu [AV.vec false 2 (List.map Pr.v (Sp.Zc5 (Sp.red (Sp.reL n ps)) n.toNat 0 n.toNat)),vi 0]) dq)) :
 qRd_at n f ps (Zaj dq):=by
 unfold qRd_at
 refine Zad (G:=Zaf kp30 [(1,2,.call (tu [vf (List.map Bw.a (Sp.reL n ps)),vi (Sp.ZaQ n ps)]) none)] []) 7 [] ⟨(atC (cd Try.f30) [1,1,0,1]),[(2,AV.ptr 0 0 0 0),(6,AV.ptr 1 0 0 0),(7,vi (Sp.ZaQ n ps)),(15,vb (Sp.ZaQ n ps != 0))],[⟨[vi n],1,0,false,false⟩,⟨[vf (List.map Bw.a (Sp.reL n ps))],1,0,false,false⟩],_,[],_⟩ (by kernel_rfl) (bc rfl (bc rfl b0)) q0 (ce (@ev45 (n) (f) (ps)) c0) ?_
 rcases xq H with ⟨d2,H⟩|⟨d2,H⟩
 ·exact ZbJ (G:=Zaf kp30 [] []) 1000 [true] (tu [AV.vnil,vi (Sp.ZaQ n ps)]) (by kernel_rfl) (bc (ZaG (i_ne.2 d2)) b0) q0 c0 H
 ·obtain ⟨k3,H⟩:=H
  exact ZbJ (G:=Zaf kp30 [(4,2,.call (AV.vec false 2 (List.map Pr.v (Sp.Zc5 (Sp.red (Sp.reL n ps)) n.toNat 0 n.toNat))) none)] []) 1000 [false] (tu [AV.vec false 2 (List.map Pr.v (Sp.Zc5 (Sp.red (Sp.reL n ps)) n.toNat 0 n.toNat)),vi 0]) (by kernel_rfl) (bc (ZaD (fun h => d2 (i_ne.1 h))) (bc rfl (bc rfl (bc rfl b0)))) q0 (ce (@ev46_b (n) (false) (Sp.reL n ps) k3) c0) H
end Go.Av

namespace Go.Av
open Go.Proofs
theorem reL_ok {n:Int} {ps:List Pr} (h:Sp.ZaQ n ps = 0):Sp.reL n ps = Sp.ZcG n.toNat ps /\ Sp.sqN n (Sp.reL n ps):=by
 obtain ⟨m,rfl,hv,hn,hpl,hb,hl⟩:=Zcl h
 unfold Sp.reL
 rw [if_pos h,Int.toNat_natCast]
 exact ⟨rfl,by rw [Zc8],by rw [Zc8];exact sqT_tab,by rw [Zc8];exact hn⟩
theorem ev28 (n:Int) (f:Bool) (ps:List Pr):Ev M1 (.pure 28 [.int .i64 n,.vec f 2 (ps.map Pr.v)]) (.tup [.vec false 2 ((Sp.clL n ps).map Pr.v),.int .i64 (Sp.ZaQ n ps)]) []:=by
 unfold Sp.clL
 refine call28 (qCl n f ps _ ⟨fun h => ?_,fun h => ?_⟩)
 ·rw [if_neg h]
  exact weak_err
 ·have h:=Classical.not_not.1 h
  obtain ⟨h1,h2⟩:=reL_ok h
  refine ⟨h2,?_⟩
  rw [if_pos h,h,h1]
  exact .refl _
theorem ev30 (n:Int) (f:Bool) (ps:List Pr):Ev M1 (.pure 30 [.int .i64 n,.vec f 2 (ps.map Pr.v)]) (.tup [.vec false 2 ((Sp.rdL n ps).map Pr.v),.int .i64 (Sp.ZaQ n ps)]) []:=by
 unfold Sp.rdL
 refine call30 (qRd n f ps _ ⟨fun h => ?_,fun h => ?_⟩)
 ·rw [if_neg h]
  exact weak_err
 ·have h:=Classical.not_not.1 h
  obtain ⟨h1,h2⟩:=reL_ok h
  refine ⟨h2,?_⟩
  rw [if_pos h,h,h1]
  exact .refl _
theorem clL_len (n:Int) (ps:List Pr):(Sp.clL n ps).length <= 1000000:=by
 unfold Sp.clL
 split
 ·rename_i h
  obtain ⟨m,rfl,hv,hn,hpl,hb,hl⟩:=Zcl h
  rw [Int.toNat_natCast]
  have hlen:=Zd0 (Sp.tg (Sp.ZcG m ps)) m m 0
  have hmul:m * m <= 1000 * 1000:=Nat.mul_le_mul hn hn
  omega
 ·simp
theorem rdL_len (n:Int) (ps:List Pr):(Sp.rdL n ps).length <= 1000000:=by
 unfold Sp.rdL
 split
 ·rename_i h
  obtain ⟨m,rfl,hv,hn,hpl,hb,hl⟩:=Zcl h
  rw [Int.toNat_natCast]
  have hlen:=Zd0 (Sp.red (Sp.ZcG m ps)) m m 0
  have hmul:m * m <= 1000 * 1000:=Nat.mul_le_mul hn hn
  omega
 ·simp
end Go.Av

namespace Go.Av
open Go.Proofs
set_option maxRecDepth 100000
end Go.Av

namespace Go.Av
open Go.Proofs
end Go.Av

namespace Go.Av
open Go.Proofs
theorem vd_of {n:Int} {ps:List Pr} (h0:0 <= n) (h1:n <= 200) (h2:ps.length <= 2000) (h3:∀ p ∈ ps,Sp.okp n p):Sp.vd n ps = 0:=by
 unfold Sp.vd
 rw [if_neg (by omega),if_neg (by omega)]
 induction ps with
 | nil => rfl
 | cons p ps ih =>
  unfold Sp.vdl
  rw [if_pos (h3 p (List.mem_cons_self ..))]
  exact ih (by simp only [List.length_cons] at h2;omega) fun q hq => h3 q (List.mem_cons_of_mem _ hq)
theorem Zel (F:Int -> Int -> Bool) (a:Nat):∀ (k b:Nat),(Sp.colR F a b k).Nodup
 | 0,b => List.nodup_nil
 | k + 1,b => by
  unfold Sp.colR
  split
  ·refine List.nodup_cons.2 ⟨fun h => ?_,Zel F a k (b + 1)⟩
   have:=(ZeL.1 h).2.1
   simp only at this
   omega
  ·exact Zel F a k (b + 1)
theorem Zgb (F:Int -> Int -> Bool) (n:Nat):∀ (k a:Nat),(Sp.Zc5 F n a k).Nodup
 | 0,a => List.nodup_nil
 | k + 1,a => by
  unfold Sp.Zc5
  refine List.nodup_append.2 ⟨Zel F a n 0,Zgb F n k (a + 1),fun p hp q hq e => ?_⟩
  subst e
  have h1:=(ZeL.1 hp).1
  have h2:=(ZdZ.1 hq).1
  omega
section
variable {n:Nat} {ps:List Pr} {l:List Int}
theorem Zdl {a b:Int} (ha:0 <= a /\ a < n) (hb:0 <= b /\ b < n):Sp.tg (Sp.ZcG n ps) a b = true ↔ Sp.dep ps a b:=by
 have:=tabW_dep (ps:=ps) (a:=a.toNat) (b:=b.toNat) (n:=n) (by omega) (by omega)
 rw [show ((a.toNat:Nat):Int) = a by omega,show ((b.toNat:Nat):Int) = b by omega] at this
 exact this
def Rd (ps:List Pr) (a b:Int):Prop:=Sp.dep ps a b /\ ∀ c,¬(Sp.dep ps a c/\Sp.dep ps c b)
theorem red_Rd (hv:Sp.okV n ps) {a b:Int} (ha:0 <= a /\ a < n) (hb:0 <= b /\ b < n):Sp.red (Sp.ZcG n ps) a b = true ↔ Rd ps a b:=by
 unfold Sp.red Rd
 rw [Bool.and_eq_true,Zdl ha hb,Bool.not_eq_true',<- Bool.not_eq_true,List.any_eq_true,Zc8]
 constructor
 ·rintro ⟨h1,h2⟩
  refine ⟨h1,fun c hc => h2 ⟨c.toNat,?_,?_⟩⟩
  ·have:=ZdY hv hc.2
   exact List.mem_range.2 (by omega)
  ·have hci:=(ZdY hv hc.2).1
   rw [show ((c.toNat:Nat):Int) = c by omega,Bool.and_eq_true,Zdl ha hci,Zdl hci hb]
   exact hc
 ·rintro ⟨h1,h2⟩
  refine ⟨h1,fun ⟨c,hc,hx⟩ => ?_⟩
  have hc:=List.mem_range.1 hc
  rw [Bool.and_eq_true,Zdl ha (by omega),Zdl (by omega) hb] at hx
  exact h2 c hx
noncomputable def rdN (n:Nat) (ps:List Pr):List Pr:=Sp.Zc5 (Sp.red (Sp.ZcG n ps)) n 0 n
theorem Zea (hv:Sp.okV n ps) {p:Pr}:p ∈ rdN n ps ↔ Rd ps p.a p.b:=by
 unfold rdN
 rw [ZdZ]
 constructor
 ·rintro ⟨h1,h2,h3⟩
  exact (red_Rd hv (by omega) h2).1 h3
 ·intro h
  have:=ZdY hv h.1
  exact ⟨by omega,by omega,(red_Rd hv (by omega) (by omega)).2 h⟩
theorem Ze3 (hv:Sp.okV n ps) {qs:List Pr} (hq:∀ p ∈ qs,p ∈ rdN n ps) {a b:Int} (h:Sp.dep qs a b):Sp.dep ps a b:=by
 induction h with
 | one e =>
  obtain ⟨p,hp,h1,h2⟩:=e
  rw [<- h1,<- h2]
  exact ((Zea hv).1 (hq p hp)).1
 | cons e _ ih =>
  obtain ⟨p,hp,h1,h2⟩:=e
  rw [<- h1]
  rw [<- h2] at ih
  exact Zfx ((Zea hv).1 (hq p hp)).1 ih
theorem dep_lt (hb:Sp.Za9 n ps l) {a b:Int} (h:Sp.dep ps a b) {i j:Nat} (hi:l[i]? = some a) (hj:l[j]? = some b):i < j:=by
 have hil:=(List.getElem?_eq_some_iff.1 hi)
 have hjl:=(List.getElem?_eq_some_iff.1 hj).1
 have hm:=Zer hb h j hjl (by rw [List.getD_eq_getElem?_getD,hj,Option.getD_some])
 rw [List.mem_take_iff_getElem] at hm
 obtain ⟨q,hq,e⟩:=hm
 have:=(List.getElem_inj (Zcb hb)).1 (e.trans hil.2.symm)
 omega
theorem dep_rdN (hv:Sp.okV n ps) (hb:Sp.Za9 n ps l) (hl:l.length = n):∀ (m i j:Nat) (a b:Int),j - i <= m -> l[i]? = some a -> l[j]? = some b -> Sp.dep ps a b -> Sp.dep (rdN n ps) a b:=by
 intro m
 induction m with
 | zero =>
  intro i j a b hm hi hj h
  have:=dep_lt hb h hi hj
  omega
 | succ m ih =>
  intro i j a b hm hi hj h
  by_cases hc:∃ c,Sp.dep ps a c /\ Sp.dep ps c b
  ·obtain ⟨c,h1,h2⟩:=hc
   obtain ⟨k,hk⟩:=List.getElem?_of_mem (ZbW hb hl (ZdY hv h2).1)
   have k1:=dep_lt hb h1 hi hk
   have k2:=dep_lt hb h2 hk hj
   exact Zfx (ih i k a c (by omega) hi hk h1) (ih k j c b (by omega) hk hj h2)
  ·exact .one ⟨⟨a,b⟩,(Zea hv).2 ⟨h,fun c hx => hc ⟨c,hx⟩⟩,rfl,rfl⟩
theorem rdN_iff (hv:Sp.okV n ps) (hb:Sp.Za9 n ps l) (hl:l.length = n) (a b:Int):Sp.dep (rdN n ps) a b ↔ Sp.dep ps a b:=by
 refine ⟨Ze3 hv fun p hp => hp,fun h => ?_⟩
 have hi:=ZdY hv h
 obtain ⟨i,ei⟩:=List.getElem?_of_mem (ZbW hb hl hi.1)
 obtain ⟨j,ej⟩:=List.getElem?_of_mem (ZbW hb hl hi.2)
 exact dep_rdN hv hb hl _ i j a b (Nat.le_refl _) ei ej h
theorem tabW_of {qs:List Pr} (h:∀ a b,Sp.dep qs a b ↔ Sp.dep ps a b):Sp.ZcG n qs = Sp.ZcG n ps:=by
 unfold Sp.ZcG
 rw [tab_row,tab_row]
 congr 1
 refine List.map_congr_left fun a _ => ?_
 unfold Sp.rowD
 refine List.map_congr_left fun b _ => ?_
 have e:∀ (p q:Prop),p = q -> @decide p (Classical.propDecidable p) = @decide q (Classical.propDecidable q):=fun p q h => by subst h;rfl
 exact e _ _ (propext (h a b))
theorem no_self (hb:Sp.Za9 n ps l) (hl:l.length = n) (hv:Sp.okV n ps) (a:Int):¬Sp.dep ps a a:=fun h => by
 obtain ⟨i,ei⟩:=List.getElem?_of_mem (ZbW hb hl (ZdY hv h).1)
 have:=dep_lt hb h ei ei
 omega
theorem sub_ord (hv:Sp.okV n ps) (hb:Sp.Za9 n ps l) (hl:l.length = n) (hn:n <= 40) {qs:List Pr} (hq:∀ p ∈ qs,p ∈ rdN n ps) (hql:qs.length <= 2000):Sp.ZaQ n qs = 0:=by
 have hok:∀ p ∈ qs,Sp.okp n p:=fun p hp => by
  have h:=((Zea hv).1 (hq p hp)).1
  have hi:=ZdY hv h
  exact ⟨hi.1.1,hi.1.2,hi.2.1,hi.2.2,fun e => no_self hb hl hv p.b (by rw [e] at h;exact h)⟩
 have hvd:=vd_of (n:=(n:Int)) (by omega) (by omega) hql hok
 have hov:Sp.okV n qs:=fun p hp => by
  obtain ⟨h1,h2,h3,h4,_⟩:=hok p hp
  exact ⟨h1,h2,h3,h4⟩
 unfold Sp.ZaQ
 rw [if_pos hvd,if_neg]
 rw [Int.toNat_natCast,cycB_iff hov]
 rintro ⟨i,_,h⟩
 exact no_self hb hl hv i (Ze3 hv hq h)
theorem rdL_closure (hv:Sp.okV n ps) (hb:Sp.Za9 n ps l) (hl:l.length = n) (hn:n <= 40) (h:Sp.ZaQ n ps = 0):Sp.ZaQ n (Sp.rdL n ps) = 0 /\ Sp.clL n (Sp.rdL n ps) = Sp.clL n ps:=by
 have e:Sp.rdL n ps = rdN n ps:=by unfold Sp.rdL rdN;rw [if_pos h,Int.toNat_natCast]
 have hlen:(rdN n ps).length <= n * n:=Zd0 _ n n 0
 have hmul:n * n <= 40 * 40:=Nat.mul_le_mul hn hn
 have ho:Sp.ZaQ n (rdN n ps) = 0:=sub_ord hv hb hl hn (fun p hp => hp) (by omega)
 rw [e]
 refine ⟨ho,?_⟩
 unfold Sp.clL
 rw [if_pos ho,if_pos h,Int.toNat_natCast,tabW_of (ps:=ps) (rdN_iff hv hb hl)]
theorem rdL_nil (hv:Sp.okV n ps) (hb:Sp.Za9 n ps l) (hl:l.length = n) (h:Sp.ZaQ n ps = 0) (h0:Sp.rdL n ps = []):Sp.clL n ps = []:=by
 have e:Sp.rdL n ps = rdN n ps:=by unfold Sp.rdL rdN;rw [if_pos h,Int.toNat_natCast]
 rw [e] at h0
 unfold Sp.clL
 rw [if_pos h,Int.toNat_natCast]
 refine List.eq_nil_iff_forall_not_mem.2 fun p hp => ?_
 obtain ⟨h1,h2,h3⟩:=ZdZ.1 hp
 have hd:=(rdN_iff hv hb hl _ _).2 ((Zdl (by omega) h2).1 h3)
 rw [h0] at hd
 cases hd with
 | one e => obtain ⟨p,hp,_⟩:=e;cases hp
 | cons e _ => obtain ⟨p,hp,_⟩:=e;cases hp
theorem rdL_less (hv:Sp.okV n ps) (hb:Sp.Za9 n ps l) (hl:l.length = n) (hn:n <= 40) (h:Sp.ZaQ n ps = 0) {X S:List Pr} {x:Pr} (hx:Sp.rdL n ps = X ++ x :: S):Sp.ZaQ n (X ++ S) = 0 /\ (Sp.clL n (X ++ S)).length < (Sp.clL n ps).length:=by
 have e:Sp.rdL n ps = rdN n ps:=by unfold Sp.rdL rdN;rw [if_pos h,Int.toNat_natCast]
 rw [e] at hx
 have hlen:(rdN n ps).length <= n * n:=Zd0 _ n n 0
 have hmul:n * n <= 40 * 40:=Nat.mul_le_mul hn hn
 have hsub:∀ p ∈ X ++ S,p ∈ rdN n ps:=fun p hp => by
  rw [hx]
  rcases List.mem_append.1 hp with hp | hp
  ·exact List.mem_append_left _ hp
  ·exact List.mem_append_right _ (List.mem_cons_of_mem _ hp)
 have hll:(X ++ S).length <= 2000:=by
  rw [hx] at hlen
  simp only [List.length_append,List.length_cons] at hlen ⊢
  omega
 have ho:=sub_ord hv hb hl hn hsub hll
 refine ⟨ho,?_⟩
 have hxR:=(Zea hv).1 (show x ∈ rdN n ps by rw [hx];simp)
 have hxi:=ZdY hv hxR.1
 have hno:x ∉ X ++ S:=fun hm => by
  have hnd:=Zgb (Sp.red (Sp.ZcG n ps)) n n 0
  have hnd:(rdN n ps).Nodup:=hnd
  rw [hx] at hnd
  have h2:=List.nodup_append.1 hnd
  rcases List.mem_append.1 hm with hm | hm
  ·exact h2.2.2 x hm x (List.mem_cons_self ..) rfl
  ·exact (List.nodup_cons.1 h2.2.1).1 hm
 have hnd:¬Sp.dep (X ++ S) x.a x.b:=fun hd => by
  have hE:∀ a b,Sp.edge (X ++ S) a b -> ∃ p ∈ X ++ S,p.a = a /\ p.b = b:=fun a b h => h
  cases hd with
  | one e =>
   obtain ⟨p,hp,h1,h2⟩:=hE _ _ e
   have:p = x:=by cases p;cases x;simp only at h1 h2;rw [h1,h2]
   rw [this] at hp;exact hno hp
  | cons e d =>
   rename_i m
   exact hxR.2 m ⟨Ze3 hv hsub (.one e),Ze3 hv hsub d⟩
 unfold Sp.clL
 rw [if_pos ho,if_pos h,Int.toNat_natCast]
 have hcl:Sp.Zc5 (Sp.tg (Sp.ZcG n (X ++ S))) n 0 n = (Sp.Zc5 (Sp.tg (Sp.ZcG n ps)) n 0 n).filter fun p => Sp.tg (Sp.ZcG n (X ++ S)) p.a p.b:=by
  have hov:Sp.okV n (X ++ S):=fun p hp => by
   have hi:=ZdY hv ((Zea hv).1 (hsub p hp)).1
   exact ⟨hi.1.1,hi.1.2,hi.2.1,hi.2.2⟩
  rw [ZfB]
  have key:∀ (k b a:Nat),b + k = n -> a < n -> Sp.colR (Sp.tg (Sp.ZcG n (X ++ S))) a b k = Sp.colR (fun a b => Sp.tg (Sp.ZcG n ps) a b && Sp.tg (Sp.ZcG n (X ++ S)) a b) a b k:=by
   intro k
   induction k with
   | zero => intro b a _ _;rfl
   | succ k ih =>
    intro b a hk ha
    have e:(Sp.tg (Sp.ZcG n ps) a b && Sp.tg (Sp.ZcG n (X ++ S)) a b) = Sp.tg (Sp.ZcG n (X ++ S)) a b:=by
     cases hf:Sp.tg (Sp.ZcG n (X ++ S)) a b with
     | false => simp
     | true =>
      have:=Ze3 hv hsub ((Zdl (ps:=X ++ S) (n:=n) (by omega) (by omega)).1 hf)
      rw [(Zdl (ps:=ps) (n:=n) (by omega) (by omega)).2 this];rfl
    unfold Sp.colR
    rw [ih (b + 1) a (by omega) ha,e]
  have key2:∀ (k a:Nat),a + k = n -> Sp.Zc5 (Sp.tg (Sp.ZcG n (X ++ S))) n a k = Sp.Zc5 (fun a b => Sp.tg (Sp.ZcG n ps) a b && Sp.tg (Sp.ZcG n (X ++ S)) a b) n a k:=by
   intro k
   induction k with
   | zero => intro a _;rfl
   | succ k ih =>
    intro a hk
    unfold Sp.Zc5
    rw [ih (a + 1) (by omega),key n 0 a (by omega) (by omega)]
  exact key2 n 0 (by omega)
 rw [hcl,List.length_filter_lt_length_iff_exists]
 refine ⟨x,ZdZ.2 ⟨by omega,by omega,(Zdl (by omega) (by omega)).2 hxR.1⟩,fun hf => hnd ?_⟩
 exact (Zdl (ps:=X ++ S) (n:=n) (by omega) (by omega)).1 hf
end
end Go.Av

namespace Go.Av
open Go.Proofs
set_option maxRecDepth 100000
def fi10:Fi:=⟨97,[.tmp 6]⟩
def kp10:List (Nat × List Nat):=[(0,[0,1,2]),(1,[0,1,2,23]),(2,[6]),(3,[0,1,2,7,8]),(4,[0,2,7,8,9,10]),(5,[0,2,7,8,9,10,44]),(6,[6]),(7,[0,2,7,9,11,12]),(8,[0,2,7,9,62]),(9,[6]),(10,[0,2,7,9,65]),(11,[6]),(12,[0,7,9,13]),(13,[9,14,15]),(14,[6])]
def pLr_at (n:Int) (f:Bool) (ps:List Pr) (i:Int) (Q:AV->Heap->Prop):Prop:=Wp M1 (.run fi10 (atC (cd Try.f10) []) [(0,.int .i64 n),(1,.vec f 2 (ps.map Pr.v)),(2,.int .u8 i)] []) Q
def pLrX_at (n:Int) (L A:List Pr) (k:Int) (Q:AV->Heap->Prop):Prop:=Wp M1 (.run fi10 (atC (cd Try.f10) [1,1,1,1,1,1,1,1,1,0]) [(0,.int .i64 n),(7,.vec false 2 (L.map Pr.v)),(9,.vec false 2 (A.map Pr.v)),(13,.int .i64 k)] []) Q
def pLr1_at (n:Int) (x:Pr) (A:List Pr) (Q:AV->Heap->Prop):Prop:=Wp M1 (.run fi10 (atC (cd Try.f10) [1,1,1,1,1,1,1,1,1,0]) [(0,.int .i64 n),(7,.vec false 2 ([x].map Pr.v)),(9,.vec false 2 (A.map Pr.v)),(13,.int .i64 0)] []) Q
def pLr2_at (n:Int) (x y:Pr) (S A:List Pr) (Q:AV->Heap->Prop):Prop:=Wp M1 (.run fi10 (atC (cd Try.f10) [1,1,1,1,1,1,1,1,1,0]) [(0,.int .i64 n),(7,.vec false 2 ((x::y::S).map Pr.v)),(9,.vec false 2 (A.map Pr.v)),(13,.int .i64 0)] []) Q
theorem call10 {args:List AV} {d:AV} (h:wc M1 fi10 Try.f10 args d):Ev M1 (.pure 10 args) d []:=pcl _ _ (by kernel_rfl) h
theorem pLr (n:Int) (f:Bool) (ps:List Pr) (i:Int)  (dq:AV) (H :
  ((¬(Sp.fw n 12 ps = true)) -> vb true = dq) /\
  (¬(¬(Sp.fw n 12 ps = true)) -> (Sp.few ps.length 60000000000) /\
   (((¬Sp.ZaQ n ps = 0) \/ (¬Sp.ZaQ n ps = 0)) -> vb (Sp.ZaQ n ps == Sp.ZaQ n ps) = dq) /\
   (¬((¬Sp.ZaQ n ps = 0) \/ (¬Sp.ZaQ n ps = 0)) -> (Sp.few (Sp.rdL n ps).length 60000000000) /\
    ((¬(¬Sp.ZaQ n (Sp.rdL n ps) = 0)) -> (Sp.few (Sp.clL n (Sp.rdL n ps)).length 4000000000)) /\
    (((¬Sp.ZaQ n (Sp.rdL n ps) = 0) \/ (¬(Sp.clL n (Sp.rdL n ps) = Sp.clL n ps))) -> vb false = dq) /\
    (¬((¬Sp.ZaQ n (Sp.rdL n ps) = 0) \/ (¬(Sp.clL n (Sp.rdL n ps) = Sp.clL n ps))) -> (((↑(Sp.rdL n ps).length:Int) = 0) -> vb ((↑(Sp.clL n ps).length:Int) == 0) = dq) /\
     (¬((↑(Sp.rdL n ps).length:Int) = 0) -> (¬(↑(Sp.rdL n ps).length:Int) = 0) /\
      (-9223372036854775808 <= i /\ i <= 9223372036854775807) /\
      pLrX_at (n) (Sp.rdL n ps) (Sp.clL n ps) (i.tmod (↑(Sp.rdL n ps).length:Int)) (Zaj dq)))))) :
 pLr_at n f ps i (Zaj dq):=by
 unfold pLr_at
 refine Zad (G:=Zaf kp10 [(1,0,.call (vb true) none),(1,5,.call (vb (Sp.fw n 12 ps)) none)] []) 5 [] ⟨(atC (cd Try.f10) [1,0,1]),[(0,vi n),(1,AV.vec f 2 (List.map Pr.v ps)),(2,AV.int IntKind.u8 i),(23,vb !Sp.fw n 12 ps)],[],_,[],_⟩ (by kernel_rfl) b0 q0 (ce (@ev12 ) (ce (@ev16 (n) (12) (f) (ps)) c0)) ?_
 rcases xq H with ⟨d2,H⟩|⟨d2,H⟩
 ·exact ZaF (G:=Zaf kp10 [(2,0,.call (vb true) none)] []) 1000 [true] (asm:=[(!Sp.fw n 12 ps) == true]) (vb true) (by kernel_rfl) (bc (ZaG ((i_not (Zb0 _)).2 d2)) b0) q0 (ce (@ev12 ) c0) H
 ·obtain ⟨k3,H⟩:=H
  refine Zad (G:=Zaf kp10 [(3,2,.call (AV.vec false 2 (List.map Pr.v ps)) none),(3,3,.call (tu [AV.vec false 2 (List.map Pr.v (Sp.rdL n ps)),vi (Sp.ZaQ n ps)]) none),(4,2,.call (AV.vec false 2 (List.map Pr.v ps)) none),(4,3,.call (tu [AV.vec false 2 (List.map Pr.v (Sp.clL n ps)),vi (Sp.ZaQ n ps)]) none)] []) 9 [false] ⟨(atC (cd Try.f10) [1,1,1,1,0,1]),[(0,vi n),(2,AV.int IntKind.u8 i),(7,AV.vec false 2 (List.map Pr.v (Sp.rdL n ps))),(8,vi (Sp.ZaQ n ps)),(9,AV.vec false 2 (List.map Pr.v (Sp.clL n ps))),(10,vi (Sp.ZaQ n ps)),(44,vb (bif Sp.ZaQ n ps != 0 then true else Sp.ZaQ n ps != 0))],[],[(!Sp.fw n 12 ps) == false],[],_⟩ (by kernel_rfl) (bc (ZaD (fun h => d2 ((i_not (Zb0 _)).1 h))) b0) q0 (ce (@ev13 (f) (ps) k3) (ce (@ev30 (n) (false) (ps)) (ce (@ev13 (f) (ps) k3) (ce (@ev28 (n) (false) (ps)) c0)))) ?_
  rcases xq H with ⟨d5,H⟩|⟨d5,H⟩
  ·exact ZaF (G:=Zaf kp10 [] []) 1000 [true] (vb (Sp.ZaQ n ps == Sp.ZaQ n ps)) (by kernel_rfl) (bc (ZaG ((Zcz i_ne i_ne).2 d5)) b0) q0 c0 H
  ·obtain ⟨k6,k8,H⟩:=H
   refine Zad (G:=Zaf kp10 [(7,2,.call (AV.vec false 2 (List.map Pr.v (Sp.rdL n ps))) none),(7,3,.call (tu [AV.vec false 2 (List.map Pr.v (Sp.clL n (Sp.rdL n ps))),vi (Sp.ZaQ n (Sp.rdL n ps))]) none),(8,5,.call (vb (decide (Sp.clL n (Sp.rdL n ps) = Sp.clL n ps))) none)] []) 7 [false] ⟨(atC (cd Try.f10) [1,1,1,1,1,1,0,1]),[(0,vi n),(2,AV.int IntKind.u8 i),(7,AV.vec false 2 (List.map Pr.v (Sp.rdL n ps))),(9,AV.vec false 2 (List.map Pr.v (Sp.clL n ps))),(62,vb (bif Sp.ZaQ n (Sp.rdL n ps) != 0 then true else !decide (Sp.clL n (Sp.rdL n ps) = Sp.clL n ps)))],[],_,[],[⟨true,false,13,[AV.vec false 2 (List.map Pr.v (Sp.rdL n ps))],[],AV.vec false 2 (List.map Pr.v (Sp.rdL n ps)),[]⟩,⟨true,false,28,[vi n,AV.vec false 2 (List.map Pr.v (Sp.rdL n ps))],[],tu [AV.vec false 2 (List.map Pr.v (Sp.clL n (Sp.rdL n ps))),vi (Sp.ZaQ n (Sp.rdL n ps))],[]⟩,⟨(Sp.ZaQ n (Sp.rdL n ps) != 0) == false && true && true,false,32,[AV.vec false 2 (List.map Pr.v (Sp.clL n (Sp.rdL n ps))),AV.vec false 2 (List.map Pr.v (Sp.clL n ps))],[],vb (decide (Sp.clL n (Sp.rdL n ps) = Sp.clL n ps)),[]⟩]⟩ (by kernel_rfl) (bc (ZaD (fun h => d5 ((Zcz i_ne i_ne).1 h))) b0) q0 (cc (fun _ => (@ev13 (false) (Sp.rdL n ps) k6)) (cc (fun _ => (@ev28 (n) (false) (Sp.rdL n ps))) (cc (fun hc => ((@ev32 (false) (false) (Sp.clL n (Sp.rdL n ps)) (Sp.clL n ps) (k8 ((i_at (i_at (i_bf i_ne))).1 hc))):Ev M1 (Conf.pure 32 [AV.vec false 2 (List.map Pr.v (Sp.clL n (Sp.rdL n ps))),AV.vec false 2 (List.map Pr.v (Sp.clL n ps))]) (vb (decide (Sp.clL n (Sp.rdL n ps) = Sp.clL n ps))) [])) c0))) ?_
   rcases xq H with ⟨d10,H⟩|⟨d10,H⟩
   ·exact ZaF (G:=Zaf kp10 [] []) 1000 [true] (vb false) (by kernel_rfl) (bc (ZaG ((Zcz i_ne (i_not Zaa)).2 d10)) b0) q0 c0 H
   ·have w11:(List.map Pr.v (Sp.rdL n ps)).length = (Sp.rdL n ps).length:=List.length_map ..
    have i12:((↑(List.map Pr.v (Sp.rdL n ps)).length:Int) == 0) = true ↔ ((↑(Sp.rdL n ps).length:Int) = 0):=(by (try rw [w11]);all_goals exact i_eq)
    rcases xq H with ⟨d13,H⟩|⟨d13,H⟩
    ·have w14:(List.map Pr.v (Sp.clL n ps)).length = (Sp.clL n ps).length:=List.length_map ..
     exact ZaF (G:=Zaf kp10 [] []) 1000 [false,true] (vb ((↑(List.map Pr.v (Sp.clL n ps)).length:Int) == 0)) (by kernel_rfl) (bc (ZaD (fun h => d10 ((Zcz i_ne (i_not Zaa)).1 h))) (bc (ZaG (i12.2 d13)) b0)) q0 c0 (by (try rw [w14]);all_goals exact H)
    ·have i15:(!(↑(List.map Pr.v (Sp.rdL n ps)).length:Int) == 0) = true ↔ (¬(↑(Sp.rdL n ps).length:Int) = 0):=(by (try rw [w11]);all_goals exact i_neq)
     obtain ⟨k16,k17,H⟩:=H
     have w18:wi i = i:=wI64 k17
     exact Zad (G:=Zaf kp10 [] []) 10 [false,false] ⟨(atC (cd Try.f10) [1,1,1,1,1,1,1,1,1,0]),[(0,vi n),(7,AV.vec false 2 (List.map Pr.v (Sp.rdL n ps))),(9,AV.vec false 2 (List.map Pr.v (Sp.clL n ps))),(13,vi ((wi i).tmod (↑(List.map Pr.v (Sp.rdL n ps)).length:Int)))],[],_,[],_⟩ (by kernel_rfl) (bc (ZaD (fun h => d10 ((Zcz i_ne (i_not Zaa)).1 h))) (bc (ZaD (fun h => d13 (i12.1 h))) (bc (i15.2 k16) b0))) q0 c0 (by (try rw [w11]);(try rw [w18]);all_goals exact H)
theorem pLrX (n:Int) (L A:List Pr) (k:Int) (X:List Pr) (dq:AV) (H :
  (Ev M1 (Conf.own 13 [AV.vec false 2 (List.drop 0 (List.take k.toNat (List.map Pr.v L)))] []) (AV.row 0 0) [{ elems:=List.map Pr.v X,es:=2,ver:=0,frozen:=false,clean:=true }]) /\
  (-9223372036854775808 <= k + 1 /\ k + 1 <= 9223372036854775807) /\
  (0 <= k) /\
  (0 <= k.toNat) /\
  (k.toNat <= L.length) /\
  (scalarL (List.map Pr.v X) = true) /\
  (0 <= k + 1) /\
  ((k + 1).toNat <= L.length) /\
  ((X.length + (List.drop (k + 1).toNat (List.take L.length L)).length) * 16 <= 1099511627776) /\
  vb (bif Sp.ZaQ n (X ++ List.drop (k + 1).toNat (List.take L.length L)) == 0 then decide ((↑(Sp.clL n (X ++ List.drop (k + 1).toNat (List.take L.length L))).length:Int) < (↑A.length:Int)) else false) = dq) :
 pLrX_at n L A k (Zaj dq):=by
 unfold pLrX_at
 obtain ⟨k8,H⟩:=H
 have w9:(List.map Pr.v L).length = L.length:=List.length_map ..
 have w10:List.take L.length (List.map Pr.v L) = List.map Pr.v (List.take L.length L):=(lm_take rfl)
 obtain ⟨k11,H⟩:=H
 have w12:wi (k + 1) = k + 1:=wI64 k11
 have w13:List.drop (k + 1).toNat (List.map Pr.v (List.take L.length L)) = List.map Pr.v (List.drop (k + 1).toNat (List.take L.length L)):=(lm_drop rfl)
 have w14:List.map Pr.v X ++ List.map Pr.v (List.drop (k + 1).toNat (List.take L.length L)) = List.map Pr.v (X ++ List.drop (k + 1).toNat (List.take L.length L)):=(Zey rfl rfl)
 obtain ⟨k16,k18,H⟩:=H
 have i19:(decide (k.toNat <= (List.map Pr.v L).length)) = true ↔ (k.toNat <= L.length):=(by (try rw [w9]);all_goals exact Zaa)
 obtain ⟨k20,k22,H⟩:=H
 have i23:(decide (0 <= wi (k + 1))) = true ↔ (0 <= k + 1):=(by (try rw [w12]);all_goals exact Zaa)
 obtain ⟨k24,H⟩:=H
 have i25:(decide ((wi (k + 1)).toNat <= (List.map Pr.v L).length)) = true ↔ ((k + 1).toNat <= L.length):=(by (try rw [w9]);(try rw [w12]);all_goals exact Zaa)
 obtain ⟨k26,H⟩:=H
 have i27:(decide ((List.map Pr.v L).length <= (List.map Pr.v L).length)) = true ↔ (L.length <= L.length):=(by (try rw [w9]);all_goals exact Zaa)
 have w28:(List.map Pr.v X).length = X.length:=List.length_map ..
 have w29:(List.map Pr.v (List.drop (k + 1).toNat (List.take L.length L))).length = (List.drop (k + 1).toNat (List.take L.length L)).length:=List.length_map ..
 have i30:(decide (((List.map Pr.v X).length + (List.drop (wi (k + 1)).toNat (List.take (List.map Pr.v L).length (List.map Pr.v L))).length) * 16 <= 1099511627776)) = true ↔ ((X.length + (List.drop (k + 1).toNat (List.take L.length L)).length) * 16 <= 1099511627776):=(by (try rw [w9]);(try rw [w10]);(try rw [w12]);(try rw [w13]);(try rw [w28]);(try rw [w29]);all_goals exact Zaa)
 obtain ⟨k31,H⟩:=H
 have w32:(List.map Pr.v (Sp.clL n (X ++ List.drop (k + 1).toNat (List.take L.length L)))).length = (Sp.clL n (X ++ List.drop (k + 1).toNat (List.take L.length L))).length:=List.length_map ..
 have w33:(List.map Pr.v A).length = A.length:=List.length_map ..
 exact ZaF (G:=Zaf kp10 [(13,4,(.call (.row 0 0) (some [⟨X.map Pr.v,2,0,false,true⟩]):Ans)),(13,10,.call (tu [AV.vec false 2 (List.map Pr.v (Sp.clL n (X ++ List.drop (k + 1).toNat (List.take L.length L)))),vi (Sp.ZaQ n (X ++ List.drop (k + 1).toNat (List.take L.length L)))]) none)] [(13,[10,2009,902008,4,2004,902003])]) 1000 [] (asm:=[decide (0 <= k),decide (0 <= k.toNat),decide (k.toNat <= (List.map Pr.v L).length),scalarL (List.map Pr.v X),decide (0 <= wi (k + 1)),decide ((wi (k + 1)).toNat <= (List.map Pr.v L).length),decide ((List.map Pr.v L).length <= (List.map Pr.v L).length),true,decide (((List.map Pr.v X).length + (List.drop (wi (k + 1)).toNat (List.take (List.map Pr.v L).length (List.map Pr.v L))).length) * 16 <= 1099511627776),true]) (calls:=[⟨true,true,13,[AV.vec false 2 (List.drop 0 (List.take k.toNat (List.map Pr.v L)))],[],AV.row 0 0,[⟨List.map Pr.v X,2,0,false,true⟩]⟩,⟨true,false,28,[vi n,AV.vec false 2 (List.map Pr.v X ++ List.drop (wi (k + 1)).toNat (List.take (List.map Pr.v L).length (List.map Pr.v L)))],[],tu [AV.vec false 2 (List.map Pr.v (Sp.clL n (X ++ List.drop (k + 1).toNat (List.take L.length L)))),vi (Sp.ZaQ n (X ++ List.drop (k + 1).toNat (List.take L.length L)))],[]⟩]) (vb (bif Sp.ZaQ n (X ++ List.drop (k + 1).toNat (List.take L.length L)) == 0 then decide ((↑(List.map Pr.v (Sp.clL n (X ++ List.drop (k + 1).toNat (List.take L.length L)))).length:Int) < (↑(List.map Pr.v A).length:Int)) else false)) (by kernel_rfl) (bc (Zaa.2 k16) (bc (Zaa.2 k18) (bc (i19.2 k20) (bc ((Zb0 _).2 k22) (bc (i23.2 k24) (bc (i25.2 k26) (bc (i27.2 (by omega)) (bc rfl (bc (i30.2 k31) (bc rfl b0)))))))))) q0 (cc (fun _ => k8) (cc (fun _ => (by (try rw [w9]);(try rw [w10]);(try rw [w12]);(try rw [w13]);(try rw [w14]);all_goals exact (@ev28 (n) (false) (X ++ List.drop (k + 1).toNat (List.take L.length L))))) c0)) (by (try rw [w32]);(try rw [w33]);all_goals exact H)
theorem pLr1 (n:Int) (x:Pr) (A:List Pr)  (dq:AV) (H :
  ∃ (l1:List (Pr)) (n1:Int),
  (Ev M1 (Conf.pure 28 [vi n,AV.vec true 2 []]) (tu [AV.vec false 2 (List.map Pr.v l1),vi n1]) []) /\
  vb (bif n1 == 0 then decide ((↑l1.length:Int) < (↑A.length:Int)) else false) = dq) :
 pLr1_at n x A (Zaj dq):=by
 unfold pLr1_at
 obtain ⟨l1,n1,k1,H⟩:=H
 have w2:(List.map Pr.v l1).length = l1.length:=List.length_map ..
 have w3:(List.map Pr.v A).length = A.length:=List.length_map ..
 exact ZaF (G:=Zaf kp10 [(13,4,.call (AV.vec true 2 []) none),(13,10,.call (tu [AV.vec false 2 (List.map Pr.v l1),vi n1]) none)] []) 1000 [] (vb (bif n1 == 0 then decide ((↑(List.map Pr.v l1).length:Int) < (↑(List.map Pr.v A).length:Int)) else false)) (by kernel_rfl) (bc rfl (bc rfl (bc rfl (bc rfl (bc rfl (bc rfl b0)))))) q0 (ce (@ev13_a (false)) (ce k1 c0)) (by (try rw [w2]);(try rw [w3]);all_goals exact H)
theorem pLr2 (n:Int) (x y:Pr) (S A:List Pr)  (dq:AV) (H :
  ∃ (l1:List (Pr)) (n1:Int),
  (Ev M1 (Conf.pure 28 [vi n,AV.vec false 2 (ag [vi y.a,vi y.b] :: List.map Pr.v (List.take S.length S))]) (tu [AV.vec false 2 (List.map Pr.v l1),vi n1]) []) /\
  (0 <= S.length + 1 + 1) /\
  (1 <= S.length + 1 + 1) /\
  ((0 + ((List.take S.length S).length + 1)) * 16 <= 1099511627776) /\
  vb (bif n1 == 0 then decide ((↑l1.length:Int) < (↑A.length:Int)) else false) = dq) :
 pLr2_at n x y S A (Zaj dq):=by
 unfold pLr2_at
 have w1:(List.map Pr.v S).length = S.length:=List.length_map ..
 have w2:List.take S.length (List.map Pr.v S) = List.map Pr.v (List.take S.length S):=(lm_take rfl)
 obtain ⟨l1,n1,k3,H⟩:=H
 have i4:(decide (0 <= (List.map Pr.v S).length + 1 + 1)) = true ↔ (0 <= S.length + 1 + 1):=(by (try rw [w1]);all_goals exact Zaa)
 obtain ⟨k5,H⟩:=H
 have i6:(decide (1 <= (List.map Pr.v S).length + 1 + 1)) = true ↔ (1 <= S.length + 1 + 1):=(by (try rw [w1]);all_goals exact Zaa)
 obtain ⟨k7,H⟩:=H
 have i8:(decide ((List.map Pr.v S).length + 1 + 1 <= (List.map Pr.v S).length + 1 + 1)) = true ↔ (S.length + 1 + 1 <= S.length + 1 + 1):=(by (try rw [w1]);all_goals exact Zaa)
 have w9:(List.map Pr.v (List.take S.length S)).length = (List.take S.length S).length:=List.length_map ..
 have i10:(decide ((0 + ((List.take (List.map Pr.v S).length (List.map Pr.v S)).length + 1)) * 16 <= 1099511627776)) = true ↔ ((0 + ((List.take S.length S).length + 1)) * 16 <= 1099511627776):=(by (try rw [w1]);(try rw [w2]);(try rw [w9]);all_goals exact Zaa)
 obtain ⟨k11,H⟩:=H
 have w12:(List.map Pr.v l1).length = l1.length:=List.length_map ..
 have w13:(List.map Pr.v A).length = A.length:=List.length_map ..
 exact ZaF (G:=Zaf kp10 [(13,4,.call (AV.vec true 2 []) none),(13,10,.call (tu [AV.vec false 2 (List.map Pr.v l1),vi n1]) none)] [(13,[10])]) 1000 [] (asm:=[true,true,decide (0 <= (List.map Pr.v S).length + 1 + 1),true,decide (1 <= (List.map Pr.v S).length + 1 + 1),decide ((List.map Pr.v S).length + 1 + 1 <= (List.map Pr.v S).length + 1 + 1),decide ((0 + ((List.take (List.map Pr.v S).length (List.map Pr.v S)).length + 1)) * 16 <= 1099511627776),true]) (calls:=[pc 13 [AV.vec false 2 []] (AV.vec true 2 []),pc 28 [vi n,AV.vec false 2 (ag [vi y.a,vi y.b] :: List.take (List.map Pr.v S).length (List.map Pr.v S))] (tu [AV.vec false 2 (List.map Pr.v l1),vi n1])]) (vb (bif n1 == 0 then decide ((↑(List.map Pr.v l1).length:Int) < (↑(List.map Pr.v A).length:Int)) else false)) (by kernel_rfl) (bc rfl (bc rfl (bc (i4.2 k5) (bc rfl (bc (i6.2 k7) (bc (i8.2 (by omega)) (bc (i10.2 k11) (bc rfl b0)))))))) q0 (ce (@ev13_a (false)) (ce (by (try rw [w1]);(try rw [w2]);all_goals exact k3) c0)) (by (try rw [w12]);(try rw [w13]);all_goals exact H)
end Go.Av

namespace Go.Av
open Go.Proofs
theorem fw_n {n:Int} {m:Int} {ps:List Pr} (h:Sp.fw n m ps = true) (hv:Sp.vd n ps = 0):n <= m:=by
 unfold Sp.fw at h
 rw [hv] at h
 cases h1:decide ((ps.length:Int) <= 60) <;> rw [h1] at h
 ·cases h
 ·cases h2:decide (n <= m) <;> rw [h2] at h
  ·cases h
  ·exact of_decide_eq_true h2
theorem scalar_pr:∀ X:List Pr,scalarL (X.map Pr.v) = true
 | [] => rfl
 | x :: X => by
  rw [List.map_cons]
  unfold scalarL
  rw [scalar_pr X];rfl
theorem lr_end {n:Nat} {ps:List Pr} {l:List Int} (hv:Sp.okV n ps) (hb:Sp.Za9 n ps l) (hl:l.length = n) (hn:n <= 40) (h:Sp.ZaQ n ps = 0) {k:Nat} (hk:k < (Sp.rdL n ps).length) :
  pLrX_at (n:Int) (Sp.rdL n ps) (Sp.clL n ps) (k:Int) (Zaj (.bool true)):=by
 obtain ⟨L,hL⟩:∃ L,Sp.rdL n ps = L:=⟨_,rfl⟩
 have hlen:=rdL_len n ps
 rw [hL] at hk hlen ⊢
 have hsplit:L = L.take k ++ L[k] :: L.drop (k + 1):=by
  rw [<- List.drop_eq_getElem_cons hk,List.take_append_drop]
 obtain ⟨r1,r2⟩:=rdL_less hv hb hl hn h (hL.trans hsplit)
 have fin:∀ Y,Y = L.take k ++ L.drop (k + 1) -> AV.bool (bif Sp.ZaQ n Y == 0 then decide (((Sp.clL n Y).length:Int) < ((Sp.clL n ps).length:Int)) else false) = AV.bool true:=by
  intro Y e
  rw [e,r1,decide_eq_true (by omega)];rfl
 by_cases hk0:k = 0
 ·subst hk0
  match L,hL,hk,hlen,fin with
  | [x],_,_,_,fin =>
   refine pLr1 _ _ _ _ ⟨_,_,ev28 n true [],?_⟩
   exact fin [] rfl
  | x :: y :: S,_,_,hlen,fin =>
   simp only [List.length_cons] at hlen
   refine pLr2 _ _ _ _ _ _ ⟨_,_,by rw [List.take_of_length_le (Nat.le_refl _)];exact ev28 n false (y :: S),by omega,by omega,by rw [List.length_take];omega,?_⟩
   exact fin (y :: S) rfl
 ·have e1:((k:Nat):Int).toNat = k:=Int.toNat_natCast k
  have e2:(((k:Nat):Int) + 1).toNat = k + 1:=by omega
  refine pLrX _ _ _ _ (L.take k) _ ⟨?_,by omega,by omega,by omega,by omega,scalar_pr _,by omega,by omega,by rw [List.length_drop,List.length_take,List.length_take];omega,?_⟩
  ·rw [e1,List.drop_zero,<- List.map_take]
   have hne:0 < (L.take k).length:=by rw [List.length_take];omega
   match hT:L.take k,hne with
   | p :: T,_ =>
    refine evf13 false p T ?_
    rw [<- hT,List.length_take]
    unfold Sp.few;omega
  ·rw [e2,List.take_of_length_le (Nat.le_refl _)]
   exact fin _ rfl
theorem ev10 (n:Int) (f:Bool) (ps:List Pr) (i:Int) (hi:0 <= i /\ i <= 255):Ev M1 (.pure 10 [.int .i64 n,.vec f 2 (ps.map Pr.v),.int .u8 i]) (.bool true) []:=by
 refine call10 (pLr _ _ _ _ _ ⟨fun _ => rfl,fun h => ?_⟩)
 have hfw:=Classical.not_not.1 h
 have hp:=fw_len hfw
 have h1:=clL_len n ps
 have h2:=rdL_len n ps
 refine ⟨by unfold Sp.few;omega,fun _ => by rw [show (Sp.ZaQ n ps == Sp.ZaQ n ps) = true by simp],fun ho => ?_⟩
 have ho:Sp.ZaQ n ps = 0:=Classical.byContradiction fun y => ho (.inl y)
 have hn12:=fw_n hfw (ordE_vd ho)
 obtain ⟨m,rfl,hv,hn,hpl,hb,hl⟩:=Zcl ho
 obtain ⟨c1,c2⟩:=rdL_closure hv hb hl (by omega) ho
 refine ⟨by unfold Sp.few;omega,fun _ => by rw [c2];unfold Sp.few;omega,fun hx => ?_,fun _ => ⟨fun h0 => ?_,fun h0 => ⟨h0,by omega,?_⟩⟩⟩
 ·rcases hx with hx | hx
  ·exact absurd c1 hx
  ·exact absurd c2 hx
 ·have h0:Sp.rdL m ps = []:=List.length_eq_zero_iff.1 (by omega)
  rw [rdL_nil hv hb hl ho h0];rfl
 ·have hpos:0 < (Sp.rdL m ps).length:=by omega
  have e:i.tmod ((Sp.rdL m ps).length:Int) = ((i.toNat % (Sp.rdL m ps).length:Nat):Int):=by
   conv => lhs;rw [show i = (i.toNat:Int) by omega]
   rw [Int.ofNat_tmod]
  rw [e]
  exact lr_end hv hb hl (by omega) ho (Nat.mod_lt _ hpos)
end Go.Av
