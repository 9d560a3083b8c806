/- PART 4 of the texts of a claim, joined by a program: what each part shows stands at its head. -/
import Derived.Test.YtojapcnhajomcaaPart0b3196a155

namespace Go.Av
open Go.Proofs
set_option maxRecDepth 100000
def fi94:Fi:=⟨165,[.tmp 4,.tmp 5]⟩
def kp94:List (Nat × List Nat):=[(0,[0,1]),(1,[0,1,6]),(2,[0,1,6,21]),(3,[4,5]),(4,[0,1,6,7]),(5,[0,1,6,7,8]),(6,[0,1,6,7,8,9]),(7,[0,1,6,7,8,9]),(8,[0,1,6,7,8,9,35,36]),(9,[0,1,6,7,8,9,35,36,37]),(10,[0,1,6,7,8,9,10,35,36]),(11,[0,1,6,7,8,9,35,36]),(12,[0,1,6,7,8,9,35,36]),(13,[0,1,6,7,8,9,11]),(14,[0,1,6,7,8,9,11,62,63]),(15,[0,1,6,7,8,9,11,62,63,64]),(16,[0,1,6,7,8,9,11,12,62,63]),(17,[0,1,6,7,8,9,11,12,62,63,66,67]),(18,[0,1,6,7,8,9,11,12,62,63,66,67,68]),(19,[0,1,6,7,8,9,11,12,13,62,63,66,67]),(20,[0,1,6,7,8,9,11,12,13,62,63,66,67,89]),(21,[0,1,6,7,8,9,11,12,62,63,66,67]),(22,[0,1,6,7,8,9,11,12,62,63,66,67]),(23,[0,1,6,7,8,9,11,12,62,63]),(24,[0,1,6,7,8,9,11,12,62,63]),(25,[0,1,6,7,8,9,11,12,62,63]),(26,[0,1,6,7,8,9,11,12,62,63]),(27,[0,1,6,7,8,9,11,12,62,63,117,118]),(28,[0,1,6,7,8,9,11,12,62,63,117,118,119]),(29,[0,1,6,7,8,9,11,12,14,62,63,117,118]),(30,[0,1,6,7,8,9,11,12,14,15,62,63,117,118]),(31,[0,1,6,7,8,9,11,12,14,15,62,63,117,118,152]),(32,[0,1,6,7,8,9,11,12,62,63,117,118]),(33,[0,1,6,7,8,9,11,12,62,63,117,118]),(34,[0,1,6,7,8,9,11,62,63]),(35,[4,5])]
def tv36_at (fl fw:Bool) (gs:List G2) (w:List Int) (Q:AV -> Heap -> Prop):Prop:=Wp M1 (.run fi94 (atC (cd Try.f94) []) [(0,.vec fl 2 (gs.map G2.a)),(1,.vec fw 1 (w.map (.int .i64)))] []) Q
def tv36a_at (fl fw:Bool) (gs:List G2) (w:List Int) (ps co fr:List Int) (dn:List Bool) (n i:Int) (Q:AV -> Heap -> Prop):Prop:=Wp M1 (.run fi94 (atC (cd Try.f94) [1,1,1,1,1,1,1,0,1,0,0]) [(0,.vec fl 2 (gs.map G2.a)),(1,.vec fw 1 (w.map (.int .i64))),(6,.row 0 0),(7,.row 1 0),(8,.row 2 0),(9,.row 3 0),(35,.int .i64 n),(36,.int .i64 i)] [⟨ps.map (.int .i64),1,0,false,true⟩,⟨dn.map .bool,1,0,false,true⟩,⟨co.map (.int .i64),1,0,false,true⟩,⟨fr.map (.int .i64),1,0,false,true⟩]) Q
def tv36b_at (fl fw:Bool) (gs:List G2) (w:List Int) (ps co fr:List Int) (dn:List Bool) (s n i:Int) (Q:AV -> Heap -> Prop):Prop:=Wp M1 (.run fi94 (atC (cd Try.f94) [1,1,1,1,1,1,1,1,1,0,1,0,0]) [(0,.vec fl 2 (gs.map G2.a)),(1,.vec fw 1 (w.map (.int .i64))),(6,.row 0 0),(7,.row 1 0),(8,.row 2 0),(9,.row 3 0),(11,.int .i64 s),(62,.int .i64 n),(63,.int .i64 i)] [⟨ps.map (.int .i64),1,0,false,true⟩,⟨dn.map .bool,1,0,false,true⟩,⟨co.map (.int .i64),1,0,false,true⟩,⟨fr.map (.int .i64),1,0,false,true⟩]) Q
def tv36c_at (fl fw:Bool) (gs:List G2) (w:List Int) (ps co fr:List Int) (dn:List Bool) (s nx n i m j:Int) (Q:AV -> Heap -> Prop):Prop:=Wp M1 (.run fi94 (atC (cd Try.f94) [1,1,1,1,1,1,1,1,1,0,1,0,0,1,1,0,0,1,0,1,0,0]) [(0,.vec fl 2 (gs.map G2.a)),(1,.vec fw 1 (w.map (.int .i64))),(6,.row 0 0),(7,.row 1 0),(8,.row 2 0),(9,.row 3 0),(11,.int .i64 s),(12,.int .i64 nx),(62,.int .i64 n),(63,.int .i64 i),(66,.int .i64 m),(67,.int .i64 j)] [⟨ps.map (.int .i64),1,0,false,true⟩,⟨dn.map .bool,1,0,false,true⟩,⟨co.map (.int .i64),1,0,false,true⟩,⟨fr.map (.int .i64),1,0,false,true⟩]) Q
def tv36d_at (fl fw:Bool) (gs:List G2) (w:List Int) (ps co fr:List Int) (dn:List Bool) (s nx n i m j:Int) (Q:AV -> Heap -> Prop):Prop:=Wp M1 (.run fi94 (atC (cd Try.f94) [1,1,1,1,1,1,1,1,1,0,1,0,0,1,1,0,0,1,1,1,1,1,1,1,0,0]) [(0,.vec fl 2 (gs.map G2.a)),(1,.vec fw 1 (w.map (.int .i64))),(6,.row 0 0),(7,.row 1 0),(8,.row 2 0),(9,.row 3 0),(11,.int .i64 s),(12,.int .i64 nx),(62,.int .i64 n),(63,.int .i64 i),(117,.int .i64 m),(118,.int .i64 j)] [⟨ps.map (.int .i64),1,0,false,true⟩,⟨dn.map .bool,1,0,false,true⟩,⟨co.map (.int .i64),1,0,false,true⟩,⟨fr.map (.int .i64),1,0,false,true⟩]) Q
def tw36_at (fl fw:Bool) (gs:List G2) (w:List Int) (Q:AV -> Heap -> Prop):Prop:=Wp M1 (.run fi94 (atC (cd Try.f94) []) [(0,.vec fl 2 (gs.map G2.a)),(1,.vec fw 1 (w.map (.int .i64)))] []) Q
def tw36a_at (fl fw:Bool) (gs:List G2) (w:List Int) (ps co fr:List Int) (dn:List Bool) (n i:Int) (Q:AV -> Heap -> Prop):Prop:=Wp M1 (.run fi94 (atC (cd Try.f94) [1,1,1,1,1,1,1,0,1,0,0]) [(0,.vec fl 2 (gs.map G2.a)),(1,.vec fw 1 (w.map (.int .i64))),(6,.row 0 0),(7,.row 1 0),(8,.row 2 0),(9,.row 3 0),(35,.int .i64 n),(36,.int .i64 i)] [⟨ps.map (.int .i64),1,0,false,true⟩,⟨dn.map .bool,1,0,false,true⟩,⟨co.map (.int .i64),1,0,false,true⟩,⟨fr.map (.int .i64),1,0,false,true⟩]) Q
def tw36b_at (fl fw:Bool) (gs:List G2) (w:List Int) (ps co fr:List Int) (dn:List Bool) (s n i:Int) (Q:AV -> Heap -> Prop):Prop:=Wp M1 (.run fi94 (atC (cd Try.f94) [1,1,1,1,1,1,1,1,1,0,1,0,0]) [(0,.vec fl 2 (gs.map G2.a)),(1,.vec fw 1 (w.map (.int .i64))),(6,.row 0 0),(7,.row 1 0),(8,.row 2 0),(9,.row 3 0),(11,.int .i64 s),(62,.int .i64 n),(63,.int .i64 i)] [⟨ps.map (.int .i64),1,0,false,true⟩,⟨dn.map .bool,1,0,false,true⟩,⟨co.map (.int .i64),1,0,false,true⟩,⟨fr.map (.int .i64),1,0,false,true⟩]) Q
def tw36c_at (fl fw:Bool) (gs:List G2) (w:List Int) (ps co fr:List Int) (dn:List Bool) (s nx n i m j:Int) (Q:AV -> Heap -> Prop):Prop:=Wp M1 (.run fi94 (atC (cd Try.f94) [1,1,1,1,1,1,1,1,1,0,1,0,0,1,1,0,0,1,0,1,0,0]) [(0,.vec fl 2 (gs.map G2.a)),(1,.vec fw 1 (w.map (.int .i64))),(6,.row 0 0),(7,.row 1 0),(8,.row 2 0),(9,.row 3 0),(11,.int .i64 s),(12,.int .i64 nx),(62,.int .i64 n),(63,.int .i64 i),(66,.int .i64 m),(67,.int .i64 j)] [⟨ps.map (.int .i64),1,0,false,true⟩,⟨dn.map .bool,1,0,false,true⟩,⟨co.map (.int .i64),1,0,false,true⟩,⟨fr.map (.int .i64),1,0,false,true⟩]) Q
def tw36d_at (fl fw:Bool) (gs:List G2) (w:List Int) (ps co fr:List Int) (dn:List Bool) (s nx n i m j:Int) (Q:AV -> Heap -> Prop):Prop:=Wp M1 (.run fi94 (atC (cd Try.f94) [1,1,1,1,1,1,1,1,1,0,1,0,0,1,1,0,0,1,1,1,1,1,1,1,0,0]) [(0,.vec fl 2 (gs.map G2.a)),(1,.vec fw 1 (w.map (.int .i64))),(6,.row 0 0),(7,.row 1 0),(8,.row 2 0),(9,.row 3 0),(11,.int .i64 s),(12,.int .i64 nx),(62,.int .i64 n),(63,.int .i64 i),(117,.int .i64 m),(118,.int .i64 j)] [⟨ps.map (.int .i64),1,0,false,true⟩,⟨dn.map .bool,1,0,false,true⟩,⟨co.map (.int .i64),1,0,false,true⟩,⟨fr.map (.int .i64),1,0,false,true⟩]) Q
theorem call94 {args:List AV} {d:AV} (h:wc M1 fi94 Try.f94 args d):Ev M1 (.pure 94 args) d []:=pcl _ _ (by kernel_rfl) h
theorem owncall94 {args:List AV} {L:Heap} {Q:AV -> Heap -> Prop} (h:Wp M1 (.run fi94 [.code (cd Try.f94)] (argVars 0 args) L) Q):Wp M1 (.own 94 args L) Q:=
 own_wp Try.f94 fi94 (by kernel_rfl) (by kernel_rfl) (by kernel_rfl) (by kernel_rfl) h
theorem tv36 (fl fw:Bool) (gs:List G2) (w:List Int)  (dq:AV) (H :
  (0 <= (↑gs.length:Int)) /\
  ((↑gs.length:Int) * 8 <= 1099511627776) /\
  ((↑gs.length:Int) <= 1099511627776) /\
  (((↑gs.length:Int) = 0) -> Weak (AV.tup [AV.int IntKind.i64 0,AV.vec false 1 (List.map (AV.int IntKind.i64) (List.replicate (↑gs.length:Int).toNat (0:Int)))]) dq) /\
  (¬((↑gs.length:Int) = 0) -> ((↑gs.length:Int) * 1 <= 1099511627776) /\
   (0 < (List.replicate (↑gs.length:Int).toNat false).length) /\
   tv36a_at (fl) (fw) (gs) (w) (List.replicate (↑gs.length:Int).toNat (0:Int)) (List.replicate (↑gs.length:Int).toNat (0:Int)) (List.replicate (↑gs.length:Int).toNat (0:Int)) ((List.replicate (↑gs.length:Int).toNat false).set 0 true) ((↑gs.length:Int)) (0) (PureQ dq))) :
 tv36_at fl fw gs w (PureQ dq):=by
 unfold tv36_at
 have w1:(List.map G2.a gs).length = gs.length:=List.length_map ..
 have i2:(decide (0 <= (↑(List.map G2.a gs).length:Int))) = true ↔ (0 <= (↑gs.length:Int)):=(by (try rw [w1]);all_goals exact i_dec)
 have k3:=H.1;have H:=H.2
 have i4:(decide ((↑(List.map G2.a gs).length:Int) <= (↑(List.map G2.a gs).length:Int))) = true ↔ ((↑gs.length:Int) <= (↑gs.length:Int)):=(by (try rw [w1]);all_goals exact i_dec)
 have i5:(decide ((↑(List.map G2.a gs).length:Int) * 8 <= 1099511627776)) = true ↔ ((↑gs.length:Int) * 8 <= 1099511627776):=(by (try rw [w1]);all_goals exact i_dec)
 have k6:=H.1;have H:=H.2
 have i7:(decide ((↑(List.map G2.a gs).length:Int) <= 1099511627776)) = true ↔ ((↑gs.length:Int) <= 1099511627776):=(by (try rw [w1]);all_goals exact i_dec)
 have k8:=H.1;have H:=H.2
 have w9:List.replicate (↑gs.length:Int).toNat (AV.int IntKind.i64 0) = List.map (AV.int IntKind.i64) (List.replicate (↑gs.length:Int).toNat (0:Int)):=(lm_rep rfl)
 have i10:((↑(List.map G2.a gs).length:Int) == 0) = true ↔ ((↑gs.length:Int) = 0):=(by (try rw [w1]);all_goals exact i_eq)
 rcases Classical.em ((↑gs.length:Int) = 0) with d11 | d11
 ·have H:=H.1 d11
  exact path_ret (G:=given kp94 [] []) 1000 [true] (k:=((atC (cd Try.f94) [1,1,0,1,0,1])).tail) (env':=[(4,AV.int IntKind.i64 0),(5,AV.row 0 0)]) (L':=[{ elems:=List.replicate (↑(List.map G2.a gs).length:Int).toNat (AV.int IntKind.i64 0),es:=1,ver:=0,frozen:=false,clean:=true }]) (asm:=[decide (0 <= (↑(List.map G2.a gs).length:Int)),decide ((↑(List.map G2.a gs).length:Int) <= (↑(List.map G2.a gs).length:Int)),decide ((↑(List.map G2.a gs).length:Int) * 8 <= 1099511627776),decide ((↑(List.map G2.a gs).length:Int) <= 1099511627776),((↑(List.map G2.a gs).length:Int) == 0) == true]) (eqs:=[]) (calls:=[]) (AV.tup [AV.int IntKind.i64 0,AV.row 0 0]) (by kernel_rfl) (by kernel_rfl) (allB_cons (i2.2 k3) (allB_cons (i4.2 (by omega)) (allB_cons (i5.2 k6) (allB_cons (i7.2 k8) (allB_cons (beq_t (i10.2 d11)) allB_nil))))) allP_nil allC_nil (pq_weak (d:=(AV.tup [AV.int IntKind.i64 0,AV.vec false 1 (List.replicate (↑(List.map G2.a gs).length:Int).toNat (AV.int IntKind.i64 0))])) (bs:=[0 == 0]) (by kernel_rfl) (by kernel_rfl) (allB_cons (beq_self_eq_true _) allB_nil) (by kernel_rfl) (by (try rw [w1]);(try rw [w9]);all_goals exact H))
 ·have H:=H.2 d11
  have i12:(decide (0 <= (↑(List.map G2.a gs).length:Int))) = true ↔ (0 <= (↑gs.length:Int)):=(by (try rw [w1]);all_goals exact i_dec)
  have i13:(decide ((↑(List.map G2.a gs).length:Int) <= (↑(List.map G2.a gs).length:Int))) = true ↔ ((↑gs.length:Int) <= (↑gs.length:Int)):=(by (try rw [w1]);all_goals exact i_dec)
  have i14:(decide ((↑(List.map G2.a gs).length:Int) * 1 <= 1099511627776)) = true ↔ ((↑gs.length:Int) * 1 <= 1099511627776):=(by (try rw [w1]);all_goals exact i_dec)
  have k15:=H.1;have H:=H.2
  have i16:(decide ((↑(List.map G2.a gs).length:Int) <= 1099511627776)) = true ↔ ((↑gs.length:Int) <= 1099511627776):=(by (try rw [w1]);all_goals exact i_dec)
  have w17:List.replicate (↑gs.length:Int).toNat (AV.bool false) = List.map AV.bool (List.replicate (↑gs.length:Int).toNat false):=(lm_rep rfl)
  have i18:(decide (0 <= (↑(List.map G2.a gs).length:Int))) = true ↔ (0 <= (↑gs.length:Int)):=(by (try rw [w1]);all_goals exact i_dec)
  have i19:(decide ((↑(List.map G2.a gs).length:Int) <= (↑(List.map G2.a gs).length:Int))) = true ↔ ((↑gs.length:Int) <= (↑gs.length:Int)):=(by (try rw [w1]);all_goals exact i_dec)
  have i20:(decide ((↑(List.map G2.a gs).length:Int) * 8 <= 1099511627776)) = true ↔ ((↑gs.length:Int) * 8 <= 1099511627776):=(by (try rw [w1]);all_goals exact i_dec)
  have i21:(decide ((↑(List.map G2.a gs).length:Int) <= 1099511627776)) = true ↔ ((↑gs.length:Int) <= 1099511627776):=(by (try rw [w1]);all_goals exact i_dec)
  have i22:(decide (0 <= (↑(List.map G2.a gs).length:Int))) = true ↔ (0 <= (↑gs.length:Int)):=(by (try rw [w1]);all_goals exact i_dec)
  have i23:(decide ((↑(List.map G2.a gs).length:Int) <= (↑(List.map G2.a gs).length:Int))) = true ↔ ((↑gs.length:Int) <= (↑gs.length:Int)):=(by (try rw [w1]);all_goals exact i_dec)
  have i24:(decide ((↑(List.map G2.a gs).length:Int) * 8 <= 1099511627776)) = true ↔ ((↑gs.length:Int) * 8 <= 1099511627776):=(by (try rw [w1]);all_goals exact i_dec)
  have i25:(decide ((↑(List.map G2.a gs).length:Int) <= 1099511627776)) = true ↔ ((↑gs.length:Int) <= 1099511627776):=(by (try rw [w1]);all_goals exact i_dec)
  have w26:(List.map AV.bool (List.replicate (↑gs.length:Int).toNat false)).length = (List.replicate (↑gs.length:Int).toNat false).length:=List.length_map ..
  have i27:(decide (0 < (List.replicate (↑(List.map G2.a gs).length:Int).toNat (AV.bool false)).length)) = true ↔ (0 < (List.replicate (↑gs.length:Int).toNat false).length):=(by (try rw [w1]);(try rw [w17]);(try rw [w26]);all_goals exact i_dec)
  have k28:=H.1;have H:=H.2
  have w29:(List.map AV.bool (List.replicate (↑gs.length:Int).toNat false)).set 0 (AV.bool true) = List.map AV.bool ((List.replicate (↑gs.length:Int).toNat false).set 0 true):=(lm_set rfl rfl)
  exact path_wp (G:=given kp94 [(7,2,.elem (AV.bool ((List.replicate (↑gs.length:Int).toNat false).getD 0 default)))] []) 1000 [false] ⟨(atC (cd Try.f94) [1,1,1,1,1,1,1,0,1,0,0]),[(0,AV.vec fl 2 (List.map G2.a gs)),(1,AV.vec fw 1 (List.map (AV.int IntKind.i64) w)),(6,AV.row 0 0),(7,AV.row 1 0),(8,AV.row 2 0),(9,AV.row 3 0),(35,AV.int IntKind.i64 (↑(List.map G2.a gs).length:Int)),(36,AV.int IntKind.i64 0)],[{ elems:=List.replicate (↑(List.map G2.a gs).length:Int).toNat (AV.int IntKind.i64 0),es:=1,ver:=0,frozen:=false,clean:=true },{ elems:=(List.replicate (↑(List.map G2.a gs).length:Int).toNat (AV.bool false)).set 0 (AV.bool true),es:=1,ver:=0,frozen:=false,clean:=true },{ elems:=List.replicate (↑(List.map G2.a gs).length:Int).toNat (AV.int IntKind.i64 0),es:=1,ver:=0,frozen:=false,clean:=true },{ elems:=List.replicate (↑(List.map G2.a gs).length:Int).toNat (AV.int IntKind.i64 0),es:=1,ver:=0,frozen:=false,clean:=true }],[decide (0 <= (↑(List.map G2.a gs).length:Int)),decide ((↑(List.map G2.a gs).length:Int) <= (↑(List.map G2.a gs).length:Int)),decide ((↑(List.map G2.a gs).length:Int) * 8 <= 1099511627776),decide ((↑(List.map G2.a gs).length:Int) <= 1099511627776),((↑(List.map G2.a gs).length:Int) == 0) == false,decide (0 <= (↑(List.map G2.a gs).length:Int)),decide ((↑(List.map G2.a gs).length:Int) <= (↑(List.map G2.a gs).length:Int)),decide ((↑(List.map G2.a gs).length:Int) * 1 <= 1099511627776),decide ((↑(List.map G2.a gs).length:Int) <= 1099511627776),decide (0 <= (↑(List.map G2.a gs).length:Int)),decide ((↑(List.map G2.a gs).length:Int) <= (↑(List.map G2.a gs).length:Int)),decide ((↑(List.map G2.a gs).length:Int) * 8 <= 1099511627776),decide ((↑(List.map G2.a gs).length:Int) <= 1099511627776),decide (0 <= (↑(List.map G2.a gs).length:Int)),decide ((↑(List.map G2.a gs).length:Int) <= (↑(List.map G2.a gs).length:Int)),decide ((↑(List.map G2.a gs).length:Int) * 8 <= 1099511627776),decide ((↑(List.map G2.a gs).length:Int) <= 1099511627776),true,true,decide (0 < (List.replicate (↑(List.map G2.a gs).length:Int).toNat (AV.bool false)).length),true],[((List.replicate (↑(List.map G2.a gs).length:Int).toNat (AV.bool false)).get?Internal 0 = some (AV.bool ((List.replicate (↑gs.length:Int).toNat false).getD 0 default)))],[]⟩ (by kernel_rfl) (allB_cons (i2.2 k3) (allB_cons (i4.2 (by omega)) (allB_cons (i5.2 k6) (allB_cons (i7.2 k8) (allB_cons (beq_f (fun h => d11 (i10.1 h))) (allB_cons (i12.2 k3) (allB_cons (i13.2 (by omega)) (allB_cons (i14.2 k15) (allB_cons (i16.2 k8) (allB_cons (i18.2 k3) (allB_cons (i19.2 (by omega)) (allB_cons (i20.2 k6) (allB_cons (i21.2 k8) (allB_cons (i22.2 k3) (allB_cons (i23.2 (by omega)) (allB_cons (i24.2 k6) (allB_cons (i25.2 k8) (allB_cons rfl (allB_cons rfl (allB_cons (i27.2 k28) (allB_cons rfl allB_nil))))))))))))))))))))) (allP_cons (by (try rw [w1]);(try rw [w17]);all_goals exact (el_map k28)) allP_nil) allC_nil (by (try rw [w1]);(try rw [w9]);(try rw [w17]);(try rw [w29]);all_goals exact H)
theorem tv36a (fl fw:Bool) (gs:List G2) (w:List Int) (ps co fr:List Int) (dn:List Bool) (n i:Int)  (dq:AV) (H :
  ((i < n) -> (Sp.inM (gs.getD 0 default).x /\ Sp.inM (gs.getD 0 default).y /\ Sp.inM (gs.getD i.toNat default).x /\ Sp.inM (gs.getD i.toNat default).y) /\
   (0 < gs.length) /\
   (0 <= i) /\
   (i.toNat < gs.length) /\
   (0 < w.length) /\
   (i.toNat < w.length) /\
   (i.toNat < co.length) /\
   (-9223372036854775808 <= Sp.dist (gs.getD 0 default).x (gs.getD 0 default).y (gs.getD i.toNat default).x (gs.getD i.toNat default).y + w.getD 0 default /\ Sp.dist (gs.getD 0 default).x (gs.getD 0 default).y (gs.getD i.toNat default).x (gs.getD i.toNat default).y + w.getD 0 default <= 9223372036854775807) /\
   (-9223372036854775808 <= Sp.dist (gs.getD 0 default).x (gs.getD 0 default).y (gs.getD i.toNat default).x (gs.getD i.toNat default).y + w.getD 0 default + w.getD i.toNat default /\ Sp.dist (gs.getD 0 default).x (gs.getD 0 default).y (gs.getD i.toNat default).x (gs.getD i.toNat default).y + w.getD 0 default + w.getD i.toNat default <= 9223372036854775807) /\
   (-9223372036854775808 <= i + 1 /\ i + 1 <= 9223372036854775807) /\
   tv36a_at (fl) (fw) (gs) (w) (ps) (co.set i.toNat (Sp.dist (gs.getD 0 default).x (gs.getD 0 default).y (gs.getD i.toNat default).x (gs.getD i.toNat default).y + w.getD 0 default + w.getD i.toNat default)) (fr) (dn) (n) (i + 1) (PureQ dq)) /\
  (¬(i < n) -> (-9223372036854775808 <= (↑gs.length:Int) - 1 /\ (↑gs.length:Int) - 1 <= 9223372036854775807) /\
   tv36b_at (fl) (fw) (gs) (w) (ps) (co) (fr) (dn) (0) ((↑gs.length:Int) - 1) (0) (PureQ dq))) :
 tv36a_at fl fw gs w ps co fr dn n i (PureQ dq):=by
 unfold tv36a_at
 have i1:(decide (i < n)) = true ↔ (i < n):=i_dec
 rcases Classical.em (i < n) with d2 | d2
 ·have H:=H.1 d2
  have k3:=H.1;have H:=H.2
  have w4:(List.map G2.a gs).length = gs.length:=List.length_map ..
  have i5:(decide (0 < (List.map G2.a gs).length)) = true ↔ (0 < gs.length):=(by (try rw [w4]);all_goals exact i_dec)
  have k6:=H.1;have H:=H.2
  have i7:(decide (0 <= i)) = true ↔ (0 <= i):=i_dec
  have k8:=H.1;have H:=H.2
  have i9:(decide (i.toNat < (List.map G2.a gs).length)) = true ↔ (i.toNat < gs.length):=(by (try rw [w4]);all_goals exact i_dec)
  have k10:=H.1;have H:=H.2
  have w11:(List.map (AV.int IntKind.i64) w).length = w.length:=List.length_map ..
  have i12:(decide (0 < (List.map (AV.int IntKind.i64) w).length)) = true ↔ (0 < w.length):=(by (try rw [w11]);all_goals exact i_dec)
  have k13:=H.1;have H:=H.2
  have i14:(decide (0 <= i)) = true ↔ (0 <= i):=i_dec
  have i15:(decide (i.toNat < (List.map (AV.int IntKind.i64) w).length)) = true ↔ (i.toNat < w.length):=(by (try rw [w11]);all_goals exact i_dec)
  have k16:=H.1;have H:=H.2
  have i17:(decide (0 <= i)) = true ↔ (0 <= i):=i_dec
  have w18:(List.map (AV.int IntKind.i64) co).length = co.length:=List.length_map ..
  have i19:(decide (i.toNat < (List.map (AV.int IntKind.i64) co).length)) = true ↔ (i.toNat < co.length):=(by (try rw [w18]);all_goals exact i_dec)
  have k20:=H.1;have H:=H.2
  have k21:=H.1;have H:=H.2
  have w22:IntKind.i64.wrap (Sp.dist (gs.getD 0 default).x (gs.getD 0 default).y (gs.getD i.toNat default).x (gs.getD i.toNat default).y + w.getD 0 default) = Sp.dist (gs.getD 0 default).x (gs.getD 0 default).y (gs.getD i.toNat default).x (gs.getD i.toNat default).y + w.getD 0 default:=wI64 k21
  have k23:=H.1;have H:=H.2
  have w24:IntKind.i64.wrap (Sp.dist (gs.getD 0 default).x (gs.getD 0 default).y (gs.getD i.toNat default).x (gs.getD i.toNat default).y + w.getD 0 default + w.getD i.toNat default) = Sp.dist (gs.getD 0 default).x (gs.getD 0 default).y (gs.getD i.toNat default).x (gs.getD i.toNat default).y + w.getD 0 default + w.getD i.toNat default:=wI64 k23
  have w25:(List.map (AV.int IntKind.i64) co).set i.toNat (AV.int IntKind.i64 (Sp.dist (gs.getD 0 default).x (gs.getD 0 default).y (gs.getD i.toNat default).x (gs.getD i.toNat default).y + w.getD 0 default + w.getD i.toNat default)) = List.map (AV.int IntKind.i64) (co.set i.toNat (Sp.dist (gs.getD 0 default).x (gs.getD 0 default).y (gs.getD i.toNat default).x (gs.getD i.toNat default).y + w.getD 0 default + w.getD i.toNat default)):=(lm_set rfl rfl)
  have k26:=H.1;have H:=H.2
  have w27:IntKind.i64.wrap (i + 1) = i + 1:=wI64 k26
  exact path_wp (G:=given kp94 [(11,4,.elem (AV.agg [AV.int IntKind.i64 (gs.getD 0 default).x,AV.int IntKind.i64 (gs.getD 0 default).y])),(11,8,.elem (AV.agg [AV.int IntKind.i64 (gs.getD i.toNat default).x,AV.int IntKind.i64 (gs.getD i.toNat default).y])),(11,9,.call (AV.int IntKind.i64 (Sp.dist (gs.getD 0 default).x (gs.getD 0 default).y (gs.getD i.toNat default).x (gs.getD i.toNat default).y)) none),(11,12,.elem (AV.int IntKind.i64 (w.getD 0 default))),(11,17,.elem (AV.int IntKind.i64 (w.getD i.toNat default))),(11,20,.elem (AV.int IntKind.i64 (co.getD i.toNat default)))] []) 1000 [true] ⟨(atC (cd Try.f94) [1,1,1,1,1,1,1,0,1,0,0]),[(0,AV.vec fl 2 (List.map G2.a gs)),(1,AV.vec fw 1 (List.map (AV.int IntKind.i64) w)),(6,AV.row 0 0),(7,AV.row 1 0),(8,AV.row 2 0),(9,AV.row 3 0),(35,AV.int IntKind.i64 n),(36,AV.int IntKind.i64 (IntKind.i64.wrap (i + 1)))],[{ elems:=List.map (AV.int IntKind.i64) ps,es:=1,ver:=0,frozen:=false,clean:=true },{ elems:=List.map AV.bool dn,es:=1,ver:=0,frozen:=false,clean:=true },{ elems:=(List.map (AV.int IntKind.i64) co).set i.toNat (AV.int IntKind.i64 (IntKind.i64.wrap (IntKind.i64.wrap (Sp.dist (gs.getD 0 default).x (gs.getD 0 default).y (gs.getD i.toNat default).x (gs.getD i.toNat default).y + w.getD 0 default) + w.getD i.toNat default))),es:=1,ver:=0,frozen:=false,clean:=true },{ elems:=List.map (AV.int IntKind.i64) fr,es:=1,ver:=0,frozen:=false,clean:=true }],[(decide (i < n)) == true,true,decide (0 < (List.map G2.a gs).length),decide (0 <= i),decide (i.toNat < (List.map G2.a gs).length),true,decide (0 < (List.map (AV.int IntKind.i64) w).length),decide (0 <= i),decide (i.toNat < (List.map (AV.int IntKind.i64) w).length),true,decide (0 <= i),decide (i.toNat < (List.map (AV.int IntKind.i64) co).length),true],[((List.map G2.a gs).get?Internal 0 = some (AV.agg [AV.int IntKind.i64 (gs.getD 0 default).x,AV.int IntKind.i64 (gs.getD 0 default).y])),((List.map G2.a gs).get?Internal i.toNat = some (AV.agg [AV.int IntKind.i64 (gs.getD i.toNat default).x,AV.int IntKind.i64 (gs.getD i.toNat default).y])),((List.map (AV.int IntKind.i64) w).get?Internal 0 = some (AV.int IntKind.i64 (w.getD 0 default))),((List.map (AV.int IntKind.i64) w).get?Internal i.toNat = some (AV.int IntKind.i64 (w.getD i.toNat default))),((List.map (AV.int IntKind.i64) co).get?Internal i.toNat = some (AV.int IntKind.i64 (co.getD i.toNat default)))],[⟨true,false,61,[AV.agg [AV.int IntKind.i64 (gs.getD 0 default).x,AV.int IntKind.i64 (gs.getD 0 default).y],AV.agg [AV.int IntKind.i64 (gs.getD i.toNat default).x,AV.int IntKind.i64 (gs.getD i.toNat default).y]],[],AV.int IntKind.i64 (Sp.dist (gs.getD 0 default).x (gs.getD 0 default).y (gs.getD i.toNat default).x (gs.getD i.toNat default).y),[]⟩]⟩ (by kernel_rfl) (allB_cons (beq_t (i1.2 d2)) (allB_cons rfl (allB_cons (i5.2 k6) (allB_cons (i7.2 k8) (allB_cons (i9.2 k10) (allB_cons rfl (allB_cons (i12.2 k13) (allB_cons (i14.2 k8) (allB_cons (i15.2 k16) (allB_cons rfl (allB_cons (i17.2 k8) (allB_cons (i19.2 k20) (allB_cons rfl allB_nil))))))))))))) (allP_cons (el_map k6) (allP_cons (el_map k10) (allP_cons (el_map k13) (allP_cons (el_map k16) (allP_cons (el_map k20) allP_nil))))) (allC_cons (fun _ => ((@ev61 ((gs.getD 0 default).x) ((gs.getD 0 default).y) ((gs.getD i.toNat default).x) ((gs.getD i.toNat default).y) k3):Ev M1 (Conf.pure 61 [AV.agg [AV.int IntKind.i64 (gs.getD 0 default).x,AV.int IntKind.i64 (gs.getD 0 default).y],AV.agg [AV.int IntKind.i64 (gs.getD i.toNat default).x,AV.int IntKind.i64 (gs.getD i.toNat default).y]]) (AV.int IntKind.i64 (Sp.dist (gs.getD 0 default).x (gs.getD 0 default).y (gs.getD i.toNat default).x (gs.getD i.toNat default).y)) [])) allC_nil) (by (try rw [w22]);(try rw [w24]);(try rw [w25]);(try rw [w27]);all_goals exact H)
 ·have H:=H.2 d2
  have w28:(List.map G2.a gs).length = gs.length:=List.length_map ..
  have k29:=H.1;have H:=H.2
  have w30:IntKind.i64.wrap ((↑gs.length:Int) - 1) = (↑gs.length:Int) - 1:=wI64 k29
  exact path_wp (G:=given kp94 [] []) 1000 [false] ⟨(atC (cd Try.f94) [1,1,1,1,1,1,1,1,1,0,1,0,0]),[(0,AV.vec fl 2 (List.map G2.a gs)),(1,AV.vec fw 1 (List.map (AV.int IntKind.i64) w)),(6,AV.row 0 0),(7,AV.row 1 0),(8,AV.row 2 0),(9,AV.row 3 0),(11,AV.int IntKind.i64 0),(62,AV.int IntKind.i64 (IntKind.i64.wrap ((↑(List.map G2.a gs).length:Int) - 1))),(63,AV.int IntKind.i64 0)],[{ elems:=List.map (AV.int IntKind.i64) ps,es:=1,ver:=0,frozen:=false,clean:=true },{ elems:=List.map AV.bool dn,es:=1,ver:=0,frozen:=false,clean:=true },{ elems:=List.map (AV.int IntKind.i64) co,es:=1,ver:=0,frozen:=false,clean:=true },{ elems:=List.map (AV.int IntKind.i64) fr,es:=1,ver:=0,frozen:=false,clean:=true }],[(decide (i < n)) == false],[],[]⟩ (by kernel_rfl) (allB_cons (beq_f (fun h => d2 (i1.1 h))) allB_nil) allP_nil allC_nil (by (try rw [w28]);(try rw [w30]);all_goals exact H)
theorem tv36b (fl fw:Bool) (gs:List G2) (w:List Int) (ps co fr:List Int) (dn:List Bool) (s n i:Int)  (dq:AV) (H :
  ((i < n) -> tv36c_at (fl) (fw) (gs) (w) (ps) (co) (fr) (dn) (s) (-1) (n) (i) ((↑gs.length:Int)) (0) (PureQ dq)) /\
  (¬(i < n) -> Weak (AV.tup [AV.int IntKind.i64 s,AV.vec false 1 (List.map (AV.int IntKind.i64) ps)]) dq)) :
 tv36b_at fl fw gs w ps co fr dn s n i (PureQ dq):=by
 unfold tv36b_at
 have i1:(decide (i < n)) = true ↔ (i < n):=i_dec
 rcases Classical.em (i < n) with d2 | d2
 ·have H:=H.1 d2
  have w3:(List.map G2.a gs).length = gs.length:=List.length_map ..
  exact path_wp (G:=given kp94 [] []) 1000 [true] ⟨(atC (cd Try.f94) [1,1,1,1,1,1,1,1,1,0,1,0,0,1,1,0,0,1,0,1,0,0]),[(0,AV.vec fl 2 (List.map G2.a gs)),(1,AV.vec fw 1 (List.map (AV.int IntKind.i64) w)),(6,AV.row 0 0),(7,AV.row 1 0),(8,AV.row 2 0),(9,AV.row 3 0),(11,AV.int IntKind.i64 s),(12,AV.int IntKind.i64 (-1)),(62,AV.int IntKind.i64 n),(63,AV.int IntKind.i64 i),(66,AV.int IntKind.i64 (↑(List.map G2.a gs).length:Int)),(67,AV.int IntKind.i64 0)],[{ elems:=List.map (AV.int IntKind.i64) ps,es:=1,ver:=0,frozen:=false,clean:=true },{ elems:=List.map AV.bool dn,es:=1,ver:=0,frozen:=false,clean:=true },{ elems:=List.map (AV.int IntKind.i64) co,es:=1,ver:=0,frozen:=false,clean:=true },{ elems:=List.map (AV.int IntKind.i64) fr,es:=1,ver:=0,frozen:=false,clean:=true }],[(decide (i < n)) == true],[],[]⟩ (by kernel_rfl) (allB_cons (beq_t (i1.2 d2)) allB_nil) allP_nil allC_nil (by (try rw [w3]);all_goals exact H)
 ·have H:=H.2 d2
  exact path_ret (G:=given kp94 [] []) 1000 [false] (k:=((atC (cd Try.f94) [1,1,1,1,1,1,1,1,1,1,1])).tail) (env':=[(4,AV.int IntKind.i64 s),(5,AV.row 0 0)]) (L':=[{ elems:=List.map (AV.int IntKind.i64) ps,es:=1,ver:=0,frozen:=false,clean:=true },{ elems:=List.map AV.bool dn,es:=1,ver:=0,frozen:=false,clean:=true },{ elems:=List.map (AV.int IntKind.i64) co,es:=1,ver:=0,frozen:=false,clean:=true },{ elems:=List.map (AV.int IntKind.i64) fr,es:=1,ver:=0,frozen:=false,clean:=true }]) (asm:=[(decide (i < n)) == false]) (eqs:=[]) (calls:=[]) (AV.tup [AV.int IntKind.i64 s,AV.row 0 0]) (by kernel_rfl) (by kernel_rfl) (allB_cons (beq_f (fun h => d2 (i1.1 h))) allB_nil) allP_nil allC_nil (pq_weak (d:=(AV.tup [AV.int IntKind.i64 s,AV.vec false 1 (List.map (AV.int IntKind.i64) ps)])) (bs:=[0 == 0]) (by kernel_rfl) (by kernel_rfl) (allB_cons (beq_self_eq_true _) allB_nil) (by kernel_rfl) H)
theorem tv36c (fl fw:Bool) (gs:List G2) (w:List Int) (ps co fr:List Int) (dn:List Bool) (s nx n i m j:Int)  (dq:AV) (H :
  ((j < m) -> (0 <= j) /\
   (j.toNat < dn.length) /\
   (((¬(nx < 0)) /\ (¬(dn.getD j.toNat default = true))) -> (j.toNat < co.length)) /\
   (((¬(nx < 0)) /\ (¬(dn.getD j.toNat default = true))) -> (0 <= nx)) /\
   (((¬(nx < 0)) /\ (¬(dn.getD j.toNat default = true))) -> (nx.toNat < co.length)) /\
   (((¬(dn.getD j.toNat default = true)) /\ ((nx < 0) \/ (co.getD j.toNat default < co.getD nx.toNat default))) -> (-9223372036854775808 <= j + 1 /\ j + 1 <= 9223372036854775807) /\
    tv36c_at (fl) (fw) (gs) (w) (ps) (co) (fr) (dn) (s) (j) (n) (i) (m) (j + 1) (PureQ dq)) /\
   (¬((¬(dn.getD j.toNat default = true)) /\ ((nx < 0) \/ (co.getD j.toNat default < co.getD nx.toNat default))) -> (-9223372036854775808 <= j + 1 /\ j + 1 <= 9223372036854775807) /\
    tv36c_at (fl) (fw) (gs) (w) (ps) (co) (fr) (dn) (s) (nx) (n) (i) (m) (j + 1) (PureQ dq))) /\
  (¬(j < m) -> (0 <= nx) /\
   (nx.toNat < dn.length) /\
   (nx.toNat < co.length) /\
   (-9223372036854775808 <= s + co.getD nx.toNat default /\ s + co.getD nx.toNat default <= 9223372036854775807) /\
   (nx.toNat < ps.length) /\
   (-9223372036854775808 <= ps.getD nx.toNat default + 1 /\ ps.getD nx.toNat default + 1 <= 9223372036854775807) /\
   (nx.toNat < fr.length) /\
   (0 <= fr.getD nx.toNat default) /\
   ((fr.getD nx.toNat default).toNat < (ps.set nx.toNat (ps.getD nx.toNat default + 1)).length) /\
   (-9223372036854775808 <= (ps.set nx.toNat (ps.getD nx.toNat default + 1)).getD (fr.getD nx.toNat default).toNat default + 1 /\ (ps.set nx.toNat (ps.getD nx.toNat default + 1)).getD (fr.getD nx.toNat default).toNat default + 1 <= 9223372036854775807) /\
   tv36d_at (fl) (fw) (gs) (w) ((ps.set nx.toNat (ps.getD nx.toNat default + 1)).set (fr.getD nx.toNat default).toNat ((ps.set nx.toNat (ps.getD nx.toNat default + 1)).getD (fr.getD nx.toNat default).toNat default + 1)) (co) (fr) (dn.set nx.toNat true) (s + co.getD nx.toNat default) (nx) (n) (i) ((↑gs.length:Int)) (0) (PureQ dq))) :
 tv36c_at fl fw gs w ps co fr dn s nx n i m j (PureQ dq):=by
 unfold tv36c_at
 have i1:(decide (j < m)) = true ↔ (j < m):=i_dec
 rcases Classical.em (j < m) with d2 | d2
 ·have H:=H.1 d2
  have i3:(decide (0 <= j)) = true ↔ (0 <= j):=i_dec
  have k4:=H.1;have H:=H.2
  have w5:(List.map AV.bool dn).length = dn.length:=List.length_map ..
  have i6:(decide (j.toNat < (List.map AV.bool dn).length)) = true ↔ (j.toNat < dn.length):=(by (try rw [w5]);all_goals exact i_dec)
  have k7:=H.1;have H:=H.2
  have i8:(!(decide (nx < 0) == false && ((!dn.getD j.toNat default) == true && true)) || decide (0 <= j)) = true ↔ (((¬(nx < 0)) /\ (¬(dn.getD j.toNat default = true))) -> (0 <= j)):=(i_imp (i_and (i_bf i_dec) (i_at (i_bt (i_not (i_var _))))) i_dec)
  have w9:(List.map (AV.int IntKind.i64) co).length = co.length:=List.length_map ..
  have i10:(!(decide (nx < 0) == false && ((!dn.getD j.toNat default) == true && true)) || decide (j.toNat < (List.map (AV.int IntKind.i64) co).length)) = true ↔ (((¬(nx < 0)) /\ (¬(dn.getD j.toNat default = true))) -> (j.toNat < co.length)):=(by (try rw [w9]);all_goals exact (i_imp (i_and (i_bf i_dec) (i_at (i_bt (i_not (i_var _))))) i_dec))
  have k11:=H.1;have H:=H.2
  have i12:(!(decide (nx < 0) == false && ((!dn.getD j.toNat default) == true && true)) || decide (0 <= nx)) = true ↔ (((¬(nx < 0)) /\ (¬(dn.getD j.toNat default = true))) -> (0 <= nx)):=(i_imp (i_and (i_bf i_dec) (i_at (i_bt (i_not (i_var _))))) i_dec)
  have k13:=H.1;have H:=H.2
  have i14:(!(decide (nx < 0) == false && ((!dn.getD j.toNat default) == true && true)) || decide (nx.toNat < (List.map (AV.int IntKind.i64) co).length)) = true ↔ (((¬(nx < 0)) /\ (¬(dn.getD j.toNat default = true))) -> (nx.toNat < co.length)):=(by (try rw [w9]);all_goals exact (i_imp (i_and (i_bf i_dec) (i_at (i_bt (i_not (i_var _))))) i_dec))
  have k15:=H.1;have H:=H.2
  have i16:(decide (nx < 0) == false && ((!dn.getD j.toNat default) == true && true)) = true ↔ ((¬(nx < 0)) /\ (¬(dn.getD j.toNat default = true))):=(i_and (i_bf i_dec) (i_at (i_bt (i_not (i_var _)))))
  have i17:(decide (nx < 0) == false && ((!dn.getD j.toNat default) == true && true)) = true ↔ ((¬(nx < 0)) /\ (¬(dn.getD j.toNat default = true))):=(i_and (i_bf i_dec) (i_at (i_bt (i_not (i_var _)))))
  have i18:(bif !dn.getD j.toNat default then bif decide (nx < 0) then true else decide (co.getD j.toNat default < co.getD nx.toNat default) else false) = true ↔ ((¬(dn.getD j.toNat default = true)) /\ ((nx < 0) \/ (co.getD j.toNat default < co.getD nx.toNat default))):=(i_band (i_not (i_var _)) (i_bor i_dec i_dec))
  refine path_wp (G:=given kp94 [(20,3,.elem (AV.bool (dn.getD j.toNat default))),(20,12,.elem (AV.int IntKind.i64 (co.getD j.toNat default))),(20,16,.elem (AV.int IntKind.i64 (co.getD nx.toNat default)))] []) 11 [true] ⟨(atC (cd Try.f94) [1,1,1,1,1,1,1,1,1,0,1,0,0,1,1,0,0,1,0,1,0,0,1,1,0,0,1,1]),[(0,AV.vec fl 2 (List.map G2.a gs)),(1,AV.vec fw 1 (List.map (AV.int IntKind.i64) w)),(6,AV.row 0 0),(7,AV.row 1 0),(8,AV.row 2 0),(9,AV.row 3 0),(11,AV.int IntKind.i64 s),(12,AV.int IntKind.i64 nx),(13,AV.int IntKind.i64 j),(62,AV.int IntKind.i64 n),(63,AV.int IntKind.i64 i),(66,AV.int IntKind.i64 m),(67,AV.int IntKind.i64 j),(89,AV.bool (bif !dn.getD j.toNat default then bif decide (nx < 0) then true else decide (co.getD j.toNat default < co.getD nx.toNat default) else false))],[{ elems:=List.map (AV.int IntKind.i64) ps,es:=1,ver:=0,frozen:=false,clean:=true },{ elems:=List.map AV.bool dn,es:=1,ver:=0,frozen:=false,clean:=true },{ elems:=List.map (AV.int IntKind.i64) co,es:=1,ver:=0,frozen:=false,clean:=true },{ elems:=List.map (AV.int IntKind.i64) fr,es:=1,ver:=0,frozen:=false,clean:=true }],[(decide (j < m)) == true,true,decide (0 <= j),decide (j.toNat < (List.map AV.bool dn).length),true,!(decide (nx < 0) == false && ((!dn.getD j.toNat default) == true && true)) || true,!(decide (nx < 0) == false && ((!dn.getD j.toNat default) == true && true)) || decide (0 <= j),!(decide (nx < 0) == false && ((!dn.getD j.toNat default) == true && true)) || decide (j.toNat < (List.map (AV.int IntKind.i64) co).length),!(decide (nx < 0) == false && ((!dn.getD j.toNat default) == true && true)) || true,!(decide (nx < 0) == false && ((!dn.getD j.toNat default) == true && true)) || true,!(decide (nx < 0) == false && ((!dn.getD j.toNat default) == true && true)) || decide (0 <= nx),!(decide (nx < 0) == false && ((!dn.getD j.toNat default) == true && true)) || decide (nx.toNat < (List.map (AV.int IntKind.i64) co).length),!(decide (nx < 0) == false && ((!dn.getD j.toNat default) == true && true)) || true],[((List.map AV.bool dn).get?Internal j.toNat = some (AV.bool (dn.getD j.toNat default))),((decide (nx < 0) == false && ((!dn.getD j.toNat default) == true && true)) = true -> (List.map (AV.int IntKind.i64) co).get?Internal j.toNat = some (AV.int IntKind.i64 (co.getD j.toNat default))),((decide (nx < 0) == false && ((!dn.getD j.toNat default) == true && true)) = true -> (List.map (AV.int IntKind.i64) co).get?Internal nx.toNat = some (AV.int IntKind.i64 (co.getD nx.toNat default)))],[]⟩ (by kernel_rfl) (allB_cons (beq_t (i1.2 d2)) (allB_cons rfl (allB_cons (i3.2 k4) (allB_cons (i6.2 k7) (allB_cons rfl (allB_cons (Bool.or_true _) (allB_cons (i8.2 (fun _ => k4)) (allB_cons (i10.2 k11) (allB_cons (Bool.or_true _) (allB_cons (Bool.or_true _) (allB_cons (i12.2 k13) (allB_cons (i14.2 k15) (allB_cons (Bool.or_true _) allB_nil))))))))))))) (allP_cons (el_map k7) (allP_cons (fun h => el_map (k11 (i16.1 h))) (allP_cons (fun h => el_map (k15 (i17.1 h))) allP_nil))) allC_nil ?_
  rcases Classical.em ((¬(dn.getD j.toNat default = true)) /\ ((nx < 0) \/ (co.getD j.toNat default < co.getD nx.toNat default))) with d19 | d19
  ·have H:=H.1 d19
   have k20:=H.1;have H:=H.2
   have w21:IntKind.i64.wrap (j + 1) = j + 1:=wI64 k20
   exact path_wp (G:=given kp94 [] []) 1000 [true] ⟨(atC (cd Try.f94) [1,1,1,1,1,1,1,1,1,0,1,0,0,1,1,0,0,1,0,1,0,0]),[(0,AV.vec fl 2 (List.map G2.a gs)),(1,AV.vec fw 1 (List.map (AV.int IntKind.i64) w)),(6,AV.row 0 0),(7,AV.row 1 0),(8,AV.row 2 0),(9,AV.row 3 0),(11,AV.int IntKind.i64 s),(12,AV.int IntKind.i64 j),(62,AV.int IntKind.i64 n),(63,AV.int IntKind.i64 i),(66,AV.int IntKind.i64 m),(67,AV.int IntKind.i64 (IntKind.i64.wrap (j + 1)))],[{ elems:=List.map (AV.int IntKind.i64) ps,es:=1,ver:=0,frozen:=false,clean:=true },{ elems:=List.map AV.bool dn,es:=1,ver:=0,frozen:=false,clean:=true },{ elems:=List.map (AV.int IntKind.i64) co,es:=1,ver:=0,frozen:=false,clean:=true },{ elems:=List.map (AV.int IntKind.i64) fr,es:=1,ver:=0,frozen:=false,clean:=true }],[(bif !dn.getD j.toNat default then bif decide (nx < 0) then true else decide (co.getD j.toNat default < co.getD nx.toNat default) else false) == true],[],[]⟩ (by kernel_rfl) (allB_cons (beq_t (i18.2 d19)) allB_nil) allP_nil allC_nil (by (try rw [w21]);all_goals exact H)
  ·have H:=H.2 d19
   have k22:=H.1;have H:=H.2
   have w23:IntKind.i64.wrap (j + 1) = j + 1:=wI64 k22
   exact path_wp (G:=given kp94 [] []) 1000 [false] ⟨(atC (cd Try.f94) [1,1,1,1,1,1,1,1,1,0,1,0,0,1,1,0,0,1,0,1,0,0]),[(0,AV.vec fl 2 (List.map G2.a gs)),(1,AV.vec fw 1 (List.map (AV.int IntKind.i64) w)),(6,AV.row 0 0),(7,AV.row 1 0),(8,AV.row 2 0),(9,AV.row 3 0),(11,AV.int IntKind.i64 s),(12,AV.int IntKind.i64 nx),(62,AV.int IntKind.i64 n),(63,AV.int IntKind.i64 i),(66,AV.int IntKind.i64 m),(67,AV.int IntKind.i64 (IntKind.i64.wrap (j + 1)))],[{ elems:=List.map (AV.int IntKind.i64) ps,es:=1,ver:=0,frozen:=false,clean:=true },{ elems:=List.map AV.bool dn,es:=1,ver:=0,frozen:=false,clean:=true },{ elems:=List.map (AV.int IntKind.i64) co,es:=1,ver:=0,frozen:=false,clean:=true },{ elems:=List.map (AV.int IntKind.i64) fr,es:=1,ver:=0,frozen:=false,clean:=true }],[(bif !dn.getD j.toNat default then bif decide (nx < 0) then true else decide (co.getD j.toNat default < co.getD nx.toNat default) else false) == false],[],[]⟩ (by kernel_rfl) (allB_cons (beq_f (fun h => d19 (i18.1 h))) allB_nil) allP_nil allC_nil (by (try rw [w23]);all_goals exact H)
 ·have H:=H.2 d2
  have i24:(decide (0 <= nx)) = true ↔ (0 <= nx):=i_dec
  have k25:=H.1;have H:=H.2
  have w26:(List.map AV.bool dn).length = dn.length:=List.length_map ..
  have i27:(decide (nx.toNat < (List.map AV.bool dn).length)) = true ↔ (nx.toNat < dn.length):=(by (try rw [w26]);all_goals exact i_dec)
  have k28:=H.1;have H:=H.2
  have w29:(List.map AV.bool dn).set nx.toNat (AV.bool true) = List.map AV.bool (dn.set nx.toNat true):=(lm_set rfl rfl)
  have i30:(decide (0 <= nx)) = true ↔ (0 <= nx):=i_dec
  have w31:(List.map (AV.int IntKind.i64) co).length = co.length:=List.length_map ..
  have i32:(decide (nx.toNat < (List.map (AV.int IntKind.i64) co).length)) = true ↔ (nx.toNat < co.length):=(by (try rw [w31]);all_goals exact i_dec)
  have k33:=H.1;have H:=H.2
  have k34:=H.1;have H:=H.2
  have w35:IntKind.i64.wrap (s + co.getD nx.toNat default) = s + co.getD nx.toNat default:=wI64 k34
  have i36:(decide (0 <= nx)) = true ↔ (0 <= nx):=i_dec
  have w37:(List.map (AV.int IntKind.i64) ps).length = ps.length:=List.length_map ..
  have i38:(decide (nx.toNat < (List.map (AV.int IntKind.i64) ps).length)) = true ↔ (nx.toNat < ps.length):=(by (try rw [w37]);all_goals exact i_dec)
  have k39:=H.1;have H:=H.2
  have i40:(decide (0 <= nx)) = true ↔ (0 <= nx):=i_dec
  have i41:(decide (nx.toNat < (List.map (AV.int IntKind.i64) ps).length)) = true ↔ (nx.toNat < ps.length):=(by (try rw [w37]);all_goals exact i_dec)
  have k42:=H.1;have H:=H.2
  have w43:IntKind.i64.wrap (ps.getD nx.toNat default + 1) = ps.getD nx.toNat default + 1:=wI64 k42
  have w44:(List.map (AV.int IntKind.i64) ps).set nx.toNat (AV.int IntKind.i64 (ps.getD nx.toNat default + 1)) = List.map (AV.int IntKind.i64) (ps.set nx.toNat (ps.getD nx.toNat default + 1)):=(lm_set rfl rfl)
  have i45:(decide (0 <= nx)) = true ↔ (0 <= nx):=i_dec
  have w46:(List.map (AV.int IntKind.i64) fr).length = fr.length:=List.length_map ..
  have i47:(decide (nx.toNat < (List.map (AV.int IntKind.i64) fr).length)) = true ↔ (nx.toNat < fr.length):=(by (try rw [w46]);all_goals exact i_dec)
  have k48:=H.1;have H:=H.2
  have i49:(decide (0 <= fr.getD nx.toNat default)) = true ↔ (0 <= fr.getD nx.toNat default):=i_dec
  have k50:=H.1;have H:=H.2
  have w51:(List.map (AV.int IntKind.i64) (ps.set nx.toNat (ps.getD nx.toNat default + 1))).length = (ps.set nx.toNat (ps.getD nx.toNat default + 1)).length:=List.length_map ..
  have i52:(decide ((fr.getD nx.toNat default).toNat < ((List.map (AV.int IntKind.i64) ps).set nx.toNat (AV.int IntKind.i64 (IntKind.i64.wrap (ps.getD nx.toNat default + 1)))).length)) = true ↔ ((fr.getD nx.toNat default).toNat < (ps.set nx.toNat (ps.getD nx.toNat default + 1)).length):=(by (try rw [w43]);(try rw [w44]);(try rw [w51]);all_goals exact i_dec)
  have k53:=H.1;have H:=H.2
  have i54:(decide (0 <= fr.getD nx.toNat default)) = true ↔ (0 <= fr.getD nx.toNat default):=i_dec
  have i55:(decide ((fr.getD nx.toNat default).toNat < ((List.map (AV.int IntKind.i64) ps).set nx.toNat (AV.int IntKind.i64 (IntKind.i64.wrap (ps.getD nx.toNat default + 1)))).length)) = true ↔ ((fr.getD nx.toNat default).toNat < (ps.set nx.toNat (ps.getD nx.toNat default + 1)).length):=(by (try rw [w43]);(try rw [w44]);(try rw [w51]);all_goals exact i_dec)
  have k56:=H.1;have H:=H.2
  have w57:IntKind.i64.wrap ((ps.set nx.toNat (ps.getD nx.toNat default + 1)).getD (fr.getD nx.toNat default).toNat default + 1) = (ps.set nx.toNat (ps.getD nx.toNat default + 1)).getD (fr.getD nx.toNat default).toNat default + 1:=wI64 k56
  have w58:(List.map (AV.int IntKind.i64) (ps.set nx.toNat (ps.getD nx.toNat default + 1))).set (fr.getD nx.toNat default).toNat (AV.int IntKind.i64 ((ps.set nx.toNat (ps.getD nx.toNat default + 1)).getD (fr.getD nx.toNat default).toNat default + 1)) = List.map (AV.int IntKind.i64) ((ps.set nx.toNat (ps.getD nx.toNat default + 1)).set (fr.getD nx.toNat default).toNat ((ps.set nx.toNat (ps.getD nx.toNat default + 1)).getD (fr.getD nx.toNat default).toNat default + 1)):=(lm_set rfl rfl)
  have w59:(List.map G2.a gs).length = gs.length:=List.length_map ..
  exact path_wp (G:=given kp94 [(23,3,.elem (AV.bool (dn.getD nx.toNat default))),(24,4,.elem (AV.int IntKind.i64 (co.getD nx.toNat default))),(25,3,.elem (AV.int IntKind.i64 (ps.getD nx.toNat default))),(25,6,.elem (AV.int IntKind.i64 (ps.getD nx.toNat default))),(26,4,.elem (AV.int IntKind.i64 (fr.getD nx.toNat default))),(26,6,.elem (AV.int IntKind.i64 ((ps.set nx.toNat (ps.getD nx.toNat default + 1)).getD (fr.getD nx.toNat default).toNat default))),(26,9,.elem (AV.int IntKind.i64 ((ps.set nx.toNat (ps.getD nx.toNat default + 1)).getD (fr.getD nx.toNat default).toNat default)))] []) 1000 [false] ⟨(atC (cd Try.f94) [1,1,1,1,1,1,1,1,1,0,1,0,0,1,1,0,0,1,1,1,1,1,1,1,0,0]),[(0,AV.vec fl 2 (List.map G2.a gs)),(1,AV.vec fw 1 (List.map (AV.int IntKind.i64) w)),(6,AV.row 0 0),(7,AV.row 1 0),(8,AV.row 2 0),(9,AV.row 3 0),(11,AV.int IntKind.i64 (IntKind.i64.wrap (s + co.getD nx.toNat default))),(12,AV.int IntKind.i64 nx),(62,AV.int IntKind.i64 n),(63,AV.int IntKind.i64 i),(117,AV.int IntKind.i64 (↑(List.map G2.a gs).length:Int)),(118,AV.int IntKind.i64 0)],[{ elems:=((List.map (AV.int IntKind.i64) ps).set nx.toNat (AV.int IntKind.i64 (IntKind.i64.wrap (ps.getD nx.toNat default + 1)))).set (fr.getD nx.toNat default).toNat (AV.int IntKind.i64 (IntKind.i64.wrap ((ps.set nx.toNat (ps.getD nx.toNat default + 1)).getD (fr.getD nx.toNat default).toNat default + 1))),es:=1,ver:=0,frozen:=false,clean:=true },{ elems:=(List.map AV.bool dn).set nx.toNat (AV.bool true),es:=1,ver:=0,frozen:=false,clean:=true },{ elems:=List.map (AV.int IntKind.i64) co,es:=1,ver:=0,frozen:=false,clean:=true },{ elems:=List.map (AV.int IntKind.i64) fr,es:=1,ver:=0,frozen:=false,clean:=true }],[(decide (j < m)) == false,true,decide (0 <= nx),decide (nx.toNat < (List.map AV.bool dn).length),true,true,decide (0 <= nx),decide (nx.toNat < (List.map (AV.int IntKind.i64) co).length),true,true,decide (0 <= nx),decide (nx.toNat < (List.map (AV.int IntKind.i64) ps).length),true,true,decide (0 <= nx),decide (nx.toNat < (List.map (AV.int IntKind.i64) ps).length),true,true,decide (0 <= nx),decide (nx.toNat < (List.map (AV.int IntKind.i64) fr).length),true,true,decide (0 <= fr.getD nx.toNat default),decide ((fr.getD nx.toNat default).toNat < ((List.map (AV.int IntKind.i64) ps).set nx.toNat (AV.int IntKind.i64 (IntKind.i64.wrap (ps.getD nx.toNat default + 1)))).length),true,true,decide (0 <= fr.getD nx.toNat default),decide ((fr.getD nx.toNat default).toNat < ((List.map (AV.int IntKind.i64) ps).set nx.toNat (AV.int IntKind.i64 (IntKind.i64.wrap (ps.getD nx.toNat default + 1)))).length),true],[((List.map AV.bool dn).get?Internal nx.toNat = some (AV.bool (dn.getD nx.toNat default))),((List.map (AV.int IntKind.i64) co).get?Internal nx.toNat = some (AV.int IntKind.i64 (co.getD nx.toNat default))),((List.map (AV.int IntKind.i64) ps).get?Internal nx.toNat = some (AV.int IntKind.i64 (ps.getD nx.toNat default))),((List.map (AV.int IntKind.i64) ps).get?Internal nx.toNat = some (AV.int IntKind.i64 (ps.getD nx.toNat default))),((List.map (AV.int IntKind.i64) fr).get?Internal nx.toNat = some (AV.int IntKind.i64 (fr.getD nx.toNat default))),(((List.map (AV.int IntKind.i64) ps).set nx.toNat (AV.int IntKind.i64 (IntKind.i64.wrap (ps.getD nx.toNat default + 1)))).get?Internal (fr.getD nx.toNat default).toNat = some (AV.int IntKind.i64 ((ps.set nx.toNat (ps.getD nx.toNat default + 1)).getD (fr.getD nx.toNat default).toNat default))),(((List.map (AV.int IntKind.i64) ps).set nx.toNat (AV.int IntKind.i64 (IntKind.i64.wrap (ps.getD nx.toNat default + 1)))).get?Internal (fr.getD nx.toNat default).toNat = some (AV.int IntKind.i64 ((ps.set nx.toNat (ps.getD nx.toNat default + 1)).getD (fr.getD nx.toNat default).toNat default)))],[]⟩ (by kernel_rfl) (allB_cons (beq_f (fun h => d2 (i1.1 h))) (allB_cons rfl (allB_cons (i24.2 k25) (allB_cons (i27.2 k28) (allB_cons rfl (allB_cons rfl (allB_cons (i30.2 k25) (allB_cons (i32.2 k33) (allB_cons rfl (allB_cons rfl (allB_cons (i36.2 k25) (allB_cons (i38.2 k39) (allB_cons rfl (allB_cons rfl (allB_cons (i40.2 k25) (allB_cons (i41.2 k39) (allB_cons rfl (allB_cons rfl (allB_cons (i45.2 k25) (allB_cons (i47.2 k48) (allB_cons rfl (allB_cons rfl (allB_cons (i49.2 k50) (allB_cons (i52.2 k53) (allB_cons rfl (allB_cons rfl (allB_cons (i54.2 k50) (allB_cons (i55.2 k53) (allB_cons rfl allB_nil))))))))))))))))))))))))))))) (allP_cons (el_map k28) (allP_cons (el_map k33) (allP_cons (el_map k39) (allP_cons (el_map k39) (allP_cons (el_map k48) (allP_cons (by (try rw [w43]);(try rw [w44]);all_goals exact (el_map k53)) (allP_cons (by (try rw [w43]);(try rw [w44]);all_goals exact (el_map k53)) allP_nil))))))) allC_nil (by (try rw [w29]);(try rw [w35]);(try rw [w43]);(try rw [w44]);(try rw [w57]);(try rw [w58]);(try rw [w59]);all_goals exact H)
theorem tv36d (fl fw:Bool) (gs:List G2) (w:List Int) (ps co fr:List Int) (dn:List Bool) (s nx n i m j:Int)  (dq:AV) (H :
  ((j < m) -> (Sp.inM (gs.getD nx.toNat default).x /\ Sp.inM (gs.getD nx.toNat default).y /\ Sp.inM (gs.getD j.toNat default).x /\ Sp.inM (gs.getD j.toNat default).y) /\
   (0 <= nx) /\
   (nx.toNat < gs.length) /\
   (0 <= j) /\
   (j.toNat < gs.length) /\
   (nx.toNat < w.length) /\
   (j.toNat < w.length) /\
   (-9223372036854775808 <= Sp.dist (gs.getD nx.toNat default).x (gs.getD nx.toNat default).y (gs.getD j.toNat default).x (gs.getD j.toNat default).y + w.getD nx.toNat default /\ Sp.dist (gs.getD nx.toNat default).x (gs.getD nx.toNat default).y (gs.getD j.toNat default).x (gs.getD j.toNat default).y + w.getD nx.toNat default <= 9223372036854775807) /\
   (-9223372036854775808 <= Sp.dist (gs.getD nx.toNat default).x (gs.getD nx.toNat default).y (gs.getD j.toNat default).x (gs.getD j.toNat default).y + w.getD nx.toNat default + w.getD j.toNat default /\ Sp.dist (gs.getD nx.toNat default).x (gs.getD nx.toNat default).y (gs.getD j.toNat default).x (gs.getD j.toNat default).y + w.getD nx.toNat default + w.getD j.toNat default <= 9223372036854775807) /\
   (j.toNat < dn.length) /\
   ((¬(dn.getD j.toNat default = true)) -> (j.toNat < co.length)) /\
   (((¬(dn.getD j.toNat default = true)) /\ (Sp.dist (gs.getD nx.toNat default).x (gs.getD nx.toNat default).y (gs.getD j.toNat default).x (gs.getD j.toNat default).y + w.getD nx.toNat default + w.getD j.toNat default < co.getD j.toNat default)) -> (j.toNat < co.length) /\
    (j.toNat < fr.length) /\
    (-9223372036854775808 <= j + 1 /\ j + 1 <= 9223372036854775807) /\
    tv36d_at (fl) (fw) (gs) (w) (ps) (co.set j.toNat (Sp.dist (gs.getD nx.toNat default).x (gs.getD nx.toNat default).y (gs.getD j.toNat default).x (gs.getD j.toNat default).y + w.getD nx.toNat default + w.getD j.toNat default)) (fr.set j.toNat nx) (dn) (s) (nx) (n) (i) (m) (j + 1) (PureQ dq)) /\
   (¬((¬(dn.getD j.toNat default = true)) /\ (Sp.dist (gs.getD nx.toNat default).x (gs.getD nx.toNat default).y (gs.getD j.toNat default).x (gs.getD j.toNat default).y + w.getD nx.toNat default + w.getD j.toNat default < co.getD j.toNat default)) -> (-9223372036854775808 <= j + 1 /\ j + 1 <= 9223372036854775807) /\
    tv36d_at (fl) (fw) (gs) (w) (ps) (co) (fr) (dn) (s) (nx) (n) (i) (m) (j + 1) (PureQ dq))) /\
  (¬(j < m) -> (-9223372036854775808 <= i + 1 /\ i + 1 <= 9223372036854775807) /\
   tv36b_at (fl) (fw) (gs) (w) (ps) (co) (fr) (dn) (s) (n) (i + 1) (PureQ dq))) :
 tv36d_at fl fw gs w ps co fr dn s nx n i m j (PureQ dq):=by
 unfold tv36d_at
 have i1:(decide (j < m)) = true ↔ (j < m):=i_dec
 rcases Classical.em (j < m) with d2 | d2
 ·have H:=H.1 d2
  have k3:=H.1;have H:=H.2
  have i4:(decide (0 <= nx)) = true ↔ (0 <= nx):=i_dec
  have k5:=H.1;have H:=H.2
  have w6:(List.map G2.a gs).length = gs.length:=List.length_map ..
  have i7:(decide (nx.toNat < (List.map G2.a gs).length)) = true ↔ (nx.toNat < gs.length):=(by (try rw [w6]);all_goals exact i_dec)
  have k8:=H.1;have H:=H.2
  have i9:(decide (0 <= j)) = true ↔ (0 <= j):=i_dec
  have k10:=H.1;have H:=H.2
  have i11:(decide (j.toNat < (List.map G2.a gs).length)) = true ↔ (j.toNat < gs.length):=(by (try rw [w6]);all_goals exact i_dec)
  have k12:=H.1;have H:=H.2
  have i13:(decide (0 <= nx)) = true ↔ (0 <= nx):=i_dec
  have w14:(List.map (AV.int IntKind.i64) w).length = w.length:=List.length_map ..
  have i15:(decide (nx.toNat < (List.map (AV.int IntKind.i64) w).length)) = true ↔ (nx.toNat < w.length):=(by (try rw [w14]);all_goals exact i_dec)
  have k16:=H.1;have H:=H.2
  have i17:(decide (0 <= j)) = true ↔ (0 <= j):=i_dec
  have i18:(decide (j.toNat < (List.map (AV.int IntKind.i64) w).length)) = true ↔ (j.toNat < w.length):=(by (try rw [w14]);all_goals exact i_dec)
  have k19:=H.1;have H:=H.2
  have k20:=H.1;have H:=H.2
  have w21:IntKind.i64.wrap (Sp.dist (gs.getD nx.toNat default).x (gs.getD nx.toNat default).y (gs.getD j.toNat default).x (gs.getD j.toNat default).y + w.getD nx.toNat default) = Sp.dist (gs.getD nx.toNat default).x (gs.getD nx.toNat default).y (gs.getD j.toNat default).x (gs.getD j.toNat default).y + w.getD nx.toNat default:=wI64 k20
  have k22:=H.1;have H:=H.2
  have w23:IntKind.i64.wrap (Sp.dist (gs.getD nx.toNat default).x (gs.getD nx.toNat default).y (gs.getD j.toNat default).x (gs.getD j.toNat default).y + w.getD nx.toNat default + w.getD j.toNat default) = Sp.dist (gs.getD nx.toNat default).x (gs.getD nx.toNat default).y (gs.getD j.toNat default).x (gs.getD j.toNat default).y + w.getD nx.toNat default + w.getD j.toNat default:=wI64 k22
  have i24:(decide (0 <= j)) = true ↔ (0 <= j):=i_dec
  have w25:(List.map AV.bool dn).length = dn.length:=List.length_map ..
  have i26:(decide (j.toNat < (List.map AV.bool dn).length)) = true ↔ (j.toNat < dn.length):=(by (try rw [w25]);all_goals exact i_dec)
  have k27:=H.1;have H:=H.2
  have i28:(!((!dn.getD j.toNat default) == true && true) || decide (0 <= j)) = true ↔ ((¬(dn.getD j.toNat default = true)) -> (0 <= j)):=(i_imp (i_at (i_bt (i_not (i_var _)))) i_dec)
  have w29:(List.map (AV.int IntKind.i64) co).length = co.length:=List.length_map ..
  have i30:(!((!dn.getD j.toNat default) == true && true) || decide (j.toNat < (List.map (AV.int IntKind.i64) co).length)) = true ↔ ((¬(dn.getD j.toNat default = true)) -> (j.toNat < co.length)):=(by (try rw [w29]);all_goals exact (i_imp (i_at (i_bt (i_not (i_var _)))) i_dec))
  have k31:=H.1;have H:=H.2
  have i32:((!dn.getD j.toNat default) == true && true) = true ↔ (¬(dn.getD j.toNat default = true)):=(i_at (i_bt (i_not (i_var _))))
  have i33:(bif !dn.getD j.toNat default then decide (IntKind.i64.wrap (IntKind.i64.wrap (Sp.dist (gs.getD nx.toNat default).x (gs.getD nx.toNat default).y (gs.getD j.toNat default).x (gs.getD j.toNat default).y + w.getD nx.toNat default) + w.getD j.toNat default) < co.getD j.toNat default) else false) = true ↔ ((¬(dn.getD j.toNat default = true)) /\ (Sp.dist (gs.getD nx.toNat default).x (gs.getD nx.toNat default).y (gs.getD j.toNat default).x (gs.getD j.toNat default).y + w.getD nx.toNat default + w.getD j.toNat default < co.getD j.toNat default)):=(by (try rw [w21]);(try rw [w23]);all_goals exact (i_band (i_not (i_var _)) i_dec))
  refine path_wp (G:=given kp94 [(30,3,.elem (AV.agg [AV.int IntKind.i64 (gs.getD nx.toNat default).x,AV.int IntKind.i64 (gs.getD nx.toNat default).y])),(30,7,.elem (AV.agg [AV.int IntKind.i64 (gs.getD j.toNat default).x,AV.int IntKind.i64 (gs.getD j.toNat default).y])),(30,8,.call (AV.int IntKind.i64 (Sp.dist (gs.getD nx.toNat default).x (gs.getD nx.toNat default).y (gs.getD j.toNat default).x (gs.getD j.toNat default).y)) none),(30,12,.elem (AV.int IntKind.i64 (w.getD nx.toNat default))),(30,17,.elem (AV.int IntKind.i64 (w.getD j.toNat default))),(31,3,.elem (AV.bool (dn.getD j.toNat default))),(31,10,.elem (AV.int IntKind.i64 (co.getD j.toNat default)))] []) 13 [true] ⟨(atC (cd Try.f94) [1,1,1,1,1,1,1,1,1,0,1,0,0,1,1,0,0,1,1,1,1,1,1,1,0,0,1,1,0,0,1,1,1]),[(0,AV.vec fl 2 (List.map G2.a gs)),(1,AV.vec fw 1 (List.map (AV.int IntKind.i64) w)),(6,AV.row 0 0),(7,AV.row 1 0),(8,AV.row 2 0),(9,AV.row 3 0),(11,AV.int IntKind.i64 s),(12,AV.int IntKind.i64 nx),(14,AV.int IntKind.i64 j),(15,AV.int IntKind.i64 (IntKind.i64.wrap (IntKind.i64.wrap (Sp.dist (gs.getD nx.toNat default).x (gs.getD nx.toNat default).y (gs.getD j.toNat default).x (gs.getD j.toNat default).y + w.getD nx.toNat default) + w.getD j.toNat default))),(62,AV.int IntKind.i64 n),(63,AV.int IntKind.i64 i),(117,AV.int IntKind.i64 m),(118,AV.int IntKind.i64 j),(152,AV.bool (bif !dn.getD j.toNat default then decide (IntKind.i64.wrap (IntKind.i64.wrap (Sp.dist (gs.getD nx.toNat default).x (gs.getD nx.toNat default).y (gs.getD j.toNat default).x (gs.getD j.toNat default).y + w.getD nx.toNat default) + w.getD j.toNat default) < co.getD j.toNat default) else false))],[{ elems:=List.map (AV.int IntKind.i64) ps,es:=1,ver:=0,frozen:=false,clean:=true },{ elems:=List.map AV.bool dn,es:=1,ver:=0,frozen:=false,clean:=true },{ elems:=List.map (AV.int IntKind.i64) co,es:=1,ver:=0,frozen:=false,clean:=true },{ elems:=List.map (AV.int IntKind.i64) fr,es:=1,ver:=0,frozen:=false,clean:=true }],[(decide (j < m)) == true,decide (0 <= nx),decide (nx.toNat < (List.map G2.a gs).length),decide (0 <= j),decide (j.toNat < (List.map G2.a gs).length),decide (0 <= nx),decide (nx.toNat < (List.map (AV.int IntKind.i64) w).length),decide (0 <= j),decide (j.toNat < (List.map (AV.int IntKind.i64) w).length),true,decide (0 <= j),decide (j.toNat < (List.map AV.bool dn).length),true,!((!dn.getD j.toNat default) == true && true) || true,!((!dn.getD j.toNat default) == true && true) || decide (0 <= j),!((!dn.getD j.toNat default) == true && true) || decide (j.toNat < (List.map (AV.int IntKind.i64) co).length),!((!dn.getD j.toNat default) == true && true) || true],[((List.map G2.a gs).get?Internal nx.toNat = some (AV.agg [AV.int IntKind.i64 (gs.getD nx.toNat default).x,AV.int IntKind.i64 (gs.getD nx.toNat default).y])),((List.map G2.a gs).get?Internal j.toNat = some (AV.agg [AV.int IntKind.i64 (gs.getD j.toNat default).x,AV.int IntKind.i64 (gs.getD j.toNat default).y])),((List.map (AV.int IntKind.i64) w).get?Internal nx.toNat = some (AV.int IntKind.i64 (w.getD nx.toNat default))),((List.map (AV.int IntKind.i64) w).get?Internal j.toNat = some (AV.int IntKind.i64 (w.getD j.toNat default))),((List.map AV.bool dn).get?Internal j.toNat = some (AV.bool (dn.getD j.toNat default))),(((!dn.getD j.toNat default) == true && true) = true -> (List.map (AV.int IntKind.i64) co).get?Internal j.toNat = some (AV.int IntKind.i64 (co.getD j.toNat default)))],[⟨true,false,61,[AV.agg [AV.int IntKind.i64 (gs.getD nx.toNat default).x,AV.int IntKind.i64 (gs.getD nx.toNat default).y],AV.agg [AV.int IntKind.i64 (gs.getD j.toNat default).x,AV.int IntKind.i64 (gs.getD j.toNat default).y]],[],AV.int IntKind.i64 (Sp.dist (gs.getD nx.toNat default).x (gs.getD nx.toNat default).y (gs.getD j.toNat default).x (gs.getD j.toNat default).y),[]⟩]⟩ (by kernel_rfl) (allB_cons (beq_t (i1.2 d2)) (allB_cons (i4.2 k5) (allB_cons (i7.2 k8) (allB_cons (i9.2 k10) (allB_cons (i11.2 k12) (allB_cons (i13.2 k5) (allB_cons (i15.2 k16) (allB_cons (i17.2 k10) (allB_cons (i18.2 k19) (allB_cons rfl (allB_cons (i24.2 k10) (allB_cons (i26.2 k27) (allB_cons rfl (allB_cons (Bool.or_true _) (allB_cons (i28.2 (fun _ => k10)) (allB_cons (i30.2 k31) (allB_cons (Bool.or_true _) allB_nil))))))))))))))))) (allP_cons (el_map k8) (allP_cons (el_map k12) (allP_cons (el_map k16) (allP_cons (el_map k19) (allP_cons (el_map k27) (allP_cons (fun h => el_map (k31 (i32.1 h))) allP_nil)))))) (allC_cons (fun _ => ((@ev61 ((gs.getD nx.toNat default).x) ((gs.getD nx.toNat default).y) ((gs.getD j.toNat default).x) ((gs.getD j.toNat default).y) k3):Ev M1 (Conf.pure 61 [AV.agg [AV.int IntKind.i64 (gs.getD nx.toNat default).x,AV.int IntKind.i64 (gs.getD nx.toNat default).y],AV.agg [AV.int IntKind.i64 (gs.getD j.toNat default).x,AV.int IntKind.i64 (gs.getD j.toNat default).y]]) (AV.int IntKind.i64 (Sp.dist (gs.getD nx.toNat default).x (gs.getD nx.toNat default).y (gs.getD j.toNat default).x (gs.getD j.toNat default).y)) [])) allC_nil) ?_
  rcases Classical.em ((¬(dn.getD j.toNat default = true)) /\ (Sp.dist (gs.getD nx.toNat default).x (gs.getD nx.toNat default).y (gs.getD j.toNat default).x (gs.getD j.toNat default).y + w.getD nx.toNat default + w.getD j.toNat default < co.getD j.toNat default)) with d34 | d34
  ·have H:=H.1 d34
   have i35:(decide (0 <= j)) = true ↔ (0 <= j):=i_dec
   have i36:(decide (j.toNat < (List.map (AV.int IntKind.i64) co).length)) = true ↔ (j.toNat < co.length):=(by (try rw [w29]);all_goals exact i_dec)
   have k37:=H.1;have H:=H.2
   have i38:(decide (0 <= j)) = true ↔ (0 <= j):=i_dec
   have w39:(List.map (AV.int IntKind.i64) fr).length = fr.length:=List.length_map ..
   have i40:(decide (j.toNat < (List.map (AV.int IntKind.i64) fr).length)) = true ↔ (j.toNat < fr.length):=(by (try rw [w39]);all_goals exact i_dec)
   have k41:=H.1;have H:=H.2
   have w42:(List.map (AV.int IntKind.i64) co).set j.toNat (AV.int IntKind.i64 (Sp.dist (gs.getD nx.toNat default).x (gs.getD nx.toNat default).y (gs.getD j.toNat default).x (gs.getD j.toNat default).y + w.getD nx.toNat default + w.getD j.toNat default)) = List.map (AV.int IntKind.i64) (co.set j.toNat (Sp.dist (gs.getD nx.toNat default).x (gs.getD nx.toNat default).y (gs.getD j.toNat default).x (gs.getD j.toNat default).y + w.getD nx.toNat default + w.getD j.toNat default)):=(lm_set rfl rfl)
   have w43:(List.map (AV.int IntKind.i64) fr).set j.toNat (AV.int IntKind.i64 nx) = List.map (AV.int IntKind.i64) (fr.set j.toNat nx):=(lm_set rfl rfl)
   have k44:=H.1;have H:=H.2
   have w45:IntKind.i64.wrap (j + 1) = j + 1:=wI64 k44
   exact path_wp (G:=given kp94 [(32,7,.elem (AV.int IntKind.i64 (co.getD j.toNat default))),(32,9,.elem (AV.int IntKind.i64 (fr.getD j.toNat default)))] []) 1000 [true] ⟨(atC (cd Try.f94) [1,1,1,1,1,1,1,1,1,0,1,0,0,1,1,0,0,1,1,1,1,1,1,1,0,0]),[(0,AV.vec fl 2 (List.map G2.a gs)),(1,AV.vec fw 1 (List.map (AV.int IntKind.i64) w)),(6,AV.row 0 0),(7,AV.row 1 0),(8,AV.row 2 0),(9,AV.row 3 0),(11,AV.int IntKind.i64 s),(12,AV.int IntKind.i64 nx),(62,AV.int IntKind.i64 n),(63,AV.int IntKind.i64 i),(117,AV.int IntKind.i64 m),(118,AV.int IntKind.i64 (IntKind.i64.wrap (j + 1)))],[{ elems:=List.map (AV.int IntKind.i64) ps,es:=1,ver:=0,frozen:=false,clean:=true },{ elems:=List.map AV.bool dn,es:=1,ver:=0,frozen:=false,clean:=true },{ elems:=(List.map (AV.int IntKind.i64) co).set j.toNat (AV.int IntKind.i64 (IntKind.i64.wrap (IntKind.i64.wrap (Sp.dist (gs.getD nx.toNat default).x (gs.getD nx.toNat default).y (gs.getD j.toNat default).x (gs.getD j.toNat default).y + w.getD nx.toNat default) + w.getD j.toNat default))),es:=1,ver:=0,frozen:=false,clean:=true },{ elems:=(List.map (AV.int IntKind.i64) fr).set j.toNat (AV.int IntKind.i64 nx),es:=1,ver:=0,frozen:=false,clean:=true }],[(bif !dn.getD j.toNat default then decide (IntKind.i64.wrap (IntKind.i64.wrap (Sp.dist (gs.getD nx.toNat default).x (gs.getD nx.toNat default).y (gs.getD j.toNat default).x (gs.getD j.toNat default).y + w.getD nx.toNat default) + w.getD j.toNat default) < co.getD j.toNat default) else false) == true,true,decide (0 <= j),decide (j.toNat < (List.map (AV.int IntKind.i64) co).length),true,true,decide (0 <= j),decide (j.toNat < (List.map (AV.int IntKind.i64) fr).length),true],[((List.map (AV.int IntKind.i64) co).get?Internal j.toNat = some (AV.int IntKind.i64 (co.getD j.toNat default))),((List.map (AV.int IntKind.i64) fr).get?Internal j.toNat = some (AV.int IntKind.i64 (fr.getD j.toNat default)))],[]⟩ (by kernel_rfl) (allB_cons (beq_t (i33.2 d34)) (allB_cons rfl (allB_cons (i35.2 k10) (allB_cons (i36.2 k37) (allB_cons rfl (allB_cons rfl (allB_cons (i38.2 k10) (allB_cons (i40.2 k41) (allB_cons rfl allB_nil))))))))) (allP_cons (el_map k37) (allP_cons (el_map k41) allP_nil)) allC_nil (by (try rw [w21]);(try rw [w23]);(try rw [w42]);(try rw [w43]);(try rw [w45]);all_goals exact H)
  ·have H:=H.2 d34
   have k46:=H.1;have H:=H.2
   have w47:IntKind.i64.wrap (j + 1) = j + 1:=wI64 k46
   exact path_wp (G:=given kp94 [] []) 1000 [false] ⟨(atC (cd Try.f94) [1,1,1,1,1,1,1,1,1,0,1,0,0,1,1,0,0,1,1,1,1,1,1,1,0,0]),[(0,AV.vec fl 2 (List.map G2.a gs)),(1,AV.vec fw 1 (List.map (AV.int IntKind.i64) w)),(6,AV.row 0 0),(7,AV.row 1 0),(8,AV.row 2 0),(9,AV.row 3 0),(11,AV.int IntKind.i64 s),(12,AV.int IntKind.i64 nx),(62,AV.int IntKind.i64 n),(63,AV.int IntKind.i64 i),(117,AV.int IntKind.i64 m),(118,AV.int IntKind.i64 (IntKind.i64.wrap (j + 1)))],[{ elems:=List.map (AV.int IntKind.i64) ps,es:=1,ver:=0,frozen:=false,clean:=true },{ elems:=List.map AV.bool dn,es:=1,ver:=0,frozen:=false,clean:=true },{ elems:=List.map (AV.int IntKind.i64) co,es:=1,ver:=0,frozen:=false,clean:=true },{ elems:=List.map (AV.int IntKind.i64) fr,es:=1,ver:=0,frozen:=false,clean:=true }],[(bif !dn.getD j.toNat default then decide (IntKind.i64.wrap (IntKind.i64.wrap (Sp.dist (gs.getD nx.toNat default).x (gs.getD nx.toNat default).y (gs.getD j.toNat default).x (gs.getD j.toNat default).y + w.getD nx.toNat default) + w.getD j.toNat default) < co.getD j.toNat default) else false) == false],[],[]⟩ (by kernel_rfl) (allB_cons (beq_f (fun h => d34 (i33.1 h))) allB_nil) allP_nil allC_nil (by (try rw [w47]);all_goals exact H)
 ·have H:=H.2 d2
  have k48:=H.1;have H:=H.2
  have w49:IntKind.i64.wrap (i + 1) = i + 1:=wI64 k48
  exact path_wp (G:=given kp94 [] []) 1000 [false] ⟨(atC (cd Try.f94) [1,1,1,1,1,1,1,1,1,0,1,0,0]),[(0,AV.vec fl 2 (List.map G2.a gs)),(1,AV.vec fw 1 (List.map (AV.int IntKind.i64) w)),(6,AV.row 0 0),(7,AV.row 1 0),(8,AV.row 2 0),(9,AV.row 3 0),(11,AV.int IntKind.i64 s),(62,AV.int IntKind.i64 n),(63,AV.int IntKind.i64 (IntKind.i64.wrap (i + 1)))],[{ elems:=List.map (AV.int IntKind.i64) ps,es:=1,ver:=0,frozen:=false,clean:=true },{ elems:=List.map AV.bool dn,es:=1,ver:=0,frozen:=false,clean:=true },{ elems:=List.map (AV.int IntKind.i64) co,es:=1,ver:=0,frozen:=false,clean:=true },{ elems:=List.map (AV.int IntKind.i64) fr,es:=1,ver:=0,frozen:=false,clean:=true }],[(decide (j < m)) == false],[],[]⟩ (by kernel_rfl) (allB_cons (beq_f (fun h => d2 (i1.1 h))) allB_nil) allP_nil allC_nil (by (try rw [w49]);all_goals exact H)
theorem tw36 (fl fw:Bool) (gs:List G2) (w:List Int)  (Q:AV -> Heap -> Prop) (H :
  (0 <= (↑gs.length:Int)) /\
  ((↑gs.length:Int) * 8 <= 1099511627776) /\
  ((↑gs.length:Int) <= 1099511627776) /\
  (((↑gs.length:Int) = 0) -> Q (AV.tup [AV.int IntKind.i64 0,AV.row 0 0]) [{ elems:=List.map (AV.int IntKind.i64) (List.replicate (↑gs.length:Int).toNat (0:Int)),es:=1,ver:=0,frozen:=false,clean:=true }]) /\
  (¬((↑gs.length:Int) = 0) -> ((↑gs.length:Int) * 1 <= 1099511627776) /\
   (0 < (List.replicate (↑gs.length:Int).toNat false).length) /\
   tv36a_at (fl) (fw) (gs) (w) (List.replicate (↑gs.length:Int).toNat (0:Int)) (List.replicate (↑gs.length:Int).toNat (0:Int)) (List.replicate (↑gs.length:Int).toNat (0:Int)) ((List.replicate (↑gs.length:Int).toNat false).set 0 true) ((↑gs.length:Int)) (0) Q)) :
 tw36_at fl fw gs w Q:=by
 unfold tw36_at
 have w1:(List.map G2.a gs).length = gs.length:=List.length_map ..
 have i2:(decide (0 <= (↑(List.map G2.a gs).length:Int))) = true ↔ (0 <= (↑gs.length:Int)):=(by (try rw [w1]);all_goals exact i_dec)
 have k3:=H.1;have H:=H.2
 have i4:(decide ((↑(List.map G2.a gs).length:Int) <= (↑(List.map G2.a gs).length:Int))) = true ↔ ((↑gs.length:Int) <= (↑gs.length:Int)):=(by (try rw [w1]);all_goals exact i_dec)
 have i5:(decide ((↑(List.map G2.a gs).length:Int) * 8 <= 1099511627776)) = true ↔ ((↑gs.length:Int) * 8 <= 1099511627776):=(by (try rw [w1]);all_goals exact i_dec)
 have k6:=H.1;have H:=H.2
 have i7:(decide ((↑(List.map G2.a gs).length:Int) <= 1099511627776)) = true ↔ ((↑gs.length:Int) <= 1099511627776):=(by (try rw [w1]);all_goals exact i_dec)
 have k8:=H.1;have H:=H.2
 have w9:List.replicate (↑gs.length:Int).toNat (AV.int IntKind.i64 0) = List.map (AV.int IntKind.i64) (List.replicate (↑gs.length:Int).toNat (0:Int)):=(lm_rep rfl)
 have i10:((↑(List.map G2.a gs).length:Int) == 0) = true ↔ ((↑gs.length:Int) = 0):=(by (try rw [w1]);all_goals exact i_eq)
 rcases Classical.em ((↑gs.length:Int) = 0) with d11 | d11
 ·have H:=H.1 d11
  exact path_ret (G:=given kp94 [] []) 1000 [true] (k:=((atC (cd Try.f94) [1,1,0,1,0,1])).tail) (env':=[(4,AV.int IntKind.i64 0),(5,AV.row 0 0)]) (L':=[{ elems:=List.replicate (↑(List.map G2.a gs).length:Int).toNat (AV.int IntKind.i64 0),es:=1,ver:=0,frozen:=false,clean:=true }]) (asm:=[decide (0 <= (↑(List.map G2.a gs).length:Int)),decide ((↑(List.map G2.a gs).length:Int) <= (↑(List.map G2.a gs).length:Int)),decide ((↑(List.map G2.a gs).length:Int) * 8 <= 1099511627776),decide ((↑(List.map G2.a gs).length:Int) <= 1099511627776),((↑(List.map G2.a gs).length:Int) == 0) == true]) (eqs:=[]) (calls:=[]) (AV.tup [AV.int IntKind.i64 0,AV.row 0 0]) (by kernel_rfl) (by kernel_rfl) (allB_cons (i2.2 k3) (allB_cons (i4.2 (by omega)) (allB_cons (i5.2 k6) (allB_cons (i7.2 k8) (allB_cons (beq_t (i10.2 d11)) allB_nil))))) allP_nil allC_nil (by (try rw [w1]);(try rw [w9]);all_goals exact H)
 ·have H:=H.2 d11
  have i12:(decide (0 <= (↑(List.map G2.a gs).length:Int))) = true ↔ (0 <= (↑gs.length:Int)):=(by (try rw [w1]);all_goals exact i_dec)
  have i13:(decide ((↑(List.map G2.a gs).length:Int) <= (↑(List.map G2.a gs).length:Int))) = true ↔ ((↑gs.length:Int) <= (↑gs.length:Int)):=(by (try rw [w1]);all_goals exact i_dec)
  have i14:(decide ((↑(List.map G2.a gs).length:Int) * 1 <= 1099511627776)) = true ↔ ((↑gs.length:Int) * 1 <= 1099511627776):=(by (try rw [w1]);all_goals exact i_dec)
  have k15:=H.1;have H:=H.2
  have i16:(decide ((↑(List.map G2.a gs).length:Int) <= 1099511627776)) = true ↔ ((↑gs.length:Int) <= 1099511627776):=(by (try rw [w1]);all_goals exact i_dec)
  have w17:List.replicate (↑gs.length:Int).toNat (AV.bool false) = List.map AV.bool (List.replicate (↑gs.length:Int).toNat false):=(lm_rep rfl)
  have i18:(decide (0 <= (↑(List.map G2.a gs).length:Int))) = true ↔ (0 <= (↑gs.length:Int)):=(by (try rw [w1]);all_goals exact i_dec)
  have i19:(decide ((↑(List.map G2.a gs).length:Int) <= (↑(List.map G2.a gs).length:Int))) = true ↔ ((↑gs.length:Int) <= (↑gs.length:Int)):=(by (try rw [w1]);all_goals exact i_dec)
  have i20:(decide ((↑(List.map G2.a gs).length:Int) * 8 <= 1099511627776)) = true ↔ ((↑gs.length:Int) * 8 <= 1099511627776):=(by (try rw [w1]);all_goals exact i_dec)
  have i21:(decide ((↑(List.map G2.a gs).length:Int) <= 1099511627776)) = true ↔ ((↑gs.length:Int) <= 1099511627776):=(by (try rw [w1]);all_goals exact i_dec)
  have i22:(decide (0 <= (↑(List.map G2.a gs).length:Int))) = true ↔ (0 <= (↑gs.length:Int)):=(by (try rw [w1]);all_goals exact i_dec)
  have i23:(decide ((↑(List.map G2.a gs).length:Int) <= (↑(List.map G2.a gs).length:Int))) = true ↔ ((↑gs.length:Int) <= (↑gs.length:Int)):=(by (try rw [w1]);all_goals exact i_dec)
  have i24:(decide ((↑(List.map G2.a gs).length:Int) * 8 <= 1099511627776)) = true ↔ ((↑gs.length:Int) * 8 <= 1099511627776):=(by (try rw [w1]);all_goals exact i_dec)
  have i25:(decide ((↑(List.map G2.a gs).length:Int) <= 1099511627776)) = true ↔ ((↑gs.length:Int) <= 1099511627776):=(by (try rw [w1]);all_goals exact i_dec)
  have w26:(List.map AV.bool (List.replicate (↑gs.length:Int).toNat false)).length = (List.replicate (↑gs.length:Int).toNat false).length:=List.length_map ..
  have i27:(decide (0 < (List.replicate (↑(List.map G2.a gs).length:Int).toNat (AV.bool false)).length)) = true ↔ (0 < (List.replicate (↑gs.length:Int).toNat false).length):=(by (try rw [w1]);(try rw [w17]);(try rw [w26]);all_goals exact i_dec)
  have k28:=H.1;have H:=H.2
  have w29:(List.map AV.bool (List.replicate (↑gs.length:Int).toNat false)).set 0 (AV.bool true) = List.map AV.bool ((List.replicate (↑gs.length:Int).toNat false).set 0 true):=(lm_set rfl rfl)
  exact path_wp (G:=given kp94 [(7,2,.elem (AV.bool ((List.replicate (↑gs.length:Int).toNat false).getD 0 default)))] []) 1000 [false] ⟨(atC (cd Try.f94) [1,1,1,1,1,1,1,0,1,0,0]),[(0,AV.vec fl 2 (List.map G2.a gs)),(1,AV.vec fw 1 (List.map (AV.int IntKind.i64) w)),(6,AV.row 0 0),(7,AV.row 1 0),(8,AV.row 2 0),(9,AV.row 3 0),(35,AV.int IntKind.i64 (↑(List.map G2.a gs).length:Int)),(36,AV.int IntKind.i64 0)],[{ elems:=List.replicate (↑(List.map G2.a gs).length:Int).toNat (AV.int IntKind.i64 0),es:=1,ver:=0,frozen:=false,clean:=true },{ elems:=(List.replicate (↑(List.map G2.a gs).length:Int).toNat (AV.bool false)).set 0 (AV.bool true),es:=1,ver:=0,frozen:=false,clean:=true },{ elems:=List.replicate (↑(List.map G2.a gs).length:Int).toNat (AV.int IntKind.i64 0),es:=1,ver:=0,frozen:=false,clean:=true },{ elems:=List.replicate (↑(List.map G2.a gs).length:Int).toNat (AV.int IntKind.i64 0),es:=1,ver:=0,frozen:=false,clean:=true }],[decide (0 <= (↑(List.map G2.a gs).length:Int)),decide ((↑(List.map G2.a gs).length:Int) <= (↑(List.map G2.a gs).length:Int)),decide ((↑(List.map G2.a gs).length:Int) * 8 <= 1099511627776),decide ((↑(List.map G2.a gs).length:Int) <= 1099511627776),((↑(List.map G2.a gs).length:Int) == 0) == false,decide (0 <= (↑(List.map G2.a gs).length:Int)),decide ((↑(List.map G2.a gs).length:Int) <= (↑(List.map G2.a gs).length:Int)),decide ((↑(List.map G2.a gs).length:Int) * 1 <= 1099511627776),decide ((↑(List.map G2.a gs).length:Int) <= 1099511627776),decide (0 <= (↑(List.map G2.a gs).length:Int)),decide ((↑(List.map G2.a gs).length:Int) <= (↑(List.map G2.a gs).length:Int)),decide ((↑(List.map G2.a gs).length:Int) * 8 <= 1099511627776),decide ((↑(List.map G2.a gs).length:Int) <= 1099511627776),decide (0 <= (↑(List.map G2.a gs).length:Int)),decide ((↑(List.map G2.a gs).length:Int) <= (↑(List.map G2.a gs).length:Int)),decide ((↑(List.map G2.a gs).length:Int) * 8 <= 1099511627776),decide ((↑(List.map G2.a gs).length:Int) <= 1099511627776),true,true,decide (0 < (List.replicate (↑(List.map G2.a gs).length:Int).toNat (AV.bool false)).length),true],[((List.replicate (↑(List.map G2.a gs).length:Int).toNat (AV.bool false)).get?Internal 0 = some (AV.bool ((List.replicate (↑gs.length:Int).toNat false).getD 0 default)))],[]⟩ (by kernel_rfl) (allB_cons (i2.2 k3) (allB_cons (i4.2 (by omega)) (allB_cons (i5.2 k6) (allB_cons (i7.2 k8) (allB_cons (beq_f (fun h => d11 (i10.1 h))) (allB_cons (i12.2 k3) (allB_cons (i13.2 (by omega)) (allB_cons (i14.2 k15) (allB_cons (i16.2 k8) (allB_cons (i18.2 k3) (allB_cons (i19.2 (by omega)) (allB_cons (i20.2 k6) (allB_cons (i21.2 k8) (allB_cons (i22.2 k3) (allB_cons (i23.2 (by omega)) (allB_cons (i24.2 k6) (allB_cons (i25.2 k8) (allB_cons rfl (allB_cons rfl (allB_cons (i27.2 k28) (allB_cons rfl allB_nil))))))))))))))))))))) (allP_cons (by (try rw [w1]);(try rw [w17]);all_goals exact (el_map k28)) allP_nil) allC_nil (by (try rw [w1]);(try rw [w9]);(try rw [w17]);(try rw [w29]);all_goals exact H)
theorem tw36a (fl fw:Bool) (gs:List G2) (w:List Int) (ps co fr:List Int) (dn:List Bool) (n i:Int)  (Q:AV -> Heap -> Prop) (H :
  ((i < n) -> (Sp.inM (gs.getD 0 default).x /\ Sp.inM (gs.getD 0 default).y /\ Sp.inM (gs.getD i.toNat default).x /\ Sp.inM (gs.getD i.toNat default).y) /\
   (0 < gs.length) /\
   (0 <= i) /\
   (i.toNat < gs.length) /\
   (0 < w.length) /\
   (i.toNat < w.length) /\
   (i.toNat < co.length) /\
   (-9223372036854775808 <= Sp.dist (gs.getD 0 default).x (gs.getD 0 default).y (gs.getD i.toNat default).x (gs.getD i.toNat default).y + w.getD 0 default /\ Sp.dist (gs.getD 0 default).x (gs.getD 0 default).y (gs.getD i.toNat default).x (gs.getD i.toNat default).y + w.getD 0 default <= 9223372036854775807) /\
   (-9223372036854775808 <= Sp.dist (gs.getD 0 default).x (gs.getD 0 default).y (gs.getD i.toNat default).x (gs.getD i.toNat default).y + w.getD 0 default + w.getD i.toNat default /\ Sp.dist (gs.getD 0 default).x (gs.getD 0 default).y (gs.getD i.toNat default).x (gs.getD i.toNat default).y + w.getD 0 default + w.getD i.toNat default <= 9223372036854775807) /\
   (-9223372036854775808 <= i + 1 /\ i + 1 <= 9223372036854775807) /\
   tv36a_at (fl) (fw) (gs) (w) (ps) (co.set i.toNat (Sp.dist (gs.getD 0 default).x (gs.getD 0 default).y (gs.getD i.toNat default).x (gs.getD i.toNat default).y + w.getD 0 default + w.getD i.toNat default)) (fr) (dn) (n) (i + 1) Q) /\
  (¬(i < n) -> (-9223372036854775808 <= (↑gs.length:Int) - 1 /\ (↑gs.length:Int) - 1 <= 9223372036854775807) /\
   tv36b_at (fl) (fw) (gs) (w) (ps) (co) (fr) (dn) (0) ((↑gs.length:Int) - 1) (0) Q)) :
 tw36a_at fl fw gs w ps co fr dn n i Q:=by
 unfold tw36a_at
 have i1:(decide (i < n)) = true ↔ (i < n):=i_dec
 rcases Classical.em (i < n) with d2 | d2
 ·have H:=H.1 d2
  have k3:=H.1;have H:=H.2
  have w4:(List.map G2.a gs).length = gs.length:=List.length_map ..
  have i5:(decide (0 < (List.map G2.a gs).length)) = true ↔ (0 < gs.length):=(by (try rw [w4]);all_goals exact i_dec)
  have k6:=H.1;have H:=H.2
  have i7:(decide (0 <= i)) = true ↔ (0 <= i):=i_dec
  have k8:=H.1;have H:=H.2
  have i9:(decide (i.toNat < (List.map G2.a gs).length)) = true ↔ (i.toNat < gs.length):=(by (try rw [w4]);all_goals exact i_dec)
  have k10:=H.1;have H:=H.2
  have w11:(List.map (AV.int IntKind.i64) w).length = w.length:=List.length_map ..
  have i12:(decide (0 < (List.map (AV.int IntKind.i64) w).length)) = true ↔ (0 < w.length):=(by (try rw [w11]);all_goals exact i_dec)
  have k13:=H.1;have H:=H.2
  have i14:(decide (0 <= i)) = true ↔ (0 <= i):=i_dec
  have i15:(decide (i.toNat < (List.map (AV.int IntKind.i64) w).length)) = true ↔ (i.toNat < w.length):=(by (try rw [w11]);all_goals exact i_dec)
  have k16:=H.1;have H:=H.2
  have i17:(decide (0 <= i)) = true ↔ (0 <= i):=i_dec
  have w18:(List.map (AV.int IntKind.i64) co).length = co.length:=List.length_map ..
  have i19:(decide (i.toNat < (List.map (AV.int IntKind.i64) co).length)) = true ↔ (i.toNat < co.length):=(by (try rw [w18]);all_goals exact i_dec)
  have k20:=H.1;have H:=H.2
  have k21:=H.1;have H:=H.2
  have w22:IntKind.i64.wrap (Sp.dist (gs.getD 0 default).x (gs.getD 0 default).y (gs.getD i.toNat default).x (gs.getD i.toNat default).y + w.getD 0 default) = Sp.dist (gs.getD 0 default).x (gs.getD 0 default).y (gs.getD i.toNat default).x (gs.getD i.toNat default).y + w.getD 0 default:=wI64 k21
  have k23:=H.1;have H:=H.2
  have w24:IntKind.i64.wrap (Sp.dist (gs.getD 0 default).x (gs.getD 0 default).y (gs.getD i.toNat default).x (gs.getD i.toNat default).y + w.getD 0 default + w.getD i.toNat default) = Sp.dist (gs.getD 0 default).x (gs.getD 0 default).y (gs.getD i.toNat default).x (gs.getD i.toNat default).y + w.getD 0 default + w.getD i.toNat default:=wI64 k23
  have w25:(List.map (AV.int IntKind.i64) co).set i.toNat (AV.int IntKind.i64 (Sp.dist (gs.getD 0 default).x (gs.getD 0 default).y (gs.getD i.toNat default).x (gs.getD i.toNat default).y + w.getD 0 default + w.getD i.toNat default)) = List.map (AV.int IntKind.i64) (co.set i.toNat (Sp.dist (gs.getD 0 default).x (gs.getD 0 default).y (gs.getD i.toNat default).x (gs.getD i.toNat default).y + w.getD 0 default + w.getD i.toNat default)):=(lm_set rfl rfl)
  have k26:=H.1;have H:=H.2
  have w27:IntKind.i64.wrap (i + 1) = i + 1:=wI64 k26
  exact path_wp (G:=given kp94 [(11,4,.elem (AV.agg [AV.int IntKind.i64 (gs.getD 0 default).x,AV.int IntKind.i64 (gs.getD 0 default).y])),(11,8,.elem (AV.agg [AV.int IntKind.i64 (gs.getD i.toNat default).x,AV.int IntKind.i64 (gs.getD i.toNat default).y])),(11,9,.call (AV.int IntKind.i64 (Sp.dist (gs.getD 0 default).x (gs.getD 0 default).y (gs.getD i.toNat default).x (gs.getD i.toNat default).y)) none),(11,12,.elem (AV.int IntKind.i64 (w.getD 0 default))),(11,17,.elem (AV.int IntKind.i64 (w.getD i.toNat default))),(11,20,.elem (AV.int IntKind.i64 (co.getD i.toNat default)))] []) 1000 [true] ⟨(atC (cd Try.f94) [1,1,1,1,1,1,1,0,1,0,0]),[(0,AV.vec fl 2 (List.map G2.a gs)),(1,AV.vec fw 1 (List.map (AV.int IntKind.i64) w)),(6,AV.row 0 0),(7,AV.row 1 0),(8,AV.row 2 0),(9,AV.row 3 0),(35,AV.int IntKind.i64 n),(36,AV.int IntKind.i64 (IntKind.i64.wrap (i + 1)))],[{ elems:=List.map (AV.int IntKind.i64) ps,es:=1,ver:=0,frozen:=false,clean:=true },{ elems:=List.map AV.bool dn,es:=1,ver:=0,frozen:=false,clean:=true },{ elems:=(List.map (AV.int IntKind.i64) co).set i.toNat (AV.int IntKind.i64 (IntKind.i64.wrap (IntKind.i64.wrap (Sp.dist (gs.getD 0 default).x (gs.getD 0 default).y (gs.getD i.toNat default).x (gs.getD i.toNat default).y + w.getD 0 default) + w.getD i.toNat default))),es:=1,ver:=0,frozen:=false,clean:=true },{ elems:=List.map (AV.int IntKind.i64) fr,es:=1,ver:=0,frozen:=false,clean:=true }],[(decide (i < n)) == true,true,decide (0 < (List.map G2.a gs).length),decide (0 <= i),decide (i.toNat < (List.map G2.a gs).length),true,decide (0 < (List.map (AV.int IntKind.i64) w).length),decide (0 <= i),decide (i.toNat < (List.map (AV.int IntKind.i64) w).length),true,decide (0 <= i),decide (i.toNat < (List.map (AV.int IntKind.i64) co).length),true],[((List.map G2.a gs).get?Internal 0 = some (AV.agg [AV.int IntKind.i64 (gs.getD 0 default).x,AV.int IntKind.i64 (gs.getD 0 default).y])),((List.map G2.a gs).get?Internal i.toNat = some (AV.agg [AV.int IntKind.i64 (gs.getD i.toNat default).x,AV.int IntKind.i64 (gs.getD i.toNat default).y])),((List.map (AV.int IntKind.i64) w).get?Internal 0 = some (AV.int IntKind.i64 (w.getD 0 default))),((List.map (AV.int IntKind.i64) w).get?Internal i.toNat = some (AV.int IntKind.i64 (w.getD i.toNat default))),((List.map (AV.int IntKind.i64) co).get?Internal i.toNat = some (AV.int IntKind.i64 (co.getD i.toNat default)))],[⟨true,false,61,[AV.agg [AV.int IntKind.i64 (gs.getD 0 default).x,AV.int IntKind.i64 (gs.getD 0 default).y],AV.agg [AV.int IntKind.i64 (gs.getD i.toNat default).x,AV.int IntKind.i64 (gs.getD i.toNat default).y]],[],AV.int IntKind.i64 (Sp.dist (gs.getD 0 default).x (gs.getD 0 default).y (gs.getD i.toNat default).x (gs.getD i.toNat default).y),[]⟩]⟩ (by kernel_rfl) (allB_cons (beq_t (i1.2 d2)) (allB_cons rfl (allB_cons (i5.2 k6) (allB_cons (i7.2 k8) (allB_cons (i9.2 k10) (allB_cons rfl (allB_cons (i12.2 k13) (allB_cons (i14.2 k8) (allB_cons (i15.2 k16) (allB_cons rfl (allB_cons (i17.2 k8) (allB_cons (i19.2 k20) (allB_cons rfl allB_nil))))))))))))) (allP_cons (el_map k6) (allP_cons (el_map k10) (allP_cons (el_map k13) (allP_cons (el_map k16) (allP_cons (el_map k20) allP_nil))))) (allC_cons (fun _ => ((@ev61 ((gs.getD 0 default).x) ((gs.getD 0 default).y) ((gs.getD i.toNat default).x) ((gs.getD i.toNat default).y) k3):Ev M1 (Conf.pure 61 [AV.agg [AV.int IntKind.i64 (gs.getD 0 default).x,AV.int IntKind.i64 (gs.getD 0 default).y],AV.agg [AV.int IntKind.i64 (gs.getD i.toNat default).x,AV.int IntKind.i64 (gs.getD i.toNat default).y]]) (AV.int IntKind.i64 (Sp.dist (gs.getD 0 default).x (gs.getD 0 default).y (gs.getD i.toNat default).x (gs.getD i.toNat default).y)) [])) allC_nil) (by (try rw [w22]);(try rw [w24]);(try rw [w25]);(try rw [w27]);all_goals exact H)
 ·have H:=H.2 d2
  have w28:(List.map G2.a gs).length = gs.length:=List.length_map ..
  have k29:=H.1;have H:=H.2
  have w30:IntKind.i64.wrap ((↑gs.length:Int) - 1) = (↑gs.length:Int) - 1:=wI64 k29
  exact path_wp (G:=given kp94 [] []) 1000 [false] ⟨(atC (cd Try.f94) [1,1,1,1,1,1,1,1,1,0,1,0,0]),[(0,AV.vec fl 2 (List.map G2.a gs)),(1,AV.vec fw 1 (List.map (AV.int IntKind.i64) w)),(6,AV.row 0 0),(7,AV.row 1 0),(8,AV.row 2 0),(9,AV.row 3 0),(11,AV.int IntKind.i64 0),(62,AV.int IntKind.i64 (IntKind.i64.wrap ((↑(List.map G2.a gs).length:Int) - 1))),(63,AV.int IntKind.i64 0)],[{ elems:=List.map (AV.int IntKind.i64) ps,es:=1,ver:=0,frozen:=false,clean:=true },{ elems:=List.map AV.bool dn,es:=1,ver:=0,frozen:=false,clean:=true },{ elems:=List.map (AV.int IntKind.i64) co,es:=1,ver:=0,frozen:=false,clean:=true },{ elems:=List.map (AV.int IntKind.i64) fr,es:=1,ver:=0,frozen:=false,clean:=true }],[(decide (i < n)) == false],[],[]⟩ (by kernel_rfl) (allB_cons (beq_f (fun h => d2 (i1.1 h))) allB_nil) allP_nil allC_nil (by (try rw [w28]);(try rw [w30]);all_goals exact H)
theorem tw36b (fl fw:Bool) (gs:List G2) (w:List Int) (ps co fr:List Int) (dn:List Bool) (s n i:Int)  (Q:AV -> Heap -> Prop) (H :
  ((i < n) -> tv36c_at (fl) (fw) (gs) (w) (ps) (co) (fr) (dn) (s) (-1) (n) (i) ((↑gs.length:Int)) (0) Q) /\
  (¬(i < n) -> Q (AV.tup [AV.int IntKind.i64 s,AV.row 0 0]) [{ elems:=List.map (AV.int IntKind.i64) ps,es:=1,ver:=0,frozen:=false,clean:=true },{ elems:=List.map AV.bool dn,es:=1,ver:=0,frozen:=false,clean:=true },{ elems:=List.map (AV.int IntKind.i64) co,es:=1,ver:=0,frozen:=false,clean:=true },{ elems:=List.map (AV.int IntKind.i64) fr,es:=1,ver:=0,frozen:=false,clean:=true }])) :
 tw36b_at fl fw gs w ps co fr dn s n i Q:=by
 unfold tw36b_at
 have i1:(decide (i < n)) = true ↔ (i < n):=i_dec
 rcases Classical.em (i < n) with d2 | d2
 ·have H:=H.1 d2
  have w3:(List.map G2.a gs).length = gs.length:=List.length_map ..
  exact path_wp (G:=given kp94 [] []) 1000 [true] ⟨(atC (cd Try.f94) [1,1,1,1,1,1,1,1,1,0,1,0,0,1,1,0,0,1,0,1,0,0]),[(0,AV.vec fl 2 (List.map G2.a gs)),(1,AV.vec fw 1 (List.map (AV.int IntKind.i64) w)),(6,AV.row 0 0),(7,AV.row 1 0),(8,AV.row 2 0),(9,AV.row 3 0),(11,AV.int IntKind.i64 s),(12,AV.int IntKind.i64 (-1)),(62,AV.int IntKind.i64 n),(63,AV.int IntKind.i64 i),(66,AV.int IntKind.i64 (↑(List.map G2.a gs).length:Int)),(67,AV.int IntKind.i64 0)],[{ elems:=List.map (AV.int IntKind.i64) ps,es:=1,ver:=0,frozen:=false,clean:=true },{ elems:=List.map AV.bool dn,es:=1,ver:=0,frozen:=false,clean:=true },{ elems:=List.map (AV.int IntKind.i64) co,es:=1,ver:=0,frozen:=false,clean:=true },{ elems:=List.map (AV.int IntKind.i64) fr,es:=1,ver:=0,frozen:=false,clean:=true }],[(decide (i < n)) == true],[],[]⟩ (by kernel_rfl) (allB_cons (beq_t (i1.2 d2)) allB_nil) allP_nil allC_nil (by (try rw [w3]);all_goals exact H)
 ·have H:=H.2 d2
  exact path_ret (G:=given kp94 [] []) 1000 [false] (k:=((atC (cd Try.f94) [1,1,1,1,1,1,1,1,1,1,1])).tail) (env':=[(4,AV.int IntKind.i64 s),(5,AV.row 0 0)]) (L':=[{ elems:=List.map (AV.int IntKind.i64) ps,es:=1,ver:=0,frozen:=false,clean:=true },{ elems:=List.map AV.bool dn,es:=1,ver:=0,frozen:=false,clean:=true },{ elems:=List.map (AV.int IntKind.i64) co,es:=1,ver:=0,frozen:=false,clean:=true },{ elems:=List.map (AV.int IntKind.i64) fr,es:=1,ver:=0,frozen:=false,clean:=true }]) (asm:=[(decide (i < n)) == false]) (eqs:=[]) (calls:=[]) (AV.tup [AV.int IntKind.i64 s,AV.row 0 0]) (by kernel_rfl) (by kernel_rfl) (allB_cons (beq_f (fun h => d2 (i1.1 h))) allB_nil) allP_nil allC_nil H
theorem tw36c (fl fw:Bool) (gs:List G2) (w:List Int) (ps co fr:List Int) (dn:List Bool) (s nx n i m j:Int)  (Q:AV -> Heap -> Prop) (H :
  ((j < m) -> (0 <= j) /\
   (j.toNat < dn.length) /\
   (((¬(nx < 0)) /\ (¬(dn.getD j.toNat default = true))) -> (j.toNat < co.length)) /\
   (((¬(nx < 0)) /\ (¬(dn.getD j.toNat default = true))) -> (0 <= nx)) /\
   (((¬(nx < 0)) /\ (¬(dn.getD j.toNat default = true))) -> (nx.toNat < co.length)) /\
   (((¬(dn.getD j.toNat default = true)) /\ ((nx < 0) \/ (co.getD j.toNat default < co.getD nx.toNat default))) -> (-9223372036854775808 <= j + 1 /\ j + 1 <= 9223372036854775807) /\
    tv36c_at (fl) (fw) (gs) (w) (ps) (co) (fr) (dn) (s) (j) (n) (i) (m) (j + 1) Q) /\
   (¬((¬(dn.getD j.toNat default = true)) /\ ((nx < 0) \/ (co.getD j.toNat default < co.getD nx.toNat default))) -> (-9223372036854775808 <= j + 1 /\ j + 1 <= 9223372036854775807) /\
    tv36c_at (fl) (fw) (gs) (w) (ps) (co) (fr) (dn) (s) (nx) (n) (i) (m) (j + 1) Q)) /\
  (¬(j < m) -> (0 <= nx) /\
   (nx.toNat < dn.length) /\
   (nx.toNat < co.length) /\
   (-9223372036854775808 <= s + co.getD nx.toNat default /\ s + co.getD nx.toNat default <= 9223372036854775807) /\
   (nx.toNat < ps.length) /\
   (-9223372036854775808 <= ps.getD nx.toNat default + 1 /\ ps.getD nx.toNat default + 1 <= 9223372036854775807) /\
   (nx.toNat < fr.length) /\
   (0 <= fr.getD nx.toNat default) /\
   ((fr.getD nx.toNat default).toNat < (ps.set nx.toNat (ps.getD nx.toNat default + 1)).length) /\
   (-9223372036854775808 <= (ps.set nx.toNat (ps.getD nx.toNat default + 1)).getD (fr.getD nx.toNat default).toNat default + 1 /\ (ps.set nx.toNat (ps.getD nx.toNat default + 1)).getD (fr.getD nx.toNat default).toNat default + 1 <= 9223372036854775807) /\
   tv36d_at (fl) (fw) (gs) (w) ((ps.set nx.toNat (ps.getD nx.toNat default + 1)).set (fr.getD nx.toNat default).toNat ((ps.set nx.toNat (ps.getD nx.toNat default + 1)).getD (fr.getD nx.toNat default).toNat default + 1)) (co) (fr) (dn.set nx.toNat true) (s + co.getD nx.toNat default) (nx) (n) (i) ((↑gs.length:Int)) (0) Q)) :
 tw36c_at fl fw gs w ps co fr dn s nx n i m j Q:=by
 unfold tw36c_at
 have i1:(decide (j < m)) = true ↔ (j < m):=i_dec
 rcases Classical.em (j < m) with d2 | d2
 ·have H:=H.1 d2
  have i3:(decide (0 <= j)) = true ↔ (0 <= j):=i_dec
  have k4:=H.1;have H:=H.2
  have w5:(List.map AV.bool dn).length = dn.length:=List.length_map ..
  have i6:(decide (j.toNat < (List.map AV.bool dn).length)) = true ↔ (j.toNat < dn.length):=(by (try rw [w5]);all_goals exact i_dec)
  have k7:=H.1;have H:=H.2
  have i8:(!(decide (nx < 0) == false && ((!dn.getD j.toNat default) == true && true)) || decide (0 <= j)) = true ↔ (((¬(nx < 0)) /\ (¬(dn.getD j.toNat default = true))) -> (0 <= j)):=(i_imp (i_and (i_bf i_dec) (i_at (i_bt (i_not (i_var _))))) i_dec)
  have w9:(List.map (AV.int IntKind.i64) co).length = co.length:=List.length_map ..
  have i10:(!(decide (nx < 0) == false && ((!dn.getD j.toNat default) == true && true)) || decide (j.toNat < (List.map (AV.int IntKind.i64) co).length)) = true ↔ (((¬(nx < 0)) /\ (¬(dn.getD j.toNat default = true))) -> (j.toNat < co.length)):=(by (try rw [w9]);all_goals exact (i_imp (i_and (i_bf i_dec) (i_at (i_bt (i_not (i_var _))))) i_dec))
  have k11:=H.1;have H:=H.2
  have i12:(!(decide (nx < 0) == false && ((!dn.getD j.toNat default) == true && true)) || decide (0 <= nx)) = true ↔ (((¬(nx < 0)) /\ (¬(dn.getD j.toNat default = true))) -> (0 <= nx)):=(i_imp (i_and (i_bf i_dec) (i_at (i_bt (i_not (i_var _))))) i_dec)
  have k13:=H.1;have H:=H.2
  have i14:(!(decide (nx < 0) == false && ((!dn.getD j.toNat default) == true && true)) || decide (nx.toNat < (List.map (AV.int IntKind.i64) co).length)) = true ↔ (((¬(nx < 0)) /\ (¬(dn.getD j.toNat default = true))) -> (nx.toNat < co.length)):=(by (try rw [w9]);all_goals exact (i_imp (i_and (i_bf i_dec) (i_at (i_bt (i_not (i_var _))))) i_dec))
  have k15:=H.1;have H:=H.2
  have i16:(decide (nx < 0) == false && ((!dn.getD j.toNat default) == true && true)) = true ↔ ((¬(nx < 0)) /\ (¬(dn.getD j.toNat default = true))):=(i_and (i_bf i_dec) (i_at (i_bt (i_not (i_var _)))))
  have i17:(decide (nx < 0) == false && ((!dn.getD j.toNat default) == true && true)) = true ↔ ((¬(nx < 0)) /\ (¬(dn.getD j.toNat default = true))):=(i_and (i_bf i_dec) (i_at (i_bt (i_not (i_var _)))))
  have i18:(bif !dn.getD j.toNat default then bif decide (nx < 0) then true else decide (co.getD j.toNat default < co.getD nx.toNat default) else false) = true ↔ ((¬(dn.getD j.toNat default = true)) /\ ((nx < 0) \/ (co.getD j.toNat default < co.getD nx.toNat default))):=(i_band (i_not (i_var _)) (i_bor i_dec i_dec))
  refine path_wp (G:=given kp94 [(20,3,.elem (AV.bool (dn.getD j.toNat default))),(20,12,.elem (AV.int IntKind.i64 (co.getD j.toNat default))),(20,16,.elem (AV.int IntKind.i64 (co.getD nx.toNat default)))] []) 11 [true] ⟨(atC (cd Try.f94) [1,1,1,1,1,1,1,1,1,0,1,0,0,1,1,0,0,1,0,1,0,0,1,1,0,0,1,1]),[(0,AV.vec fl 2 (List.map G2.a gs)),(1,AV.vec fw 1 (List.map (AV.int IntKind.i64) w)),(6,AV.row 0 0),(7,AV.row 1 0),(8,AV.row 2 0),(9,AV.row 3 0),(11,AV.int IntKind.i64 s),(12,AV.int IntKind.i64 nx),(13,AV.int IntKind.i64 j),(62,AV.int IntKind.i64 n),(63,AV.int IntKind.i64 i),(66,AV.int IntKind.i64 m),(67,AV.int IntKind.i64 j),(89,AV.bool (bif !dn.getD j.toNat default then bif decide (nx < 0) then true else decide (co.getD j.toNat default < co.getD nx.toNat default) else false))],[{ elems:=List.map (AV.int IntKind.i64) ps,es:=1,ver:=0,frozen:=false,clean:=true },{ elems:=List.map AV.bool dn,es:=1,ver:=0,frozen:=false,clean:=true },{ elems:=List.map (AV.int IntKind.i64) co,es:=1,ver:=0,frozen:=false,clean:=true },{ elems:=List.map (AV.int IntKind.i64) fr,es:=1,ver:=0,frozen:=false,clean:=true }],[(decide (j < m)) == true,true,decide (0 <= j),decide (j.toNat < (List.map AV.bool dn).length),true,!(decide (nx < 0) == false && ((!dn.getD j.toNat default) == true && true)) || true,!(decide (nx < 0) == false && ((!dn.getD j.toNat default) == true && true)) || decide (0 <= j),!(decide (nx < 0) == false && ((!dn.getD j.toNat default) == true && true)) || decide (j.toNat < (List.map (AV.int IntKind.i64) co).length),!(decide (nx < 0) == false && ((!dn.getD j.toNat default) == true && true)) || true,!(decide (nx < 0) == false && ((!dn.getD j.toNat default) == true && true)) || true,!(decide (nx < 0) == false && ((!dn.getD j.toNat default) == true && true)) || decide (0 <= nx),!(decide (nx < 0) == false && ((!dn.getD j.toNat default) == true && true)) || decide (nx.toNat < (List.map (AV.int IntKind.i64) co).length),!(decide (nx < 0) == false && ((!dn.getD j.toNat default) == true && true)) || true],[((List.map AV.bool dn).get?Internal j.toNat = some (AV.bool (dn.getD j.toNat default))),((decide (nx < 0) == false && ((!dn.getD j.toNat default) == true && true)) = true -> (List.map (AV.int IntKind.i64) co).get?Internal j.toNat = some (AV.int IntKind.i64 (co.getD j.toNat default))),((decide (nx < 0) == false && ((!dn.getD j.toNat default) == true && true)) = true -> (List.map (AV.int IntKind.i64) co).get?Internal nx.toNat = some (AV.int IntKind.i64 (co.getD nx.toNat default)))],[]⟩ (by kernel_rfl) (allB_cons (beq_t (i1.2 d2)) (allB_cons rfl (allB_cons (i3.2 k4) (allB_cons (i6.2 k7) (allB_cons rfl (allB_cons (Bool.or_true _) (allB_cons (i8.2 (fun _ => k4)) (allB_cons (i10.2 k11) (allB_cons (Bool.or_true _) (allB_cons (Bool.or_true _) (allB_cons (i12.2 k13) (allB_cons (i14.2 k15) (allB_cons (Bool.or_true _) allB_nil))))))))))))) (allP_cons (el_map k7) (allP_cons (fun h => el_map (k11 (i16.1 h))) (allP_cons (fun h => el_map (k15 (i17.1 h))) allP_nil))) allC_nil ?_
  rcases Classical.em ((¬(dn.getD j.toNat default = true)) /\ ((nx < 0) \/ (co.getD j.toNat default < co.getD nx.toNat default))) with d19 | d19
  ·have H:=H.1 d19
   have k20:=H.1;have H:=H.2
   have w21:IntKind.i64.wrap (j + 1) = j + 1:=wI64 k20
   exact path_wp (G:=given kp94 [] []) 1000 [true] ⟨(atC (cd Try.f94) [1,1,1,1,1,1,1,1,1,0,1,0,0,1,1,0,0,1,0,1,0,0]),[(0,AV.vec fl 2 (List.map G2.a gs)),(1,AV.vec fw 1 (List.map (AV.int IntKind.i64) w)),(6,AV.row 0 0),(7,AV.row 1 0),(8,AV.row 2 0),(9,AV.row 3 0),(11,AV.int IntKind.i64 s),(12,AV.int IntKind.i64 j),(62,AV.int IntKind.i64 n),(63,AV.int IntKind.i64 i),(66,AV.int IntKind.i64 m),(67,AV.int IntKind.i64 (IntKind.i64.wrap (j + 1)))],[{ elems:=List.map (AV.int IntKind.i64) ps,es:=1,ver:=0,frozen:=false,clean:=true },{ elems:=List.map AV.bool dn,es:=1,ver:=0,frozen:=false,clean:=true },{ elems:=List.map (AV.int IntKind.i64) co,es:=1,ver:=0,frozen:=false,clean:=true },{ elems:=List.map (AV.int IntKind.i64) fr,es:=1,ver:=0,frozen:=false,clean:=true }],[(bif !dn.getD j.toNat default then bif decide (nx < 0) then true else decide (co.getD j.toNat default < co.getD nx.toNat default) else false) == true],[],[]⟩ (by kernel_rfl) (allB_cons (beq_t (i18.2 d19)) allB_nil) allP_nil allC_nil (by (try rw [w21]);all_goals exact H)
  ·have H:=H.2 d19
   have k22:=H.1;have H:=H.2
   have w23:IntKind.i64.wrap (j + 1) = j + 1:=wI64 k22
   exact path_wp (G:=given kp94 [] []) 1000 [false] ⟨(atC (cd Try.f94) [1,1,1,1,1,1,1,1,1,0,1,0,0,1,1,0,0,1,0,1,0,0]),[(0,AV.vec fl 2 (List.map G2.a gs)),(1,AV.vec fw 1 (List.map (AV.int IntKind.i64) w)),(6,AV.row 0 0),(7,AV.row 1 0),(8,AV.row 2 0),(9,AV.row 3 0),(11,AV.int IntKind.i64 s),(12,AV.int IntKind.i64 nx),(62,AV.int IntKind.i64 n),(63,AV.int IntKind.i64 i),(66,AV.int IntKind.i64 m),(67,AV.int IntKind.i64 (IntKind.i64.wrap (j + 1)))],[{ elems:=List.map (AV.int IntKind.i64) ps,es:=1,ver:=0,frozen:=false,clean:=true },{ elems:=List.map AV.bool dn,es:=1,ver:=0,frozen:=false,clean:=true },{ elems:=List.map (AV.int IntKind.i64) co,es:=1,ver:=0,frozen:=false,clean:=true },{ elems:=List.map (AV.int IntKind.i64) fr,es:=1,ver:=0,frozen:=false,clean:=true }],[(bif !dn.getD j.toNat default then bif decide (nx < 0) then true else decide (co.getD j.toNat default < co.getD nx.toNat default) else false) == false],[],[]⟩ (by kernel_rfl) (allB_cons (beq_f (fun h => d19 (i18.1 h))) allB_nil) allP_nil allC_nil (by (try rw [w23]);all_goals exact H)
 ·have H:=H.2 d2
  have i24:(decide (0 <= nx)) = true ↔ (0 <= nx):=i_dec
  have k25:=H.1;have H:=H.2
  have w26:(List.map AV.bool dn).length = dn.length:=List.length_map ..
  have i27:(decide (nx.toNat < (List.map AV.bool dn).length)) = true ↔ (nx.toNat < dn.length):=(by (try rw [w26]);all_goals exact i_dec)
  have k28:=H.1;have H:=H.2
  have w29:(List.map AV.bool dn).set nx.toNat (AV.bool true) = List.map AV.bool (dn.set nx.toNat true):=(lm_set rfl rfl)
  have i30:(decide (0 <= nx)) = true ↔ (0 <= nx):=i_dec
  have w31:(List.map (AV.int IntKind.i64) co).length = co.length:=List.length_map ..
  have i32:(decide (nx.toNat < (List.map (AV.int IntKind.i64) co).length)) = true ↔ (nx.toNat < co.length):=(by (try rw [w31]);all_goals exact i_dec)
  have k33:=H.1;have H:=H.2
  have k34:=H.1;have H:=H.2
  have w35:IntKind.i64.wrap (s + co.getD nx.toNat default) = s + co.getD nx.toNat default:=wI64 k34
  have i36:(decide (0 <= nx)) = true ↔ (0 <= nx):=i_dec
  have w37:(List.map (AV.int IntKind.i64) ps).length = ps.length:=List.length_map ..
  have i38:(decide (nx.toNat < (List.map (AV.int IntKind.i64) ps).length)) = true ↔ (nx.toNat < ps.length):=(by (try rw [w37]);all_goals exact i_dec)
  have k39:=H.1;have H:=H.2
  have i40:(decide (0 <= nx)) = true ↔ (0 <= nx):=i_dec
  have i41:(decide (nx.toNat < (List.map (AV.int IntKind.i64) ps).length)) = true ↔ (nx.toNat < ps.length):=(by (try rw [w37]);all_goals exact i_dec)
  have k42:=H.1;have H:=H.2
  have w43:IntKind.i64.wrap (ps.getD nx.toNat default + 1) = ps.getD nx.toNat default + 1:=wI64 k42
  have w44:(List.map (AV.int IntKind.i64) ps).set nx.toNat (AV.int IntKind.i64 (ps.getD nx.toNat default + 1)) = List.map (AV.int IntKind.i64) (ps.set nx.toNat (ps.getD nx.toNat default + 1)):=(lm_set rfl rfl)
  have i45:(decide (0 <= nx)) = true ↔ (0 <= nx):=i_dec
  have w46:(List.map (AV.int IntKind.i64) fr).length = fr.length:=List.length_map ..
  have i47:(decide (nx.toNat < (List.map (AV.int IntKind.i64) fr).length)) = true ↔ (nx.toNat < fr.length):=(by (try rw [w46]);all_goals exact i_dec)
  have k48:=H.1;have H:=H.2
  have i49:(decide (0 <= fr.getD nx.toNat default)) = true ↔ (0 <= fr.getD nx.toNat default):=i_dec
  have k50:=H.1;have H:=H.2
  have w51:(List.map (AV.int IntKind.i64) (ps.set nx.toNat (ps.getD nx.toNat default + 1))).length = (ps.set nx.toNat (ps.getD nx.toNat default + 1)).length:=List.length_map ..
  have i52:(decide ((fr.getD nx.toNat default).toNat < ((List.map (AV.int IntKind.i64) ps).set nx.toNat (AV.int IntKind.i64 (IntKind.i64.wrap (ps.getD nx.toNat default + 1)))).length)) = true ↔ ((fr.getD nx.toNat default).toNat < (ps.set nx.toNat (ps.getD nx.toNat default + 1)).length):=(by (try rw [w43]);(try rw [w44]);(try rw [w51]);all_goals exact i_dec)
  have k53:=H.1;have H:=H.2
  have i54:(decide (0 <= fr.getD nx.toNat default)) = true ↔ (0 <= fr.getD nx.toNat default):=i_dec
  have i55:(decide ((fr.getD nx.toNat default).toNat < ((List.map (AV.int IntKind.i64) ps).set nx.toNat (AV.int IntKind.i64 (IntKind.i64.wrap (ps.getD nx.toNat default + 1)))).length)) = true ↔ ((fr.getD nx.toNat default).toNat < (ps.set nx.toNat (ps.getD nx.toNat default + 1)).length):=(by (try rw [w43]);(try rw [w44]);(try rw [w51]);all_goals exact i_dec)
  have k56:=H.1;have H:=H.2
  have w57:IntKind.i64.wrap ((ps.set nx.toNat (ps.getD nx.toNat default + 1)).getD (fr.getD nx.toNat default).toNat default + 1) = (ps.set nx.toNat (ps.getD nx.toNat default + 1)).getD (fr.getD nx.toNat default).toNat default + 1:=wI64 k56
  have w58:(List.map (AV.int IntKind.i64) (ps.set nx.toNat (ps.getD nx.toNat default + 1))).set (fr.getD nx.toNat default).toNat (AV.int IntKind.i64 ((ps.set nx.toNat (ps.getD nx.toNat default + 1)).getD (fr.getD nx.toNat default).toNat default + 1)) = List.map (AV.int IntKind.i64) ((ps.set nx.toNat (ps.getD nx.toNat default + 1)).set (fr.getD nx.toNat default).toNat ((ps.set nx.toNat (ps.getD nx.toNat default + 1)).getD (fr.getD nx.toNat default).toNat default + 1)):=(lm_set rfl rfl)
  have w59:(List.map G2.a gs).length = gs.length:=List.length_map ..
  exact path_wp (G:=given kp94 [(23,3,.elem (AV.bool (dn.getD nx.toNat default))),(24,4,.elem (AV.int IntKind.i64 (co.getD nx.toNat default))),(25,3,.elem (AV.int IntKind.i64 (ps.getD nx.toNat default))),(25,6,.elem (AV.int IntKind.i64 (ps.getD nx.toNat default))),(26,4,.elem (AV.int IntKind.i64 (fr.getD nx.toNat default))),(26,6,.elem (AV.int IntKind.i64 ((ps.set nx.toNat (ps.getD nx.toNat default + 1)).getD (fr.getD nx.toNat default).toNat default))),(26,9,.elem (AV.int IntKind.i64 ((ps.set nx.toNat (ps.getD nx.toNat default + 1)).getD (fr.getD nx.toNat default).toNat default)))] []) 1000 [false] ⟨(atC (cd Try.f94) [1,1,1,1,1,1,1,1,1,0,1,0,0,1,1,0,0,1,1,1,1,1,1,1,0,0]),[(0,AV.vec fl 2 (List.map G2.a gs)),(1,AV.vec fw 1 (List.map (AV.int IntKind.i64) w)),(6,AV.row 0 0),(7,AV.row 1 0),(8,AV.row 2 0),(9,AV.row 3 0),(11,AV.int IntKind.i64 (IntKind.i64.wrap (s + co.getD nx.toNat default))),(12,AV.int IntKind.i64 nx),(62,AV.int IntKind.i64 n),(63,AV.int IntKind.i64 i),(117,AV.int IntKind.i64 (↑(List.map G2.a gs).length:Int)),(118,AV.int IntKind.i64 0)],[{ elems:=((List.map (AV.int IntKind.i64) ps).set nx.toNat (AV.int IntKind.i64 (IntKind.i64.wrap (ps.getD nx.toNat default + 1)))).set (fr.getD nx.toNat default).toNat (AV.int IntKind.i64 (IntKind.i64.wrap ((ps.set nx.toNat (ps.getD nx.toNat default + 1)).getD (fr.getD nx.toNat default).toNat default + 1))),es:=1,ver:=0,frozen:=false,clean:=true },{ elems:=(List.map AV.bool dn).set nx.toNat (AV.bool true),es:=1,ver:=0,frozen:=false,clean:=true },{ elems:=List.map (AV.int IntKind.i64) co,es:=1,ver:=0,frozen:=false,clean:=true },{ elems:=List.map (AV.int IntKind.i64) fr,es:=1,ver:=0,frozen:=false,clean:=true }],[(decide (j < m)) == false,true,decide (0 <= nx),decide (nx.toNat < (List.map AV.bool dn).length),true,true,decide (0 <= nx),decide (nx.toNat < (List.map (AV.int IntKind.i64) co).length),true,true,decide (0 <= nx),decide (nx.toNat < (List.map (AV.int IntKind.i64) ps).length),true,true,decide (0 <= nx),decide (nx.toNat < (List.map (AV.int IntKind.i64) ps).length),true,true,decide (0 <= nx),decide (nx.toNat < (List.map (AV.int IntKind.i64) fr).length),true,true,decide (0 <= fr.getD nx.toNat default),decide ((fr.getD nx.toNat default).toNat < ((List.map (AV.int IntKind.i64) ps).set nx.toNat (AV.int IntKind.i64 (IntKind.i64.wrap (ps.getD nx.toNat default + 1)))).length),true,true,decide (0 <= fr.getD nx.toNat default),decide ((fr.getD nx.toNat default).toNat < ((List.map (AV.int IntKind.i64) ps).set nx.toNat (AV.int IntKind.i64 (IntKind.i64.wrap (ps.getD nx.toNat default + 1)))).length),true],[((List.map AV.bool dn).get?Internal nx.toNat = some (AV.bool (dn.getD nx.toNat default))),((List.map (AV.int IntKind.i64) co).get?Internal nx.toNat = some (AV.int IntKind.i64 (co.getD nx.toNat default))),((List.map (AV.int IntKind.i64) ps).get?Internal nx.toNat = some (AV.int IntKind.i64 (ps.getD nx.toNat default))),((List.map (AV.int IntKind.i64) ps).get?Internal nx.toNat = some (AV.int IntKind.i64 (ps.getD nx.toNat default))),((List.map (AV.int IntKind.i64) fr).get?Internal nx.toNat = some (AV.int IntKind.i64 (fr.getD nx.toNat default))),(((List.map (AV.int IntKind.i64) ps).set nx.toNat (AV.int IntKind.i64 (IntKind.i64.wrap (ps.getD nx.toNat default + 1)))).get?Internal (fr.getD nx.toNat default).toNat = some (AV.int IntKind.i64 ((ps.set nx.toNat (ps.getD nx.toNat default + 1)).getD (fr.getD nx.toNat default).toNat default))),(((List.map (AV.int IntKind.i64) ps).set nx.toNat (AV.int IntKind.i64 (IntKind.i64.wrap (ps.getD nx.toNat default + 1)))).get?Internal (fr.getD nx.toNat default).toNat = some (AV.int IntKind.i64 ((ps.set nx.toNat (ps.getD nx.toNat default + 1)).getD (fr.getD nx.toNat default).toNat default)))],[]⟩ (by kernel_rfl) (allB_cons (beq_f (fun h => d2 (i1.1 h))) (allB_cons rfl (allB_cons (i24.2 k25) (allB_cons (i27.2 k28) (allB_cons rfl (allB_cons rfl (allB_cons (i30.2 k25) (allB_cons (i32.2 k33) (allB_cons rfl (allB_cons rfl (allB_cons (i36.2 k25) (allB_cons (i38.2 k39) (allB_cons rfl (allB_cons rfl (allB_cons (i40.2 k25) (allB_cons (i41.2 k39) (allB_cons rfl (allB_cons rfl (allB_cons (i45.2 k25) (allB_cons (i47.2 k48) (allB_cons rfl (allB_cons rfl (allB_cons (i49.2 k50) (allB_cons (i52.2 k53) (allB_cons rfl (allB_cons rfl (allB_cons (i54.2 k50) (allB_cons (i55.2 k53) (allB_cons rfl allB_nil))))))))))))))))))))))))))))) (allP_cons (el_map k28) (allP_cons (el_map k33) (allP_cons (el_map k39) (allP_cons (el_map k39) (allP_cons (el_map k48) (allP_cons (by (try rw [w43]);(try rw [w44]);all_goals exact (el_map k53)) (allP_cons (by (try rw [w43]);(try rw [w44]);all_goals exact (el_map k53)) allP_nil))))))) allC_nil (by (try rw [w29]);(try rw [w35]);(try rw [w43]);(try rw [w44]);(try rw [w57]);(try rw [w58]);(try rw [w59]);all_goals exact H)
theorem tw36d (fl fw:Bool) (gs:List G2) (w:List Int) (ps co fr:List Int) (dn:List Bool) (s nx n i m j:Int)  (Q:AV -> Heap -> Prop) (H :
  ((j < m) -> (Sp.inM (gs.getD nx.toNat default).x /\ Sp.inM (gs.getD nx.toNat default).y /\ Sp.inM (gs.getD j.toNat default).x /\ Sp.inM (gs.getD j.toNat default).y) /\
   (0 <= nx) /\
   (nx.toNat < gs.length) /\
   (0 <= j) /\
   (j.toNat < gs.length) /\
   (nx.toNat < w.length) /\
   (j.toNat < w.length) /\
   (-9223372036854775808 <= Sp.dist (gs.getD nx.toNat default).x (gs.getD nx.toNat default).y (gs.getD j.toNat default).x (gs.getD j.toNat default).y + w.getD nx.toNat default /\ Sp.dist (gs.getD nx.toNat default).x (gs.getD nx.toNat default).y (gs.getD j.toNat default).x (gs.getD j.toNat default).y + w.getD nx.toNat default <= 9223372036854775807) /\
   (-9223372036854775808 <= Sp.dist (gs.getD nx.toNat default).x (gs.getD nx.toNat default).y (gs.getD j.toNat default).x (gs.getD j.toNat default).y + w.getD nx.toNat default + w.getD j.toNat default /\ Sp.dist (gs.getD nx.toNat default).x (gs.getD nx.toNat default).y (gs.getD j.toNat default).x (gs.getD j.toNat default).y + w.getD nx.toNat default + w.getD j.toNat default <= 9223372036854775807) /\
   (j.toNat < dn.length) /\
   ((¬(dn.getD j.toNat default = true)) -> (j.toNat < co.length)) /\
   (((¬(dn.getD j.toNat default = true)) /\ (Sp.dist (gs.getD nx.toNat default).x (gs.getD nx.toNat default).y (gs.getD j.toNat default).x (gs.getD j.toNat default).y + w.getD nx.toNat default + w.getD j.toNat default < co.getD j.toNat default)) -> (j.toNat < co.length) /\
    (j.toNat < fr.length) /\
    (-9223372036854775808 <= j + 1 /\ j + 1 <= 9223372036854775807) /\
    tv36d_at (fl) (fw) (gs) (w) (ps) (co.set j.toNat (Sp.dist (gs.getD nx.toNat default).x (gs.getD nx.toNat default).y (gs.getD j.toNat default).x (gs.getD j.toNat default).y + w.getD nx.toNat default + w.getD j.toNat default)) (fr.set j.toNat nx) (dn) (s) (nx) (n) (i) (m) (j + 1) Q) /\
   (¬((¬(dn.getD j.toNat default = true)) /\ (Sp.dist (gs.getD nx.toNat default).x (gs.getD nx.toNat default).y (gs.getD j.toNat default).x (gs.getD j.toNat default).y + w.getD nx.toNat default + w.getD j.toNat default < co.getD j.toNat default)) -> (-9223372036854775808 <= j + 1 /\ j + 1 <= 9223372036854775807) /\
    tv36d_at (fl) (fw) (gs) (w) (ps) (co) (fr) (dn) (s) (nx) (n) (i) (m) (j + 1) Q)) /\
  (¬(j < m) -> (-9223372036854775808 <= i + 1 /\ i + 1 <= 9223372036854775807) /\
   tv36b_at (fl) (fw) (gs) (w) (ps) (co) (fr) (dn) (s) (n) (i + 1) Q)) :
 tw36d_at fl fw gs w ps co fr dn s nx n i m j Q:=by
 unfold tw36d_at
 have i1:(decide (j < m)) = true ↔ (j < m):=i_dec
 rcases Classical.em (j < m) with d2 | d2
 ·have H:=H.1 d2
  have k3:=H.1;have H:=H.2
  have i4:(decide (0 <= nx)) = true ↔ (0 <= nx):=i_dec
  have k5:=H.1;have H:=H.2
  have w6:(List.map G2.a gs).length = gs.length:=List.length_map ..
  have i7:(decide (nx.toNat < (List.map G2.a gs).length)) = true ↔ (nx.toNat < gs.length):=(by (try rw [w6]);all_goals exact i_dec)
  have k8:=H.1;have H:=H.2
  have i9:(decide (0 <= j)) = true ↔ (0 <= j):=i_dec
  have k10:=H.1;have H:=H.2
  have i11:(decide (j.toNat < (List.map G2.a gs).length)) = true ↔ (j.toNat < gs.length):=(by (try rw [w6]);all_goals exact i_dec)
  have k12:=H.1;have H:=H.2
  have i13:(decide (0 <= nx)) = true ↔ (0 <= nx):=i_dec
  have w14:(List.map (AV.int IntKind.i64) w).length = w.length:=List.length_map ..
  have i15:(decide (nx.toNat < (List.map (AV.int IntKind.i64) w).length)) = true ↔ (nx.toNat < w.length):=(by (try rw [w14]);all_goals exact i_dec)
  have k16:=H.1;have H:=H.2
  have i17:(decide (0 <= j)) = true ↔ (0 <= j):=i_dec
  have i18:(decide (j.toNat < (List.map (AV.int IntKind.i64) w).length)) = true ↔ (j.toNat < w.length):=(by (try rw [w14]);all_goals exact i_dec)
  have k19:=H.1;have H:=H.2
  have k20:=H.1;have H:=H.2
  have w21:IntKind.i64.wrap (Sp.dist (gs.getD nx.toNat default).x (gs.getD nx.toNat default).y (gs.getD j.toNat default).x (gs.getD j.toNat default).y + w.getD nx.toNat default) = Sp.dist (gs.getD nx.toNat default).x (gs.getD nx.toNat default).y (gs.getD j.toNat default).x (gs.getD j.toNat default).y + w.getD nx.toNat default:=wI64 k20
  have k22:=H.1;have H:=H.2
  have w23:IntKind.i64.wrap (Sp.dist (gs.getD nx.toNat default).x (gs.getD nx.toNat default).y (gs.getD j.toNat default).x (gs.getD j.toNat default).y + w.getD nx.toNat default + w.getD j.toNat default) = Sp.dist (gs.getD nx.toNat default).x (gs.getD nx.toNat default).y (gs.getD j.toNat default).x (gs.getD j.toNat default).y + w.getD nx.toNat default + w.getD j.toNat default:=wI64 k22
  have i24:(decide (0 <= j)) = true ↔ (0 <= j):=i_dec
  have w25:(List.map AV.bool dn).length = dn.length:=List.length_map ..
  have i26:(decide (j.toNat < (List.map AV.bool dn).length)) = true ↔ (j.toNat < dn.length):=(by (try rw [w25]);all_goals exact i_dec)
  have k27:=H.1;have H:=H.2
  have i28:(!((!dn.getD j.toNat default) == true && true) || decide (0 <= j)) = true ↔ ((¬(dn.getD j.toNat default = true)) -> (0 <= j)):=(i_imp (i_at (i_bt (i_not (i_var _)))) i_dec)
  have w29:(List.map (AV.int IntKind.i64) co).length = co.length:=List.length_map ..
  have i30:(!((!dn.getD j.toNat default) == true && true) || decide (j.toNat < (List.map (AV.int IntKind.i64) co).length)) = true ↔ ((¬(dn.getD j.toNat default = true)) -> (j.toNat < co.length)):=(by (try rw [w29]);all_goals exact (i_imp (i_at (i_bt (i_not (i_var _)))) i_dec))
  have k31:=H.1;have H:=H.2
  have i32:((!dn.getD j.toNat default) == true && true) = true ↔ (¬(dn.getD j.toNat default = true)):=(i_at (i_bt (i_not (i_var _))))
  have i33:(bif !dn.getD j.toNat default then decide (IntKind.i64.wrap (IntKind.i64.wrap (Sp.dist (gs.getD nx.toNat default).x (gs.getD nx.toNat default).y (gs.getD j.toNat default).x (gs.getD j.toNat default).y + w.getD nx.toNat default) + w.getD j.toNat default) < co.getD j.toNat default) else false) = true ↔ ((¬(dn.getD j.toNat default = true)) /\ (Sp.dist (gs.getD nx.toNat default).x (gs.getD nx.toNat default).y (gs.getD j.toNat default).x (gs.getD j.toNat default).y + w.getD nx.toNat default + w.getD j.toNat default < co.getD j.toNat default)):=(by (try rw [w21]);(try rw [w23]);all_goals exact (i_band (i_not (i_var _)) i_dec))
  refine path_wp (G:=given kp94 [(30,3,.elem (AV.agg [AV.int IntKind.i64 (gs.getD nx.toNat default).x,AV.int IntKind.i64 (gs.getD nx.toNat default).y])),(30,7,.elem (AV.agg [AV.int IntKind.i64 (gs.getD j.toNat default).x,AV.int IntKind.i64 (gs.getD j.toNat default).y])),(30,8,.call (AV.int IntKind.i64 (Sp.dist (gs.getD nx.toNat default).x (gs.getD nx.toNat default).y (gs.getD j.toNat default).x (gs.getD j.toNat default).y)) none),(30,12,.elem (AV.int IntKind.i64 (w.getD nx.toNat default))),(30,17,.elem (AV.int IntKind.i64 (w.getD j.toNat default))),(31,3,.elem (AV.bool (dn.getD j.toNat default))),(31,10,.elem (AV.int IntKind.i64 (co.getD j.toNat default)))] []) 13 [true] ⟨(atC (cd Try.f94) [1,1,1,1,1,1,1,1,1,0,1,0,0,1,1,0,0,1,1,1,1,1,1,1,0,0,1,1,0,0,1,1,1]),[(0,AV.vec fl 2 (List.map G2.a gs)),(1,AV.vec fw 1 (List.map (AV.int IntKind.i64) w)),(6,AV.row 0 0),(7,AV.row 1 0),(8,AV.row 2 0),(9,AV.row 3 0),(11,AV.int IntKind.i64 s),(12,AV.int IntKind.i64 nx),(14,AV.int IntKind.i64 j),(15,AV.int IntKind.i64 (IntKind.i64.wrap (IntKind.i64.wrap (Sp.dist (gs.getD nx.toNat default).x (gs.getD nx.toNat default).y (gs.getD j.toNat default).x (gs.getD j.toNat default).y + w.getD nx.toNat default) + w.getD j.toNat default))),(62,AV.int IntKind.i64 n),(63,AV.int IntKind.i64 i),(117,AV.int IntKind.i64 m),(118,AV.int IntKind.i64 j),(152,AV.bool (bif !dn.getD j.toNat default then decide (IntKind.i64.wrap (IntKind.i64.wrap (Sp.dist (gs.getD nx.toNat default).x (gs.getD nx.toNat default).y (gs.getD j.toNat default).x (gs.getD j.toNat default).y + w.getD nx.toNat default) + w.getD j.toNat default) < co.getD j.toNat default) else false))],[{ elems:=List.map (AV.int IntKind.i64) ps,es:=1,ver:=0,frozen:=false,clean:=true },{ elems:=List.map AV.bool dn,es:=1,ver:=0,frozen:=false,clean:=true },{ elems:=List.map (AV.int IntKind.i64) co,es:=1,ver:=0,frozen:=false,clean:=true },{ elems:=List.map (AV.int IntKind.i64) fr,es:=1,ver:=0,frozen:=false,clean:=true }],[(decide (j < m)) == true,decide (0 <= nx),decide (nx.toNat < (List.map G2.a gs).length),decide (0 <= j),decide (j.toNat < (List.map G2.a gs).length),decide (0 <= nx),decide (nx.toNat < (List.map (AV.int IntKind.i64) w).length),decide (0 <= j),decide (j.toNat < (List.map (AV.int IntKind.i64) w).length),true,decide (0 <= j),decide (j.toNat < (List.map AV.bool dn).length),true,!((!dn.getD j.toNat default) == true && true) || true,!((!dn.getD j.toNat default) == true && true) || decide (0 <= j),!((!dn.getD j.toNat default) == true && true) || decide (j.toNat < (List.map (AV.int IntKind.i64) co).length),!((!dn.getD j.toNat default) == true && true) || true],[((List.map G2.a gs).get?Internal nx.toNat = some (AV.agg [AV.int IntKind.i64 (gs.getD nx.toNat default).x,AV.int IntKind.i64 (gs.getD nx.toNat default).y])),((List.map G2.a gs).get?Internal j.toNat = some (AV.agg [AV.int IntKind.i64 (gs.getD j.toNat default).x,AV.int IntKind.i64 (gs.getD j.toNat default).y])),((List.map (AV.int IntKind.i64) w).get?Internal nx.toNat = some (AV.int IntKind.i64 (w.getD nx.toNat default))),((List.map (AV.int IntKind.i64) w).get?Internal j.toNat = some (AV.int IntKind.i64 (w.getD j.toNat default))),((List.map AV.bool dn).get?Internal j.toNat = some (AV.bool (dn.getD j.toNat default))),(((!dn.getD j.toNat default) == true && true) = true -> (List.map (AV.int IntKind.i64) co).get?Internal j.toNat = some (AV.int IntKind.i64 (co.getD j.toNat default)))],[⟨true,false,61,[AV.agg [AV.int IntKind.i64 (gs.getD nx.toNat default).x,AV.int IntKind.i64 (gs.getD nx.toNat default).y],AV.agg [AV.int IntKind.i64 (gs.getD j.toNat default).x,AV.int IntKind.i64 (gs.getD j.toNat default).y]],[],AV.int IntKind.i64 (Sp.dist (gs.getD nx.toNat default).x (gs.getD nx.toNat default).y (gs.getD j.toNat default).x (gs.getD j.toNat default).y),[]⟩]⟩ (by kernel_rfl) (allB_cons (beq_t (i1.2 d2)) (allB_cons (i4.2 k5) (allB_cons (i7.2 k8) (allB_cons (i9.2 k10) (allB_cons (i11.2 k12) (allB_cons (i13.2 k5) (allB_cons (i15.2 k16) (allB_cons (i17.2 k10) (allB_cons (i18.2 k19) (allB_cons rfl (allB_cons (i24.2 k10) (allB_cons (i26.2 k27) (allB_cons rfl (allB_cons (Bool.or_true _) (allB_cons (i28.2 (fun _ => k10)) (allB_cons (i30.2 k31) (allB_cons (Bool.or_true _) allB_nil))))))))))))))))) (allP_cons (el_map k8) (allP_cons (el_map k12) (allP_cons (el_map k16) (allP_cons (el_map k19) (allP_cons (el_map k27) (allP_cons (fun h => el_map (k31 (i32.1 h))) allP_nil)))))) (allC_cons (fun _ => ((@ev61 ((gs.getD nx.toNat default).x) ((gs.getD nx.toNat default).y) ((gs.getD j.toNat default).x) ((gs.getD j.toNat default).y) k3):Ev M1 (Conf.pure 61 [AV.agg [AV.int IntKind.i64 (gs.getD nx.toNat default).x,AV.int IntKind.i64 (gs.getD nx.toNat default).y],AV.agg [AV.int IntKind.i64 (gs.getD j.toNat default).x,AV.int IntKind.i64 (gs.getD j.toNat default).y]]) (AV.int IntKind.i64 (Sp.dist (gs.getD nx.toNat default).x (gs.getD nx.toNat default).y (gs.getD j.toNat default).x (gs.getD j.toNat default).y)) [])) allC_nil) ?_
  rcases Classical.em ((¬(dn.getD j.toNat default = true)) /\ (Sp.dist (gs.getD nx.toNat default).x (gs.getD nx.toNat default).y (gs.getD j.toNat default).x (gs.getD j.toNat default).y + w.getD nx.toNat default + w.getD j.toNat default < co.getD j.toNat default)) with d34 | d34
  ·have H:=H.1 d34
   have i35:(decide (0 <= j)) = true ↔ (0 <= j):=i_dec
   have i36:(decide (j.toNat < (List.map (AV.int IntKind.i64) co).length)) = true ↔ (j.toNat < co.length):=(by (try rw [w29]);all_goals exact i_dec)
   have k37:=H.1;have H:=H.2
   have i38:(decide (0 <= j)) = true ↔ (0 <= j):=i_dec
   have w39:(List.map (AV.int IntKind.i64) fr).length = fr.length:=List.length_map ..
   have i40:(decide (j.toNat < (List.map (AV.int IntKind.i64) fr).length)) = true ↔ (j.toNat < fr.length):=(by (try rw [w39]);all_goals exact i_dec)
   have k41:=H.1;have H:=H.2
   have w42:(List.map (AV.int IntKind.i64) co).set j.toNat (AV.int IntKind.i64 (Sp.dist (gs.getD nx.toNat default).x (gs.getD nx.toNat default).y (gs.getD j.toNat default).x (gs.getD j.toNat default).y + w.getD nx.toNat default + w.getD j.toNat default)) = List.map (AV.int IntKind.i64) (co.set j.toNat (Sp.dist (gs.getD nx.toNat default).x (gs.getD nx.toNat default).y (gs.getD j.toNat default).x (gs.getD j.toNat default).y + w.getD nx.toNat default + w.getD j.toNat default)):=(lm_set rfl rfl)
   have w43:(List.map (AV.int IntKind.i64) fr).set j.toNat (AV.int IntKind.i64 nx) = List.map (AV.int IntKind.i64) (fr.set j.toNat nx):=(lm_set rfl rfl)
   have k44:=H.1;have H:=H.2
   have w45:IntKind.i64.wrap (j + 1) = j + 1:=wI64 k44
   exact path_wp (G:=given kp94 [(32,7,.elem (AV.int IntKind.i64 (co.getD j.toNat default))),(32,9,.elem (AV.int IntKind.i64 (fr.getD j.toNat default)))] []) 1000 [true] ⟨(atC (cd Try.f94) [1,1,1,1,1,1,1,1,1,0,1,0,0,1,1,0,0,1,1,1,1,1,1,1,0,0]),[(0,AV.vec fl 2 (List.map G2.a gs)),(1,AV.vec fw 1 (List.map (AV.int IntKind.i64) w)),(6,AV.row 0 0),(7,AV.row 1 0),(8,AV.row 2 0),(9,AV.row 3 0),(11,AV.int IntKind.i64 s),(12,AV.int IntKind.i64 nx),(62,AV.int IntKind.i64 n),(63,AV.int IntKind.i64 i),(117,AV.int IntKind.i64 m),(118,AV.int IntKind.i64 (IntKind.i64.wrap (j + 1)))],[{ elems:=List.map (AV.int IntKind.i64) ps,es:=1,ver:=0,frozen:=false,clean:=true },{ elems:=List.map AV.bool dn,es:=1,ver:=0,frozen:=false,clean:=true },{ elems:=(List.map (AV.int IntKind.i64) co).set j.toNat (AV.int IntKind.i64 (IntKind.i64.wrap (IntKind.i64.wrap (Sp.dist (gs.getD nx.toNat default).x (gs.getD nx.toNat default).y (gs.getD j.toNat default).x (gs.getD j.toNat default).y + w.getD nx.toNat default) + w.getD j.toNat default))),es:=1,ver:=0,frozen:=false,clean:=true },{ elems:=(List.map (AV.int IntKind.i64) fr).set j.toNat (AV.int IntKind.i64 nx),es:=1,ver:=0,frozen:=false,clean:=true }],[(bif !dn.getD j.toNat default then decide (IntKind.i64.wrap (IntKind.i64.wrap (Sp.dist (gs.getD nx.toNat default).x (gs.getD nx.toNat default).y (gs.getD j.toNat default).x (gs.getD j.toNat default).y + w.getD nx.toNat default) + w.getD j.toNat default) < co.getD j.toNat default) else false) == true,true,decide (0 <= j),decide (j.toNat < (List.map (AV.int IntKind.i64) co).length),true,true,decide (0 <= j),decide (j.toNat < (List.map (AV.int IntKind.i64) fr).length),true],[((List.map (AV.int IntKind.i64) co).get?Internal j.toNat = some (AV.int IntKind.i64 (co.getD j.toNat default))),((List.map (AV.int IntKind.i64) fr).get?Internal j.toNat = some (AV.int IntKind.i64 (fr.getD j.toNat default)))],[]⟩ (by kernel_rfl) (allB_cons (beq_t (i33.2 d34)) (allB_cons rfl (allB_cons (i35.2 k10) (allB_cons (i36.2 k37) (allB_cons rfl (allB_cons rfl (allB_cons (i38.2 k10) (allB_cons (i40.2 k41) (allB_cons rfl allB_nil))))))))) (allP_cons (el_map k37) (allP_cons (el_map k41) allP_nil)) allC_nil (by (try rw [w21]);(try rw [w23]);(try rw [w42]);(try rw [w43]);(try rw [w45]);all_goals exact H)
  ·have H:=H.2 d34
   have k46:=H.1;have H:=H.2
   have w47:IntKind.i64.wrap (j + 1) = j + 1:=wI64 k46
   exact path_wp (G:=given kp94 [] []) 1000 [false] ⟨(atC (cd Try.f94) [1,1,1,1,1,1,1,1,1,0,1,0,0,1,1,0,0,1,1,1,1,1,1,1,0,0]),[(0,AV.vec fl 2 (List.map G2.a gs)),(1,AV.vec fw 1 (List.map (AV.int IntKind.i64) w)),(6,AV.row 0 0),(7,AV.row 1 0),(8,AV.row 2 0),(9,AV.row 3 0),(11,AV.int IntKind.i64 s),(12,AV.int IntKind.i64 nx),(62,AV.int IntKind.i64 n),(63,AV.int IntKind.i64 i),(117,AV.int IntKind.i64 m),(118,AV.int IntKind.i64 (IntKind.i64.wrap (j + 1)))],[{ elems:=List.map (AV.int IntKind.i64) ps,es:=1,ver:=0,frozen:=false,clean:=true },{ elems:=List.map AV.bool dn,es:=1,ver:=0,frozen:=false,clean:=true },{ elems:=List.map (AV.int IntKind.i64) co,es:=1,ver:=0,frozen:=false,clean:=true },{ elems:=List.map (AV.int IntKind.i64) fr,es:=1,ver:=0,frozen:=false,clean:=true }],[(bif !dn.getD j.toNat default then decide (IntKind.i64.wrap (IntKind.i64.wrap (Sp.dist (gs.getD nx.toNat default).x (gs.getD nx.toNat default).y (gs.getD j.toNat default).x (gs.getD j.toNat default).y + w.getD nx.toNat default) + w.getD j.toNat default) < co.getD j.toNat default) else false) == false],[],[]⟩ (by kernel_rfl) (allB_cons (beq_f (fun h => d34 (i33.1 h))) allB_nil) allP_nil allC_nil (by (try rw [w47]);all_goals exact H)
 ·have H:=H.2 d2
  have k48:=H.1;have H:=H.2
  have w49:IntKind.i64.wrap (i + 1) = i + 1:=wI64 k48
  exact path_wp (G:=given kp94 [] []) 1000 [false] ⟨(atC (cd Try.f94) [1,1,1,1,1,1,1,1,1,0,1,0,0]),[(0,AV.vec fl 2 (List.map G2.a gs)),(1,AV.vec fw 1 (List.map (AV.int IntKind.i64) w)),(6,AV.row 0 0),(7,AV.row 1 0),(8,AV.row 2 0),(9,AV.row 3 0),(11,AV.int IntKind.i64 s),(62,AV.int IntKind.i64 n),(63,AV.int IntKind.i64 (IntKind.i64.wrap (i + 1)))],[{ elems:=List.map (AV.int IntKind.i64) ps,es:=1,ver:=0,frozen:=false,clean:=true },{ elems:=List.map AV.bool dn,es:=1,ver:=0,frozen:=false,clean:=true },{ elems:=List.map (AV.int IntKind.i64) co,es:=1,ver:=0,frozen:=false,clean:=true },{ elems:=List.map (AV.int IntKind.i64) fr,es:=1,ver:=0,frozen:=false,clean:=true }],[(decide (j < m)) == false],[],[]⟩ (by kernel_rfl) (allB_cons (beq_f (fun h => d2 (i1.1 h))) allB_nil) allP_nil allC_nil (by (try rw [w49]);all_goals exact H)
end Go.Av

namespace Go.Av
open Go.Proofs
set_option maxRecDepth 100000
end Go.Av

namespace Go.Av
open Go.Proofs
namespace Sp
def cw (gs:List G2) (w:List Int) (i j:Int):Int:=dAt gs i j + w.getD i.toNat default + w.getD j.toNat default
noncomputable def rest (gs:List G2) (w:List Int) (S:List Int):Int:=Mst.rem (cw gs w) gs.length S
noncomputable def mst (gs:List G2) (w:List Int):Int:=if gs.length = 0 then 0 else rest gs w [0]
def okW (w:List Int):Prop:=∀ x ∈ w,-20000000 <= x /\ x <= 20000000
end Sp
theorem dAt_symm (gs:List G2) (i j:Int):Sp.dAt gs i j = Sp.dAt gs j i:=by
 unfold Sp.dAt Sp.dist Sp.gap
 (repeat' split) <;> omega
theorem cw_symm (gs:List G2) (w:List Int) (i j:Int):Sp.cw gs w i j = Sp.cw gs w j i:=by
 unfold Sp.cw
 rw [dAt_symm];omega
theorem okW_at {w:List Int} (h:Sp.okW w) (k:Nat):-20000000 <= w.getD k default /\ w.getD k default <= 20000000:=by
 by_cases hk:k < w.length
 ·exact h _ (getD_mem hk)
 ·have:w.getD k default = 0:=by simp [List.getD_eq_getElem?_getD,List.getElem?_eq_none (by omega:w.length <= k)]
  omega
theorem cw_le {gs:List G2} {w:List Int} (hg:Sp.okG gs) (hw:Sp.okW w) (i j:Int):-40000000 <= Sp.cw gs w i j /\ Sp.cw gs w i j <= 60000000:=by
 have h1:=dAt_le hg i j
 have h2:=okW_at hw i.toNat
 have h3:=okW_at hw j.toNat
 unfold Sp.cw
 omega
theorem mem_getD {o:List Int} {x:Int} (h:x ∈ o):∃ i,i < o.length /\ o.getD i default = x:=by
 obtain ⟨i,hi,rfl⟩:=List.getElem_of_mem h
 exact ⟨i,hi,by simp [hi]⟩
end Go.Av

namespace Go.Av
open Go.Proofs
namespace Sp
def pickC (dn:List Bool) (co:List Int):Nat -> Nat -> Int -> Int
 | 0,_,nx => nx
 | k + 1,j,nx => pickC dn co k (j + 1) (if ¬dn.getD j default = true /\ (nx < 0 \/ co.getD j default < co.getD nx.toNat default) then j else nx)
def updC (gs:List G2) (w:List Int) (dn:List Bool) (nx:Int):Nat -> Nat -> List Int -> List Int -> List Int × List Int
 | 0,_,co,fr => (co,fr)
 | k + 1,j,co,fr => if ¬dn.getD j default = true /\ cw gs w nx j < co.getD j default then updC gs w dn nx k (j + 1) (co.set j (cw gs w nx j)) (fr.set j nx) else updC gs w dn nx k (j + 1) co fr
def psUp (ps fr:List Int) (nx:Int):List Int:=
 (ps.set nx.toNat (ps.getD nx.toNat default + 1)).set (fr.getD nx.toNat default).toNat ((ps.set nx.toNat (ps.getD nx.toNat default + 1)).getD (fr.getD nx.toNat default).toNat default + 1)
def spanP (gs:List G2) (w:List Int):Nat -> List Int -> List Int -> List Int -> List Bool -> List Int
 | 0,ps,_,_,_ => ps
 | k + 1,ps,co,fr,dn =>
  spanP gs w k (psUp ps fr (pickC dn co gs.length 0 (-1))) (updC gs w (dn.set (pickC dn co gs.length 0 (-1)).toNat true) (pickC dn co gs.length 0 (-1)) gs.length 0 co fr).1
   (updC gs w (dn.set (pickC dn co gs.length 0 (-1)).toNat true) (pickC dn co gs.length 0 (-1)) gs.length 0 co fr).2 (dn.set (pickC dn co gs.length 0 (-1)).toNat true)
def cost0 (gs:List G2) (w:List Int):Nat -> Nat -> List Int -> List Int
 | 0,_,co => co
 | k + 1,j,co => cost0 gs w k (j + 1) (co.set j (cw gs w 0 j))
def zeros (n:Nat):List Int:=List.replicate n 0
def spanPairs (gs:List G2) (w:List Int):List Int:=
 if gs.length = 0 then [] else spanP gs w (gs.length - 1) (zeros gs.length) (cost0 gs w gs.length 0 (zeros gs.length)) (zeros gs.length) ((List.replicate gs.length false).set 0 true)
end Sp
theorem getD_set {α:Type} [Inhabited α] {l:List α} {i j:Nat} {x:α} (hi:i < l.length):(l.set i x).getD j default = if i = j then x else l.getD j default:=by
 rw [List.getD_eq_getElem?_getD,List.getElem?_set]
 split
 ·rfl
 ·rw [List.getD_eq_getElem?_getD]
theorem zeros_getD (n j:Nat):(Sp.zeros n).getD j default = 0:=by
 simp only [Sp.zeros,List.getD_eq_getElem?_getD,List.getElem?_replicate]
 split <;> rfl
theorem pickC_facts {dn:List Bool} {co:List Int} {n:Nat}:∀ (k j:Nat) (nx:Int),j + k = n ->
  ((nx = -1 /\ ∀ y,y < j -> dn.getD y default = true) \/ ((0 <= nx /\ nx < n /\ ¬dn.getD nx.toNat default = true) /\ ∀ y,y < j -> ¬dn.getD y default = true -> co.getD nx.toNat default <= co.getD y default)) ->
  ((Sp.pickC dn co k j nx = -1 /\ ∀ y,y < n -> dn.getD y default = true) \/ ((0 <= Sp.pickC dn co k j nx /\ Sp.pickC dn co k j nx < n /\ ¬dn.getD (Sp.pickC dn co k j nx).toNat default = true) /\ ∀ y,y < n -> ¬dn.getD y default = true -> co.getD (Sp.pickC dn co k j nx).toNat default <= co.getD y default))
 | 0,j,nx,hj,h => by rw [Nat.add_zero] at hj;subst hj;exact h
 | k + 1,j,nx,hj,h => by
  rw [Sp.pickC]
  refine pickC_facts k (j + 1) _ (by omega) ?_
  split
  ·rename_i hc
   refine .inr ⟨⟨by omega,by omega,by rw [Int.toNat_natCast];exact hc.1⟩,fun y hy hd => ?_⟩
   rw [Int.toNat_natCast]
   by_cases hyj:y = j
   ·subst hyj;exact Int.le_refl _
   ·rcases h with ⟨h1,h2⟩ | ⟨h1,h2⟩
    ·exact absurd (h2 y (by omega)) hd
    ·have:=h2 y (by omega) hd
     have:=hc.2
     omega
  ·rename_i hc
   rcases h with ⟨h1,h2⟩ | ⟨h1,h2⟩
   ·refine .inl ⟨h1,fun y hy => ?_⟩
    by_cases hyj:y = j
    ·subst hyj
     by_cases hd:dn.getD y default = true
     ·exact hd
     ·exact absurd ⟨hd,.inl (by omega)⟩ hc
    ·exact h2 y (by omega)
   ·refine .inr ⟨h1,fun y hy hd => ?_⟩
    by_cases hyj:y = j
    ·subst hyj
     by_cases hlt:co.getD y default < co.getD nx.toNat default
     ·exact absurd ⟨hd,.inr hlt⟩ hc
     ·omega
    ·exact h2 y (by omega) hd
theorem updC_facts {gs:List G2} {w:List Int} {dn:List Bool} {nx:Int} {n:Nat}:∀ (k j:Nat) (co fr:List Int),j + k = n -> co.length = n -> fr.length = n ->
  (Sp.updC gs w dn nx k j co fr).1.length = n /\ (Sp.updC gs w dn nx k j co fr).2.length = n /\
  ∀ y,y < n -> (Sp.updC gs w dn nx k j co fr).1.getD y default = (if j <= y /\ ¬dn.getD y default = true /\ Sp.cw gs w nx y < co.getD y default then Sp.cw gs w nx y else co.getD y default) /\
   ((Sp.updC gs w dn nx k j co fr).2.getD y default = fr.getD y default \/ (Sp.updC gs w dn nx k j co fr).2.getD y default = nx)
 | 0,j,co,fr,hj,hc,hf => by
  refine ⟨hc,hf,fun y hy => ⟨?_,.inl rfl⟩⟩
  rw [if_neg (by omega)];rfl
 | k + 1,j,co,fr,hj,hc,hf => by
  rw [Sp.updC]
  split
  ·rename_i h
   obtain ⟨h1,h2,h3⟩:=updC_facts (gs:=gs) (w:=w) (dn:=dn) (nx:=nx) (n:=n) k (j + 1) (co.set j (Sp.cw gs w nx j)) (fr.set j nx) (by omega) (by simpa using hc) (by simpa using hf)
   refine ⟨h1,h2,fun y hy => ?_⟩
   obtain ⟨k1,k2⟩:=h3 y hy
   rw [k1]
   rw [getD_set (by omega)] at k2 ⊢
   by_cases hyj:j = y
   ·subst hyj
    rw [if_pos rfl] at k2 ⊢
    refine ⟨?_,.inr (by rcases k2 with k2 | k2 <;> exact k2)⟩
    rw [if_neg (by omega),if_pos ⟨by omega,h.1,h.2⟩]
   ·rw [if_neg hyj] at k2 ⊢
    refine ⟨?_,k2⟩
    have e:(j + 1 <= y ↔ j <= y):=by omega
    simp only [e]
  ·rename_i h
   obtain ⟨h1,h2,h3⟩:=updC_facts (gs:=gs) (w:=w) (dn:=dn) (nx:=nx) (n:=n) k (j + 1) co fr (by omega) hc hf
   refine ⟨h1,h2,fun y hy => ?_⟩
   obtain ⟨k1,k2⟩:=h3 y hy
   refine ⟨?_,k2⟩
   rw [k1]
   by_cases hyj:j = y
   ·subst hyj
    rw [if_neg (by omega),if_neg (fun x => h ⟨x.2.1,x.2.2⟩)]
   ·have e:(j + 1 <= y ↔ j <= y):=by omega
    simp only [e]
theorem cost0_facts {gs:List G2} {w:List Int} {n:Nat}:∀ (k j:Nat) (co:List Int),j + k = n -> co.length = n ->
  (Sp.cost0 gs w k j co).length = n /\ ∀ y,y < n -> (Sp.cost0 gs w k j co).getD y default = if j <= y then Sp.cw gs w 0 y else co.getD y default
 | 0,j,co,hj,hc => by
  refine ⟨hc,fun y hy => ?_⟩
  rw [if_neg (by omega)];rfl
 | k + 1,j,co,hj,hc => by
  rw [Sp.cost0]
  obtain ⟨h1,h2⟩:=cost0_facts (gs:=gs) (w:=w) (n:=n) k (j + 1) (co.set j (Sp.cw gs w 0 j)) (by omega) (by simpa using hc)
  refine ⟨h1,fun y hy => ?_⟩
  rw [h2 y hy,getD_set (by omega)]
  by_cases hyj:j = y
  ·subst hyj;rw [if_neg (by omega),if_pos rfl,if_pos (by omega)]
  ·have e:(j + 1 <= y ↔ j <= y):=by omega
   simp only [e,if_neg hyj]
structure SpI (gs:List G2) (w:List Int) (k:Nat) (o ps co fr:List Int) (dn:List Bool):Prop where
 len:o.length + k = gs.length
 nod:o.Nodup
 rng:∀ x ∈ o,0 <= x /\ x < (gs.length:Int)
 ne:o ≠ []
 dnl:dn.length = gs.length
 col:co.length = gs.length
 frl:fr.length = gs.length
 psl:ps.length = gs.length
 dne:∀ j:Nat,j < gs.length -> dn.getD j default = Sp.has o j
 coe:∀ j:Nat,j < gs.length -> (j:Int) ∉ o -> (∃ a ∈ o,co.getD j default = Sp.cw gs w a j) /\ ∀ x ∈ o,co.getD j default <= Sp.cw gs w x j
 fre:∀ j:Nat,j < gs.length -> 0 <= fr.getD j default /\ fr.getD j default < gs.length
 pse:∀ j:Nat,j < gs.length -> 0 <= ps.getD j default /\ ps.getD j default <= 2 * (1000 - k)
theorem SpI.pick {gs:List G2} {w:List Int} {k:Nat} {o ps co fr:List Int} {dn:List Bool} (h:SpI gs w (k + 1) o ps co fr dn) {nx:Int} (hx:nx = Sp.pickC dn co gs.length 0 (-1)) :
  0 <= nx /\ nx < gs.length /\ nx ∉ o /\ (∃ a ∈ o,co.getD nx.toNat default = Sp.cw gs w a nx) /\ ∀ x ∈ o,∀ y:Int,0 <= y /\ y < gs.length -> y ∉ o -> co.getD nx.toNat default <= Sp.cw gs w x y:=by
 have hf:=pickC_facts (dn:=dn) (co:=co) (n:=gs.length) gs.length 0 (-1) (by omega) (.inl ⟨rfl,fun y hy => by omega⟩)
 rw [<- hx] at hf
 rcases hf with ⟨h1,h2⟩ | ⟨⟨h1,h2,h3⟩,h4⟩
 ·have:=il_ge gs.length o (fun j hj => by
   have:=h2 j hj
   rw [h.dne j hj] at this
   exact has_iff.1 this)
  have:=h.len
  omega
 ·have en:((nx.toNat:Nat):Int) = nx:=Int.toNat_of_nonneg h1
  have hno:nx ∉ o:=by
   rw [h.dne _ (by omega),has_iff,en] at h3
   exact h3
  have hce:=h.coe nx.toNat (by omega) (by rw [en];exact hno)
  rw [en] at hce
  refine ⟨h1,h2,hno,hce.1,fun x hxo y hy hyo => ?_⟩
  have ey:((y.toNat:Nat):Int) = y:=Int.toNat_of_nonneg hy.1
  have a:=h4 y.toNat (by omega) (by rw [h.dne _ (by omega),has_iff,ey];exact hyo)
  have b:=(h.coe y.toNat (by omega) (by rw [ey];exact hyo)).2 x hxo
  rw [ey] at b
  omega
theorem SpI.psl' {gs:List G2} {w:List Int} {k:Nat} {o ps co fr:List Int} {dn:List Bool} (h:SpI gs w (k + 1) o ps co fr dn) (hk:gs.length <= 1000) {nx:Int} (hx:0 <= nx /\ nx < gs.length) :
  (Sp.psUp ps fr nx).length = gs.length /\ ∀ j:Nat,j < gs.length -> 0 <= (Sp.psUp ps fr nx).getD j default /\ (Sp.psUp ps fr nx).getD j default <= 2 * (1000 - k):=by
 have hf:=h.fre nx.toNat (by omega)
 have hl:=h.psl
 refine ⟨by simp [Sp.psUp,hl],fun j hj => ?_⟩
 unfold Sp.psUp
 rw [getD_set (by rw [List.length_set];omega)]
 have hj1:=h.pse j hj
 have hj2:=h.pse nx.toNat (by omega)
 have hj3:=h.pse (fr.getD nx.toNat default).toNat (by omega)
 rw [getD_set (by omega),getD_set (by omega)]
 (repeat' split) <;> omega
theorem SpI.next {gs:List G2} {w:List Int} {k:Nat} {o ps co fr:List Int} {dn:List Bool} (h:SpI gs w (k + 1) o ps co fr dn) (hk:gs.length <= 1000) {nx:Int} (hx:nx = Sp.pickC dn co gs.length 0 (-1)) :
  SpI gs w k (o ++ [nx]) (Sp.psUp ps fr nx) (Sp.updC gs w (dn.set nx.toNat true) nx gs.length 0 co fr).1 (Sp.updC gs w (dn.set nx.toNat true) nx gs.length 0 co fr).2 (dn.set nx.toNat true):=by
 obtain ⟨p1,p2,p3,p4,p5⟩:=h.pick hx
 obtain ⟨u1,u2,u3⟩:=updC_facts (gs:=gs) (w:=w) (dn:=dn.set nx.toNat true) (nx:=nx) (n:=gs.length) gs.length 0 co fr (by omega) h.col h.frl
 have hdn:=has_app h.dnl h.dne ⟨p1,p2⟩
 refine ⟨by have:=h.len;simp;omega,Mst.nodup_snoc h.nod p3,Mst.rng_snoc h.rng ⟨p1,p2⟩,by simp,by simpa using h.dnl,u1,u2,(h.psl' hk ⟨p1,p2⟩).1,hdn,fun j hj hjo => ?_,fun j hj => ?_,(h.psl' hk ⟨p1,p2⟩).2⟩
 ·have hjo':(j:Int) ∉ o /\ (j:Int) ≠ nx:=by simpa using hjo
  have hd:¬(dn.set nx.toNat true).getD j default = true:=by rw [hdn j hj,has_iff];exact hjo
  obtain ⟨⟨a,c1,c2⟩,c3⟩:=h.coe j hj hjo'.1
  rw [(u3 j hj).1]
  split
  ·rename_i hlt
   refine ⟨⟨nx,by simp,rfl⟩,fun x hxo => ?_⟩
   rcases List.mem_append.1 hxo with hxo | hxo
   ·have:=c3 x hxo;have:=hlt.2.2;omega
   ·simp only [List.mem_singleton] at hxo;subst hxo;exact Int.le_refl _
  ·rename_i hlt
   refine ⟨⟨a,by simp [c1],c2⟩,fun x hxo => ?_⟩
   rcases List.mem_append.1 hxo with hxo | hxo
   ·exact c3 x hxo
   ·simp only [List.mem_singleton] at hxo;subst hxo
    by_cases hl:Sp.cw gs w x j < co.getD j default
    ·exact absurd ⟨by omega,hd,hl⟩ hlt
    ·omega
 ·rcases (u3 j hj).2 with e | e
  ·rw [e];exact h.fre j hj
  ·rw [e];exact ⟨p1,p2⟩
theorem loop36d {fl fw:Bool} {gs:List G2} {w ps:List Int} {dn:List Bool} {s nx:Int} {n:Nat} {i:Nat} {dq:AV} (hg:Sp.okG gs) (hl:gs.length <= 1000) (hw:Sp.okW w) (hwl:w.length = gs.length) (hd:dn.length = gs.length) (hx:0 <= nx /\ nx < gs.length) (hi:i <= 1000) :
  ∀ (k j:Nat) (co fr:List Int),j + k = gs.length -> co.length = gs.length -> fr.length = gs.length -> tv36b_at fl fw gs w ps (Sp.updC gs w dn nx k j co fr).1 (Sp.updC gs w dn nx k j co fr).2 dn s n (i + 1:Nat) (PureQ dq) -> tv36d_at fl fw gs w ps co fr dn s nx n i gs.length j (PureQ dq):=by
 intro k
 induction k with
 | zero =>
  intro j co fr hj hc hf hq
  exact tv36d _ _ _ _ _ _ _ _ _ _ _ _ _ _ _ ⟨fun h => by omega,fun _ => ⟨by omega,hq⟩⟩
 | succ k ih =>
  intro j co fr hj hc hf hq
  rw [Sp.updC] at hq
  refine tv36d _ _ _ _ _ _ _ _ _ _ _ _ _ _ _ ⟨fun _ => ?_,fun h => by omega⟩
  rw [Int.toNat_natCast]
  have e:Sp.dist (gs.getD nx.toNat default).x (gs.getD nx.toNat default).y (gs.getD j default).x (gs.getD j default).y + w.getD nx.toNat default + w.getD j default = Sp.cw gs w nx j:=rfl
  have e2:Sp.dist (gs.getD nx.toNat default).x (gs.getD nx.toNat default).y (gs.getD j default).x (gs.getD j default).y = Sp.dAt gs nx j:=rfl
  rw [e,e2]
  have h1:=cw_le hg hw nx j
  have h2:=dAt_le hg nx j
  have h3:=okW_at hw nx.toNat
  refine ⟨⟨(okG_at hg _).1,(okG_at hg _).2,(okG_at hg _).1,(okG_at hg _).2⟩,hx.1,by omega,by omega,by omega,by omega,by omega,by omega,by omega,by omega,fun _ => by omega,fun h => ⟨by omega,by omega,by omega,?_⟩,fun h => ⟨by omega,?_⟩⟩
  ·rw [if_pos h] at hq
   exact ih (j + 1) _ _ (by omega) (by simpa using hc) (by simpa using hf) hq
  ·rw [if_neg h] at hq
   exact ih (j + 1) _ _ (by omega) hc hf hq
theorem loop36c {fl fw:Bool} {gs:List G2} {w:List Int} {k i:Nat} {o ps co fr:List Int} {dn:List Bool} {s:Int} {n:Nat} {dq:AV} (hg:Sp.okG gs) (hl:gs.length <= 1000) (hw:Sp.okW w) (hwl:w.length = gs.length) (hI:SpI gs w (k + 1) o ps co fr dn) (hs:-1000000000000 <= s /\ s <= 1000000000000) (hi:i <= 1000)
  (cont:∀ nx,nx = Sp.pickC dn co gs.length 0 (-1) -> tv36b_at fl fw gs w (Sp.psUp ps fr nx) (Sp.updC gs w (dn.set nx.toNat true) nx gs.length 0 co fr).1 (Sp.updC gs w (dn.set nx.toNat true) nx gs.length 0 co fr).2 (dn.set nx.toNat true) (s + co.getD nx.toNat default) n (i + 1:Nat) (PureQ dq)) :
  ∀ (r j:Nat) (nx:Int),j + r = gs.length -> (nx < 0 \/ (0 <= nx /\ nx < gs.length)) -> Sp.pickC dn co r j nx = Sp.pickC dn co gs.length 0 (-1) -> tv36c_at fl fw gs w ps co fr dn s nx n i gs.length j (PureQ dq):=by
 have hdl:=hI.dnl
 have hcl:=hI.col
 have hfl:=hI.frl
 have hpl:=hI.psl
 intro r
 induction r with
 | zero =>
  intro j nx hj hn hp
  rw [Sp.pickC] at hp
  obtain ⟨p1,p2,p3,⟨a,p4,p5⟩,p6⟩:=hI.pick hp
  have hc:=cw_le hg hw a nx
  have hps:=hI.pse nx.toNat (by omega)
  have hfr:=hI.fre nx.toNat (by omega)
  have hps2:=hI.pse (fr.getD nx.toNat default).toNat (by omega)
  refine tv36c _ _ _ _ _ _ _ _ _ _ _ _ _ _ _ ⟨fun h => by omega,fun _ => ⟨p1,by omega,by omega,by omega,by omega,by omega,by omega,hfr.1,by rw [List.length_set];omega,?_,?_⟩⟩
  ·rw [getD_set (by omega)]
   split <;> omega
  ·exact loop36d hg hl hw hwl (by simpa using hdl) ⟨p1,p2⟩ hi gs.length 0 co fr (by omega) hcl hfl (cont nx hp)
 | succ r ih =>
  intro j nx hj hn hp
  rw [Sp.pickC] at hp
  refine tv36c _ _ _ _ _ _ _ _ _ _ _ _ _ _ _ ⟨fun _ => ?_,fun h => by omega⟩
  rw [Int.toNat_natCast]
  refine ⟨by omega,by omega,fun _ => by omega,fun h => by omega,fun h => by omega,fun h => ⟨by omega,?_⟩,fun h => ⟨by omega,?_⟩⟩
  ·rw [if_pos h] at hp
   exact ih (j + 1) j (by omega) (by omega) hp
  ·rw [if_neg h] at hp
   exact ih (j + 1) nx (by omega) hn hp
theorem loop36b {fl fw:Bool} {gs:List G2} {w:List Int} {dq:AV} (hg:Sp.okG gs) (hl:gs.length <= 1000) (hw:Sp.okW w) (hwl:w.length = gs.length) :
  ∀ (k i:Nat) (o ps co fr:List Int) (dn:List Bool) (s:Int),SpI gs w k o ps co fr dn -> i + k + 1 = gs.length -> (-60000000 * (1000 - k) <= s /\ s <= 60000000 * (1000 - k)) -> AV.tup [.int .i64 (s + Sp.rest gs w o),isA false (Sp.spanP gs w k ps co fr dn)] = dq -> tv36b_at fl fw gs w ps co fr dn s (gs.length - 1:Nat) i (PureQ dq):=by
 intro k
 induction k with
 | zero =>
  intro i o ps co fr dn s hI hi hs hq
  have:Sp.rest gs w o = 0:=Mst.rem_full (cw_symm gs w) hI.nod hI.rng hI.ne (by have:=hI.len;omega)
  rw [this,Int.add_zero,Sp.spanP] at hq
  exact tv36b _ _ _ _ _ _ _ _ _ _ _ _ ⟨fun h => by omega,fun _ => by rw [<- hq];exact .refl _⟩
 | succ k ih =>
  intro i o ps co fr dn s hI hi hs hq
  refine tv36b _ _ _ _ _ _ _ _ _ _ _ _ ⟨fun _ => ?_,fun h => by omega⟩
  refine loop36c hg hl hw hwl hI (by omega) (by omega) (fun nx hx => ?_) gs.length 0 (-1) (by omega) (by omega) rfl
  obtain ⟨p1,p2,p3,⟨a,p4,p5⟩,p6⟩:=hI.pick hx
  have hc:=cw_le hg hw a nx
  have e:Sp.rest gs w o = co.getD nx.toNat default + Sp.rest gs w (o ++ [nx]):=Mst.rem_step (cw_symm gs w) hI.nod hI.rng p4 p3 ⟨p1,p2⟩ p5 p6
  refine ih (i + 1) (o ++ [nx]) _ _ _ _ _ (hI.next hl hx) (by omega) (by omega) ?_
  rw [<- hq,e,Int.add_assoc,Sp.spanP,<- hx]
theorem loop36a {fl fw:Bool} {gs:List G2} {w ps fr:List Int} {dn:List Bool} {dq:AV} (hg:Sp.okG gs) (hl:gs.length <= 1000) (hw:Sp.okW w) (hwl:w.length = gs.length) (h0:0 < gs.length) :
  ∀ (k j:Nat) (co:List Int),j + k = gs.length -> co.length = gs.length -> tv36b_at fl fw gs w ps (Sp.cost0 gs w k j co) fr dn 0 (gs.length - 1:Nat) 0 (PureQ dq) -> tv36a_at fl fw gs w ps co fr dn gs.length j (PureQ dq):=by
 intro k
 induction k with
 | zero =>
  intro j co hj hc hq
  have e:((gs.length:Int) - 1) = (gs.length - 1:Nat):=by omega
  exact tv36a _ _ _ _ _ _ _ _ _ _ _ ⟨fun h => by omega,fun _ => ⟨by omega,by rw [e];exact hq⟩⟩
 | succ k ih =>
  intro j co hj hc hq
  rw [Sp.cost0] at hq
  refine tv36a _ _ _ _ _ _ _ _ _ _ _ ⟨fun _ => ?_,fun h => by omega⟩
  rw [Int.toNat_natCast]
  have e:Sp.dist (gs.getD 0 default).x (gs.getD 0 default).y (gs.getD j default).x (gs.getD j default).y + w.getD 0 default + w.getD j default = Sp.cw gs w 0 j:=rfl
  have e2:Sp.dist (gs.getD 0 default).x (gs.getD 0 default).y (gs.getD j default).x (gs.getD j default).y = Sp.dAt gs 0 j:=rfl
  rw [e,e2]
  have h1:=cw_le hg hw 0 j
  have h2:=dAt_le hg 0 j
  have h3:=okW_at hw 0
  refine ⟨⟨(okG_at hg _).1,(okG_at hg _).2,(okG_at hg _).1,(okG_at hg _).2⟩,by omega,by omega,by omega,by omega,by omega,by omega,by omega,by omega,by omega,?_⟩
  exact ih (j + 1) _ (by omega) (by simpa using hc) hq
theorem ev94 (fl fw:Bool) (gs:List G2) (w:List Int) (h:Sp.okG gs /\ gs.length <= 1000 /\ Sp.okW w /\ w.length = gs.length):Ev M1 (.pure 94 [gsA fl gs,isA fw w]) (.tup [.int .i64 (Sp.mst gs w),isA false (Sp.spanPairs gs w)]) []:=by
 obtain ⟨hg,hl,hw,hwl⟩:=h
 refine call94 (tv36 fl fw gs w _ ⟨by omega,by omega,by omega,fun h0 => ?_,fun h0 => ⟨by omega,by simp;omega,?_⟩⟩)
 ·have h0:gs.length = 0:=by omega
  unfold Sp.mst Sp.spanPairs
  rw [if_pos h0,if_pos h0,h0]
  exact .refl _
 ·have h0':¬gs.length = 0:=by omega
  rw [Int.toNat_natCast]
  refine loop36a hg hl hw hwl (by omega) gs.length 0 _ (by omega) (by simp) ?_
  obtain ⟨c1,c2⟩:=cost0_facts (gs:=gs) (w:=w) (n:=gs.length) gs.length 0 (Sp.zeros gs.length) (by omega) (by simp [Sp.zeros])
  refine loop36b hg hl hw hwl (gs.length - 1) 0 [0] _ _ _ _ 0 ⟨by simp;omega,by simp,by simp;omega,by simp,by simp,c1,by simp,by simp,fun j hj => ?_,fun j hj hjo => ?_,fun j hj => ?_,fun j hj => ?_⟩ (by omega) (by omega) ?_
  ·rw [getD_set (by simp;omega)]
   by_cases hj0:j = 0
   ·subst hj0;simp [Sp.has]
   ·rw [if_neg (by omega),List.getD_eq_getElem?_getD,List.getElem?_replicate,if_pos hj]
    simp [Sp.has,hj0]
  ·refine ⟨⟨0,by simp,?_⟩,fun x hx => ?_⟩
   ·have:=c2 j hj
    rw [if_pos (by omega)] at this
    exact this
   ·simp only [List.mem_singleton] at hx
    subst hx
    have:=c2 j hj
    rw [if_pos (by omega)] at this
    exact Int.le_of_eq this
  ·have:=zeros_getD gs.length j
   unfold Sp.zeros at this
   rw [this];omega
  ·have:=zeros_getD gs.length j
   unfold Sp.zeros at this
   rw [this];omega
  ·unfold Sp.mst Sp.spanPairs
   rw [if_neg h0',if_neg h0',Int.zero_add]
   rfl
end Go.Av

namespace Go.Av
open Go.RowKit
def FshQ (d:AV) (row:Row):AV -> Heap -> Prop:=fun v L => ∃ j,(∀ r ∈ rowsA v,r = j) /\ renA (fun _ => 0) v = d /\ L[j]? = some row /\ row.clean = true
theorem fresh_sound {M:Mach} {f:FuncId} {args:List AV} {d:AV} {row:Row} (ih:OwnQ M f args [] (FshQ d row)):OwnQ M f args [] (isR d [row]):=by
 intro S cargs h1 h2 h3
 have hrows:getRows S.L [] = some []:=rfl
 have hcl:∀ row ∈ ([]:List Row),∀ r ∈ rowRefs row,r ∈ ([]:List Nat):=fun row hr => by cases hr
 obtain ⟨hSc,_,hrelc⟩:=sub_ok h1 hrows List.nodup_nil hcl
 have hno:∀ {a v},Rel S a v -> rowsA a = []:=fun {a v} h => by
  cases hr:rowsA a with
  | nil => rfl
  | cons r l => have:=rel_in h r (by rw [hr];exact List.mem_cons_self ..);rw [h2] at this;simp at this
 have hrel':RelL ⟨S.base,accOf S [],[],subβ S.β [],S.w⟩ args cargs:=by
  refine ⟨h3.1,fun i c cv hc hcv => ?_⟩
  have hri:=hno (h3.2 i c cv hc hcv)
  have:=hrelc c cv (h3.2 i c cv hc hcv) fun r hr => by rw [hri] at hr;cases hr
  rwa [renA_self fun r hr => by rw [hri] at hr;cases hr] at this
 obtain ⟨m1,m2⟩:=ih ⟨S.base,accOf S [],[],subβ S.β [],S.w⟩ cargs hSc rfl hrel'
 refine ⟨m1,Calls.mono m2 fun e w' he => ?_⟩
 cases e with
 | panicked c => exact he.elim
 | outgrown => exact he.elim
 | returned cv =>
  obtain ⟨v',L1,β1,⟨j,hj,rfl,hrow,hclean⟩,n1,n2,n3⟩:=he
  have hn:getRows L1 [j] = some [row]:=by simp [getRows,hrow]
  have hrr:rowRefs row = []:=by unfold rowRefs;rw [hclean];rfl
  obtain ⟨k1,k2,k3⟩:=back_ok (S1:=⟨S.base,accOf S [],L1,β1,w'⟩) (ns:=[j]) (new:=[row]) (old:=[]) h1 hrows List.nodup_nil hcl n1 n2 (by simp) (by simp) rfl hn
   (fun r hr q hq => by simp only [List.nil_append,List.mem_singleton] at hr;subst hr;rw [hrr] at hq;cases hq)
  have hLL:backL S.L [] [j] [] [row] = [row]:=by
   rw [h2]
   unfold backL renRow
   simp [hclean,putAt]
  have k3':=k3 v' cv n3 fun r hr => .inr (by simp [hj r hr])
  rw [renA_ext (g:=fun _ => 0) v' fun r hr => by rw [hj r hr,h2];simp [backOf,posOf]] at k3'
  rw [hLL] at k1 k2 k3'
  exact ⟨_,[row],_,⟨rfl,rfl⟩,k1,k2,k3'⟩
theorem own_fresh {M:Mach} (hm:(M.P ()).follows .mixedOrders = true) {f:FuncId} {args:List AV} {d:AV} {row:Row} (h:Wp M (.own f args []) (FshQ d row)):Ev M (.own f args []) d [row]:=
 .sem (fresh_sound (wp_sound hm (c:=.own f args []) h))
end Go.Av

namespace Go.Av
open Go.Proofs
theorem loopw36d {fl fw:Bool} {gs:List G2} {w ps:List Int} {dn:List Bool} {s nx:Int} {n:Nat} {i:Nat} {Q:AV -> Heap -> Prop} (hg:Sp.okG gs) (hl:gs.length <= 1000) (hw:Sp.okW w) (hwl:w.length = gs.length) (hd:dn.length = gs.length) (hx:0 <= nx /\ nx < gs.length) (hi:i <= 1000) :
  ∀ (k j:Nat) (co fr:List Int),j + k = gs.length -> co.length = gs.length -> fr.length = gs.length -> tv36b_at fl fw gs w ps (Sp.updC gs w dn nx k j co fr).1 (Sp.updC gs w dn nx k j co fr).2 dn s n (i + 1:Nat) Q -> tv36d_at fl fw gs w ps co fr dn s nx n i gs.length j Q:=by
 intro k
 induction k with
 | zero =>
  intro j co fr hj hc hf hq
  exact tw36d _ _ _ _ _ _ _ _ _ _ _ _ _ _ _ ⟨fun h => by omega,fun _ => ⟨by omega,hq⟩⟩
 | succ k ih =>
  intro j co fr hj hc hf hq
  rw [Sp.updC] at hq
  refine tw36d _ _ _ _ _ _ _ _ _ _ _ _ _ _ _ ⟨fun _ => ?_,fun h => by omega⟩
  rw [Int.toNat_natCast]
  have e:Sp.dist (gs.getD nx.toNat default).x (gs.getD nx.toNat default).y (gs.getD j default).x (gs.getD j default).y + w.getD nx.toNat default + w.getD j default = Sp.cw gs w nx j:=rfl
  have e2:Sp.dist (gs.getD nx.toNat default).x (gs.getD nx.toNat default).y (gs.getD j default).x (gs.getD j default).y = Sp.dAt gs nx j:=rfl
  rw [e,e2]
  have h1:=cw_le hg hw nx j
  have h2:=dAt_le hg nx j
  have h3:=okW_at hw nx.toNat
  refine ⟨⟨(okG_at hg _).1,(okG_at hg _).2,(okG_at hg _).1,(okG_at hg _).2⟩,hx.1,by omega,by omega,by omega,by omega,by omega,by omega,by omega,by omega,fun _ => by omega,fun h => ⟨by omega,by omega,by omega,?_⟩,fun h => ⟨by omega,?_⟩⟩
  ·rw [if_pos h] at hq
   exact ih (j + 1) _ _ (by omega) (by simpa using hc) (by simpa using hf) hq
  ·rw [if_neg h] at hq
   exact ih (j + 1) _ _ (by omega) hc hf hq
theorem loopw36c {fl fw:Bool} {gs:List G2} {w:List Int} {k i:Nat} {o ps co fr:List Int} {dn:List Bool} {s:Int} {n:Nat} {Q:AV -> Heap -> Prop} (hg:Sp.okG gs) (hl:gs.length <= 1000) (hw:Sp.okW w) (hwl:w.length = gs.length) (hI:SpI gs w (k + 1) o ps co fr dn) (hs:-1000000000000 <= s /\ s <= 1000000000000) (hi:i <= 1000)
  (cont:∀ nx,nx = Sp.pickC dn co gs.length 0 (-1) -> tv36b_at fl fw gs w (Sp.psUp ps fr nx) (Sp.updC gs w (dn.set nx.toNat true) nx gs.length 0 co fr).1 (Sp.updC gs w (dn.set nx.toNat true) nx gs.length 0 co fr).2 (dn.set nx.toNat true) (s + co.getD nx.toNat default) n (i + 1:Nat) Q) :
  ∀ (r j:Nat) (nx:Int),j + r = gs.length -> (nx < 0 \/ (0 <= nx /\ nx < gs.length)) -> Sp.pickC dn co r j nx = Sp.pickC dn co gs.length 0 (-1) -> tv36c_at fl fw gs w ps co fr dn s nx n i gs.length j Q:=by
 have hdl:=hI.dnl
 have hcl:=hI.col
 have hfl:=hI.frl
 have hpl:=hI.psl
 intro r
 induction r with
 | zero =>
  intro j nx hj hn hp
  rw [Sp.pickC] at hp
  obtain ⟨p1,p2,p3,⟨a,p4,p5⟩,p6⟩:=hI.pick hp
  have hc:=cw_le hg hw a nx
  have hps:=hI.pse nx.toNat (by omega)
  have hfr:=hI.fre nx.toNat (by omega)
  have hps2:=hI.pse (fr.getD nx.toNat default).toNat (by omega)
  refine tw36c _ _ _ _ _ _ _ _ _ _ _ _ _ _ _ ⟨fun h => by omega,fun _ => ⟨p1,by omega,by omega,by omega,by omega,by omega,by omega,hfr.1,by rw [List.length_set];omega,?_,?_⟩⟩
  ·rw [getD_set (by omega)]
   split <;> omega
  ·exact loopw36d hg hl hw hwl (by simpa using hdl) ⟨p1,p2⟩ hi gs.length 0 co fr (by omega) hcl hfl (cont nx hp)
 | succ r ih =>
  intro j nx hj hn hp
  rw [Sp.pickC] at hp
  refine tw36c _ _ _ _ _ _ _ _ _ _ _ _ _ _ _ ⟨fun _ => ?_,fun h => by omega⟩
  rw [Int.toNat_natCast]
  refine ⟨by omega,by omega,fun _ => by omega,fun h => by omega,fun h => by omega,fun h => ⟨by omega,?_⟩,fun h => ⟨by omega,?_⟩⟩
  ·rw [if_pos h] at hp
   exact ih (j + 1) j (by omega) (by omega) hp
  ·rw [if_neg h] at hp
   exact ih (j + 1) nx (by omega) hn hp
theorem loopw36b {fl fw:Bool} {gs:List G2} {w:List Int} {Q:AV -> Heap -> Prop} (hg:Sp.okG gs) (hl:gs.length <= 1000) (hw:Sp.okW w) (hwl:w.length = gs.length) :
  ∀ (k i:Nat) (o ps co fr:List Int) (dn:List Bool) (s:Int),SpI gs w k o ps co fr dn -> i + k + 1 = gs.length -> (-60000000 * (1000 - k) <= s /\ s <= 60000000 * (1000 - k)) -> (∀ (co' fr':List Int) (dn':List Bool),Q (.tup [.int .i64 (s + Sp.rest gs w o),.row 0 0]) [⟨(Sp.spanP gs w k ps co fr dn).map (.int .i64),1,0,false,true⟩,⟨dn'.map .bool,1,0,false,true⟩,⟨co'.map (.int .i64),1,0,false,true⟩,⟨fr'.map (.int .i64),1,0,false,true⟩]) -> tv36b_at fl fw gs w ps co fr dn s (gs.length - 1:Nat) i Q:=by
 intro k
 induction k with
 | zero =>
  intro i o ps co fr dn s hI hi hs hq
  have:Sp.rest gs w o = 0:=Mst.rem_full (cw_symm gs w) hI.nod hI.rng hI.ne (by have:=hI.len;omega)
  simp only [this,Int.add_zero,Sp.spanP] at hq
  exact tw36b _ _ _ _ _ _ _ _ _ _ _ _ ⟨fun h => by omega,fun _ => hq co fr dn⟩
 | succ k ih =>
  intro i o ps co fr dn s hI hi hs hq
  refine tw36b _ _ _ _ _ _ _ _ _ _ _ _ ⟨fun _ => ?_,fun h => by omega⟩
  refine loopw36c hg hl hw hwl hI (by omega) (by omega) (fun nx hx => ?_) gs.length 0 (-1) (by omega) (by omega) rfl
  obtain ⟨p1,p2,p3,⟨a,p4,p5⟩,p6⟩:=hI.pick hx
  have hc:=cw_le hg hw a nx
  have e:Sp.rest gs w o = co.getD nx.toNat default + Sp.rest gs w (o ++ [nx]):=Mst.rem_step (cw_symm gs w) hI.nod hI.rng p4 p3 ⟨p1,p2⟩ p5 p6
  refine ih (i + 1) (o ++ [nx]) _ _ _ _ _ (hI.next hl hx) (by omega) (by omega) ?_
  intro co' fr' dn'
  have:=hq co' fr' dn'
  rw [e,Sp.spanP,<- hx] at this
  rw [Int.add_assoc]
  exact this
theorem loopw36a {fl fw:Bool} {gs:List G2} {w ps fr:List Int} {dn:List Bool} {Q:AV -> Heap -> Prop} (hg:Sp.okG gs) (hl:gs.length <= 1000) (hw:Sp.okW w) (hwl:w.length = gs.length) (h0:0 < gs.length) :
  ∀ (k j:Nat) (co:List Int),j + k = gs.length -> co.length = gs.length -> tv36b_at fl fw gs w ps (Sp.cost0 gs w k j co) fr dn 0 (gs.length - 1:Nat) 0 Q -> tv36a_at fl fw gs w ps co fr dn gs.length j Q:=by
 intro k
 induction k with
 | zero =>
  intro j co hj hc hq
  have e:((gs.length:Int) - 1) = (gs.length - 1:Nat):=by omega
  exact tw36a _ _ _ _ _ _ _ _ _ _ _ ⟨fun h => by omega,fun _ => ⟨by omega,by rw [e];exact hq⟩⟩
 | succ k ih =>
  intro j co hj hc hq
  rw [Sp.cost0] at hq
  refine tw36a _ _ _ _ _ _ _ _ _ _ _ ⟨fun _ => ?_,fun h => by omega⟩
  rw [Int.toNat_natCast]
  have e:Sp.dist (gs.getD 0 default).x (gs.getD 0 default).y (gs.getD j default).x (gs.getD j default).y + w.getD 0 default + w.getD j default = Sp.cw gs w 0 j:=rfl
  have e2:Sp.dist (gs.getD 0 default).x (gs.getD 0 default).y (gs.getD j default).x (gs.getD j default).y = Sp.dAt gs 0 j:=rfl
  rw [e,e2]
  have h1:=cw_le hg hw 0 j
  have h2:=dAt_le hg 0 j
  have h3:=okW_at hw 0
  refine ⟨⟨(okG_at hg _).1,(okG_at hg _).2,(okG_at hg _).1,(okG_at hg _).2⟩,by omega,by omega,by omega,by omega,by omega,by omega,by omega,by omega,by omega,?_⟩
  exact ih (j + 1) _ (by omega) (by simpa using hc) hq
theorem evf94 (fl fw:Bool) (gs:List G2) (w:List Int) (h:(Sp.okG gs /\ gs.length <= 1000 /\ Sp.okW w /\ w.length = gs.length) /\ 0 < gs.length):Ev M1 (.own 94 [gsA fl gs,isA fw w] []) (.tup [.int .i64 (Sp.mst gs w),.row 0 0]) [⟨(Sp.spanPairs gs w).map (.int .i64),1,0,false,true⟩]:=by
 obtain ⟨⟨hg,hl,hw,hwl⟩,hpos⟩:=h
 refine own_fresh (by kernel_rfl) ?_
 refine owncall94 (tw36 fl fw gs w _ ⟨by omega,by omega,by omega,fun h0 => ?_,fun h0 => ⟨by omega,by simp;omega,?_⟩⟩)
 ·omega
 ·have h0':¬gs.length = 0:=by omega
  rw [Int.toNat_natCast]
  refine loopw36a hg hl hw hwl (by omega) gs.length 0 _ (by omega) (by simp) ?_
  obtain ⟨c1,c2⟩:=cost0_facts (gs:=gs) (w:=w) (n:=gs.length) gs.length 0 (Sp.zeros gs.length) (by omega) (by simp [Sp.zeros])
  refine loopw36b hg hl hw hwl (gs.length - 1) 0 [0] _ _ _ _ 0 ⟨by simp;omega,by simp,by simp;omega,by simp,by simp,c1,by simp,by simp,fun j hj => ?_,fun j hj hjo => ?_,fun j hj => ?_,fun j hj => ?_⟩ (by omega) (by omega) ?_
  ·rw [getD_set (by simp;omega)]
   by_cases hj0:j = 0
   ·subst hj0;simp [Sp.has]
   ·rw [if_neg (by omega),List.getD_eq_getElem?_getD,List.getElem?_replicate,if_pos hj]
    simp [Sp.has,hj0]
  ·refine ⟨⟨0,by simp,?_⟩,fun x hx => ?_⟩
   ·have:=c2 j hj
    rw [if_pos (by omega)] at this
    exact this
   ·simp only [List.mem_singleton] at hx
    subst hx
    have:=c2 j hj
    rw [if_pos (by omega)] at this
    exact Int.le_of_eq this
  ·have:=zeros_getD gs.length j
   unfold Sp.zeros at this
   rw [this];omega
  ·have:=zeros_getD gs.length j
   unfold Sp.zeros at this
   rw [this];omega
  ·intro co' fr' dn'
   refine ⟨0,by simp [rowsA,rowsL],?_,?_,rfl⟩
   ·unfold Sp.mst
    rw [if_neg h0',Int.zero_add]
    rfl
   ·unfold Sp.spanPairs
    rw [if_neg h0']
    rfl
end Go.Av

namespace Go.Av
open Go.Proofs
set_option maxRecDepth 100000
def fi69:Fi:=⟨41,[.tmp 4,.tmp 5]⟩
def kp69:List (Nat × List Nat):=[(0,[0,1]),(1,[0,1,6,7]),(2,[1,6,7,18]),(3,[4,5]),(4,[1,6,7,20,21,22]),(5,[1,6,7,20,21,22,23]),(6,[1,6,7,9,20,21,22]),(7,[1,6,7,20,21,22]),(8,[1,6,7,20,21,22]),(9,[4,5])]
def tv40_at (fl fw:Bool) (gs:List G2) (w:List Int) (Q:AV -> Heap -> Prop):Prop:=Wp M1 (.run fi69 (atC (cd Try.f69) []) [(0,.vec fl 2 (gs.map G2.a)),(1,.vec fw 1 (w.map (.int .i64)))] []) Q
def tw40_at (fl fw:Bool) (gs:List G2) (w:List Int) (Q:AV -> Heap -> Prop):Prop:=Wp M1 (.run fi69 (atC (cd Try.f69) []) [(0,.vec fl 2 (gs.map G2.a)),(1,.vec fw 1 (w.map (.int .i64)))] []) Q
def tw40a_at (fw fx:Bool) (w:List Int) (s n i:Int) (ps x:List Int) (Q:AV -> Heap -> Prop):Prop:=Wp M1 (.run fi69 (atC (cd Try.f69) [1,1,1,0,1,0,0]) [(1,.vec fw 1 (w.map (.int .i64))),(6,.int .i64 s),(7,.row 0 0),(20,.vec fx 1 (x.map (.int .i64))),(21,.int .i64 n),(22,.int .i64 i)] [⟨ps.map (.int .i64),1,0,false,true⟩]) Q
def tv40a_at (fw fx:Bool) (w:List Int) (s n i:Int) (ps x:List Int) (Q:AV -> Heap -> Prop):Prop:=Wp M1 (.run fi69 (atC (cd Try.f69) [1,1,1,0,1,0,0]) [(1,.vec fw 1 (w.map (.int .i64))),(6,.int .i64 s),(7,.vec false 1 (ps.map (.int .i64))),(20,.vec fx 1 (x.map (.int .i64))),(21,.int .i64 n),(22,.int .i64 i)] []) Q
theorem call69 {args:List AV} {d:AV} (h:wc M1 fi69 Try.f69 args d):Ev M1 (.pure 69 args) d []:=pcl _ _ (by kernel_rfl) h
theorem owncall69 {args:List AV} {L:Heap} {Q:AV -> Heap -> Prop} (h:Wp M1 (.run fi69 [.code (cd Try.f69)] (argVars 0 args) L) Q):Wp M1 (.own 69 args L) Q:=
 own_wp Try.f69 fi69 (by kernel_rfl) (by kernel_rfl) (by kernel_rfl) (by kernel_rfl) h
theorem tv40 (fl fw:Bool) (gs:List G2) (w:List Int)  (dq:AV) (H :
  (Sp.okG gs /\ gs.length <= 1000 /\ Sp.okW w /\ w.length = gs.length) /\
  (((↑gs.length:Int) < 2) -> Weak (AV.tup [AV.int IntKind.i64 0,AV.vec false 1 (List.map (AV.int IntKind.i64) (Sp.spanPairs gs w))]) dq) /\
  (¬((↑gs.length:Int) < 2) -> tv40a_at (fw) (fw) (w) (Sp.mst gs w) ((↑w.length:Int)) (0) (Sp.spanPairs gs w) (w) (PureQ dq))) :
 tv40_at fl fw gs w (PureQ dq):=by
 unfold tv40_at
 have k1:=H.1;have H:=H.2
 have w2:(List.map G2.a gs).length = gs.length:=List.length_map ..
 have i3:(decide ((↑(List.map G2.a gs).length:Int) < 2)) = true ↔ ((↑gs.length:Int) < 2):=(by (try rw [w2]);all_goals exact i_dec)
 refine path_wp (G:=given kp69 [(1,2,.call (AV.tup [AV.int IntKind.i64 (Sp.mst gs w),AV.vec false 1 (List.map (AV.int IntKind.i64) (Sp.spanPairs gs w))]) none)] []) 7 [] ⟨(atC (cd Try.f69) [1,1,0,1]),[(1,AV.vec fw 1 (List.map (AV.int IntKind.i64) w)),(6,AV.int IntKind.i64 (Sp.mst gs w)),(7,AV.vec false 1 (List.map (AV.int IntKind.i64) (Sp.spanPairs gs w))),(18,AV.bool (decide ((↑(List.map G2.a gs).length:Int) < 2)))],[],[],[],[⟨true,false,94,[AV.vec fl 2 (List.map G2.a gs),AV.vec fw 1 (List.map (AV.int IntKind.i64) w)],[],AV.tup [AV.int IntKind.i64 (Sp.mst gs w),AV.vec false 1 (List.map (AV.int IntKind.i64) (Sp.spanPairs gs w))],[]⟩]⟩ (by kernel_rfl) allB_nil allP_nil (allC_cons (fun _ => ((@ev94 (fl) (fw) (gs) (w) k1):Ev M1 (Conf.pure 94 [AV.vec fl 2 (List.map G2.a gs),AV.vec fw 1 (List.map (AV.int IntKind.i64) w)]) (AV.tup [AV.int IntKind.i64 (Sp.mst gs w),AV.vec false 1 (List.map (AV.int IntKind.i64) (Sp.spanPairs gs w))]) [])) allC_nil) ?_
 rcases Classical.em ((↑gs.length:Int) < 2) with d4 | d4
 ·have H:=H.1 d4
  exact path_ret (G:=given kp69 [] []) 1000 [true] (k:=((atC (cd Try.f69) [1,1,0,1,0,1])).tail) (env':=[(4,AV.int IntKind.i64 0),(5,AV.vec false 1 (List.map (AV.int IntKind.i64) (Sp.spanPairs gs w)))]) (L':=[]) (asm:=[(decide ((↑(List.map G2.a gs).length:Int) < 2)) == true]) (eqs:=[]) (calls:=[]) (AV.tup [AV.int IntKind.i64 0,AV.vec false 1 (List.map (AV.int IntKind.i64) (Sp.spanPairs gs w))]) (by kernel_rfl) (by kernel_rfl) (allB_cons (beq_t (i3.2 d4)) allB_nil) allP_nil allC_nil (pq_weak (d:=(AV.tup [AV.int IntKind.i64 0,AV.vec false 1 (List.map (AV.int IntKind.i64) (Sp.spanPairs gs w))])) (bs:=[]) (by kernel_rfl) (by kernel_rfl) allB_nil (by kernel_rfl) H)
 ·have H:=H.2 d4
  have w5:(List.map (AV.int IntKind.i64) w).length = w.length:=List.length_map ..
  exact path_wp (G:=given kp69 [] []) 1000 [false] ⟨(atC (cd Try.f69) [1,1,1,0,1,0,0]),[(1,AV.vec fw 1 (List.map (AV.int IntKind.i64) w)),(6,AV.int IntKind.i64 (Sp.mst gs w)),(7,AV.vec false 1 (List.map (AV.int IntKind.i64) (Sp.spanPairs gs w))),(20,AV.vec fw 1 (List.map (AV.int IntKind.i64) w)),(21,AV.int IntKind.i64 (↑(List.map (AV.int IntKind.i64) w).length:Int)),(22,AV.int IntKind.i64 0)],[],[(decide ((↑(List.map G2.a gs).length:Int) < 2)) == false],[],[]⟩ (by kernel_rfl) (allB_cons (beq_f (fun h => d4 (i3.1 h))) allB_nil) allP_nil allC_nil (by (try rw [w5]);all_goals exact H)
theorem tw40 (fl fw:Bool) (gs:List G2) (w:List Int)  (Q:AV -> Heap -> Prop) (H :
  ((Sp.okG gs /\ gs.length <= 1000 /\ Sp.okW w /\ w.length = gs.length) /\ 0 < gs.length) /\
  (((↑gs.length:Int) < 2) -> Q (AV.tup [AV.int IntKind.i64 0,AV.row 0 0]) [{ elems:=List.map (AV.int IntKind.i64) (Sp.spanPairs gs w),es:=1,ver:=0,frozen:=false,clean:=true }]) /\
  (¬((↑gs.length:Int) < 2) -> tw40a_at (fw) (fw) (w) (Sp.mst gs w) ((↑w.length:Int)) (0) (Sp.spanPairs gs w) (w) Q)) :
 tw40_at fl fw gs w Q:=by
 unfold tw40_at
 have k1:=H.1;have H:=H.2
 have w2:(List.map G2.a gs).length = gs.length:=List.length_map ..
 have i3:(decide ((↑(List.map G2.a gs).length:Int) < 2)) = true ↔ ((↑gs.length:Int) < 2):=(by (try rw [w2]);all_goals exact i_dec)
 refine path_wp (G:=given kp69 [(1,2,.call (AV.tup [AV.int IntKind.i64 (Sp.mst gs w),AV.row 0 0]) (some [{ elems:=List.map (AV.int IntKind.i64) (Sp.spanPairs gs w),es:=1,ver:=0,frozen:=false,clean:=true }]))] []) 7 [] ⟨(atC (cd Try.f69) [1,1,0,1]),[(1,AV.vec fw 1 (List.map (AV.int IntKind.i64) w)),(6,AV.int IntKind.i64 (Sp.mst gs w)),(7,AV.row 0 0),(18,AV.bool (decide ((↑(List.map G2.a gs).length:Int) < 2)))],[{ elems:=List.map (AV.int IntKind.i64) (Sp.spanPairs gs w),es:=1,ver:=0,frozen:=false,clean:=true }],[scalarL (List.map (AV.int IntKind.i64) (Sp.spanPairs gs w))],[],[⟨true,true,94,[AV.vec fl 2 (List.map G2.a gs),AV.vec fw 1 (List.map (AV.int IntKind.i64) w)],[],AV.tup [AV.int IntKind.i64 (Sp.mst gs w),AV.row 0 0],[{ elems:=List.map (AV.int IntKind.i64) (Sp.spanPairs gs w),es:=1,ver:=0,frozen:=false,clean:=true }]⟩]⟩ (by kernel_rfl) (allB_cons (by first | exact sc_int _ | exact sc_bool _) allB_nil) allP_nil (allC_cons (fun _ => ((@evf94 (fl) (fw) (gs) (w) k1):Ev M1 (Conf.own 94 [AV.vec fl 2 (List.map G2.a gs),AV.vec fw 1 (List.map (AV.int IntKind.i64) w)] []) (AV.tup [AV.int IntKind.i64 (Sp.mst gs w),AV.row 0 0]) [{ elems:=List.map (AV.int IntKind.i64) (Sp.spanPairs gs w),es:=1,ver:=0,frozen:=false,clean:=true }])) allC_nil) ?_
 rcases Classical.em ((↑gs.length:Int) < 2) with d4 | d4
 ·have H:=H.1 d4
  exact path_ret (G:=given kp69 [] []) 1000 [true] (k:=((atC (cd Try.f69) [1,1,0,1,0,1])).tail) (env':=[(4,AV.int IntKind.i64 0),(5,AV.row 0 0)]) (L':=[{ elems:=List.map (AV.int IntKind.i64) (Sp.spanPairs gs w),es:=1,ver:=0,frozen:=false,clean:=true }]) (asm:=[(decide ((↑(List.map G2.a gs).length:Int) < 2)) == true]) (eqs:=[]) (calls:=[]) (AV.tup [AV.int IntKind.i64 0,AV.row 0 0]) (by kernel_rfl) (by kernel_rfl) (allB_cons (beq_t (i3.2 d4)) allB_nil) allP_nil allC_nil H
 ·have H:=H.2 d4
  have w5:(List.map (AV.int IntKind.i64) w).length = w.length:=List.length_map ..
  exact path_wp (G:=given kp69 [] []) 1000 [false] ⟨(atC (cd Try.f69) [1,1,1,0,1,0,0]),[(1,AV.vec fw 1 (List.map (AV.int IntKind.i64) w)),(6,AV.int IntKind.i64 (Sp.mst gs w)),(7,AV.row 0 0),(20,AV.vec fw 1 (List.map (AV.int IntKind.i64) w)),(21,AV.int IntKind.i64 (↑(List.map (AV.int IntKind.i64) w).length:Int)),(22,AV.int IntKind.i64 0)],[{ elems:=List.map (AV.int IntKind.i64) (Sp.spanPairs gs w),es:=1,ver:=0,frozen:=false,clean:=true }],[(decide ((↑(List.map G2.a gs).length:Int) < 2)) == false],[],[]⟩ (by kernel_rfl) (allB_cons (beq_f (fun h => d4 (i3.1 h))) allB_nil) allP_nil allC_nil (by (try rw [w5]);all_goals exact H)
theorem tw40a (fw fx:Bool) (w:List Int) (s n i:Int) (ps x:List Int)  (Q:AV -> Heap -> Prop) (H :
  ((i < n) -> (0 <= i) /\
   (i.toNat < x.length) /\
   (-9223372036854775808 <= 2 * x.getD i.toNat default /\ 2 * x.getD i.toNat default <= 9223372036854775807) /\
   (-9223372036854775808 <= s - 2 * x.getD i.toNat default /\ s - 2 * x.getD i.toNat default <= 9223372036854775807) /\
   (-9223372036854775808 <= i + 1 /\ i + 1 <= 9223372036854775807) /\
   tw40a_at (fw) (fx) (w) (s - 2 * x.getD i.toNat default) (n) (i + 1) (ps) (x) Q) /\
  (¬(i < n) -> ((List.drop 1 (List.take w.length w)).length <= 1000000 /\ 0 < (List.drop 1 (List.take w.length w)).length) /\
   (0 < w.length) /\
   (1 <= w.length) /\
   (-9223372036854775808 <= s + w.getD 0 default /\ s + w.getD 0 default <= 9223372036854775807) /\
   (-9223372036854775808 <= s + w.getD 0 default + Sp.minL (List.drop 1 (List.take w.length w)) /\ s + w.getD 0 default + Sp.minL (List.drop 1 (List.take w.length w)) <= 9223372036854775807) /\
   Q (AV.tup [AV.int IntKind.i64 (s + w.getD 0 default + Sp.minL (List.drop 1 (List.take w.length w))),AV.row 0 0]) [{ elems:=List.map (AV.int IntKind.i64) ps,es:=1,ver:=0,frozen:=false,clean:=true }])) :
 tw40a_at fw fx w s n i ps x Q:=by
 unfold tw40a_at
 have i1:(decide (i < n)) = true ↔ (i < n):=i_dec
 rcases Classical.em (i < n) with d2 | d2
 ·have H:=H.1 d2
  have i3:(decide (0 <= i)) = true ↔ (0 <= i):=i_dec
  have k4:=H.1;have H:=H.2
  have w5:(List.map (AV.int IntKind.i64) x).length = x.length:=List.length_map ..
  have i6:(decide (i.toNat < (List.map (AV.int IntKind.i64) x).length)) = true ↔ (i.toNat < x.length):=(by (try rw [w5]);all_goals exact i_dec)
  have k7:=H.1;have H:=H.2
  have k8:=H.1;have H:=H.2
  have w9:IntKind.i64.wrap (2 * x.getD i.toNat default) = 2 * x.getD i.toNat default:=wI64 k8
  have k10:=H.1;have H:=H.2
  have w11:IntKind.i64.wrap (s - 2 * x.getD i.toNat default) = s - 2 * x.getD i.toNat default:=wI64 k10
  have k12:=H.1;have H:=H.2
  have w13:IntKind.i64.wrap (i + 1) = i + 1:=wI64 k12
  exact path_wp (G:=given kp69 [(6,1,.elem (AV.int IntKind.i64 (x.getD i.toNat default)))] []) 1000 [true] ⟨(atC (cd Try.f69) [1,1,1,0,1,0,0]),[(1,AV.vec fw 1 (List.map (AV.int IntKind.i64) w)),(6,AV.int IntKind.i64 (IntKind.i64.wrap (s - IntKind.i64.wrap (2 * x.getD i.toNat default)))),(7,AV.row 0 0),(20,AV.vec fx 1 (List.map (AV.int IntKind.i64) x)),(21,AV.int IntKind.i64 n),(22,AV.int IntKind.i64 (IntKind.i64.wrap (i + 1)))],[{ elems:=List.map (AV.int IntKind.i64) ps,es:=1,ver:=0,frozen:=false,clean:=true }],[(decide (i < n)) == true,decide (0 <= i),decide (i.toNat < (List.map (AV.int IntKind.i64) x).length)],[((List.map (AV.int IntKind.i64) x).get?Internal i.toNat = some (AV.int IntKind.i64 (x.getD i.toNat default)))],[]⟩ (by kernel_rfl) (allB_cons (beq_t (i1.2 d2)) (allB_cons (i3.2 k4) (allB_cons (i6.2 k7) allB_nil))) (allP_cons (el_map k7) allP_nil) allC_nil (by (try rw [w9]);(try rw [w11]);(try rw [w13]);all_goals exact H)
 ·have H:=H.2 d2
  have w14:(List.map (AV.int IntKind.i64) w).length = w.length:=List.length_map ..
  have w15:List.take w.length (List.map (AV.int IntKind.i64) w) = List.map (AV.int IntKind.i64) (List.take w.length w):=(lm_take rfl)
  have w16:List.drop 1 (List.map (AV.int IntKind.i64) (List.take w.length w)) = List.map (AV.int IntKind.i64) (List.drop 1 (List.take w.length w)):=(lm_drop rfl)
  have k17:=H.1;have H:=H.2
  have i18:(decide (0 < (List.map (AV.int IntKind.i64) w).length)) = true ↔ (0 < w.length):=(by (try rw [w14]);all_goals exact i_dec)
  have k19:=H.1;have H:=H.2
  have i20:(decide (1 <= (List.map (AV.int IntKind.i64) w).length)) = true ↔ (1 <= w.length):=(by (try rw [w14]);all_goals exact i_dec)
  have k21:=H.1;have H:=H.2
  have i22:(decide ((List.map (AV.int IntKind.i64) w).length <= (List.map (AV.int IntKind.i64) w).length)) = true ↔ (w.length <= w.length):=(by (try rw [w14]);all_goals exact i_dec)
  have k23:=H.1;have H:=H.2
  have w24:IntKind.i64.wrap (s + w.getD 0 default) = s + w.getD 0 default:=wI64 k23
  have k25:=H.1;have H:=H.2
  have w26:IntKind.i64.wrap (s + w.getD 0 default + Sp.minL (List.drop 1 (List.take w.length w))) = s + w.getD 0 default + Sp.minL (List.drop 1 (List.take w.length w)):=wI64 k25
  exact path_ret (G:=given kp69 [(9,3,.elem (AV.int IntKind.i64 (w.getD 0 default))),(9,7,.call (AV.int IntKind.i64 (Sp.minL (List.drop 1 (List.take w.length w)))) none)] []) 1000 [false] (k:=((atC (cd Try.f69) [1,1,1,1,1])).tail) (env':=[(4,AV.int IntKind.i64 (IntKind.i64.wrap (IntKind.i64.wrap (s + w.getD 0 default) + Sp.minL (List.drop 1 (List.take w.length w))))),(5,AV.row 0 0)]) (L':=[{ elems:=List.map (AV.int IntKind.i64) ps,es:=1,ver:=0,frozen:=false,clean:=true }]) (asm:=[(decide (i < n)) == false,true,decide (0 < (List.map (AV.int IntKind.i64) w).length),true,decide (1 <= (List.map (AV.int IntKind.i64) w).length),decide ((List.map (AV.int IntKind.i64) w).length <= (List.map (AV.int IntKind.i64) w).length)]) (eqs:=[((List.map (AV.int IntKind.i64) w).get?Internal 0 = some (AV.int IntKind.i64 (w.getD 0 default)))]) (calls:=[⟨true,false,95,[AV.vec (fw && true) 1 (List.drop 1 (List.take (List.map (AV.int IntKind.i64) w).length (List.map (AV.int IntKind.i64) w)))],[],AV.int IntKind.i64 (Sp.minL (List.drop 1 (List.take w.length w))),[]⟩]) (AV.tup [AV.int IntKind.i64 (IntKind.i64.wrap (IntKind.i64.wrap (s + w.getD 0 default) + Sp.minL (List.drop 1 (List.take w.length w)))),AV.row 0 0]) (by kernel_rfl) (by kernel_rfl) (allB_cons (beq_f (fun h => d2 (i1.1 h))) (allB_cons rfl (allB_cons (i18.2 k19) (allB_cons rfl (allB_cons (i20.2 k21) (allB_cons (i22.2 (by omega)) allB_nil)))))) (allP_cons (el_map k19) allP_nil) (allC_cons (fun _ => ((by (try rw [w14]);(try rw [w15]);(try rw [w16]);all_goals exact (@ev95 (fw && true) (List.drop 1 (List.take w.length w)) k17)):Ev M1 (Conf.pure 95 [AV.vec (fw && true) 1 (List.drop 1 (List.take (List.map (AV.int IntKind.i64) w).length (List.map (AV.int IntKind.i64) w)))]) (AV.int IntKind.i64 (Sp.minL (List.drop 1 (List.take w.length w)))) [])) allC_nil) (by (try rw [w24]);(try rw [w26]);all_goals exact H)
theorem tv40a (fw fx:Bool) (w:List Int) (s n i:Int) (ps x:List Int)  (dq:AV) (H :
  ((i < n) -> (0 <= i) /\
   (i.toNat < x.length) /\
   (-9223372036854775808 <= 2 * x.getD i.toNat default /\ 2 * x.getD i.toNat default <= 9223372036854775807) /\
   (-9223372036854775808 <= s - 2 * x.getD i.toNat default /\ s - 2 * x.getD i.toNat default <= 9223372036854775807) /\
   (-9223372036854775808 <= i + 1 /\ i + 1 <= 9223372036854775807) /\
   tv40a_at (fw) (fx) (w) (s - 2 * x.getD i.toNat default) (n) (i + 1) (ps) (x) (PureQ dq)) /\
  (¬(i < n) -> ((List.drop 1 (List.take w.length w)).length <= 1000000 /\ 0 < (List.drop 1 (List.take w.length w)).length) /\
   (0 < w.length) /\
   (1 <= w.length) /\
   (-9223372036854775808 <= s + w.getD 0 default /\ s + w.getD 0 default <= 9223372036854775807) /\
   (-9223372036854775808 <= s + w.getD 0 default + Sp.minL (List.drop 1 (List.take w.length w)) /\ s + w.getD 0 default + Sp.minL (List.drop 1 (List.take w.length w)) <= 9223372036854775807) /\
   Weak (AV.tup [AV.int IntKind.i64 (s + w.getD 0 default + Sp.minL (List.drop 1 (List.take w.length w))),AV.vec false 1 (List.map (AV.int IntKind.i64) ps)]) dq)) :
 tv40a_at fw fx w s n i ps x (PureQ dq):=by
 unfold tv40a_at
 have i1:(decide (i < n)) = true ↔ (i < n):=i_dec
 rcases Classical.em (i < n) with d2 | d2
 ·have H:=H.1 d2
  have i3:(decide (0 <= i)) = true ↔ (0 <= i):=i_dec
  have k4:=H.1;have H:=H.2
  have w5:(List.map (AV.int IntKind.i64) x).length = x.length:=List.length_map ..
  have i6:(decide (i.toNat < (List.map (AV.int IntKind.i64) x).length)) = true ↔ (i.toNat < x.length):=(by (try rw [w5]);all_goals exact i_dec)
  have k7:=H.1;have H:=H.2
  have k8:=H.1;have H:=H.2
  have w9:IntKind.i64.wrap (2 * x.getD i.toNat default) = 2 * x.getD i.toNat default:=wI64 k8
  have k10:=H.1;have H:=H.2
  have w11:IntKind.i64.wrap (s - 2 * x.getD i.toNat default) = s - 2 * x.getD i.toNat default:=wI64 k10
  have k12:=H.1;have H:=H.2
  have w13:IntKind.i64.wrap (i + 1) = i + 1:=wI64 k12
  exact path_wp (G:=given kp69 [(6,1,.elem (AV.int IntKind.i64 (x.getD i.toNat default)))] []) 1000 [true] ⟨(atC (cd Try.f69) [1,1,1,0,1,0,0]),[(1,AV.vec fw 1 (List.map (AV.int IntKind.i64) w)),(6,AV.int IntKind.i64 (IntKind.i64.wrap (s - IntKind.i64.wrap (2 * x.getD i.toNat default)))),(7,AV.vec false 1 (List.map (AV.int IntKind.i64) ps)),(20,AV.vec fx 1 (List.map (AV.int IntKind.i64) x)),(21,AV.int IntKind.i64 n),(22,AV.int IntKind.i64 (IntKind.i64.wrap (i + 1)))],[],[(decide (i < n)) == true,decide (0 <= i),decide (i.toNat < (List.map (AV.int IntKind.i64) x).length)],[((List.map (AV.int IntKind.i64) x).get?Internal i.toNat = some (AV.int IntKind.i64 (x.getD i.toNat default)))],[]⟩ (by kernel_rfl) (allB_cons (beq_t (i1.2 d2)) (allB_cons (i3.2 k4) (allB_cons (i6.2 k7) allB_nil))) (allP_cons (el_map k7) allP_nil) allC_nil (by (try rw [w9]);(try rw [w11]);(try rw [w13]);all_goals exact H)
 ·have H:=H.2 d2
  have w14:(List.map (AV.int IntKind.i64) w).length = w.length:=List.length_map ..
  have w15:List.take w.length (List.map (AV.int IntKind.i64) w) = List.map (AV.int IntKind.i64) (List.take w.length w):=(lm_take rfl)
  have w16:List.drop 1 (List.map (AV.int IntKind.i64) (List.take w.length w)) = List.map (AV.int IntKind.i64) (List.drop 1 (List.take w.length w)):=(lm_drop rfl)
  have k17:=H.1;have H:=H.2
  have i18:(decide (0 < (List.map (AV.int IntKind.i64) w).length)) = true ↔ (0 < w.length):=(by (try rw [w14]);all_goals exact i_dec)
  have k19:=H.1;have H:=H.2
  have i20:(decide (1 <= (List.map (AV.int IntKind.i64) w).length)) = true ↔ (1 <= w.length):=(by (try rw [w14]);all_goals exact i_dec)
  have k21:=H.1;have H:=H.2
  have i22:(decide ((List.map (AV.int IntKind.i64) w).length <= (List.map (AV.int IntKind.i64) w).length)) = true ↔ (w.length <= w.length):=(by (try rw [w14]);all_goals exact i_dec)
  have k23:=H.1;have H:=H.2
  have w24:IntKind.i64.wrap (s + w.getD 0 default) = s + w.getD 0 default:=wI64 k23
  have k25:=H.1;have H:=H.2
  have w26:IntKind.i64.wrap (s + w.getD 0 default + Sp.minL (List.drop 1 (List.take w.length w))) = s + w.getD 0 default + Sp.minL (List.drop 1 (List.take w.length w)):=wI64 k25
  exact path_ret (G:=given kp69 [(9,3,.elem (AV.int IntKind.i64 (w.getD 0 default))),(9,7,.call (AV.int IntKind.i64 (Sp.minL (List.drop 1 (List.take w.length w)))) none)] []) 1000 [false] (k:=((atC (cd Try.f69) [1,1,1,1,1])).tail) (env':=[(4,AV.int IntKind.i64 (IntKind.i64.wrap (IntKind.i64.wrap (s + w.getD 0 default) + Sp.minL (List.drop 1 (List.take w.length w))))),(5,AV.vec false 1 (List.map (AV.int IntKind.i64) ps))]) (L':=[]) (asm:=[(decide (i < n)) == false,true,decide (0 < (List.map (AV.int IntKind.i64) w).length),true,decide (1 <= (List.map (AV.int IntKind.i64) w).length),decide ((List.map (AV.int IntKind.i64) w).length <= (List.map (AV.int IntKind.i64) w).length)]) (eqs:=[((List.map (AV.int IntKind.i64) w).get?Internal 0 = some (AV.int IntKind.i64 (w.getD 0 default)))]) (calls:=[⟨true,false,95,[AV.vec (fw && true) 1 (List.drop 1 (List.take (List.map (AV.int IntKind.i64) w).length (List.map (AV.int IntKind.i64) w)))],[],AV.int IntKind.i64 (Sp.minL (List.drop 1 (List.take w.length w))),[]⟩]) (AV.tup [AV.int IntKind.i64 (IntKind.i64.wrap (IntKind.i64.wrap (s + w.getD 0 default) + Sp.minL (List.drop 1 (List.take w.length w)))),AV.vec false 1 (List.map (AV.int IntKind.i64) ps)]) (by kernel_rfl) (by kernel_rfl) (allB_cons (beq_f (fun h => d2 (i1.1 h))) (allB_cons rfl (allB_cons (i18.2 k19) (allB_cons rfl (allB_cons (i20.2 k21) (allB_cons (i22.2 (by omega)) allB_nil)))))) (allP_cons (el_map k19) allP_nil) (allC_cons (fun _ => ((by (try rw [w14]);(try rw [w15]);(try rw [w16]);all_goals exact (@ev95 (fw && true) (List.drop 1 (List.take w.length w)) k17)):Ev M1 (Conf.pure 95 [AV.vec (fw && true) 1 (List.drop 1 (List.take (List.map (AV.int IntKind.i64) w).length (List.map (AV.int IntKind.i64) w)))]) (AV.int IntKind.i64 (Sp.minL (List.drop 1 (List.take w.length w)))) [])) allC_nil) (pq_weak (d:=(AV.tup [AV.int IntKind.i64 (IntKind.i64.wrap (IntKind.i64.wrap (s + w.getD 0 default) + Sp.minL (List.drop 1 (List.take w.length w)))),AV.vec false 1 (List.map (AV.int IntKind.i64) ps)])) (bs:=[]) (by kernel_rfl) (by kernel_rfl) allB_nil (by kernel_rfl) (by (try rw [w24]);(try rw [w26]);all_goals exact H))
end Go.Av

namespace Go.Av
open Go.Proofs
namespace Sp
noncomputable def boundV (gs:List G2) (w:List Int):Int:=mst gs w - 2 * w.sum + w.getD 0 default + minL (w.drop 1)
end Sp
theorem zeros_ok (n:Nat):Sp.okW (Sp.zeros n) /\ (Sp.zeros n).length = n:=by
 refine ⟨fun x hx => ?_,by simp [Sp.zeros]⟩
 have:=(List.mem_replicate.1 hx).2
 omega
theorem prim_bound {c:Int -> Int -> Int} {n:Nat} (hc:∀ i j,-40000000 <= c i j /\ c i j <= 60000000) {S:List Int} {r:Int} (h:Mst.Prim c n S r):S.length <= n /\ -60000000 * ((n:Int) - S.length) <= r /\ r <= 60000000 * ((n:Int) - S.length):=by
 induction h with
 | full h => omega
 | @step S a v m r _ _ _ hm _ _ ih =>
  have:=hc a v
  simp only [List.length_append,List.length_singleton] at ih
  omega
theorem mst_le {gs:List G2} {w:List Int} (hg:Sp.okG gs) (hl:gs.length <= 1000) (hw:Sp.okW w):-60000000000 <= Sp.mst gs w /\ Sp.mst gs w <= 60000000000:=by
 unfold Sp.mst
 split
 ·omega
 ·rename_i h0
  have:=prim_bound (cw_le hg hw) (Mst.rem_spec (c:=Sp.cw gs w) (n:=gs.length) (S:=[0]) (by simp) (by simp;omega) (by simp))
  simp only [List.length_singleton] at this
  have e:Sp.rest gs w [0] = Mst.rem (Sp.cw gs w) gs.length [0]:=rfl
  rw [e]
  omega
theorem okW_sum {w:List Int} (h:Sp.okW w):-20000000 * (w.length:Int) <= w.sum /\ w.sum <= 20000000 * (w.length:Int):=by
 induction w with
 | nil => simp
 | cons x w ih =>
  have h1:=ih fun y hy => h y (List.mem_cons_of_mem _ hy)
  have h2:=h x (by simp)
  simp only [List.sum_cons,List.length_cons]
  omega
theorem okW_drop {w:List Int} (h:Sp.okW w) (k:Nat):Sp.okW (w.drop k):=fun x hx => h x (List.mem_of_mem_drop hx)
theorem foldl_min {w:List Int} (h:Sp.okW w):∀ (m:Int),(-20000000 <= m /\ m <= 20000000) -> -20000000 <= w.foldl (fun m x => if x < m then x else m) m /\ w.foldl (fun m x => if x < m then x else m) m <= 20000000:=by
 induction w with
 | nil => exact fun m h => h
 | cons x w ih =>
  intro m hm
  rw [List.foldl_cons]
  refine ih (fun y hy => h y (List.mem_cons_of_mem _ hy)) _ ?_
  have:=h x (by simp)
  split <;> omega
theorem minL_le {w:List Int} (h:Sp.okW w):-20000000 <= Sp.minL w /\ Sp.minL w <= 20000000:=
 foldl_min (okW_drop h 1) _ (okW_at h 0)
theorem loop40 {fw fx:Bool} {w x ps:List Int} {b:Int} {dq:AV} (hw:Sp.okW w) (hwl:w.length <= 1000 /\ 2 <= w.length) (hx:Sp.okW x) (hxl:x.length <= 1000) (hb:-100000000000 <= b /\ b <= 100000000000)
  (hq:Weak (.tup [.int .i64 (b + w.getD 0 default + Sp.minL (w.drop 1)),isA false ps]) dq) :
  ∀ (k i:Nat) (s:Int),i + k = x.length -> s - 2 * (x.drop i).sum = b -> (-40000000 * (i:Int) - 100000000000 <= s /\ s <= 40000000 * (i:Int) + 100000000000) -> tv40a_at fw fx w s x.length i ps x (PureQ dq):=by
 intro k
 induction k with
 | zero =>
  intro i s hi hs hb
  rw [List.drop_eq_nil_of_le (by omega),List.sum_nil,Int.mul_zero,Int.sub_zero] at hs
  have h1:=okW_at hw 0
  have h2:=minL_le (okW_drop hw 1)
  refine tv40a _ _ _ _ _ _ _ _ _ ⟨fun h => by omega,fun _ => ?_⟩
  rw [List.take_length]
  exact ⟨by rw [List.length_drop];omega,by omega,by omega,by omega,by omega,by rw [hs];exact hq⟩
 | succ k ih =>
  intro i s hi hs hb
  rw [drop_getD (show i < x.length by omega),List.sum_cons] at hs
  have h1:=okW_at hx i
  refine tv40a _ _ _ _ _ _ _ _ _ ⟨fun _ => ?_,fun h => by omega⟩
  rw [Int.toNat_natCast]
  exact ⟨by omega,by omega,by omega,by omega,by omega,ih (i + 1) _ (by omega) (by omega) (by omega)⟩
theorem ev69 (fl fw:Bool) (gs:List G2) (w:List Int) (h:Sp.okG gs /\ gs.length <= 1000 /\ Sp.okW w /\ w.length = gs.length):Ev M1 (.pure 69 [gsA fl gs,isA fw w]) (.tup [.int .i64 (if (gs.length:Int) < 2 then 0 else Sp.boundV gs w),isA false (Sp.spanPairs gs w)]) []:=by
 obtain ⟨hg,hl,hw,hwl⟩:=h
 refine call69 (tv40 fl fw gs w _ ⟨⟨hg,hl,hw,hwl⟩,fun k => ?_,fun k => ?_⟩)
 ·rw [if_pos k];exact .refl _
 ·rw [if_neg k]
  have h1:=mst_le hg hl hw
  have h2:=okW_sum hw
  refine loop40 hw (by omega) hw (by omega) (b:=Sp.mst gs w - 2 * w.sum) (by omega) (.refl _) w.length 0 _ (by omega) rfl (by omega)
end Go.Av

namespace Go.Av
open Go.Proofs
theorem loopw40 {fw fx:Bool} {w x ps:List Int} {b:Int} {Q:AV -> Heap -> Prop} (hw:Sp.okW w) (hwl:w.length <= 1000 /\ 2 <= w.length) (hx:Sp.okW x) (hxl:x.length <= 1000) (hb:-100000000000 <= b /\ b <= 100000000000)
  (hq:Q (.tup [.int .i64 (b + w.getD 0 default + Sp.minL (w.drop 1)),.row 0 0]) [⟨ps.map (.int .i64),1,0,false,true⟩]) :
  ∀ (k i:Nat) (s:Int),i + k = x.length -> s - 2 * (x.drop i).sum = b -> (-40000000 * (i:Int) - 100000000000 <= s /\ s <= 40000000 * (i:Int) + 100000000000) -> tw40a_at fw fx w s x.length i ps x Q:=by
 intro k
 induction k with
 | zero =>
  intro i s hi hs hb
  rw [List.drop_eq_nil_of_le (by omega),List.sum_nil,Int.mul_zero,Int.sub_zero] at hs
  have h1:=okW_at hw 0
  have h2:=minL_le (okW_drop hw 1)
  refine tw40a _ _ _ _ _ _ _ _ _ ⟨fun h => by omega,fun _ => ?_⟩
  rw [List.take_length]
  exact ⟨by rw [List.length_drop];omega,by omega,by omega,by omega,by omega,by rw [hs];exact hq⟩
 | succ k ih =>
  intro i s hi hs hb
  rw [drop_getD (show i < x.length by omega),List.sum_cons] at hs
  have h1:=okW_at hx i
  refine tw40a _ _ _ _ _ _ _ _ _ ⟨fun _ => ?_,fun h => by omega⟩
  rw [Int.toNat_natCast]
  exact ⟨by omega,by omega,by omega,by omega,by omega,ih (i + 1) _ (by omega) (by omega) (by omega)⟩
theorem evf69 (fl fw:Bool) (gs:List G2) (w:List Int) (h:(Sp.okG gs /\ gs.length <= 1000 /\ Sp.okW w /\ w.length = gs.length) /\ 0 < gs.length):Ev M1 (.own 69 [gsA fl gs,isA fw w] []) (.tup [.int .i64 (if (gs.length:Int) < 2 then 0 else Sp.boundV gs w),.row 0 0]) [⟨(Sp.spanPairs gs w).map (.int .i64),1,0,false,true⟩]:=by
 obtain ⟨⟨hg,hl,hw,hwl⟩,hp⟩:=h
 refine owncall69 (tw40 fl fw gs w _ ⟨⟨⟨hg,hl,hw,hwl⟩,hp⟩,fun k => ?_,fun k => ?_⟩)
 ·rw [if_pos k];exact ⟨rfl,rfl⟩
 ·rw [if_neg k]
  have h1:=mst_le hg hl hw
  have h2:=okW_sum hw
  refine loopw40 hw (by omega) hw (by omega) (b:=Sp.mst gs w - 2 * w.sum) (by omega) ⟨rfl,rfl⟩ w.length 0 _ (by omega) rfl (by omega)
theorem boundV_le {gs:List G2} {w:List Int} (hg:Sp.okG gs) (hl:gs.length <= 1000) (hw:Sp.okW w) (hwl:w.length = gs.length):-200000000000 <= Sp.boundV gs w /\ Sp.boundV gs w <= 200000000000:=by
 have h1:=mst_le hg hl hw
 have h2:=okW_sum hw
 have h3:=okW_at hw 0
 have h4:=minL_le (okW_drop hw 1)
 unfold Sp.boundV
 omega
theorem spanP_ok {gs:List G2} {w:List Int} (hl:gs.length <= 1000):∀ (k:Nat) (o ps co fr:List Int) (dn:List Bool),SpI gs w k o ps co fr dn -> (Sp.spanP gs w k ps co fr dn).length = gs.length /\ ∀ j:Nat,j < gs.length -> 0 <= (Sp.spanP gs w k ps co fr dn).getD j default /\ (Sp.spanP gs w k ps co fr dn).getD j default <= 2000
 | 0,o,ps,co,fr,dn,hI => by
  rw [Sp.spanP]
  refine ⟨hI.psl,fun j hj => ?_⟩
  have:=hI.pse j hj
  omega
 | k + 1,o,ps,co,fr,dn,hI => by
  rw [Sp.spanP]
  exact spanP_ok hl k _ _ _ _ _ (hI.next hl rfl)
theorem pairs_ok {gs:List G2} {w:List Int} (hl:gs.length <= 1000) (h0:0 < gs.length):(Sp.spanPairs gs w).length = gs.length /\ ∀ j:Nat,j < gs.length -> 0 <= (Sp.spanPairs gs w).getD j default /\ (Sp.spanPairs gs w).getD j default <= 2000:=by
 obtain ⟨c1,c2⟩:=cost0_facts (gs:=gs) (w:=w) (n:=gs.length) gs.length 0 (Sp.zeros gs.length) (by omega) (by simp [Sp.zeros])
 unfold Sp.spanPairs
 rw [if_neg (by omega)]
 refine spanP_ok hl (gs.length - 1) [0] _ _ _ _ ⟨by simp;omega,by simp,by simp;omega,by simp,by simp,c1,by simp [Sp.zeros],by simp [Sp.zeros],fun j hj => ?_,fun j hj hjo => ?_,fun j hj => ?_,fun j hj => ?_⟩
 ·rw [getD_set (by simp;omega)]
  by_cases hj0:j = 0
  ·subst hj0;simp [Sp.has]
  ·rw [if_neg (by omega),List.getD_eq_getElem?_getD,List.getElem?_replicate,if_pos hj]
   simp [Sp.has,hj0]
 ·refine ⟨⟨0,by simp,?_⟩,fun x hx => ?_⟩
  ·have:=c2 j hj
   rw [if_pos (by omega)] at this
   exact this
  ·simp only [List.mem_singleton] at hx
   subst hx
   have:=c2 j hj
   rw [if_pos (by omega)] at this
   exact Int.le_of_eq this
 ·have:=zeros_getD gs.length j
  rw [this];omega
 ·have:=zeros_getD gs.length j
  rw [this];omega
end Go.Av

namespace Go.Av
open Go.Proofs
set_option maxRecDepth 100000
def fi68:Fi:=⟨8,[.tmp 2]⟩
def kp68:List (Nat × List Nat):=[(0,[0]),(1,[0,4]),(2,[2]),(3,[2])]
def fi71:Fi:=⟨26,[.tmp 4]⟩
def kp71:List (Nat × List Nat):=[(0,[2,3]),(1,[4])]
def twCf_at (fa:Bool) (y:Int) (a:List Int) (Q:AV -> Heap -> Prop):Prop:=Wp M1 (.run fi68 (atC (cd Try.f68) []) [(0,.vec fa 1 ((y :: a).map (.int .i64)))] []) Q
def twG_at (ax ay bx by_:Int) (Q:AV -> Heap -> Prop):Prop:=Wp M1 (.run fi71 (atC (cd Try.f71) []) [(0,.agg [.int .i64 ax,.int .i64 ay]),(1,.agg [.int .i64 bx,.int .i64 by_])] []) Q
theorem owncall68 {args:List AV} {L:Heap} {Q:AV -> Heap -> Prop} (h:Wp M1 (.run fi68 [.code (cd Try.f68)] (argVars 0 args) L) Q):Wp M1 (.own 68 args L) Q:=
 own_wp Try.f68 fi68 (by kernel_rfl) (by kernel_rfl) (by kernel_rfl) (by kernel_rfl) h
theorem call71 {args:List AV} {d:AV} (h:wc M1 fi71 Try.f71 args d):Ev M1 (.pure 71 args) d []:=pcl _ _ (by kernel_rfl) h
theorem twCf (fa:Bool) (y:Int) (a:List Int)  (Q:AV -> Heap -> Prop) (H :
  ((0 + (a.length + 1)) * 8 <= 1099511627776) /\
  Q (AV.row 0 0) [{ elems:=AV.int IntKind.i64 y :: List.map (AV.int IntKind.i64) a,es:=1,ver:=0,frozen:=false,clean:=true }]) :
 twCf_at fa y a Q:=by
 unfold twCf_at
 have w1:(List.map (AV.int IntKind.i64) a).length = a.length:=List.length_map ..
 have i2:(decide ((0 + ((List.map (AV.int IntKind.i64) a).length + 1)) * 8 <= 1099511627776)) = true ↔ ((0 + (a.length + 1)) * 8 <= 1099511627776):=(by (try rw [w1]);all_goals exact i_dec)
 have k3:=H.1;have H:=H.2
 exact path_ret (G:=given kp68 [] []) 1000 [false] (k:=((atC (cd Try.f68) [1,1,1])).tail) (env':=[(2,AV.row 0 0)]) (L':=[{ elems:=AV.int IntKind.i64 y :: List.map (AV.int IntKind.i64) a,es:=1,ver:=0,frozen:=false,clean:=true }]) (asm:=[false == false,decide ((0 + ((List.map (AV.int IntKind.i64) a).length + 1)) * 8 <= 1099511627776)]) (eqs:=[]) (calls:=[]) (AV.row 0 0) (by kernel_rfl) (by kernel_rfl) (allB_cons rfl (allB_cons (i2.2 k3) allB_nil)) allP_nil allC_nil H
theorem twG (ax ay bx by_:Int)  (dq:AV) (H :
  (-9223372036854775808 <= by_ - ay /\ by_ - ay <= 9223372036854775807) /\
  (-9223372036854775808 <= ay - by_ /\ ay - by_ <= 9223372036854775807) /\
  (-9223372036854775808 <= bx - ax /\ bx - ax <= 9223372036854775807) /\
  (-9223372036854775808 <= ax - bx /\ ax - bx <= 9223372036854775807) /\
  AV.int IntKind.i64 (if by_ - ay > if ay - by_ > if bx - ax > ax - bx then bx - ax else ax - bx then ay - by_ else if bx - ax > ax - bx then bx - ax else ax - bx then by_ - ay else if ay - by_ > if bx - ax > ax - bx then bx - ax else ax - bx then ay - by_ else if bx - ax > ax - bx then bx - ax else ax - bx) = dq) :
 twG_at ax ay bx by_ (PureQ dq):=by
 unfold twG_at
 have k1:=H.1;have H:=H.2
 have w2:IntKind.i64.wrap (by_ - ay) = by_ - ay:=wI64 k1
 have k3:=H.1;have H:=H.2
 have w4:IntKind.i64.wrap (ay - by_) = ay - by_:=wI64 k3
 have k5:=H.1;have H:=H.2
 have w6:IntKind.i64.wrap (bx - ax) = bx - ax:=wI64 k5
 have k7:=H.1;have H:=H.2
 have w8:IntKind.i64.wrap (ax - bx) = ax - bx:=wI64 k7
 exact path_ret (G:=given kp71 [] []) 1000 [] (k:=((atC (cd Try.f71) [1,1])).tail) (env':=[(4,AV.int IntKind.i64 (if IntKind.i64.wrap (by_ - ay) > if IntKind.i64.wrap (ay - by_) > if IntKind.i64.wrap (bx - ax) > IntKind.i64.wrap (ax - bx) then IntKind.i64.wrap (bx - ax) else IntKind.i64.wrap (ax - bx) then IntKind.i64.wrap (ay - by_) else if IntKind.i64.wrap (bx - ax) > IntKind.i64.wrap (ax - bx) then IntKind.i64.wrap (bx - ax) else IntKind.i64.wrap (ax - bx) then IntKind.i64.wrap (by_ - ay) else if IntKind.i64.wrap (ay - by_) > if IntKind.i64.wrap (bx - ax) > IntKind.i64.wrap (ax - bx) then IntKind.i64.wrap (bx - ax) else IntKind.i64.wrap (ax - bx) then IntKind.i64.wrap (ay - by_) else if IntKind.i64.wrap (bx - ax) > IntKind.i64.wrap (ax - bx) then IntKind.i64.wrap (bx - ax) else IntKind.i64.wrap (ax - bx)))]) (L':=[{ elems:=[AV.agg [AV.int IntKind.i64 ax,AV.int IntKind.i64 ay]],es:=2,ver:=0,frozen:=false,clean:=false },{ elems:=[AV.agg [AV.int IntKind.i64 bx,AV.int IntKind.i64 by_]],es:=2,ver:=0,frozen:=false,clean:=false }]) (asm:=[true,true,true,true,true,true,true,true]) (eqs:=[]) (calls:=[]) (AV.int IntKind.i64 (if IntKind.i64.wrap (by_ - ay) > if IntKind.i64.wrap (ay - by_) > if IntKind.i64.wrap (bx - ax) > IntKind.i64.wrap (ax - bx) then IntKind.i64.wrap (bx - ax) else IntKind.i64.wrap (ax - bx) then IntKind.i64.wrap (ay - by_) else if IntKind.i64.wrap (bx - ax) > IntKind.i64.wrap (ax - bx) then IntKind.i64.wrap (bx - ax) else IntKind.i64.wrap (ax - bx) then IntKind.i64.wrap (by_ - ay) else if IntKind.i64.wrap (ay - by_) > if IntKind.i64.wrap (bx - ax) > IntKind.i64.wrap (ax - bx) then IntKind.i64.wrap (bx - ax) else IntKind.i64.wrap (ax - bx) then IntKind.i64.wrap (ay - by_) else if IntKind.i64.wrap (bx - ax) > IntKind.i64.wrap (ax - bx) then IntKind.i64.wrap (bx - ax) else IntKind.i64.wrap (ax - bx))) (by kernel_rfl) (by kernel_rfl) (allB_cons rfl (allB_cons rfl (allB_cons rfl (allB_cons rfl (allB_cons rfl (allB_cons rfl (allB_cons rfl (allB_cons rfl allB_nil)))))))) allP_nil allC_nil (pq_of (d:=(AV.int IntKind.i64 (if IntKind.i64.wrap (by_ - ay) > if IntKind.i64.wrap (ay - by_) > if IntKind.i64.wrap (bx - ax) > IntKind.i64.wrap (ax - bx) then IntKind.i64.wrap (bx - ax) else IntKind.i64.wrap (ax - bx) then IntKind.i64.wrap (ay - by_) else if IntKind.i64.wrap (bx - ax) > IntKind.i64.wrap (ax - bx) then IntKind.i64.wrap (bx - ax) else IntKind.i64.wrap (ax - bx) then IntKind.i64.wrap (by_ - ay) else if IntKind.i64.wrap (ay - by_) > if IntKind.i64.wrap (bx - ax) > IntKind.i64.wrap (ax - bx) then IntKind.i64.wrap (bx - ax) else IntKind.i64.wrap (ax - bx) then IntKind.i64.wrap (ay - by_) else if IntKind.i64.wrap (bx - ax) > IntKind.i64.wrap (ax - bx) then IntKind.i64.wrap (bx - ax) else IntKind.i64.wrap (ax - bx)))) (bs:=[]) (by kernel_rfl) (by kernel_rfl) allB_nil (by kernel_rfl) (by (try rw [w2]);(try rw [w4]);(try rw [w6]);(try rw [w8]);all_goals exact H))
end Go.Av

namespace Go.Av
open Go.Proofs
theorem evf68 (fa:Bool) (a:List Int) (h:a.length <= 1000000 /\ 0 < a.length):Ev M1 (.own 68 [isA fa a] []) (.row 0 0) [⟨a.map (.int .i64),1,0,false,true⟩]:=by
 cases a with
 | nil => simp at h
 | cons y a => exact owncall68 (twCf fa y a _ ⟨by simp at h;omega,rfl,rfl⟩)
theorem ev71 (ax ay bx by_:Int) (h:Sp.inM ax /\ Sp.inM ay /\ Sp.inM bx /\ Sp.inM by_):Ev M1 (.pure 71 [.agg [.int .i64 ax,.int .i64 ay],.agg [.int .i64 bx,.int .i64 by_]]) (.int .i64 (Sp.dist ax ay bx by_)) []:=by
 simp only [Sp.inM] at h
 refine call71 (twG ax ay bx by_ _ ⟨by omega,by omega,by omega,by omega,?_⟩)
 congr 1
 unfold Sp.dist Sp.gap
 (repeat' split) <;> omega
end Go.Av

namespace Go.Av
open Go.Proofs
set_option maxRecDepth 100000
def fi35:Fi:=⟨95,[.tmp 4,.tmp 5]⟩
def kp35:List (Nat × List Nat):=[(0,[0,1]),(1,[0,1,6]),(2,[0,1,6,19]),(3,[4,5]),(4,[0,1,31]),(5,[4,5]),(6,[0,1,7]),(7,[0,1,7,8]),(8,[0,1,7,8,9,10]),(9,[0,1,7,8,9,10,11]),(10,[0,7,8,9,10,11,49,50]),(11,[0,7,8,9,10,11,49,50,51]),(12,[0,7,8,9,11,49,50,52,53,54]),(13,[0,7,8,9,11,49,50,52,53,54,55]),(14,[0,7,8,9,11,12,13,49,50,52,53,54]),(15,[0,7,8,9,11,12,13,14,49,50,52,53,54]),(16,[0,7,8,9,11,12,13,14,49,50,52,53,54,60]),(17,[0,7,8,9,11,12,13,14,49,50,52,53,54]),(18,[0,7,8,9,11,49,50,52,53,54]),(19,[0,7,8,9,11,49,50,52,53,54]),(20,[0,7,8,9,11,49,50]),(21,[0,7,8,9,10,11,15,49,50]),(22,[0,7,8,9,10,11,15,49,50,85]),(23,[0,7,8,9,10,11,49,50]),(24,[0,7,8,9,10,11,49,50]),(25,[0,7,8,9,10,11,49,50]),(26,[4,5])]
def fi38:Fi:=⟨24,[.tmp 2]⟩
def kp38:List (Nat × List Nat):=[(0,[0]),(1,[0,3]),(2,[0,3,4]),(3,[0,3,4,8]),(4,[0,3,4]),(5,[0,3,4]),(6,[2])]
def twL_at (fl:Bool) (gs:List G2) (Q:AV -> Heap -> Prop):Prop:=Wp M1 (.run fi38 (atC (cd Try.f38) []) [(0,.vec fl 2 (gs.map G2.a))] []) Q
def twLa_at (fl:Bool) (gs:List G2) (s i:Int) (Q:AV -> Heap -> Prop):Prop:=Wp M1 (.run fi38 (atC (cd Try.f38) [1,1,0,1,0,0]) [(0,.vec fl 2 (gs.map G2.a)),(3,.int .i64 s),(4,.int .i64 i)] []) Q
def twR_at (fl:Bool) (gs:List G2) (r:Int) (Q:AV -> Heap -> Prop):Prop:=Wp M1 (.run fi35 (atC (cd Try.f35) []) [(0,.vec fl 2 (gs.map G2.a)),(1,.int .i64 r)] []) Q
def twRa_at (fl:Bool) (gs:List G2) (w b ps:List Int) (m s r i:Int) (Q:AV -> Heap -> Prop):Prop:=Wp M1 (.run fi35 (atC (cd Try.f35) [1,1,1,1,1,1,1,0,1,0,0]) [(0,.vec fl 2 (gs.map G2.a)),(7,.row 0 0),(8,.row 1 0),(9,.int .i64 m),(10,.row 2 0),(11,.int .i64 s),(49,.int .i64 r),(50,.int .i64 i)] [⟨w.map (.int .i64),1,0,false,true⟩,⟨b.map (.int .i64),1,0,false,true⟩,⟨ps.map (.int .i64),1,0,false,true⟩]) Q
def twRb_at (fl:Bool) (gs:List G2) (w b ps:List Int) (m s r i n j:Int) (Q:AV -> Heap -> Prop):Prop:=Wp M1 (.run fi35 (atC (cd Try.f35) [1,1,1,1,1,1,1,0,1,0,0,1,1,0,0,0,1,0,0]) [(0,.vec fl 2 (gs.map G2.a)),(7,.row 0 0),(8,.row 1 0),(9,.int .i64 m),(11,.int .i64 s),(49,.int .i64 r),(50,.int .i64 i),(52,.row 2 0),(53,.int .i64 n),(54,.int .i64 j)] [⟨w.map (.int .i64),1,0,false,true⟩,⟨b.map (.int .i64),1,0,false,true⟩,⟨ps.map (.int .i64),1,0,false,true⟩]) Q
theorem call35 {args:List AV} {d:AV} (h:wc M1 fi35 Try.f35 args d):Ev M1 (.pure 35 args) d []:=pcl _ _ (by kernel_rfl) h
theorem call38 {args:List AV} {d:AV} (h:wc M1 fi38 Try.f38 args d):Ev M1 (.pure 38 args) d []:=pcl _ _ (by kernel_rfl) h
theorem twL (fl:Bool) (gs:List G2)  (dq:AV) (H :
  twLa_at (fl) (gs) (0) (1) (PureQ dq)) :
 twL_at fl gs (PureQ dq):=by
 unfold twL_at
 exact path_wp (G:=given kp38 [] []) 1000 [] ⟨(atC (cd Try.f38) [1,1,0,1,0,0]),[(0,AV.vec fl 2 (List.map G2.a gs)),(3,AV.int IntKind.i64 0),(4,AV.int IntKind.i64 1)],[],[],[],[]⟩ (by kernel_rfl) allB_nil allP_nil allC_nil (H)
theorem twLa (fl:Bool) (gs:List G2) (s i:Int)  (dq:AV) (H :
  ((i < (↑gs.length:Int)) -> (-9223372036854775808 <= i - 1 /\ i - 1 <= 9223372036854775807) /\
   (Sp.inM (gs.getD (i - 1).toNat default).x /\ Sp.inM (gs.getD (i - 1).toNat default).y /\ Sp.inM (gs.getD i.toNat default).x /\ Sp.inM (gs.getD i.toNat default).y) /\
   (0 <= i - 1) /\
   ((i - 1).toNat < gs.length) /\
   (0 <= i) /\
   (i.toNat < gs.length) /\
   (-9223372036854775808 <= s + Sp.dist (gs.getD (i - 1).toNat default).x (gs.getD (i - 1).toNat default).y (gs.getD i.toNat default).x (gs.getD i.toNat default).y /\ s + Sp.dist (gs.getD (i - 1).toNat default).x (gs.getD (i - 1).toNat default).y (gs.getD i.toNat default).x (gs.getD i.toNat default).y <= 9223372036854775807) /\
   (-9223372036854775808 <= i + 1 /\ i + 1 <= 9223372036854775807) /\
   twLa_at (fl) (gs) (s + Sp.dist (gs.getD (i - 1).toNat default).x (gs.getD (i - 1).toNat default).y (gs.getD i.toNat default).x (gs.getD i.toNat default).y) (i + 1) (PureQ dq)) /\
  (¬(i < (↑gs.length:Int)) -> AV.int IntKind.i64 s = dq)) :
 twLa_at fl gs s i (PureQ dq):=by
 unfold twLa_at
 have w1:(List.map G2.a gs).length = gs.length:=List.length_map ..
 have i2:(decide (i < (↑(List.map G2.a gs).length:Int))) = true ↔ (i < (↑gs.length:Int)):=(by (try rw [w1]);all_goals exact i_dec)
 rcases Classical.em (i < (↑gs.length:Int)) with d3 | d3
 ·have H:=H.1 d3
  have k4:=H.1;have H:=H.2
  have w5:IntKind.i64.wrap (i - 1) = i - 1:=wI64 k4
  have k6:=H.1;have H:=H.2
  have i7:(decide (0 <= IntKind.i64.wrap (i - 1))) = true ↔ (0 <= i - 1):=(by (try rw [w5]);all_goals exact i_dec)
  have k8:=H.1;have H:=H.2
  have i9:(decide ((IntKind.i64.wrap (i - 1)).toNat < (List.map G2.a gs).length)) = true ↔ ((i - 1).toNat < gs.length):=(by (try rw [w1]);(try rw [w5]);all_goals exact i_dec)
  have k10:=H.1;have H:=H.2
  have i11:(decide (0 <= i)) = true ↔ (0 <= i):=i_dec
  have k12:=H.1;have H:=H.2
  have i13:(decide (i.toNat < (List.map G2.a gs).length)) = true ↔ (i.toNat < gs.length):=(by (try rw [w1]);all_goals exact i_dec)
  have k14:=H.1;have H:=H.2
  have k15:=H.1;have H:=H.2
  have w16:IntKind.i64.wrap (s + Sp.dist (gs.getD (i - 1).toNat default).x (gs.getD (i - 1).toNat default).y (gs.getD i.toNat default).x (gs.getD i.toNat default).y) = s + Sp.dist (gs.getD (i - 1).toNat default).x (gs.getD (i - 1).toNat default).y (gs.getD i.toNat default).x (gs.getD i.toNat default).y:=wI64 k15
  have k17:=H.1;have H:=H.2
  have w18:IntKind.i64.wrap (i + 1) = i + 1:=wI64 k17
  exact path_wp (G:=given kp38 [(5,5,.elem (AV.agg [AV.int IntKind.i64 (gs.getD (i - 1).toNat default).x,AV.int IntKind.i64 (gs.getD (i - 1).toNat default).y])),(5,9,.elem (AV.agg [AV.int IntKind.i64 (gs.getD i.toNat default).x,AV.int IntKind.i64 (gs.getD i.toNat default).y])),(5,10,.call (AV.int IntKind.i64 (Sp.dist (gs.getD (i - 1).toNat default).x (gs.getD (i - 1).toNat default).y (gs.getD i.toNat default).x (gs.getD i.toNat default).y)) none)] []) 1000 [true] ⟨(atC (cd Try.f38) [1,1,0,1,0,0]),[(0,AV.vec fl 2 (List.map G2.a gs)),(3,AV.int IntKind.i64 (IntKind.i64.wrap (s + Sp.dist (gs.getD (i - 1).toNat default).x (gs.getD (i - 1).toNat default).y (gs.getD i.toNat default).x (gs.getD i.toNat default).y))),(4,AV.int IntKind.i64 (IntKind.i64.wrap (i + 1)))],[],[(decide (i < (↑(List.map G2.a gs).length:Int))) == true,decide (0 <= IntKind.i64.wrap (i - 1)),decide ((IntKind.i64.wrap (i - 1)).toNat < (List.map G2.a gs).length),decide (0 <= i),decide (i.toNat < (List.map G2.a gs).length)],[((List.map G2.a gs).get?Internal (IntKind.i64.wrap (i - 1)).toNat = some (AV.agg [AV.int IntKind.i64 (gs.getD (i - 1).toNat default).x,AV.int IntKind.i64 (gs.getD (i - 1).toNat default).y])),((List.map G2.a gs).get?Internal i.toNat = some (AV.agg [AV.int IntKind.i64 (gs.getD i.toNat default).x,AV.int IntKind.i64 (gs.getD i.toNat default).y]))],[⟨true,false,71,[AV.agg [AV.int IntKind.i64 (gs.getD (i - 1).toNat default).x,AV.int IntKind.i64 (gs.getD (i - 1).toNat default).y],AV.agg [AV.int IntKind.i64 (gs.getD i.toNat default).x,AV.int IntKind.i64 (gs.getD i.toNat default).y]],[],AV.int IntKind.i64 (Sp.dist (gs.getD (i - 1).toNat default).x (gs.getD (i - 1).toNat default).y (gs.getD i.toNat default).x (gs.getD i.toNat default).y),[]⟩]⟩ (by kernel_rfl) (allB_cons (beq_t (i2.2 d3)) (allB_cons (i7.2 k8) (allB_cons (i9.2 k10) (allB_cons (i11.2 k12) (allB_cons (i13.2 k14) allB_nil))))) (allP_cons (by (try rw [w5]);all_goals exact (el_map k10)) (allP_cons (el_map k14) allP_nil)) (allC_cons (fun _ => ((@ev71 ((gs.getD (i - 1).toNat default).x) ((gs.getD (i - 1).toNat default).y) ((gs.getD i.toNat default).x) ((gs.getD i.toNat default).y) k6):Ev M1 (Conf.pure 71 [AV.agg [AV.int IntKind.i64 (gs.getD (i - 1).toNat default).x,AV.int IntKind.i64 (gs.getD (i - 1).toNat default).y],AV.agg [AV.int IntKind.i64 (gs.getD i.toNat default).x,AV.int IntKind.i64 (gs.getD i.toNat default).y]]) (AV.int IntKind.i64 (Sp.dist (gs.getD (i - 1).toNat default).x (gs.getD (i - 1).toNat default).y (gs.getD i.toNat default).x (gs.getD i.toNat default).y)) [])) allC_nil) (by (try rw [w16]);(try rw [w18]);all_goals exact H)
 ·have H:=H.2 d3
  exact path_ret (G:=given kp38 [] []) 1000 [false] (k:=((atC (cd Try.f38) [1,1,1,1])).tail) (env':=[(2,AV.int IntKind.i64 s)]) (L':=[]) (asm:=[(decide (i < (↑(List.map G2.a gs).length:Int))) == false]) (eqs:=[]) (calls:=[]) (AV.int IntKind.i64 s) (by kernel_rfl) (by kernel_rfl) (allB_cons (beq_f (fun h => d3 (i2.1 h))) allB_nil) allP_nil allC_nil (pq_of (d:=(AV.int IntKind.i64 s)) (bs:=[]) (by kernel_rfl) (by kernel_rfl) allB_nil (by kernel_rfl) H)
theorem twR (fl:Bool) (gs:List G2) (r:Int)  (dq:AV) (H :
  (Sp.mOk 200) /\
  ((¬Sp.checkE gs 200 = 0) -> Weak (AV.tup [AV.vnil,AV.int IntKind.i64 (Sp.checkE gs 200)]) dq) /\
  (¬(¬Sp.checkE gs 200 = 0) -> (((((↑gs.length:Int) = 0) \/ (r < 0)) \/ (r > 50)) -> Weak (AV.tup [AV.vnil,AV.int IntKind.i64 1]) dq) /\
   (¬((((↑gs.length:Int) = 0) \/ (r < 0)) \/ (r > 50)) -> (0 <= (↑gs.length:Int)) /\
    ((↑gs.length:Int) * 8 <= 1099511627776) /\
    ((↑gs.length:Int) <= 1099511627776) /\
    ((List.replicate (↑gs.length:Int).toNat (0:Int)).length <= 1000000 /\ 0 < (List.replicate (↑gs.length:Int).toNat (0:Int)).length) /\
    ((Sp.okG gs /\ gs.length <= 1000 /\ Sp.okW (List.replicate (↑gs.length:Int).toNat (0:Int)) /\ (List.replicate (↑gs.length:Int).toNat (0:Int)).length = gs.length) /\ 0 < gs.length) /\
    (-9223372036854775808 <= 2 * (↑gs.length:Int) /\ 2 * (↑gs.length:Int) <= 9223372036854775807) /\
    (¬2 * (↑gs.length:Int) = 0) /\
    (-9223372036854775808 <= ((if (↑gs.length:Int) < 2 then 0 else Sp.boundV gs (List.replicate (↑gs.length:Int).toNat (0:Int))).tdiv (2 * (↑gs.length:Int))) /\ ((if (↑gs.length:Int) < 2 then 0 else Sp.boundV gs (List.replicate (↑gs.length:Int).toNat (0:Int))).tdiv (2 * (↑gs.length:Int))) <= 9223372036854775807) /\
    (-9223372036854775808 <= ((if (↑gs.length:Int) < 2 then 0 else Sp.boundV gs (List.replicate (↑gs.length:Int).toNat (0:Int))).tdiv (2 * (↑gs.length:Int)) + 1) /\ ((if (↑gs.length:Int) < 2 then 0 else Sp.boundV gs (List.replicate (↑gs.length:Int).toNat (0:Int))).tdiv (2 * (↑gs.length:Int)) + 1) <= 9223372036854775807) /\
    twRa_at (fl) (gs) (List.replicate (↑gs.length:Int).toNat (0:Int)) (List.replicate (↑gs.length:Int).toNat (0:Int)) (Sp.spanPairs gs (List.replicate (↑gs.length:Int).toNat (0:Int))) (if (↑gs.length:Int) < 2 then 0 else Sp.boundV gs (List.replicate (↑gs.length:Int).toNat (0:Int))) ((if (↑gs.length:Int) < 2 then 0 else Sp.boundV gs (List.replicate (↑gs.length:Int).toNat (0:Int))).tdiv (2 * (↑gs.length:Int)) + 1) (r) (0) (PureQ dq)))) :
 twR_at fl gs r (PureQ dq):=by
 unfold twR_at
 have k1:=H.1;have H:=H.2
 have i2:(Sp.checkE gs 200 != 0) = true ↔ (¬Sp.checkE gs 200 = 0):=i_ne
 refine path_wp (G:=given kp35 [(1,1,.call (AV.int IntKind.i64 (Sp.checkE gs 200)) none)] []) 7 [] ⟨(atC (cd Try.f35) [1,0,1,1]),[(0,AV.vec fl 2 (List.map G2.a gs)),(1,AV.int IntKind.i64 r),(6,AV.int IntKind.i64 (Sp.checkE gs 200)),(19,AV.bool (Sp.checkE gs 200 != 0))],[],[],[],[⟨true,false,62,[AV.vec fl 2 (List.map G2.a gs),AV.int IntKind.i64 200],[],AV.int IntKind.i64 (Sp.checkE gs 200),[]⟩]⟩ (by kernel_rfl) allB_nil allP_nil (allC_cons (fun _ => ((@ev62 (fl) (gs) (200) k1):Ev M1 (Conf.pure 62 [AV.vec fl 2 (List.map G2.a gs),AV.int IntKind.i64 200]) (AV.int IntKind.i64 (Sp.checkE gs 200)) [])) allC_nil) ?_
 rcases Classical.em (¬Sp.checkE gs 200 = 0) with d3 | d3
 ·have H:=H.1 d3
  exact path_ret (G:=given kp35 [] []) 1000 [true] (k:=((atC (cd Try.f35) [1,0,1,1,0,1])).tail) (env':=[(4,AV.vnil),(5,AV.int IntKind.i64 (Sp.checkE gs 200))]) (L':=[]) (asm:=[(Sp.checkE gs 200 != 0) == true]) (eqs:=[]) (calls:=[]) (AV.tup [AV.vnil,AV.int IntKind.i64 (Sp.checkE gs 200)]) (by kernel_rfl) (by kernel_rfl) (allB_cons (beq_t (i2.2 d3)) allB_nil) allP_nil allC_nil (pq_weak (d:=(AV.tup [AV.vnil,AV.int IntKind.i64 (Sp.checkE gs 200)])) (bs:=[]) (by kernel_rfl) (by kernel_rfl) allB_nil (by kernel_rfl) H)
 ·have H:=H.2 d3
  have w4:(List.map G2.a gs).length = gs.length:=List.length_map ..
  have i5:(bif bif (↑(List.map G2.a gs).length:Int) == 0 then true else decide (r < 0) then true else decide (r > 50)) = true ↔ ((((↑gs.length:Int) = 0) \/ (r < 0)) \/ (r > 50)):=(by (try rw [w4]);all_goals exact (i_bor (i_bor i_eq i_dec) i_dec))
  rcases Classical.em ((((↑gs.length:Int) = 0) \/ (r < 0)) \/ (r > 50)) with d6 | d6
  ·have H:=H.1 d6
   exact path_ret (G:=given kp35 [] []) 1000 [false,true] (k:=((atC (cd Try.f35) [1,1,0,1,0,1])).tail) (env':=[(4,AV.vnil),(5,AV.int IntKind.i64 1)]) (L':=[]) (asm:=[(Sp.checkE gs 200 != 0) == false,(bif bif (↑(List.map G2.a gs).length:Int) == 0 then true else decide (r < 0) then true else decide (r > 50)) == true]) (eqs:=[]) (calls:=[]) (AV.tup [AV.vnil,AV.int IntKind.i64 1]) (by kernel_rfl) (by kernel_rfl) (allB_cons (beq_f (fun h => d3 (i2.1 h))) (allB_cons (beq_t (i5.2 d6)) allB_nil)) allP_nil allC_nil (pq_weak (d:=(AV.tup [AV.vnil,AV.int IntKind.i64 1])) (bs:=[]) (by kernel_rfl) (by kernel_rfl) allB_nil (by kernel_rfl) H)
  ·have H:=H.2 d6
   have i7:(decide (0 <= (↑(List.map G2.a gs).length:Int))) = true ↔ (0 <= (↑gs.length:Int)):=(by (try rw [w4]);all_goals exact i_dec)
   have k8:=H.1;have H:=H.2
   have i9:(decide ((↑(List.map G2.a gs).length:Int) <= (↑(List.map G2.a gs).length:Int))) = true ↔ ((↑gs.length:Int) <= (↑gs.length:Int)):=(by (try rw [w4]);all_goals exact i_dec)
   have i10:(decide ((↑(List.map G2.a gs).length:Int) * 8 <= 1099511627776)) = true ↔ ((↑gs.length:Int) * 8 <= 1099511627776):=(by (try rw [w4]);all_goals exact i_dec)
   have k11:=H.1;have H:=H.2
   have i12:(decide ((↑(List.map G2.a gs).length:Int) <= 1099511627776)) = true ↔ ((↑gs.length:Int) <= 1099511627776):=(by (try rw [w4]);all_goals exact i_dec)
   have k13:=H.1;have H:=H.2
   have w14:List.replicate (↑gs.length:Int).toNat (AV.int IntKind.i64 0) = List.map (AV.int IntKind.i64) (List.replicate (↑gs.length:Int).toNat (0:Int)):=(lm_rep rfl)
   have k15:=H.1;have H:=H.2
   have k16:=H.1;have H:=H.2
   have k17:=H.1;have H:=H.2
   have w18:IntKind.i64.wrap (2 * (↑gs.length:Int)) = 2 * (↑gs.length:Int):=wI64 k17
   have i19:(!IntKind.i64.wrap (2 * (↑(List.map G2.a gs).length:Int)) == 0) = true ↔ (¬2 * (↑gs.length:Int) = 0):=(by (try rw [w4]);(try rw [w18]);all_goals exact i_neq)
   have k20:=H.1;have H:=H.2
   have k21:=H.1;have H:=H.2
   have w22:IntKind.i64.wrap ((if (↑gs.length:Int) < 2 then 0 else Sp.boundV gs (List.replicate (↑gs.length:Int).toNat (0:Int))).tdiv (2 * (↑gs.length:Int))) = (if (↑gs.length:Int) < 2 then 0 else Sp.boundV gs (List.replicate (↑gs.length:Int).toNat (0:Int))).tdiv (2 * (↑gs.length:Int)):=wI64 k21
   have k23:=H.1;have H:=H.2
   have w24:IntKind.i64.wrap ((if (↑gs.length:Int) < 2 then 0 else Sp.boundV gs (List.replicate (↑gs.length:Int).toNat (0:Int))).tdiv (2 * (↑gs.length:Int)) + 1) = (if (↑gs.length:Int) < 2 then 0 else Sp.boundV gs (List.replicate (↑gs.length:Int).toNat (0:Int))).tdiv (2 * (↑gs.length:Int)) + 1:=wI64 k23
   exact path_wp (G:=given kp35 [(7,1,.call (AV.row 0 0) (some [{ elems:=List.map (AV.int IntKind.i64) (List.replicate (↑gs.length:Int).toNat (0:Int)),es:=1,ver:=0,frozen:=false,clean:=true }])),(8,2,.call (AV.tup [AV.int IntKind.i64 (if (↑gs.length:Int) < 2 then 0 else Sp.boundV gs (List.replicate (↑gs.length:Int).toNat (0:Int))),AV.row 0 0]) (some [{ elems:=List.map (AV.int IntKind.i64) (Sp.spanPairs gs (List.replicate (↑gs.length:Int).toNat (0:Int))),es:=1,ver:=0,frozen:=false,clean:=true }]))] []) 1000 [false,false] ⟨(atC (cd Try.f35) [1,1,1,1,1,1,1,0,1,0,0]),[(0,AV.vec fl 2 (List.map G2.a gs)),(7,AV.row 0 0),(8,AV.row 1 0),(9,AV.int IntKind.i64 (if (↑gs.length:Int) < 2 then 0 else Sp.boundV gs (List.replicate (↑gs.length:Int).toNat (0:Int)))),(10,AV.row 2 0),(11,AV.int IntKind.i64 (IntKind.i64.wrap (IntKind.i64.wrap ((if (↑gs.length:Int) < 2 then 0 else Sp.boundV gs (List.replicate (↑gs.length:Int).toNat (0:Int))).tdiv (IntKind.i64.wrap (2 * (↑(List.map G2.a gs).length:Int)))) + 1))),(49,AV.int IntKind.i64 r),(50,AV.int IntKind.i64 0)],[{ elems:=List.replicate (↑(List.map G2.a gs).length:Int).toNat (AV.int IntKind.i64 0),es:=1,ver:=0,frozen:=false,clean:=true },{ elems:=List.map (AV.int IntKind.i64) (List.replicate (↑gs.length:Int).toNat (0:Int)),es:=1,ver:=0,frozen:=false,clean:=true },{ elems:=List.map (AV.int IntKind.i64) (Sp.spanPairs gs (List.replicate (↑gs.length:Int).toNat (0:Int))),es:=1,ver:=0,frozen:=false,clean:=true }],[(Sp.checkE gs 200 != 0) == false,(bif bif (↑(List.map G2.a gs).length:Int) == 0 then true else decide (r < 0) then true else decide (r > 50)) == false,decide (0 <= (↑(List.map G2.a gs).length:Int)),decide ((↑(List.map G2.a gs).length:Int) <= (↑(List.map G2.a gs).length:Int)),decide ((↑(List.map G2.a gs).length:Int) * 8 <= 1099511627776),decide ((↑(List.map G2.a gs).length:Int) <= 1099511627776),true,scalarL (List.map (AV.int IntKind.i64) (List.replicate (↑gs.length:Int).toNat (0:Int))),true,scalarL (List.map (AV.int IntKind.i64) (Sp.spanPairs gs (List.replicate (↑gs.length:Int).toNat (0:Int)))),!IntKind.i64.wrap (2 * (↑(List.map G2.a gs).length:Int)) == 0],[],[⟨true,true,68,[AV.vec false 1 (List.replicate (↑(List.map G2.a gs).length:Int).toNat (AV.int IntKind.i64 0))],[],AV.row 0 0,[{ elems:=List.map (AV.int IntKind.i64) (List.replicate (↑gs.length:Int).toNat (0:Int)),es:=1,ver:=0,frozen:=false,clean:=true }]⟩,⟨true,true,69,[AV.vec fl 2 (List.map G2.a gs),AV.vec false 1 (List.replicate (↑(List.map G2.a gs).length:Int).toNat (AV.int IntKind.i64 0))],[],AV.tup [AV.int IntKind.i64 (if (↑gs.length:Int) < 2 then 0 else Sp.boundV gs (List.replicate (↑gs.length:Int).toNat (0:Int))),AV.row 0 0],[{ elems:=List.map (AV.int IntKind.i64) (Sp.spanPairs gs (List.replicate (↑gs.length:Int).toNat (0:Int))),es:=1,ver:=0,frozen:=false,clean:=true }]⟩]⟩ (by kernel_rfl) (allB_cons (beq_f (fun h => d3 (i2.1 h))) (allB_cons (beq_f (fun h => d6 (i5.1 h))) (allB_cons (i7.2 k8) (allB_cons (i9.2 (by omega)) (allB_cons (i10.2 k11) (allB_cons (i12.2 k13) (allB_cons rfl (allB_cons (by first | exact sc_int _ | exact sc_bool _) (allB_cons rfl (allB_cons (by first | exact sc_int _ | exact sc_bool _) (allB_cons (i19.2 k20) allB_nil))))))))))) allP_nil (allC_cons (fun _ => ((by (try rw [w4]);(try rw [w14]);all_goals exact (@evf68 (false) (List.replicate (↑gs.length:Int).toNat (0:Int)) k15)):Ev M1 (Conf.own 68 [AV.vec false 1 (List.replicate (↑(List.map G2.a gs).length:Int).toNat (AV.int IntKind.i64 0))] []) (AV.row 0 0) [{ elems:=List.map (AV.int IntKind.i64) (List.replicate (↑gs.length:Int).toNat (0:Int)),es:=1,ver:=0,frozen:=false,clean:=true }])) (allC_cons (fun _ => ((by (try rw [w4]);(try rw [w14]);all_goals exact (@evf69 (fl) (false) (gs) (List.replicate (↑gs.length:Int).toNat (0:Int)) k16)):Ev M1 (Conf.own 69 [AV.vec fl 2 (List.map G2.a gs),AV.vec false 1 (List.replicate (↑(List.map G2.a gs).length:Int).toNat (AV.int IntKind.i64 0))] []) (AV.tup [AV.int IntKind.i64 (if (↑gs.length:Int) < 2 then 0 else Sp.boundV gs (List.replicate (↑gs.length:Int).toNat (0:Int))),AV.row 0 0]) [{ elems:=List.map (AV.int IntKind.i64) (Sp.spanPairs gs (List.replicate (↑gs.length:Int).toNat (0:Int))),es:=1,ver:=0,frozen:=false,clean:=true }])) allC_nil)) (by (try rw [w4]);(try rw [w14]);(try rw [w18]);(try rw [w22]);(try rw [w24]);all_goals exact H)
theorem twRa (fl:Bool) (gs:List G2) (w b ps:List Int) (m s r i:Int)  (dq:AV) (H :
  ((i < r) -> twRb_at (fl) (gs) (w) (b) (ps) (m) (s) (r) (i) ((↑ps.length:Int)) (0) (PureQ dq)) /\
  (¬(i < r) -> Weak (AV.tup [AV.vec false 1 (List.map (AV.int IntKind.i64) b),AV.int IntKind.i64 0]) dq)) :
 twRa_at fl gs w b ps m s r i (PureQ dq):=by
 unfold twRa_at
 have i1:(decide (i < r)) = true ↔ (i < r):=i_dec
 rcases Classical.em (i < r) with d2 | d2
 ·have H:=H.1 d2
  have w3:(List.map (AV.int IntKind.i64) ps).length = ps.length:=List.length_map ..
  exact path_wp (G:=given kp35 [] []) 1000 [true] ⟨(atC (cd Try.f35) [1,1,1,1,1,1,1,0,1,0,0,1,1,0,0,0,1,0,0]),[(0,AV.vec fl 2 (List.map G2.a gs)),(7,AV.row 0 0),(8,AV.row 1 0),(9,AV.int IntKind.i64 m),(11,AV.int IntKind.i64 s),(49,AV.int IntKind.i64 r),(50,AV.int IntKind.i64 i),(52,AV.row 2 0),(53,AV.int IntKind.i64 (↑(List.map (AV.int IntKind.i64) ps).length:Int)),(54,AV.int IntKind.i64 0)],[{ elems:=List.map (AV.int IntKind.i64) w,es:=1,ver:=0,frozen:=false,clean:=true },{ elems:=List.map (AV.int IntKind.i64) b,es:=1,ver:=0,frozen:=false,clean:=true },{ elems:=List.map (AV.int IntKind.i64) ps,es:=1,ver:=0,frozen:=false,clean:=true }],[(decide (i < r)) == true,true],[],[]⟩ (by kernel_rfl) (allB_cons (beq_t (i1.2 d2)) (allB_cons rfl allB_nil)) allP_nil allC_nil (by (try rw [w3]);all_goals exact H)
 ·have H:=H.2 d2
  exact path_ret (G:=given kp35 [] []) 1000 [false] (k:=((atC (cd Try.f35) [1,1,1,1,1,1,1,1,1])).tail) (env':=[(4,AV.row 1 0),(5,AV.int IntKind.i64 0)]) (L':=[{ elems:=List.map (AV.int IntKind.i64) w,es:=1,ver:=0,frozen:=false,clean:=true },{ elems:=List.map (AV.int IntKind.i64) b,es:=1,ver:=0,frozen:=false,clean:=true },{ elems:=List.map (AV.int IntKind.i64) ps,es:=1,ver:=0,frozen:=false,clean:=true }]) (asm:=[(decide (i < r)) == false]) (eqs:=[]) (calls:=[]) (AV.tup [AV.row 1 0,AV.int IntKind.i64 0]) (by kernel_rfl) (by kernel_rfl) (allB_cons (beq_f (fun h => d2 (i1.1 h))) allB_nil) allP_nil allC_nil (pq_weak (d:=(AV.tup [AV.vec false 1 (List.map (AV.int IntKind.i64) b),AV.int IntKind.i64 0])) (bs:=[0 == 0]) (by kernel_rfl) (by kernel_rfl) (allB_cons (beq_self_eq_true _) allB_nil) (by kernel_rfl) H)
theorem twRb (fl:Bool) (gs:List G2) (w b ps:List Int) (m s r i n j:Int)  (dq:AV) (H :
  ((j < n) -> (0 <= j) /\
   (j.toNat < ps.length) /\
   ((j = 0) -> (j.toNat < w.length) /\
    (-9223372036854775808 <= ps.getD j.toNat default - 1 /\ ps.getD j.toNat default - 1 <= 9223372036854775807) /\
    (-9223372036854775808 <= s * (ps.getD j.toNat default - 1) /\ s * (ps.getD j.toNat default - 1) <= 9223372036854775807) /\
    (-9223372036854775808 <= w.getD j.toNat default + s * (ps.getD j.toNat default - 1) /\ w.getD j.toNat default + s * (ps.getD j.toNat default - 1) <= 9223372036854775807) /\
    (-9223372036854775808 <= j + 1 /\ j + 1 <= 9223372036854775807) /\
    twRb_at (fl) (gs) (w.set j.toNat (if (if w.getD j.toNat default + s * (ps.getD j.toNat default - 1) > -20000000 then w.getD j.toNat default + s * (ps.getD j.toNat default - 1) else -20000000) < 20000000 then if w.getD j.toNat default + s * (ps.getD j.toNat default - 1) > -20000000 then w.getD j.toNat default + s * (ps.getD j.toNat default - 1) else -20000000 else 20000000)) (b) (ps) (m) (s) (r) (i) (n) (j + 1) (PureQ dq)) /\
   (¬(j = 0) -> (j.toNat < w.length) /\
    (-9223372036854775808 <= ps.getD j.toNat default - 2 /\ ps.getD j.toNat default - 2 <= 9223372036854775807) /\
    (-9223372036854775808 <= s * (ps.getD j.toNat default - 2) /\ s * (ps.getD j.toNat default - 2) <= 9223372036854775807) /\
    (-9223372036854775808 <= w.getD j.toNat default + s * (ps.getD j.toNat default - 2) /\ w.getD j.toNat default + s * (ps.getD j.toNat default - 2) <= 9223372036854775807) /\
    (-9223372036854775808 <= j + 1 /\ j + 1 <= 9223372036854775807) /\
    twRb_at (fl) (gs) (w.set j.toNat (if (if w.getD j.toNat default + s * (ps.getD j.toNat default - 2) > -20000000 then w.getD j.toNat default + s * (ps.getD j.toNat default - 2) else -20000000) < 20000000 then if w.getD j.toNat default + s * (ps.getD j.toNat default - 2) > -20000000 then w.getD j.toNat default + s * (ps.getD j.toNat default - 2) else -20000000 else 20000000)) (b) (ps) (m) (s) (r) (i) (n) (j + 1) (PureQ dq))) /\
  (¬(j < n) -> ((Sp.okG gs /\ gs.length <= 1000 /\ Sp.okW w /\ w.length = gs.length) /\ 0 < gs.length) /\
   (((if (↑gs.length:Int) < 2 then 0 else Sp.boundV gs w) > m) -> (w.length <= 1000000 /\ 0 < w.length) /\
    (-9223372036854775808 <= s * 9 /\ s * 9 <= 9223372036854775807) /\
    (-9223372036854775808 <= (s * 9).tdiv 10 /\ (s * 9).tdiv 10 <= 9223372036854775807) /\
    (-9223372036854775808 <= i + 1 /\ i + 1 <= 9223372036854775807) /\
    twRa_at (fl) (gs) (w) (w) (Sp.spanPairs gs w) (if (↑gs.length:Int) < 2 then 0 else Sp.boundV gs w) (if (s * 9).tdiv 10 > 1 then (s * 9).tdiv 10 else 1) (r) (i + 1) (PureQ dq)) /\
   (¬((if (↑gs.length:Int) < 2 then 0 else Sp.boundV gs w) > m) -> (-9223372036854775808 <= s * 9 /\ s * 9 <= 9223372036854775807) /\
    (-9223372036854775808 <= (s * 9).tdiv 10 /\ (s * 9).tdiv 10 <= 9223372036854775807) /\
    (-9223372036854775808 <= i + 1 /\ i + 1 <= 9223372036854775807) /\
    twRa_at (fl) (gs) (w) (b) (Sp.spanPairs gs w) (m) (if (s * 9).tdiv 10 > 1 then (s * 9).tdiv 10 else 1) (r) (i + 1) (PureQ dq)))) :
 twRb_at fl gs w b ps m s r i n j (PureQ dq):=by
 unfold twRb_at
 have i1:(decide (j < n)) = true ↔ (j < n):=i_dec
 rcases Classical.em (j < n) with d2 | d2
 ·have H:=H.1 d2
  have i3:(decide (0 <= j)) = true ↔ (0 <= j):=i_dec
  have k4:=H.1;have H:=H.2
  have w5:(List.map (AV.int IntKind.i64) ps).length = ps.length:=List.length_map ..
  have i6:(decide (j.toNat < (List.map (AV.int IntKind.i64) ps).length)) = true ↔ (j.toNat < ps.length):=(by (try rw [w5]);all_goals exact i_dec)
  have k7:=H.1;have H:=H.2
  have i8:(j == 0) = true ↔ (j = 0):=i_eq
  refine path_wp (G:=given kp35 [(14,2,.elem (AV.int IntKind.i64 (ps.getD j.toNat default)))] []) 14 [true] ⟨(atC (cd Try.f35) [1,1,1,1,1,1,1,0,1,0,0,1,1,0,0,0,1,0,0,1,1,0,0,1,1,0,1]),[(0,AV.vec fl 2 (List.map G2.a gs)),(7,AV.row 0 0),(8,AV.row 1 0),(9,AV.int IntKind.i64 m),(11,AV.int IntKind.i64 s),(12,AV.int IntKind.i64 j),(13,AV.int IntKind.i64 (ps.getD j.toNat default)),(14,AV.int IntKind.i64 2),(49,AV.int IntKind.i64 r),(50,AV.int IntKind.i64 i),(52,AV.row 2 0),(53,AV.int IntKind.i64 n),(54,AV.int IntKind.i64 j),(60,AV.bool (j == 0))],[{ elems:=List.map (AV.int IntKind.i64) w,es:=1,ver:=0,frozen:=false,clean:=true },{ elems:=List.map (AV.int IntKind.i64) b,es:=1,ver:=0,frozen:=false,clean:=true },{ elems:=List.map (AV.int IntKind.i64) ps,es:=1,ver:=0,frozen:=false,clean:=true }],[(decide (j < n)) == true,true,decide (0 <= j),decide (j.toNat < (List.map (AV.int IntKind.i64) ps).length),true],[((List.map (AV.int IntKind.i64) ps).get?Internal j.toNat = some (AV.int IntKind.i64 (ps.getD j.toNat default)))],[]⟩ (by kernel_rfl) (allB_cons (beq_t (i1.2 d2)) (allB_cons rfl (allB_cons (i3.2 k4) (allB_cons (i6.2 k7) (allB_cons rfl allB_nil))))) (allP_cons (el_map k7) allP_nil) allC_nil ?_
  rcases Classical.em (j = 0) with d9 | d9
  ·have H:=H.1 d9
   have i10:(decide (0 <= j)) = true ↔ (0 <= j):=i_dec
   have w11:(List.map (AV.int IntKind.i64) w).length = w.length:=List.length_map ..
   have i12:(decide (j.toNat < (List.map (AV.int IntKind.i64) w).length)) = true ↔ (j.toNat < w.length):=(by (try rw [w11]);all_goals exact i_dec)
   have k13:=H.1;have H:=H.2
   have i14:(decide (0 <= j)) = true ↔ (0 <= j):=i_dec
   have i15:(decide (j.toNat < (List.map (AV.int IntKind.i64) w).length)) = true ↔ (j.toNat < w.length):=(by (try rw [w11]);all_goals exact i_dec)
   have k16:=H.1;have H:=H.2
   have w17:IntKind.i64.wrap (ps.getD j.toNat default - 1) = ps.getD j.toNat default - 1:=wI64 k16
   have k18:=H.1;have H:=H.2
   have w19:IntKind.i64.wrap (s * (ps.getD j.toNat default - 1)) = s * (ps.getD j.toNat default - 1):=wI64 k18
   have k20:=H.1;have H:=H.2
   have w21:IntKind.i64.wrap (w.getD j.toNat default + s * (ps.getD j.toNat default - 1)) = w.getD j.toNat default + s * (ps.getD j.toNat default - 1):=wI64 k20
   have w22:(List.map (AV.int IntKind.i64) w).set j.toNat (AV.int IntKind.i64 (if (if w.getD j.toNat default + s * (ps.getD j.toNat default - 1) > -20000000 then w.getD j.toNat default + s * (ps.getD j.toNat default - 1) else -20000000) < 20000000 then if w.getD j.toNat default + s * (ps.getD j.toNat default - 1) > -20000000 then w.getD j.toNat default + s * (ps.getD j.toNat default - 1) else -20000000 else 20000000)) = List.map (AV.int IntKind.i64) (w.set j.toNat (if (if w.getD j.toNat default + s * (ps.getD j.toNat default - 1) > -20000000 then w.getD j.toNat default + s * (ps.getD j.toNat default - 1) else -20000000) < 20000000 then if w.getD j.toNat default + s * (ps.getD j.toNat default - 1) > -20000000 then w.getD j.toNat default + s * (ps.getD j.toNat default - 1) else -20000000 else 20000000)):=(lm_set rfl rfl)
   have k23:=H.1;have H:=H.2
   have w24:IntKind.i64.wrap (j + 1) = j + 1:=wI64 k23
   exact path_wp (G:=given kp35 [(18,5,.elem (AV.int IntKind.i64 (w.getD j.toNat default))),(18,15,.elem (AV.int IntKind.i64 (w.getD j.toNat default)))] []) 1000 [true] ⟨(atC (cd Try.f35) [1,1,1,1,1,1,1,0,1,0,0,1,1,0,0,0,1,0,0]),[(0,AV.vec fl 2 (List.map G2.a gs)),(7,AV.row 0 0),(8,AV.row 1 0),(9,AV.int IntKind.i64 m),(11,AV.int IntKind.i64 s),(49,AV.int IntKind.i64 r),(50,AV.int IntKind.i64 i),(52,AV.row 2 0),(53,AV.int IntKind.i64 n),(54,AV.int IntKind.i64 (IntKind.i64.wrap (j + 1)))],[{ elems:=(List.map (AV.int IntKind.i64) w).set j.toNat (AV.int IntKind.i64 (if (if IntKind.i64.wrap (w.getD j.toNat default + IntKind.i64.wrap (s * IntKind.i64.wrap (ps.getD j.toNat default - 1))) > -20000000 then IntKind.i64.wrap (w.getD j.toNat default + IntKind.i64.wrap (s * IntKind.i64.wrap (ps.getD j.toNat default - 1))) else -20000000) < 20000000 then if IntKind.i64.wrap (w.getD j.toNat default + IntKind.i64.wrap (s * IntKind.i64.wrap (ps.getD j.toNat default - 1))) > -20000000 then IntKind.i64.wrap (w.getD j.toNat default + IntKind.i64.wrap (s * IntKind.i64.wrap (ps.getD j.toNat default - 1))) else -20000000 else 20000000)),es:=1,ver:=0,frozen:=false,clean:=true },{ elems:=List.map (AV.int IntKind.i64) b,es:=1,ver:=0,frozen:=false,clean:=true },{ elems:=List.map (AV.int IntKind.i64) ps,es:=1,ver:=0,frozen:=false,clean:=true }],[(j == 0) == true,true,decide (0 <= j),decide (j.toNat < (List.map (AV.int IntKind.i64) w).length),true,true,decide (0 <= j),decide (j.toNat < (List.map (AV.int IntKind.i64) w).length),true],[((List.map (AV.int IntKind.i64) w).get?Internal j.toNat = some (AV.int IntKind.i64 (w.getD j.toNat default))),((List.map (AV.int IntKind.i64) w).get?Internal j.toNat = some (AV.int IntKind.i64 (w.getD j.toNat default)))],[]⟩ (by kernel_rfl) (allB_cons (beq_t (i8.2 d9)) (allB_cons rfl (allB_cons (i10.2 k4) (allB_cons (i12.2 k13) (allB_cons rfl (allB_cons rfl (allB_cons (i14.2 k4) (allB_cons (i15.2 k13) (allB_cons rfl allB_nil))))))))) (allP_cons (el_map k13) (allP_cons (el_map k13) allP_nil)) allC_nil (by (try rw [w17]);(try rw [w19]);(try rw [w21]);(try rw [w22]);(try rw [w24]);all_goals exact H)
  ·have H:=H.2 d9
   have i25:(decide (0 <= j)) = true ↔ (0 <= j):=i_dec
   have w26:(List.map (AV.int IntKind.i64) w).length = w.length:=List.length_map ..
   have i27:(decide (j.toNat < (List.map (AV.int IntKind.i64) w).length)) = true ↔ (j.toNat < w.length):=(by (try rw [w26]);all_goals exact i_dec)
   have k28:=H.1;have H:=H.2
   have i29:(decide (0 <= j)) = true ↔ (0 <= j):=i_dec
   have i30:(decide (j.toNat < (List.map (AV.int IntKind.i64) w).length)) = true ↔ (j.toNat < w.length):=(by (try rw [w26]);all_goals exact i_dec)
   have k31:=H.1;have H:=H.2
   have w32:IntKind.i64.wrap (ps.getD j.toNat default - 2) = ps.getD j.toNat default - 2:=wI64 k31
   have k33:=H.1;have H:=H.2
   have w34:IntKind.i64.wrap (s * (ps.getD j.toNat default - 2)) = s * (ps.getD j.toNat default - 2):=wI64 k33
   have k35:=H.1;have H:=H.2
   have w36:IntKind.i64.wrap (w.getD j.toNat default + s * (ps.getD j.toNat default - 2)) = w.getD j.toNat default + s * (ps.getD j.toNat default - 2):=wI64 k35
   have w37:(List.map (AV.int IntKind.i64) w).set j.toNat (AV.int IntKind.i64 (if (if w.getD j.toNat default + s * (ps.getD j.toNat default - 2) > -20000000 then w.getD j.toNat default + s * (ps.getD j.toNat default - 2) else -20000000) < 20000000 then if w.getD j.toNat default + s * (ps.getD j.toNat default - 2) > -20000000 then w.getD j.toNat default + s * (ps.getD j.toNat default - 2) else -20000000 else 20000000)) = List.map (AV.int IntKind.i64) (w.set j.toNat (if (if w.getD j.toNat default + s * (ps.getD j.toNat default - 2) > -20000000 then w.getD j.toNat default + s * (ps.getD j.toNat default - 2) else -20000000) < 20000000 then if w.getD j.toNat default + s * (ps.getD j.toNat default - 2) > -20000000 then w.getD j.toNat default + s * (ps.getD j.toNat default - 2) else -20000000 else 20000000)):=(lm_set rfl rfl)
   have k38:=H.1;have H:=H.2
   have w39:IntKind.i64.wrap (j + 1) = j + 1:=wI64 k38
   exact path_wp (G:=given kp35 [(18,5,.elem (AV.int IntKind.i64 (w.getD j.toNat default))),(18,15,.elem (AV.int IntKind.i64 (w.getD j.toNat default)))] []) 1000 [false] ⟨(atC (cd Try.f35) [1,1,1,1,1,1,1,0,1,0,0,1,1,0,0,0,1,0,0]),[(0,AV.vec fl 2 (List.map G2.a gs)),(7,AV.row 0 0),(8,AV.row 1 0),(9,AV.int IntKind.i64 m),(11,AV.int IntKind.i64 s),(49,AV.int IntKind.i64 r),(50,AV.int IntKind.i64 i),(52,AV.row 2 0),(53,AV.int IntKind.i64 n),(54,AV.int IntKind.i64 (IntKind.i64.wrap (j + 1)))],[{ elems:=(List.map (AV.int IntKind.i64) w).set j.toNat (AV.int IntKind.i64 (if (if IntKind.i64.wrap (w.getD j.toNat default + IntKind.i64.wrap (s * IntKind.i64.wrap (ps.getD j.toNat default - 2))) > -20000000 then IntKind.i64.wrap (w.getD j.toNat default + IntKind.i64.wrap (s * IntKind.i64.wrap (ps.getD j.toNat default - 2))) else -20000000) < 20000000 then if IntKind.i64.wrap (w.getD j.toNat default + IntKind.i64.wrap (s * IntKind.i64.wrap (ps.getD j.toNat default - 2))) > -20000000 then IntKind.i64.wrap (w.getD j.toNat default + IntKind.i64.wrap (s * IntKind.i64.wrap (ps.getD j.toNat default - 2))) else -20000000 else 20000000)),es:=1,ver:=0,frozen:=false,clean:=true },{ elems:=List.map (AV.int IntKind.i64) b,es:=1,ver:=0,frozen:=false,clean:=true },{ elems:=List.map (AV.int IntKind.i64) ps,es:=1,ver:=0,frozen:=false,clean:=true }],[(j == 0) == false,true,decide (0 <= j),decide (j.toNat < (List.map (AV.int IntKind.i64) w).length),true,true,decide (0 <= j),decide (j.toNat < (List.map (AV.int IntKind.i64) w).length),true],[((List.map (AV.int IntKind.i64) w).get?Internal j.toNat = some (AV.int IntKind.i64 (w.getD j.toNat default))),((List.map (AV.int IntKind.i64) w).get?Internal j.toNat = some (AV.int IntKind.i64 (w.getD j.toNat default)))],[]⟩ (by kernel_rfl) (allB_cons (beq_f (fun h => d9 (i8.1 h))) (allB_cons rfl (allB_cons (i25.2 k4) (allB_cons (i27.2 k28) (allB_cons rfl (allB_cons rfl (allB_cons (i29.2 k4) (allB_cons (i30.2 k28) (allB_cons rfl allB_nil))))))))) (allP_cons (el_map k28) (allP_cons (el_map k28) allP_nil)) allC_nil (by (try rw [w32]);(try rw [w34]);(try rw [w36]);(try rw [w37]);(try rw [w39]);all_goals exact H)
 ·have H:=H.2 d2
  have k40:=H.1;have H:=H.2
  have i41:(decide ((if (↑gs.length:Int) < 2 then 0 else Sp.boundV gs w) > m)) = true ↔ ((if (↑gs.length:Int) < 2 then 0 else Sp.boundV gs w) > m):=i_dec
  refine path_wp (G:=given kp35 [(21,2,.call (AV.tup [AV.int IntKind.i64 (if (↑gs.length:Int) < 2 then 0 else Sp.boundV gs w),AV.row 0 0]) (some [{ elems:=List.map (AV.int IntKind.i64) (Sp.spanPairs gs w),es:=1,ver:=0,frozen:=false,clean:=true }]))] []) 12 [false] ⟨(atC (cd Try.f35) [1,1,1,1,1,1,1,0,1,0,0,1,1,0,0,1,1,0,1,1]),[(0,AV.vec fl 2 (List.map G2.a gs)),(7,AV.row 0 0),(8,AV.row 1 0),(9,AV.int IntKind.i64 m),(10,AV.row 3 0),(11,AV.int IntKind.i64 s),(15,AV.int IntKind.i64 (if (↑gs.length:Int) < 2 then 0 else Sp.boundV gs w)),(49,AV.int IntKind.i64 r),(50,AV.int IntKind.i64 i),(85,AV.bool (decide ((if (↑gs.length:Int) < 2 then 0 else Sp.boundV gs w) > m)))],[{ elems:=List.map (AV.int IntKind.i64) w,es:=1,ver:=0,frozen:=false,clean:=true },{ elems:=List.map (AV.int IntKind.i64) b,es:=1,ver:=0,frozen:=false,clean:=true },{ elems:=List.map (AV.int IntKind.i64) ps,es:=1,ver:=0,frozen:=false,clean:=true },{ elems:=List.map (AV.int IntKind.i64) (Sp.spanPairs gs w),es:=1,ver:=0,frozen:=false,clean:=true }],[(decide (j < n)) == false,true,scalarL (List.map (AV.int IntKind.i64) (Sp.spanPairs gs w))],[],[⟨true,true,69,[AV.vec fl 2 (List.map G2.a gs),AV.vec false 1 (List.map (AV.int IntKind.i64) w)],[],AV.tup [AV.int IntKind.i64 (if (↑gs.length:Int) < 2 then 0 else Sp.boundV gs w),AV.row 0 0],[{ elems:=List.map (AV.int IntKind.i64) (Sp.spanPairs gs w),es:=1,ver:=0,frozen:=false,clean:=true }]⟩]⟩ (by kernel_rfl) (allB_cons (beq_f (fun h => d2 (i1.1 h))) (allB_cons rfl (allB_cons (by first | exact sc_int _ | exact sc_bool _) allB_nil))) allP_nil (allC_cons (fun _ => ((@evf69 (fl) (false) (gs) (w) k40):Ev M1 (Conf.own 69 [AV.vec fl 2 (List.map G2.a gs),AV.vec false 1 (List.map (AV.int IntKind.i64) w)] []) (AV.tup [AV.int IntKind.i64 (if (↑gs.length:Int) < 2 then 0 else Sp.boundV gs w),AV.row 0 0]) [{ elems:=List.map (AV.int IntKind.i64) (Sp.spanPairs gs w),es:=1,ver:=0,frozen:=false,clean:=true }])) allC_nil) ?_
  rcases Classical.em ((if (↑gs.length:Int) < 2 then 0 else Sp.boundV gs w) > m) with d42 | d42
  ·have H:=H.1 d42
   have k43:=H.1;have H:=H.2
   have k44:=H.1;have H:=H.2
   have w45:IntKind.i64.wrap (s * 9) = s * 9:=wI64 k44
   have k46:=H.1;have H:=H.2
   have w47:IntKind.i64.wrap ((s * 9).tdiv 10) = (s * 9).tdiv 10:=wI64 k46
   have k48:=H.1;have H:=H.2
   have w49:IntKind.i64.wrap (i + 1) = i + 1:=wI64 k48
   exact path_wp (G:=given kp35 [(23,2,.call (AV.row 0 0) (some [{ elems:=List.map (AV.int IntKind.i64) w,es:=1,ver:=0,frozen:=false,clean:=true }]))] []) 1000 [true] ⟨(atC (cd Try.f35) [1,1,1,1,1,1,1,0,1,0,0]),[(0,AV.vec fl 2 (List.map G2.a gs)),(7,AV.row 0 0),(8,AV.row 4 0),(9,AV.int IntKind.i64 (if (↑gs.length:Int) < 2 then 0 else Sp.boundV gs w)),(10,AV.row 3 0),(11,AV.int IntKind.i64 (if IntKind.i64.wrap ((IntKind.i64.wrap (s * 9)).tdiv 10) > 1 then IntKind.i64.wrap ((IntKind.i64.wrap (s * 9)).tdiv 10) else 1)),(49,AV.int IntKind.i64 r),(50,AV.int IntKind.i64 (IntKind.i64.wrap (i + 1)))],[{ elems:=List.map (AV.int IntKind.i64) w,es:=1,ver:=0,frozen:=false,clean:=true },{ elems:=List.map (AV.int IntKind.i64) b,es:=1,ver:=0,frozen:=false,clean:=true },{ elems:=List.map (AV.int IntKind.i64) ps,es:=1,ver:=0,frozen:=false,clean:=true },{ elems:=List.map (AV.int IntKind.i64) (Sp.spanPairs gs w),es:=1,ver:=0,frozen:=false,clean:=true },{ elems:=List.map (AV.int IntKind.i64) w,es:=1,ver:=0,frozen:=false,clean:=true }],[(decide ((if (↑gs.length:Int) < 2 then 0 else Sp.boundV gs w) > m)) == true,true,scalarL (List.map (AV.int IntKind.i64) w),true],[],[⟨true,true,68,[AV.vec false 1 (List.map (AV.int IntKind.i64) w)],[],AV.row 0 0,[{ elems:=List.map (AV.int IntKind.i64) w,es:=1,ver:=0,frozen:=false,clean:=true }]⟩]⟩ (by kernel_rfl) (allB_cons (beq_t (i41.2 d42)) (allB_cons rfl (allB_cons (by first | exact sc_int _ | exact sc_bool _) (allB_cons rfl allB_nil)))) allP_nil (allC_cons (fun _ => ((@evf68 (false) (w) k43):Ev M1 (Conf.own 68 [AV.vec false 1 (List.map (AV.int IntKind.i64) w)] []) (AV.row 0 0) [{ elems:=List.map (AV.int IntKind.i64) w,es:=1,ver:=0,frozen:=false,clean:=true }])) allC_nil) (by (try rw [w45]);(try rw [w47]);(try rw [w49]);all_goals exact wp_narrow [0,4,3] (by kernel_rfl) H)
  ·have H:=H.2 d42
   have k50:=H.1;have H:=H.2
   have w51:IntKind.i64.wrap (s * 9) = s * 9:=wI64 k50
   have k52:=H.1;have H:=H.2
   have w53:IntKind.i64.wrap ((s * 9).tdiv 10) = (s * 9).tdiv 10:=wI64 k52
   have k54:=H.1;have H:=H.2
   have w55:IntKind.i64.wrap (i + 1) = i + 1:=wI64 k54
   exact path_wp (G:=given kp35 [] []) 1000 [false] ⟨(atC (cd Try.f35) [1,1,1,1,1,1,1,0,1,0,0]),[(0,AV.vec fl 2 (List.map G2.a gs)),(7,AV.row 0 0),(8,AV.row 1 0),(9,AV.int IntKind.i64 m),(10,AV.row 3 0),(11,AV.int IntKind.i64 (if IntKind.i64.wrap ((IntKind.i64.wrap (s * 9)).tdiv 10) > 1 then IntKind.i64.wrap ((IntKind.i64.wrap (s * 9)).tdiv 10) else 1)),(49,AV.int IntKind.i64 r),(50,AV.int IntKind.i64 (IntKind.i64.wrap (i + 1)))],[{ elems:=List.map (AV.int IntKind.i64) w,es:=1,ver:=0,frozen:=false,clean:=true },{ elems:=List.map (AV.int IntKind.i64) b,es:=1,ver:=0,frozen:=false,clean:=true },{ elems:=List.map (AV.int IntKind.i64) ps,es:=1,ver:=0,frozen:=false,clean:=true },{ elems:=List.map (AV.int IntKind.i64) (Sp.spanPairs gs w),es:=1,ver:=0,frozen:=false,clean:=true }],[(decide ((if (↑gs.length:Int) < 2 then 0 else Sp.boundV gs w) > m)) == false,true],[],[]⟩ (by kernel_rfl) (allB_cons (beq_f (fun h => d42 (i41.1 h))) (allB_cons rfl allB_nil)) allP_nil allC_nil (by (try rw [w51]);(try rw [w53]);(try rw [w55]);all_goals exact wp_narrow [0,1,3] (by kernel_rfl) H)
end Go.Av

namespace Go.Av
open Go.Proofs
namespace Sp
def llen:List G2 -> Int
 | a :: b :: r => dist a.x a.y b.x b.y + llen (b :: r)
 | _ => 0
end Sp
theorem llen_step {gs:List G2} {i:Nat} (h:i + 1 < gs.length):Sp.llen (gs.drop i) = Sp.dist (gs.getD i default).x (gs.getD i default).y (gs.getD (i + 1) default).x (gs.getD (i + 1) default).y + Sp.llen (gs.drop (i + 1)):=by
 rw [drop_getD (show i < gs.length by omega),drop_getD h,Sp.llen]
theorem llen_last {gs:List G2} {i:Nat} (h:gs.length <= i + 1):Sp.llen (gs.drop i) = 0:=by
 have hl:(gs.drop i).length <= 1:=by rw [List.length_drop];omega
 match gs.drop i,hl with
 | [],_ => rfl
 | [_],_ => rfl
 | _ :: _ :: _,hl => simp at hl
theorem loopL {fl:Bool} {gs:List G2} {dq:AV} (hg:Sp.okG gs) (hl:gs.length <= 1000):∀ (k i:Nat) (s:Int),i + k = gs.length -> (0 <= s /\ s <= 20000000 * (i:Int)) -> AV.int .i64 (s + Sp.llen (gs.drop i)) = dq -> twLa_at fl gs s (i + 1:Nat) (PureQ dq):=by
 intro k
 induction k with
 | zero =>
  intro i s hi hs hq
  rw [llen_last (by omega),Int.add_zero] at hq
  exact twLa _ _ _ _ _ ⟨fun h => by omega,fun _ => hq⟩
 | succ k ih =>
  intro i s hi hs hq
  by_cases hk:i + 1 < gs.length
  ·have e:((i + 1:Nat):Int) - 1 = (i:Nat):=by omega
   have o1:=okG_at hg i
   have o2:=okG_at hg (i + 1)
   have d:=dist_le ⟨o1.1,o1.2,o2.1,o2.2⟩
   rw [llen_step hk] at hq
   refine twLa _ _ _ _ _ ⟨fun _ => ?_,fun h => by omega⟩
   rw [e,Int.toNat_natCast,Int.toNat_natCast]
   exact ⟨by omega,⟨o1.1,o1.2,o2.1,o2.2⟩,by omega,by omega,by omega,by omega,by omega,by omega,ih (i + 1) _ (by omega) (by omega) (by rw [Int.add_assoc];exact hq)⟩
  ·rw [llen_last (by omega),Int.add_zero] at hq
   exact twLa _ _ _ _ _ ⟨fun h => by omega,fun _ => hq⟩
theorem ev38 (fl:Bool) (gs:List G2) (h:Sp.okG gs /\ gs.length <= 1000):Ev M1 (.pure 38 [gsA fl gs]) (.int .i64 (Sp.llen gs)) []:=
 call38 (twL fl gs _ (loopL h.1 h.2 gs.length 0 0 (by omega) (by omega) (by simp)))
theorem mul_bd {s k:Int} {A C:Nat} (h:s.natAbs <= A) (g:k.natAbs <= C):-((A * C:Nat):Int) <= s * k /\ s * k <= (A * C:Nat):=by
 have:=Nat.mul_le_mul h g
 rw [<- Int.natAbs_mul] at this
 omega
theorem tdiv_bd {a b B:Int} (hb:0 < b) (h:-B <= a /\ a <= B):-B <= a.tdiv b /\ a.tdiv b <= B:=by
 have pos:∀ x:Int,0 <= x -> 0 <= x.tdiv b /\ x.tdiv b <= x:=fun x hx => by
  rw [Int.tdiv_eq_ediv_of_nonneg hx]
  exact ⟨Int.ediv_nonneg hx (by omega),Int.ediv_le_self b hx⟩
 by_cases ha:0 <= a
 ·have:=pos a ha;omega
 ·have:=pos (-a) (by omega)
  rw [Int.neg_tdiv] at this
  omega
theorem nine_bd {s B:Int} (h:-B <= s /\ s <= B):-B <= (s * 9).tdiv 10 /\ (s * 9).tdiv 10 <= B:=by
 have pos:∀ x:Int,0 <= x -> 0 <= (x * 9).tdiv 10 /\ (x * 9).tdiv 10 <= x:=fun x hx => by
  rw [Int.tdiv_eq_ediv_of_nonneg (by omega)]
  omega
 by_cases ha:0 <= s
 ·have:=pos s ha;omega
 ·have:=pos (-s) (by omega)
  rw [Int.neg_mul,Int.neg_tdiv] at this
  omega
structure RaI (gs:List G2) (w b ps:List Int) (m s:Int):Prop where
 ww:Sp.okW w
 wl:w.length = gs.length
 bw:Sp.okW b
 bl:b.length = gs.length
 pl:ps.length = gs.length
 pp:∀ j:Nat,j < gs.length -> 0 <= ps.getD j default /\ ps.getD j default <= 2000
 mm:-200000000000 <= m /\ m <= 200000000000
 ss:-300000000000 <= s /\ s <= 300000000000
def resA (b:List Int):AV:=.tup [isA false b,.int .i64 0]
def okB (gs:List G2) (b:List Int):Prop:=Sp.okW b /\ b.length = gs.length
theorem clamp_ok (v:Int):-20000000 <= (if (if v > -20000000 then v else -20000000) < 20000000 then if v > -20000000 then v else -20000000 else 20000000) /\ (if (if v > -20000000 then v else -20000000) < 20000000 then if v > -20000000 then v else -20000000 else 20000000) <= 20000000:=by
 (repeat' split) <;> omega
theorem okW_set {w:List Int} {j:Nat} {x:Int} (h:Sp.okW w) (hx:-20000000 <= x /\ x <= 20000000):Sp.okW (w.set j x):=fun y hy => by
 rcases List.mem_or_eq_of_mem_set hy with h1 | rfl
 ·exact h y h1
 ·exact hx
theorem raise_b {fl:Bool} {gs:List G2} {b ps:List Int} {m s r i:Int} (hl:gs.length <= 1000) (hpl:ps.length = gs.length) (hpp:∀ j:Nat,j < gs.length -> 0 <= ps.getD j default /\ ps.getD j default <= 2000) (hs:-300000000000 <= s /\ s <= 300000000000)
  (cont:∀ w,Sp.okW w -> w.length = gs.length -> ∃ best,okB gs best /\ twRb_at fl gs w b ps m s r i gs.length gs.length (PureQ (resA best))) :
  ∀ (c j:Nat) (w:List Int),j + c = gs.length -> Sp.okW w -> w.length = gs.length -> ∃ best,okB gs best /\ twRb_at fl gs w b ps m s r i gs.length j (PureQ (resA best)):=by
 intro c
 induction c with
 | zero =>
  intro j w hj hw hwl
  have e:j = gs.length:=by omega
  subst e
  exact cont w hw hwl
 | succ c ih =>
  intro j w hj hw hwl
  have p:=hpp j (by omega)
  have w0:=okW_at hw j
  have b1:=mul_bd (A:=300000000000) (C:=2000) (show s.natAbs <= _ by omega) (show (ps.getD j default - 1).natAbs <= _ by omega)
  have b2:=mul_bd (A:=300000000000) (C:=2000) (show s.natAbs <= _ by omega) (show (ps.getD j default - 2).natAbs <= _ by omega)
  by_cases h0:(j:Int) = 0
  ·obtain ⟨best,hb,hr⟩:=ih (j + 1) _ (by omega) (okW_set (j:=j) hw (clamp_ok (w.getD j default + s * (ps.getD j default - 1)))) (by simpa using hwl)
   refine ⟨best,hb,twRb _ _ _ _ _ _ _ _ _ _ _ _ ⟨fun _ => ?_,fun h => by omega⟩⟩
   rw [Int.toNat_natCast]
   exact ⟨by omega,by omega,fun _ => ⟨by omega,by omega,by omega,by omega,by omega,hr⟩,fun h => absurd h0 h⟩
  ·obtain ⟨best,hb,hr⟩:=ih (j + 1) _ (by omega) (okW_set (j:=j) hw (clamp_ok (w.getD j default + s * (ps.getD j default - 2)))) (by simpa using hwl)
   refine ⟨best,hb,twRb _ _ _ _ _ _ _ _ _ _ _ _ ⟨fun _ => ?_,fun h => by omega⟩⟩
   rw [Int.toNat_natCast]
   exact ⟨by omega,by omega,fun h => absurd h h0,fun _ => ⟨by omega,by omega,by omega,by omega,by omega,hr⟩⟩
theorem raise_a {fl:Bool} {gs:List G2} {r:Int} (hg:Sp.okG gs) (hl:gs.length <= 1000) (h0:0 < gs.length) (hr:r <= 1000) :
  ∀ (k i:Nat) (w b ps:List Int) (m s:Int),(i:Int) + k = r -> RaI gs w b ps m s -> ∃ best,okB gs best /\ twRa_at fl gs w b ps m s r i (PureQ (resA best)):=by
 intro k
 induction k with
 | zero =>
  intro i w b ps m s hi hI
  exact ⟨b,⟨hI.bw,hI.bl⟩,twRa _ _ _ _ _ _ _ _ _ _ ⟨fun h => by omega,fun _ => .refl _⟩⟩
 | succ k ih =>
  intro i w b ps m s hi hI
  have hss:=hI.ss
  have key:∀ w',Sp.okW w' -> w'.length = gs.length -> ∃ best,okB gs best /\ twRb_at fl gs w' b ps m s r i gs.length gs.length (PureQ (resA best)):=by
   intro w' hw' hwl'
   have bv:=boundV_le hg hl hw' hwl'
   obtain ⟨q1,q2⟩:=pairs_ok (w:=w') hl h0
   have hn:-200000000000 <= (if (gs.length:Int) < 2 then 0 else Sp.boundV gs w') /\ (if (gs.length:Int) < 2 then 0 else Sp.boundV gs w') <= 200000000000:=by split <;> omega
   have hni:=nine_bd hss
   have hst:-300000000000 <= (if (s * 9).tdiv 10 > 1 then (s * 9).tdiv 10 else 1) /\ (if (s * 9).tdiv 10 > 1 then (s * 9).tdiv 10 else 1) <= 300000000000:=by split <;> omega
   by_cases hc:(if (gs.length:Int) < 2 then 0 else Sp.boundV gs w') > m
   ·obtain ⟨best,hb,hr⟩:=ih (i + 1) w' w' (Sp.spanPairs gs w') _ _ (by omega) ⟨hw',hwl',hw',hwl',q1,q2,hn,hst⟩
    exact ⟨best,hb,twRb _ _ _ _ _ _ _ _ _ _ _ _ ⟨fun h => by omega,fun _ => ⟨⟨⟨hg,hl,hw',hwl'⟩,h0⟩,fun _ => ⟨by omega,by omega,by omega,by omega,hr⟩,fun h => absurd hc h⟩⟩⟩
   ·obtain ⟨best,hb,hr⟩:=ih (i + 1) w' b (Sp.spanPairs gs w') m _ (by omega) ⟨hw',hwl',hI.bw,hI.bl,q1,q2,hI.mm,hst⟩
    exact ⟨best,hb,twRb _ _ _ _ _ _ _ _ _ _ _ _ ⟨fun h => by omega,fun _ => ⟨⟨⟨hg,hl,hw',hwl'⟩,h0⟩,fun h => absurd h hc,fun _ => ⟨by omega,by omega,by omega,hr⟩⟩⟩⟩
  obtain ⟨best,hb,hr⟩:=raise_b hl hI.pl hI.pp hss key gs.length 0 w (by omega) hI.ww hI.wl
  refine ⟨best,hb,twRa _ _ _ _ _ _ _ _ _ _ ⟨fun _ => ?_,fun h => by omega⟩⟩
  rw [hI.pl]
  exact hr
theorem raise_ex (fl:Bool) (gs:List G2) (r:Int) (h:Sp.checkE gs 200 = 0 /\ 0 < gs.length /\ 0 <= r /\ r <= 50):∃ best,okB gs best /\ Ev M1 (.pure 35 [gsA fl gs,.int .i64 r]) (resA best) []:=by
 obtain ⟨hc,h0,hr0,hr⟩:=h
 obtain ⟨hg,hl⟩:=check_okG hc
 have hl:gs.length <= 200:=by omega
 obtain ⟨z1,z2⟩:=zeros_ok gs.length
 have bv:=boundV_le hg (by omega) z1 z2
 obtain ⟨q1,q2⟩:=pairs_ok (gs:=gs) (w:=Sp.zeros gs.length) (by omega) h0
 have hn:-200000000000 <= (if (gs.length:Int) < 2 then 0 else Sp.boundV gs (Sp.zeros gs.length)) /\ (if (gs.length:Int) < 2 then 0 else Sp.boundV gs (Sp.zeros gs.length)) <= 200000000000:=by split <;> omega
 have ht:=tdiv_bd (b:=2 * (gs.length:Int)) (by omega) hn
 obtain ⟨best,hb,hr⟩:=raise_a (fl:=fl) (r:=r) hg (by omega) h0 (by omega) r.toNat 0 (Sp.zeros gs.length) (Sp.zeros gs.length) (Sp.spanPairs gs (Sp.zeros gs.length)) _ ((if (gs.length:Int) < 2 then 0 else Sp.boundV gs (Sp.zeros gs.length)).tdiv (2 * (gs.length:Int)) + 1) (by omega) ⟨z1,z2,z1,z2,q1,q2,hn,by omega⟩
 refine ⟨best,hb,call35 (twR fl gs r _ ⟨by simp [Sp.mOk],fun h => absurd hc h,fun _ => ⟨fun h => by omega,fun _ => ?_⟩⟩)⟩
 rw [Int.toNat_natCast,show List.replicate gs.length (0:Int) = Sp.zeros gs.length from rfl]
 exact ⟨by omega,by omega,by omega,⟨by rw [z2];omega,by rw [z2];omega⟩,⟨⟨hg,by omega,z1,z2⟩,h0⟩,by omega,by omega,by omega,by omega,hr⟩
namespace Sp
noncomputable def raise (fl:Bool) (gs:List G2) (r:Int):List Int:=Classical.epsilon fun b => okB gs b /\ Ev M1 (.pure 35 [gsA fl gs,.int .i64 r]) (resA b) []
end Sp
theorem raise_spec {fl:Bool} {gs:List G2} {r:Int} (h:Sp.checkE gs 200 = 0 /\ 0 < gs.length /\ 0 <= r /\ r <= 50):okB gs (Sp.raise fl gs r) /\ Ev M1 (.pure 35 [gsA fl gs,.int .i64 r]) (resA (Sp.raise fl gs r)) []:=
 Classical.epsilon_spec (p:=fun b => okB gs b /\ Ev M1 (.pure 35 [gsA fl gs,.int .i64 r]) (resA b) []) (raise_ex fl gs r h)
theorem ev35 (fl:Bool) (gs:List G2) (r:Int) (h:Sp.checkE gs 200 = 0 /\ 0 < gs.length /\ 0 <= r /\ r <= 50):Ev M1 (.pure 35 [gsA fl gs,.int .i64 r]) (.tup [isA false (Sp.raise fl gs r),.int .i64 0]) []:=(raise_spec h).2
end Go.Av

namespace Go.Av
open Go.Proofs
set_option maxRecDepth 100000
end Go.Av

namespace Go.Av
open Go.Proofs
end Go.Av

namespace Go.Av
open Go.Proofs
namespace Sp
def srch (gs:List G2):Nat -> List Int -> List Int -> List Int
 | 0,o,b => if b.length = 0 \/ way gs o < way gs b then o else b
 | k + 1,o,b => (List.range' 0 gs.length).foldl (fun (b:List Int) (i:Nat) => if (i:Int) ∈ o then b else srch gs k (o ++ [(i:Int)]) b) b
def step (gs:List G2) (k:Nat) (o:List Int) (b:List Int) (i:Nat):List Int:=if (i:Int) ∈ o then b else srch gs k (o ++ [(i:Int)]) b
def hd (l:List Int):Int:=l.getD 0 default
def tl (l:List Int):List Int:=l.drop 1
def begins (gs:List G2) (k:Nat) (o:List Int):Prop:=o.length + k = gs.length /\ o.Nodup /\ (∀ x ∈ o,0 <= x /\ x < (gs.length:Int)) /\ 0 < o.length
end Sp
theorem hd_tl {l:List Int} (h:l ≠ []):Sp.hd l :: Sp.tl l = l:=by
 cases l with
 | nil => exact absurd rfl h
 | cons x l => rfl
theorem srch_succ (gs:List G2) (k:Nat) (o b:List Int):Sp.srch gs (k + 1) o b = (List.range' 0 gs.length).foldl (Sp.step gs k o) b:=rfl
theorem range_step (gs:List G2) (k:Nat) (o b:List Int) (c i:Nat):(List.range' i (c + 1)).foldl (Sp.step gs k o) b = (List.range' (i + 1) c).foldl (Sp.step gs k o) (Sp.step gs k o b i):=rfl
theorem way_snoc (gs:List G2):∀ (o:List Int) (y:Int),0 < o.length -> Sp.way gs (o ++ [y]) = Sp.way gs o + Sp.dAt gs (o.getD (o.length - 1) default) y
 | [],_,h => by simp at h
 | [x],y,_ => by simp [Sp.way]
 | x :: z :: o,y,_ => by
  have:=way_snoc gs (z :: o) y (by simp)
  simp only [List.cons_append,Sp.way] at this ⊢
  rw [this]
  simp only [List.length_cons,Nat.add_sub_cancel]
  have e:(x :: z :: o).getD (o.length + 1) default = (z :: o).getD o.length default:=rfl
  rw [e];omega
theorem begins_snoc {gs:List G2} {k:Nat} {o:List Int} {i:Nat} (h:Sp.begins gs (k + 1) o) (hi:i < gs.length) (ho:¬(i:Int) ∈ o):Sp.begins gs k (o ++ [(i:Int)]):=
 ⟨by have:=h.1;simp;omega,Mst.nodup_snoc h.2.1 ho,Mst.rng_snoc h.2.2.1 (by omega),by simp⟩
theorem srch_ge {gs:List G2} (hg:Sp.okG gs):∀ (k:Nat) (o b:List Int),0 < o.length -> b ≠ [] -> Sp.way gs b <= Sp.way gs o -> Sp.srch gs k o b = b
 | 0,o,b,_,hb,h => by
  have:0 < b.length:=List.length_pos_iff.2 hb
  rw [Sp.srch,if_neg (by omega)]
 | k + 1,o,b,ho,hb,h => by
  rw [srch_succ]
  have:∀ (l:List Nat),l.foldl (Sp.step gs k o) b = b:=by
   intro l
   induction l with
   | nil => rfl
   | cons i l ih =>
    rw [List.foldl_cons]
    have e:Sp.step gs k o b i = b:=by
     unfold Sp.step
     split
     ·rfl
     ·refine srch_ge hg k _ b (by simp) hb ?_
      rw [way_snoc gs o i ho]
      have:=dAt_le hg (o.getD (o.length - 1) default) i
      omega
    rw [e];exact ih
  exact this _
theorem srch_some {gs:List G2}:∀ (k:Nat) (o b:List Int),b ≠ [] -> 0 < o.length -> Sp.srch gs k o b ≠ []
 | 0,o,b,hb,ho => by
  rw [Sp.srch]
  split
  ·exact List.length_pos_iff.1 ho
  ·exact hb
 | k + 1,o,b,hb,ho => by
  rw [srch_succ]
  have:∀ (l:List Nat) (b:List Int),b ≠ [] -> l.foldl (Sp.step gs k o) b ≠ []:=by
   intro l
   induction l with
   | nil => exact fun b hb => hb
   | cons i l ih =>
    intro b hb
    rw [List.foldl_cons]
    refine ih _ ?_
    unfold Sp.step
    split
    ·exact hb
    ·exact srch_some k _ b hb (by simp)
  exact this _ b hb
theorem fold_some {gs:List G2} {k:Nat} {o:List Int} (ho:0 < o.length):∀ (l:List Nat) (b:List Int),b ≠ [] -> l.foldl (Sp.step gs k o) b ≠ []
 | [],b,hb => hb
 | i :: l,b,hb => by
  rw [List.foldl_cons]
  refine fold_some ho l _ ?_
  unfold Sp.step
  split
  ·exact hb
  ·exact srch_some k _ b hb (by simp)
theorem srch_full {gs:List G2}:∀ (k:Nat) (o:List Int),Sp.begins gs k o -> Sp.srch gs k o [] ≠ []
 | 0,o,h => by
  rw [Sp.srch,if_pos (.inl rfl)]
  exact List.length_pos_iff.1 h.2.2.2
 | k + 1,o,h => by
  rw [srch_succ]
  have hex:∃ j:Nat,j < gs.length /\ ¬(j:Int) ∈ o:=by
   refine Classical.byContradiction fun hn => ?_
   have:=il_ge gs.length o (fun j hj => Classical.byContradiction fun hm => hn ⟨j,hj,hm⟩)
   have:=h.1
   omega
  obtain ⟨j,hj,hjo⟩:=hex
  have:∀ (l:List Nat),(∀ i ∈ l,i < gs.length) -> j ∈ l -> l.foldl (Sp.step gs k o) [] ≠ []:=by
   intro l
   induction l with
   | nil => intro _ h;simp at h
   | cons i l ih =>
    intro hl hm
    rw [List.foldl_cons]
    by_cases hi:(i:Int) ∈ o
    ·have e:Sp.step gs k o [] i = []:=if_pos hi
     rw [e]
     refine ih (fun x hx => hl x (List.mem_cons_of_mem _ hx)) ?_
     rcases List.mem_cons.1 hm with rfl | hm
     ·exact absurd hi hjo
     ·exact hm
    ·have e:Sp.step gs k o [] i = Sp.srch gs k (o ++ [(i:Int)]) []:=if_neg hi
     rw [e]
     exact fold_some h.2.2.2 l _ (srch_full k _ (begins_snoc h (hl i (by simp)) hi))
  exact this _ (fun i hi => by simpa using hi) (by simp;omega)
theorem srch_ord {gs:List G2}:∀ (k:Nat) (o b:List Int),Sp.begins gs k o -> o.getD 0 default = 0 -> (b ≠ [] -> IsOrd gs.length b) -> Sp.srch gs k o b ≠ [] -> IsOrd gs.length (Sp.srch gs k o b)
 | 0,o,b,h,h0,hb,hne => by
  rw [Sp.srch] at hne ⊢
  split
  ·exact ⟨by have:=h.1;omega,h.2.1,h.2.2.1,fun _ => h0⟩
  ·rename_i hc
   rw [if_neg hc] at hne
   exact hb hne
 | k + 1,o,b,h,h0,hb,hne => by
  rw [srch_succ] at hne ⊢
  have:∀ (l:List Nat) (b:List Int),(∀ i ∈ l,i < gs.length) -> (b ≠ [] -> IsOrd gs.length b) -> (l.foldl (Sp.step gs k o) b ≠ [] -> IsOrd gs.length (l.foldl (Sp.step gs k o) b)):=by
   intro l
   induction l with
   | nil => exact fun b _ hb => hb
   | cons i l ih =>
    intro b hl hb
    rw [List.foldl_cons]
    refine ih _ (fun x hx => hl x (List.mem_cons_of_mem _ hx)) ?_
    unfold Sp.step
    split
    ·exact hb
    ·rename_i hi
     refine srch_ord k _ b (begins_snoc h (hl i (by simp)) hi) ?_ hb
     have:=h.2.2.2
     cases o with
     | nil => simp at this
     | cons x o => simpa using h0
  exact this _ b (fun i hi => by simpa using hi) hb hne
theorem srch_least {gs:List G2} (hg:Sp.okG gs):∀ (k:Nat) (o b:List Int),Sp.begins gs k o -> (b ≠ [] -> Sp.way gs (Sp.srch gs k o b) <= Sp.way gs b) /\ ∀ e:List Int,e.length = k -> (∀ x ∈ e,0 <= x /\ x < (gs.length:Int)) -> (o ++ e).Nodup -> Sp.way gs (Sp.srch gs k o b) <= Sp.way gs (o ++ e)
 | 0,o,b,h => by
  rw [Sp.srch]
  refine ⟨fun hb => ?_,fun e he _ _ => ?_⟩
  ·have:0 < b.length:=List.length_pos_iff.2 hb
   split <;> omega
  ·have:e = []:=List.length_eq_zero_iff.1 he
   subst this
   rw [List.append_nil]
   split <;> omega
 | k + 1,o,b,h => by
  rw [srch_succ]
  have:∀ (l:List Nat) (b:List Int),(∀ i ∈ l,i < gs.length) -> (b ≠ [] -> Sp.way gs (l.foldl (Sp.step gs k o) b) <= Sp.way gs b) /\
    ∀ (x:Int) (e:List Int),x.toNat ∈ l -> e.length = k -> (∀ y ∈ x :: e,0 <= y /\ y < (gs.length:Int)) -> (o ++ x :: e).Nodup -> Sp.way gs (l.foldl (Sp.step gs k o) b) <= Sp.way gs (o ++ x :: e):=by
   intro l
   induction l with
   | nil => exact fun b _ => ⟨fun _ => Int.le_refl _,fun x e hx => by simp at hx⟩
   | cons i l ih =>
    intro b hl
    rw [List.foldl_cons]
    obtain ⟨i1,i2⟩:=ih (Sp.step gs k o b i) (fun x hx => hl x (List.mem_cons_of_mem _ hx))
    have hstep:b ≠ [] -> Sp.step gs k o b i ≠ [] /\ Sp.way gs (Sp.step gs k o b i) <= Sp.way gs b:=by
     intro hb
     unfold Sp.step
     split
     ·exact ⟨hb,Int.le_refl _⟩
     ·rename_i hi
      exact ⟨srch_some k _ b hb (by simp),(srch_least hg k _ b (begins_snoc h (hl i (by simp)) hi)).1 hb⟩
    refine ⟨fun hb => Int.le_trans (i1 (hstep hb).1) (hstep hb).2,fun x e hx he hr hd => ?_⟩
    by_cases hxi:x.toNat = i
    ·have hx0:=hr x (by simp)
     have hxe:x = (i:Int):=by omega
     subst hxe
     have hno:¬(i:Int) ∈ o:=fun hm => by
      rw [List.nodup_append] at hd
      exact hd.2.2 _ hm _ (by simp) rfl
     have e1:Sp.step gs k o b i = Sp.srch gs k (o ++ [(i:Int)]) b:=if_neg hno
     have hbeg:=begins_snoc h (hl i (by simp)) hno
     have hl2:=(srch_least hg k _ b hbeg).2 e he (fun y hy => hr y (List.mem_cons_of_mem _ hy)) (by simpa using hd)
     have hne:Sp.step gs k o b i ≠ []:=by
      rw [e1]
      by_cases hb:b = []
      ·subst hb;exact srch_full k _ hbeg
      ·exact srch_some k _ b hb (by simp)
     rw [<- e1] at hl2
     refine Int.le_trans (i1 hne) ?_
     simpa using hl2
    ·exact i2 x e (by
      rcases List.mem_cons.1 hx with h | h
      ·exact absurd h hxi
      ·exact h) he hr hd
  obtain ⟨t1,t2⟩:=this (List.range' 0 gs.length) b (fun i hi => by simpa using hi)
  refine ⟨t1,fun e he hr hd => ?_⟩
  cases e with
  | nil => simp at he
  | cons x e => exact t2 x e (by have:=hr x (by simp);simp;omega) (by simpa using he) hr hd
end Go.Av

namespace Go.Av
open Go.Proofs
set_option maxRecDepth 100000
def fi64:Fi:=⟨8,[.tmp 2]⟩
def kp64:List (Nat × List Nat):=[(0,[0]),(1,[0,4]),(2,[2]),(3,[2])]
def tv41e_at (fa:Bool) (Q:AV -> Heap -> Prop):Prop:=Wp M1 (.run fi64 (atC (cd Try.f64) []) [(0,.vec fa 1 [])] []) Q
def tv41c_at (fa:Bool) (y:Int) (a:List Int) (Q:AV -> Heap -> Prop):Prop:=Wp M1 (.run fi64 (atC (cd Try.f64) []) [(0,.vec fa 1 ((y :: a).map (.int .i64)))] []) Q
def tv41f_at (fa:Bool) (y:Int) (a:List Int) (Q:AV -> Heap -> Prop):Prop:=Wp M1 (.run fi64 (atC (cd Try.f64) []) [(0,.vec fa 1 ((y :: a).map (.int .i64)))] []) Q
theorem call64 {args:List AV} {d:AV} (h:wc M1 fi64 Try.f64 args d):Ev M1 (.pure 64 args) d []:=pcl _ _ (by kernel_rfl) h
theorem owncall64 {args:List AV} {L:Heap} {Q:AV -> Heap -> Prop} (h:Wp M1 (.run fi64 [.code (cd Try.f64)] (argVars 0 args) L) Q):Wp M1 (.own 64 args L) Q:=
 own_wp Try.f64 fi64 (by kernel_rfl) (by kernel_rfl) (by kernel_rfl) (by kernel_rfl) h
theorem tv41e (fa:Bool)  (dq:AV) (H :
  (Weak (AV.vnil) dq) /\
  (Weak (AV.vec true 1 []) dq)) :
 tv41e_at fa (PureQ dq):=by
 unfold tv41e_at
 refine path_wp (G:=given kp64 [] []) 4 [] ⟨(atC (cd Try.f64) [1,0,0]),[(0,AV.vec fa 1 [])],[],[],[],[]⟩ (by kernel_rfl) allB_nil allP_nil allC_nil (wp_nil 1 [0,4] (e1:=[(0,AV.vec fa 1 []),(4,AV.bool true)]) (e2:=[(0,AV.vec fa 1 []),(4,AV.bool false)]) (L1:=[]) (L2:=[]) (a1:=[]) (a2:=[]) (v1:=[(4,[],AV.bool true),(3,[],AV.vec fa 1 []),(0,[],AV.vec fa 1 [])]) (v2:=[(4,[],AV.bool false),(3,[],AV.vec fa 1 []),(0,[],AV.vec fa 1 [])]) (by kernel_rfl) (by kernel_rfl) allB_nil allB_nil (by kernel_rfl) (by kernel_rfl) ?_ ?_)
 ·have H:=H.1
  exact path_ret (G:=given kp64 [] []) 1000 [true] (k:=((atC (cd Try.f64) [1,0,1,0,1])).tail) (env':=[(2,AV.vnil)]) (L':=[]) (asm:=[true == true]) (eqs:=[]) (calls:=[]) (AV.vnil) (by kernel_rfl) (by kernel_rfl) (allB_cons rfl allB_nil) allP_nil allC_nil (pq_weak (d:=(AV.vnil)) (bs:=[]) (by kernel_rfl) (by kernel_rfl) allB_nil (by kernel_rfl) H)
 ·have H:=H.2
  exact path_ret (G:=given kp64 [] []) 1000 [false] (k:=((atC (cd Try.f64) [1,1,1])).tail) (env':=[(2,AV.vec true 1 [])]) (L':=[]) (asm:=[false == false]) (eqs:=[]) (calls:=[]) (AV.vec true 1 []) (by kernel_rfl) (by kernel_rfl) (allB_cons rfl allB_nil) allP_nil allC_nil (pq_weak (d:=(AV.vec true 1 [])) (bs:=[]) (by kernel_rfl) (by kernel_rfl) allB_nil (by kernel_rfl) H)
theorem tv41c (fa:Bool) (y:Int) (a:List Int)  (dq:AV) (H :
  ((0 + (a.length + 1)) * 8 <= 1099511627776) /\
  Weak (AV.vec false 1 (AV.int IntKind.i64 y :: List.map (AV.int IntKind.i64) a)) dq) :
 tv41c_at fa y a (PureQ dq):=by
 unfold tv41c_at
 have w1:(List.map (AV.int IntKind.i64) a).length = a.length:=List.length_map ..
 have i2:(decide ((0 + ((List.map (AV.int IntKind.i64) a).length + 1)) * 8 <= 1099511627776)) = true ↔ ((0 + (a.length + 1)) * 8 <= 1099511627776):=(by (try rw [w1]);all_goals exact i_dec)
 have k3:=H.1;have H:=H.2
 exact path_ret (G:=given kp64 [] []) 1000 [false] (k:=((atC (cd Try.f64) [1,1,1])).tail) (env':=[(2,AV.row 0 0)]) (L':=[{ elems:=AV.int IntKind.i64 y :: List.map (AV.int IntKind.i64) a,es:=1,ver:=0,frozen:=false,clean:=true }]) (asm:=[false == false,decide ((0 + ((List.map (AV.int IntKind.i64) a).length + 1)) * 8 <= 1099511627776)]) (eqs:=[]) (calls:=[]) (AV.row 0 0) (by kernel_rfl) (by kernel_rfl) (allB_cons rfl (allB_cons (i2.2 k3) allB_nil)) allP_nil allC_nil (pq_weak (d:=(AV.vec false 1 (AV.int IntKind.i64 y :: List.map (AV.int IntKind.i64) a))) (bs:=[0 == 0]) (by kernel_rfl) (by kernel_rfl) (allB_cons (beq_self_eq_true _) allB_nil) (by kernel_rfl) H)
theorem tv41f (fa:Bool) (y:Int) (a:List Int)  (Q:AV -> Heap -> Prop) (H :
  ((0 + (a.length + 1)) * 8 <= 1099511627776) /\
  Q (AV.row 0 0) [{ elems:=AV.int IntKind.i64 y :: List.map (AV.int IntKind.i64) a,es:=1,ver:=0,frozen:=false,clean:=true }]) :
 tv41f_at fa y a Q:=by
 unfold tv41f_at
 have w1:(List.map (AV.int IntKind.i64) a).length = a.length:=List.length_map ..
 have i2:(decide ((0 + ((List.map (AV.int IntKind.i64) a).length + 1)) * 8 <= 1099511627776)) = true ↔ ((0 + (a.length + 1)) * 8 <= 1099511627776):=(by (try rw [w1]);all_goals exact i_dec)
 have k3:=H.1;have H:=H.2
 exact path_ret (G:=given kp64 [] []) 1000 [false] (k:=((atC (cd Try.f64) [1,1,1])).tail) (env':=[(2,AV.row 0 0)]) (L':=[{ elems:=AV.int IntKind.i64 y :: List.map (AV.int IntKind.i64) a,es:=1,ver:=0,frozen:=false,clean:=true }]) (asm:=[false == false,decide ((0 + ((List.map (AV.int IntKind.i64) a).length + 1)) * 8 <= 1099511627776)]) (eqs:=[]) (calls:=[]) (AV.row 0 0) (by kernel_rfl) (by kernel_rfl) (allB_cons rfl (allB_cons (i2.2 k3) allB_nil)) allP_nil allC_nil H
end Go.Av

namespace Go.Av
open Go.Proofs
theorem ev64 (fa:Bool) (a:List Int) (h:a.length <= 1000000):Ev M1 (.pure 64 [isA fa a]) (isA false a) []:=by
 cases a with
 | nil => exact call64 (tv41e fa _ ⟨.vnil 1,.full 1 []⟩)
 | cons y a => exact call64 (tv41c fa y a _ ⟨by simp at h;omega,.refl _⟩)
theorem evf64 (fa:Bool) (a:List Int) (h:a.length <= 1000000 /\ 0 < a.length):Ev M1 (.own 64 [isA fa a] []) (.row 0 0) [⟨a.map (.int .i64),1,0,false,true⟩]:=by
 cases a with
 | nil => simp at h
 | cons y a => exact owncall64 (tv41f fa y a _ ⟨by simp at h;omega,rfl,rfl⟩)
end Go.Av
