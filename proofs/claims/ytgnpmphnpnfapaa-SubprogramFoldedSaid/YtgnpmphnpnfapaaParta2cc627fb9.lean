/- PART 6 of the texts of a claim, joined by a program: what each part shows stands at its head. -/
import Derived.Test.YtgnpmphnpnfapaaParte9524bf288

namespace Go.Av
open Go.Proofs
set_option maxRecDepth 100000
def fi46:Fi:=⟨70,[.tmp 4]⟩
def kp46:List (Nat × List Nat):=[(0,[0,1]),(1,[0,1,5]),(2,[0,5,14,15,16]),(3,[0,5,14,15,16,17]),(4,[0,5,7,14,15,16]),(5,[0,5,7,8,9,10,14,15,16]),(6,[0,5,7,8,9,14,15,16,28]),(7,[0,5,14,15,16]),(8,[0,5,8,9,12,13,14,15,16]),(9,[0,5,8,9,12,14,15,16,43]),(10,[0,5,8,9,12,14,15,16]),(11,[0,5,9,12,14,15,16]),(12,[0,5,9,12,14,15,16,60]),(13,[0,5,12,14,15,16,61,62]),(14,[0,5,12,14,15,16,61,62,63]),(15,[0,5,12,14,15,16,61,62]),(16,[0,5,12,14,15,16,61,62]),(17,[0,5,14,15,16]),(18,[4])]
def tvXp_at (sm st dp sz dn:List AV) (g:Bool) (l:List Bk) (Q:AV -> Heap -> Prop):Prop:=Wp M1 (.run fi46 (atC (cd Try.f46) []) [(0,.ptr 0 0 0 0),(1,.vec g 3 (l.map Bk.a))] [⟨[.agg [.mapr 1,.mapr 2,.mapr 3,.mapr 4,.mapr 5]],5,0,false,false⟩,⟨sm,2,0,false,true⟩,⟨st,2,0,false,true⟩,⟨dp,2,0,false,true⟩,⟨sz,2,0,false,true⟩,⟨dn,2,0,false,true⟩]) Q
def tvXaz_at (sm st dp sz dn:List AV) (g:Bool) (l:List Bk) (n i:Int) (Q:AV -> Heap -> Prop):Prop:=Wp M1 (.run fi46 (atC (cd Try.f46) [1,1,0,1,0,0]) [(0,.ptr 0 0 0 0),(5,.vnil),(14,.vec g 3 (l.map Bk.a)),(15,.int .i64 n),(16,.int .i64 i)] [⟨[.agg [.mapr 1,.mapr 2,.mapr 3,.mapr 4,.mapr 5]],5,0,false,false⟩,⟨sm,2,0,false,true⟩,⟨st,2,0,false,true⟩,⟨dp,2,0,false,true⟩,⟨sz,2,0,false,true⟩,⟨dn,2,0,false,true⟩]) Q
def tvXaa_at (sm st dp sz dn:List AV) (g:Bool) (l:List Bk) (q:List Bk) (v:Nat) (n i:Int) (Q:AV -> Heap -> Prop):Prop:=Wp M1 (.run fi46 (atC (cd Try.f46) [1,1,0,1,0,0]) [(0,.ptr 0 0 0 0),(5,.row 6 v),(14,.vec g 3 (l.map Bk.a)),(15,.int .i64 n),(16,.int .i64 i)] [⟨[.agg [.mapr 1,.mapr 2,.mapr 3,.mapr 4,.mapr 5]],5,0,false,false⟩,⟨sm,2,0,false,true⟩,⟨st,2,0,false,true⟩,⟨dp,2,0,false,true⟩,⟨sz,2,0,false,true⟩,⟨dn,2,0,false,true⟩,⟨q.map Bk.a,3,v,false,true⟩]) Q
def tvXkz_at (sm st dp sz dn:List AV) (g:Bool) (l:List Bk) (m t n i:Int) (Q:AV -> Heap -> Prop):Prop:=Wp M1 (.run fi46 (atC (cd Try.f46) [1,1,0,1,0,0,1,1,0,0,1,1,1]) [(0,.ptr 0 0 0 0),(5,.vnil),(8,.int .i64 m),(9,.int .i64 t),(14,.vec g 3 (l.map Bk.a)),(15,.int .i64 n),(16,.int .i64 i)] [⟨[.agg [.mapr 1,.mapr 2,.mapr 3,.mapr 4,.mapr 5]],5,0,false,false⟩,⟨sm,2,0,false,true⟩,⟨st,2,0,false,true⟩,⟨dp,2,0,false,true⟩,⟨sz,2,0,false,true⟩,⟨dn,2,0,false,true⟩]) Q
def tvXka_at (sm st dp sz dn:List AV) (g:Bool) (l:List Bk) (q:List Bk) (v:Nat) (m t n i:Int) (Q:AV -> Heap -> Prop):Prop:=Wp M1 (.run fi46 (atC (cd Try.f46) [1,1,0,1,0,0,1,1,0,0,1,1,1]) [(0,.ptr 0 0 0 0),(5,.row 6 v),(8,.int .i64 m),(9,.int .i64 t),(14,.vec g 3 (l.map Bk.a)),(15,.int .i64 n),(16,.int .i64 i)] [⟨[.agg [.mapr 1,.mapr 2,.mapr 3,.mapr 4,.mapr 5]],5,0,false,false⟩,⟨sm,2,0,false,true⟩,⟨st,2,0,false,true⟩,⟨dp,2,0,false,true⟩,⟨sz,2,0,false,true⟩,⟨dn,2,0,false,true⟩,⟨q.map Bk.a,3,v,false,true⟩]) Q
def tvXuz_at (sm st dp sz dn:List AV) (g:Bool) (l:List Bk) (m t n i:Int) (Q:AV -> Heap -> Prop):Prop:=Wp M1 (.run fi46 (atC (cd Try.f46) [1,1,0,1,0,0,1,1,0,0,1,1,1]) [(0,.ptr 0 0 0 0),(5,.vnil),(8,.int .i64 m),(9,.int .i64 t),(14,.vec g 3 (l.map Bk.a)),(15,.int .i64 n),(16,.int .i64 i)] [⟨[.agg [.mapr 1,.mapr 2,.mapr 3,.mapr 4,.mapr 5]],5,0,false,false⟩,⟨sm,2,0,false,true⟩,⟨st,2,0,false,true⟩,⟨dp,2,0,false,true⟩,⟨sz,2,0,false,true⟩,⟨dn,2,0,false,true⟩]) Q
def tvXua_at (sm st dp sz dn:List AV) (g:Bool) (l:List Bk) (q:List Bk) (v:Nat) (m t n i:Int) (Q:AV -> Heap -> Prop):Prop:=Wp M1 (.run fi46 (atC (cd Try.f46) [1,1,0,1,0,0,1,1,0,0,1,1,1]) [(0,.ptr 0 0 0 0),(5,.row 6 v),(8,.int .i64 m),(9,.int .i64 t),(14,.vec g 3 (l.map Bk.a)),(15,.int .i64 n),(16,.int .i64 i)] [⟨[.agg [.mapr 1,.mapr 2,.mapr 3,.mapr 4,.mapr 5]],5,0,false,false⟩,⟨sm,2,0,false,true⟩,⟨st,2,0,false,true⟩,⟨dp,2,0,false,true⟩,⟨sz,2,0,false,true⟩,⟨dn,2,0,false,true⟩,⟨q.map Bk.a,3,v,false,true⟩]) Q
def tvXrz_at (sm st dp sz dn:List AV) (g:Bool) (l:List Bk) (bf:Bool) (y:Bk) (Y:List Bk) (t k n i:Int) (Q:AV -> Heap -> Prop):Prop:=Wp M1 (.run fi46 (atC (cd Try.f46) [1,1,0,1,0,0,1,1,0,0,1,1,1,1,1,1,1,0,0]) [(0,.ptr 0 0 0 0),(5,.vnil),(12,.vec bf 3 ((y :: Y).map Bk.a)),(14,.vec g 3 (l.map Bk.a)),(15,.int .i64 n),(16,.int .i64 i),(61,.int .i64 t),(62,.int .i64 k)] [⟨[.agg [.mapr 1,.mapr 2,.mapr 3,.mapr 4,.mapr 5]],5,0,false,false⟩,⟨sm,2,0,false,true⟩,⟨st,2,0,false,true⟩,⟨dp,2,0,false,true⟩,⟨sz,2,0,false,true⟩,⟨dn,2,0,false,true⟩]) Q
def tvXra_at (sm st dp sz dn:List AV) (g:Bool) (l:List Bk) (q:List Bk) (v:Nat) (bf:Bool) (Y:List Bk) (t k n i:Int) (Q:AV -> Heap -> Prop):Prop:=Wp M1 (.run fi46 (atC (cd Try.f46) [1,1,0,1,0,0,1,1,0,0,1,1,1,1,1,1,1,0,0]) [(0,.ptr 0 0 0 0),(5,.row 6 v),(12,.vec bf 3 (Y.map Bk.a)),(14,.vec g 3 (l.map Bk.a)),(15,.int .i64 n),(16,.int .i64 i),(61,.int .i64 t),(62,.int .i64 k)] [⟨[.agg [.mapr 1,.mapr 2,.mapr 3,.mapr 4,.mapr 5]],5,0,false,false⟩,⟨sm,2,0,false,true⟩,⟨st,2,0,false,true⟩,⟨dp,2,0,false,true⟩,⟨sz,2,0,false,true⟩,⟨dn,2,0,false,true⟩,⟨q.map Bk.a,3,v,false,true⟩]) Q
theorem owncall46 {args:List AV} {L:Heap} {Q:AV -> Heap -> Prop} (h:Wp M1 (.run fi46 [.code (cd Try.f46)] (argVars 0 args) L) Q):Wp M1 (.own 46 args L) Q:=
 own_wp Try.f46 fi46 (by kernel_rfl) (by kernel_rfl) (by kernel_rfl) (by kernel_rfl) h
theorem tvXp (sm st dp sz dn:List AV) (g:Bool) (l:List Bk)  (Q:AV -> Heap -> Prop) (H :
  tvXaz_at (sm) (st) (dp) (sz) (dn) (g) (l) ((↑l.length:Int)) (0) Q) :
 tvXp_at sm st dp sz dn g l Q:=by
 unfold tvXp_at
 have w1:(List.map Bk.a l).length = l.length:=List.length_map ..
 exact path_wp (G:=given kp46 [] []) 1000 [] ⟨(atC (cd Try.f46) [1,1,0,1,0,0]),[(0,AV.ptr 0 0 0 0),(5,AV.vnil),(14,AV.vec g 3 (List.map Bk.a l)),(15,vi (↑(List.map Bk.a l).length:Int)),(16,vi 0)],[⟨[ag [AV.mapr 1,AV.mapr 2,AV.mapr 3,AV.mapr 4,AV.mapr 5]],5,0,false,false⟩,⟨sm,2,0,false,true⟩,⟨st,2,0,false,true⟩,⟨dp,2,0,false,true⟩,⟨sz,2,0,false,true⟩,⟨dn,2,0,false,true⟩],_,[],_⟩ (by kernel_rfl) b0 q0 c0 (by (try rw [w1]);all_goals exact H)
noncomputable abbrev zTpM1:=ag [AV.mapr 1,AV.mapr 2,AV.mapr 3,AV.mapr 4,AV.mapr 5]
theorem tvXaz (sm st dp sz dn:List AV) (g:Bool) (l:List Bk) (n i:Int)  (Q:AV -> Heap -> Prop) (H :
  ((i < n) -> (0 <= i) /\
   (i.toNat < l.length) /\
   (Sp.okW (l.getD i.toNat default).3) /\
   ((¬(Sp.cIs (l.getD i.toNat default).3 = true)) -> (-9223372036854775808 <= i + 1 /\ i + 1 <= 9223372036854775807) /\
    Wp M1 (.run fi46 (atC (cd Try.f46) [1,1,0,1,0,0]) [(0,AV.ptr 0 0 0 0),(5,AV.row 7 0),(14,AV.vec g 3 (List.map Bk.a l)),(15,vi n),(16,vi (i + 1))] [{ elems:=[ag [AV.mapr 1,AV.mapr 2,AV.mapr 3,AV.mapr 4,AV.mapr 5]],es:=5,ver:=0,frozen:=false,clean:=false },{ elems:=sm,es:=2,ver:=0,frozen:=false,clean:=true },{ elems:=st,es:=2,ver:=0,frozen:=false,clean:=true },{ elems:=dp,es:=2,ver:=0,frozen:=false,clean:=true },{ elems:=sz,es:=2,ver:=0,frozen:=false,clean:=true },{ elems:=dn,es:=2,ver:=0,frozen:=false,clean:=true },{ elems:=[ag [vb (l.getD i.toNat default).1,AV.vec (l.getD i.toNat default).2 2 (List.map Wo.a (l.getD i.toNat default).3),AV.str (l.getD i.toNat default).4]],es:=3,ver:=0,frozen:=false,clean:=false },{ elems:=[ag [vb (l.getD i.toNat default).1,AV.vec (l.getD i.toNat default).2 2 (List.map Wo.a (l.getD i.toNat default).3),AV.str (l.getD i.toNat default).4]],es:=3,ver:=0,frozen:=false,clean:=true }]) Q) /\
   (¬(¬(Sp.cIs (l.getD i.toNat default).3 = true)) -> Wp M1 (.run fi46 (atC (cd Try.f46) [1,1,0,1,0,0,1,1,0,0,1,1,1]) [(0,AV.ptr 0 0 0 0),(5,AV.vnil),(8,vi (Sp.cN (l.getD i.toNat default).3)),(9,vi (Sp.cT (l.getD i.toNat default).3)),(14,AV.vec g 3 (List.map Bk.a l)),(15,vi n),(16,vi i)] [{ elems:=[ag [AV.mapr 1,AV.mapr 2,AV.mapr 3,AV.mapr 4,AV.mapr 5]],es:=5,ver:=0,frozen:=false,clean:=false },{ elems:=sm,es:=2,ver:=0,frozen:=false,clean:=true },{ elems:=st,es:=2,ver:=0,frozen:=false,clean:=true },{ elems:=dp,es:=2,ver:=0,frozen:=false,clean:=true },{ elems:=sz,es:=2,ver:=0,frozen:=false,clean:=true },{ elems:=dn,es:=2,ver:=0,frozen:=false,clean:=true },{ elems:=List.map Bk.a [{ sk:=(l.getD i.toNat default).1,f:=(l.getD i.toNat default).2,ws:=(l.getD i.toNat default).3,cm:=(l.getD i.toNat default).4 }],es:=3,ver:=0,frozen:=false,clean:=false }]) Q)) /\
  (¬(i < n) -> Q (AV.vnil) [{ elems:=[ag [AV.mapr 1,AV.mapr 2,AV.mapr 3,AV.mapr 4,AV.mapr 5]],es:=5,ver:=0,frozen:=false,clean:=false },{ elems:=sm,es:=2,ver:=0,frozen:=false,clean:=true },{ elems:=st,es:=2,ver:=0,frozen:=false,clean:=true },{ elems:=dp,es:=2,ver:=0,frozen:=false,clean:=true },{ elems:=sz,es:=2,ver:=0,frozen:=false,clean:=true },{ elems:=dn,es:=2,ver:=0,frozen:=false,clean:=true }])) :
 tvXaz_at sm st dp sz dn g l n i Q:=by
 unfold tvXaz_at
 rcases xm (i < n) with d2 | d2
 ·have H:=H.1 d2
  obtain ⟨k4,H⟩:=H
  have w5:(List.map Bk.a l).length = l.length:=List.length_map ..
  have i6:(decide (i.toNat < (List.map Bk.a l).length)) = true ↔ (i.toNat < l.length):=(by (try rw [w5]);all_goals exact i_dec)
  obtain ⟨k7,H⟩:=H
  obtain ⟨k8,H⟩:=H
  refine path_wp (G:=given kp46 [(4,1,.elem (ag [vb (l.getD i.toNat default).1,AV.vec (l.getD i.toNat default).2 2 (List.map Wo.a (l.getD i.toNat default).3),AV.str (l.getD i.toNat default).4])),(5,1,.call (tu [vi (Sp.cN (l.getD i.toNat default).3),vi (Sp.cT (l.getD i.toNat default).3),vb (Sp.cIs (l.getD i.toNat default).3),vi (Sp.cE (l.getD i.toNat default).3)]) none)] []) 14 [true] ⟨(atC (cd Try.f46) [1,1,0,1,0,0,1,1,0,0,1,1,0,1]),[(0,AV.ptr 0 0 0 0),(5,AV.vnil),(7,AV.ptr 6 0 0 0),(8,vi (Sp.cN (l.getD i.toNat default).3)),(9,vi (Sp.cT (l.getD i.toNat default).3)),(14,AV.vec g 3 (List.map Bk.a l)),(15,vi n),(16,vi i),(28,vb !Sp.cIs (l.getD i.toNat default).3)],[⟨[zTpM1],5,0,false,false⟩,⟨sm,2,0,false,true⟩,⟨st,2,0,false,true⟩,⟨dp,2,0,false,true⟩,⟨sz,2,0,false,true⟩,⟨dn,2,0,false,true⟩,⟨[ag [vb (l.getD i.toNat default).1,AV.vec (l.getD i.toNat default).2 2 (List.map Wo.a (l.getD i.toNat default).3),AV.str (l.getD i.toNat default).4]],3,0,false,false⟩],_,[((List.map Bk.a l).get?Internal i.toNat = some (ag [vb (l.getD i.toNat default).1,AV.vec (l.getD i.toNat default).2 2 (List.map Wo.a (l.getD i.toNat default).3),AV.str (l.getD i.toNat default).4]))],_⟩ (by kernel_rfl) (bc (beq_t (i_dec.2 d2)) (bc (i_dec.2 k4) (bc (i6.2 k7) (bc rfl (bc rfl b0))))) (qc (el_map k7) q0) (ce (@ev13 ((l.getD i.toNat default).1) ((l.getD i.toNat default).2) ((l.getD i.toNat default).3) ((l.getD i.toNat default).4) k8) c0) ?_
  rcases xm (¬(Sp.cIs (l.getD i.toNat default).3 = true)) with d10 | d10
  ·have H:=H.1 d10
   obtain ⟨k11,H⟩:=H
   have w12:wi (i + 1) = i + 1:=wI64 k11
   exact path_wp (G:=given kp46 [] []) 1000 [true] ⟨(atC (cd Try.f46) [1,1,0,1,0,0]),[(0,AV.ptr 0 0 0 0),(5,AV.row 7 0),(14,AV.vec g 3 (List.map Bk.a l)),(15,vi n),(16,vi (wi (i + 1)))],[⟨[zTpM1],5,0,false,false⟩,⟨sm,2,0,false,true⟩,⟨st,2,0,false,true⟩,⟨dp,2,0,false,true⟩,⟨sz,2,0,false,true⟩,⟨dn,2,0,false,true⟩,⟨[ag [vb (l.getD i.toNat default).1,AV.vec (l.getD i.toNat default).2 2 (List.map Wo.a (l.getD i.toNat default).3),AV.str (l.getD i.toNat default).4]],3,0,false,false⟩,⟨[ag [vb (l.getD i.toNat default).1,AV.vec (l.getD i.toNat default).2 2 (List.map Wo.a (l.getD i.toNat default).3),AV.str (l.getD i.toNat default).4]],3,0,false,true⟩],[(!Sp.cIs (l.getD i.toNat default).3) == true,true,true],[],_⟩ (by kernel_rfl) (bc (beq_t ((i_not (i_var _)).2 d10)) (bc rfl (bc rfl b0))) q0 c0 (by (try rw [w12]);all_goals exact H)
  ·have H:=H.2 d10
   have w13:[ag [vb (l.getD i.toNat default).1,AV.vec (l.getD i.toNat default).2 2 (List.map Wo.a (l.getD i.toNat default).3),AV.str (l.getD i.toNat default).4]] = List.map Bk.a [{ sk:=(l.getD i.toNat default).1,f:=(l.getD i.toNat default).2,ws:=(l.getD i.toNat default).3,cm:=(l.getD i.toNat default).4 }]:=rfl
   exact path_wp (G:=given kp46 [] []) 2 [false] ⟨(atC (cd Try.f46) [1,1,0,1,0,0,1,1,0,0,1,1,1]),[(0,AV.ptr 0 0 0 0),(5,AV.vnil),(7,AV.ptr 6 0 0 0),(8,vi (Sp.cN (l.getD i.toNat default).3)),(9,vi (Sp.cT (l.getD i.toNat default).3)),(14,AV.vec g 3 (List.map Bk.a l)),(15,vi n),(16,vi i),(28,vb !Sp.cIs (l.getD i.toNat default).3)],[⟨[zTpM1],5,0,false,false⟩,⟨sm,2,0,false,true⟩,⟨st,2,0,false,true⟩,⟨dp,2,0,false,true⟩,⟨sz,2,0,false,true⟩,⟨dn,2,0,false,true⟩,⟨[ag [vb (l.getD i.toNat default).1,AV.vec (l.getD i.toNat default).2 2 (List.map Wo.a (l.getD i.toNat default).3),AV.str (l.getD i.toNat default).4]],3,0,false,false⟩],[(!Sp.cIs (l.getD i.toNat default).3) == false],[],_⟩ (by kernel_rfl) (bc (beq_f (fun h => d10 ((i_not (i_var _)).1 h))) b0) q0 c0 (by (try rw [w13]);all_goals exact Wp.less [0,5,8,9,14,15,16] (H))
 ·have H:=H.2 d2
  exact path_ret (G:=given kp46 [] []) 1000 [false] (k:=((atC (cd Try.f46) [1,1,1,1])).tail) (env':=[(4,AV.vnil)]) (L':=[⟨[zTpM1],5,0,false,false⟩,⟨sm,2,0,false,true⟩,⟨st,2,0,false,true⟩,⟨dp,2,0,false,true⟩,⟨sz,2,0,false,true⟩,⟨dn,2,0,false,true⟩]) (asm:=[(decide (i < n)) == false]) (eqs:=[]) (calls:=[]) (AV.vnil) (by kernel_rfl) (by kernel_rfl) (allB_cons (beq_f (fun h => d2 (i_dec.1 h))) allB_nil) allP_nil allC_nil H
noncomputable abbrev zTpM2:=ag [AV.mapr 1,AV.mapr 2,AV.mapr 3,AV.mapr 4,AV.mapr 5]
theorem tvXaa (sm st dp sz dn:List AV) (g:Bool) (l:List Bk) (q:List Bk) (v:Nat) (n i:Int)  (Q:AV -> Heap -> Prop) (H :
  ((i < n) -> (0 <= i) /\
   (i.toNat < l.length) /\
   (Sp.okW (l.getD i.toNat default).3) /\
   ((¬(Sp.cIs (l.getD i.toNat default).3 = true)) -> ((q.length + 1) * 48 <= 1099511627776) /\
    (-9223372036854775808 <= i + 1 /\ i + 1 <= 9223372036854775807) /\
    Wp M1 (.run fi46 (atC (cd Try.f46) [1,1,0,1,0,0]) [(0,AV.ptr 0 0 0 0),(5,AV.row 6 (v + 1)),(14,AV.vec g 3 (List.map Bk.a l)),(15,vi n),(16,vi (i + 1))] [{ elems:=[ag [AV.mapr 1,AV.mapr 2,AV.mapr 3,AV.mapr 4,AV.mapr 5]],es:=5,ver:=0,frozen:=false,clean:=false },{ elems:=sm,es:=2,ver:=0,frozen:=false,clean:=true },{ elems:=st,es:=2,ver:=0,frozen:=false,clean:=true },{ elems:=dp,es:=2,ver:=0,frozen:=false,clean:=true },{ elems:=sz,es:=2,ver:=0,frozen:=false,clean:=true },{ elems:=dn,es:=2,ver:=0,frozen:=false,clean:=true },{ elems:=List.map Bk.a (q ++ [{ sk:=(l.getD i.toNat default).1,f:=(l.getD i.toNat default).2,ws:=(l.getD i.toNat default).3,cm:=(l.getD i.toNat default).4 }]),es:=3,ver:=v + 1,frozen:=false,clean:=true },{ elems:=[ag [vb (l.getD i.toNat default).1,AV.vec (l.getD i.toNat default).2 2 (List.map Wo.a (l.getD i.toNat default).3),AV.str (l.getD i.toNat default).4]],es:=3,ver:=0,frozen:=false,clean:=false }]) Q) /\
   (¬(¬(Sp.cIs (l.getD i.toNat default).3 = true)) -> Wp M1 (.run fi46 (atC (cd Try.f46) [1,1,0,1,0,0,1,1,0,0,1,1,1]) [(0,AV.ptr 0 0 0 0),(5,AV.row 6 v),(8,vi (Sp.cN (l.getD i.toNat default).3)),(9,vi (Sp.cT (l.getD i.toNat default).3)),(14,AV.vec g 3 (List.map Bk.a l)),(15,vi n),(16,vi i)] [{ elems:=[ag [AV.mapr 1,AV.mapr 2,AV.mapr 3,AV.mapr 4,AV.mapr 5]],es:=5,ver:=0,frozen:=false,clean:=false },{ elems:=sm,es:=2,ver:=0,frozen:=false,clean:=true },{ elems:=st,es:=2,ver:=0,frozen:=false,clean:=true },{ elems:=dp,es:=2,ver:=0,frozen:=false,clean:=true },{ elems:=sz,es:=2,ver:=0,frozen:=false,clean:=true },{ elems:=dn,es:=2,ver:=0,frozen:=false,clean:=true },{ elems:=List.map Bk.a q,es:=3,ver:=v,frozen:=false,clean:=true },{ elems:=[ag [vb (l.getD i.toNat default).1,AV.vec (l.getD i.toNat default).2 2 (List.map Wo.a (l.getD i.toNat default).3),AV.str (l.getD i.toNat default).4]],es:=3,ver:=0,frozen:=false,clean:=false }]) Q)) /\
  (¬(i < n) -> Q (AV.row 6 v) [{ elems:=[ag [AV.mapr 1,AV.mapr 2,AV.mapr 3,AV.mapr 4,AV.mapr 5]],es:=5,ver:=0,frozen:=false,clean:=false },{ elems:=sm,es:=2,ver:=0,frozen:=false,clean:=true },{ elems:=st,es:=2,ver:=0,frozen:=false,clean:=true },{ elems:=dp,es:=2,ver:=0,frozen:=false,clean:=true },{ elems:=sz,es:=2,ver:=0,frozen:=false,clean:=true },{ elems:=dn,es:=2,ver:=0,frozen:=false,clean:=true },{ elems:=List.map Bk.a q,es:=3,ver:=v,frozen:=false,clean:=true }])) :
 tvXaa_at sm st dp sz dn g l q v n i Q:=by
 unfold tvXaa_at
 rcases xm (i < n) with d2 | d2
 ·have H:=H.1 d2
  obtain ⟨k4,H⟩:=H
  have w5:(List.map Bk.a l).length = l.length:=List.length_map ..
  have i6:(decide (i.toNat < (List.map Bk.a l).length)) = true ↔ (i.toNat < l.length):=(by (try rw [w5]);all_goals exact i_dec)
  obtain ⟨k7,H⟩:=H
  obtain ⟨k8,H⟩:=H
  refine path_wp (G:=given kp46 [(4,1,.elem (ag [vb (l.getD i.toNat default).1,AV.vec (l.getD i.toNat default).2 2 (List.map Wo.a (l.getD i.toNat default).3),AV.str (l.getD i.toNat default).4])),(5,1,.call (tu [vi (Sp.cN (l.getD i.toNat default).3),vi (Sp.cT (l.getD i.toNat default).3),vb (Sp.cIs (l.getD i.toNat default).3),vi (Sp.cE (l.getD i.toNat default).3)]) none)] []) 14 [true] ⟨(atC (cd Try.f46) [1,1,0,1,0,0,1,1,0,0,1,1,0,1]),[(0,AV.ptr 0 0 0 0),(5,AV.row 6 v),(7,AV.ptr 7 0 0 0),(8,vi (Sp.cN (l.getD i.toNat default).3)),(9,vi (Sp.cT (l.getD i.toNat default).3)),(14,AV.vec g 3 (List.map Bk.a l)),(15,vi n),(16,vi i),(28,vb !Sp.cIs (l.getD i.toNat default).3)],[⟨[zTpM2],5,0,false,false⟩,⟨sm,2,0,false,true⟩,⟨st,2,0,false,true⟩,⟨dp,2,0,false,true⟩,⟨sz,2,0,false,true⟩,⟨dn,2,0,false,true⟩,⟨List.map Bk.a q,3,v,false,true⟩,⟨[ag [vb (l.getD i.toNat default).1,AV.vec (l.getD i.toNat default).2 2 (List.map Wo.a (l.getD i.toNat default).3),AV.str (l.getD i.toNat default).4]],3,0,false,false⟩],_,[((List.map Bk.a l).get?Internal i.toNat = some (ag [vb (l.getD i.toNat default).1,AV.vec (l.getD i.toNat default).2 2 (List.map Wo.a (l.getD i.toNat default).3),AV.str (l.getD i.toNat default).4]))],_⟩ (by kernel_rfl) (bc (beq_t (i_dec.2 d2)) (bc (i_dec.2 k4) (bc (i6.2 k7) (bc rfl (bc rfl b0))))) (qc (el_map k7) q0) (ce (@ev13 ((l.getD i.toNat default).1) ((l.getD i.toNat default).2) ((l.getD i.toNat default).3) ((l.getD i.toNat default).4) k8) c0) ?_
  rcases xm (¬(Sp.cIs (l.getD i.toNat default).3 = true)) with d10 | d10
  ·have H:=H.1 d10
   have w11:(List.map Bk.a q).length = q.length:=List.length_map ..
   have i12:(decide (((List.map Bk.a q).length + 1) * 48 <= 1099511627776)) = true ↔ ((q.length + 1) * 48 <= 1099511627776):=(by (try rw [w11]);all_goals exact i_dec)
   obtain ⟨k13,H⟩:=H
   have w14:List.map Bk.a q ++ [ag [vb (l.getD i.toNat default).1,AV.vec (l.getD i.toNat default).2 2 (List.map Wo.a (l.getD i.toNat default).3),AV.str (l.getD i.toNat default).4]] = List.map Bk.a (q ++ [{ sk:=(l.getD i.toNat default).1,f:=(l.getD i.toNat default).2,ws:=(l.getD i.toNat default).3,cm:=(l.getD i.toNat default).4 }]):=(lm_app rfl rfl)
   obtain ⟨k15,H⟩:=H
   have w16:wi (i + 1) = i + 1:=wI64 k15
   exact path_wp (G:=given kp46 [] []) 1000 [true] ⟨(atC (cd Try.f46) [1,1,0,1,0,0]),[(0,AV.ptr 0 0 0 0),(5,AV.row 6 (v + 1)),(14,AV.vec g 3 (List.map Bk.a l)),(15,vi n),(16,vi (wi (i + 1)))],[⟨[zTpM2],5,0,false,false⟩,⟨sm,2,0,false,true⟩,⟨st,2,0,false,true⟩,⟨dp,2,0,false,true⟩,⟨sz,2,0,false,true⟩,⟨dn,2,0,false,true⟩,⟨List.map Bk.a q ++ [ag [vb (l.getD i.toNat default).1,AV.vec (l.getD i.toNat default).2 2 (List.map Wo.a (l.getD i.toNat default).3),AV.str (l.getD i.toNat default).4]],3,v + 1,false,true⟩,⟨[ag [vb (l.getD i.toNat default).1,AV.vec (l.getD i.toNat default).2 2 (List.map Wo.a (l.getD i.toNat default).3),AV.str (l.getD i.toNat default).4]],3,0,false,false⟩],[(!Sp.cIs (l.getD i.toNat default).3) == true,true,v == v,decide (((List.map Bk.a q).length + 1) * 48 <= 1099511627776)],[],_⟩ (by kernel_rfl) (bc (beq_t ((i_not (i_var _)).2 d10)) (bc rfl (bc (beq_self_eq_true _) (bc (i12.2 k13) b0)))) q0 c0 (by (try rw [w14]);(try rw [w16]);all_goals exact H)
  ·have H:=H.2 d10
   exact path_wp (G:=given kp46 [] []) 2 [false] ⟨(atC (cd Try.f46) [1,1,0,1,0,0,1,1,0,0,1,1,1]),[(0,AV.ptr 0 0 0 0),(5,AV.row 6 v),(7,AV.ptr 7 0 0 0),(8,vi (Sp.cN (l.getD i.toNat default).3)),(9,vi (Sp.cT (l.getD i.toNat default).3)),(14,AV.vec g 3 (List.map Bk.a l)),(15,vi n),(16,vi i),(28,vb !Sp.cIs (l.getD i.toNat default).3)],[⟨[zTpM2],5,0,false,false⟩,⟨sm,2,0,false,true⟩,⟨st,2,0,false,true⟩,⟨dp,2,0,false,true⟩,⟨sz,2,0,false,true⟩,⟨dn,2,0,false,true⟩,⟨List.map Bk.a q,3,v,false,true⟩,⟨[ag [vb (l.getD i.toNat default).1,AV.vec (l.getD i.toNat default).2 2 (List.map Wo.a (l.getD i.toNat default).3),AV.str (l.getD i.toNat default).4]],3,0,false,false⟩],[(!Sp.cIs (l.getD i.toNat default).3) == false],[],_⟩ (by kernel_rfl) (bc (beq_f (fun h => d10 ((i_not (i_var _)).1 h))) b0) q0 c0 (Wp.less [0,5,8,9,14,15,16] (H))
 ·have H:=H.2 d2
  exact path_ret (G:=given kp46 [] []) 1000 [false] (k:=((atC (cd Try.f46) [1,1,1,1])).tail) (env':=[(4,AV.row 6 v)]) (L':=[⟨[zTpM2],5,0,false,false⟩,⟨sm,2,0,false,true⟩,⟨st,2,0,false,true⟩,⟨dp,2,0,false,true⟩,⟨sz,2,0,false,true⟩,⟨dn,2,0,false,true⟩,⟨List.map Bk.a q,3,v,false,true⟩]) (asm:=[(decide (i < n)) == false]) (eqs:=[]) (calls:=[]) (AV.row 6 v) (by kernel_rfl) (by kernel_rfl) (allB_cons (beq_f (fun h => d2 (i_dec.1 h))) allB_nil) allP_nil allC_nil H
noncomputable abbrev zTpM3:=ag [AV.mapr 1,AV.mapr 2,AV.mapr 3,AV.mapr 4,AV.mapr 5]
theorem tvXkz (sm st dp sz dn:List AV) (g:Bool) (l:List Bk) (m t n i:Int) (bf:Bool) (Y:List Bk) (Q:AV -> Heap -> Prop) (H :
  (mapKeys IntKind.i64 dn = true) /\
  (mapVal (ofC (Value.slice none 0 0)) m dn = AV.vec bf 3 (List.map Bk.a Y)) /\
  ((¬(mapHas m dn = true)) -> False) /\
  (¬(¬(mapHas m dn = true)) -> (((↑Y.length:Int) = 0) -> (-9223372036854775808 <= i + 1 /\ i + 1 <= 9223372036854775807) /\
    tvXaz_at (sm) (st) (dp) (sz) (dn) (g) (l) (n) (i + 1) Q) /\
   (¬((↑Y.length:Int) = 0) -> Wp M1 (.run fi46 (atC (cd Try.f46) [1,1,0,1,0,0,1,1,0,0,1,1,1,1,1,1,1,0,0]) [(0,AV.ptr 0 0 0 0),(5,AV.vnil),(12,AV.vec bf 3 (List.map Bk.a Y)),(14,AV.vec g 3 (List.map Bk.a l)),(15,vi n),(16,vi i),(61,vi t),(62,vi 0)] [{ elems:=[ag [AV.mapr 1,AV.mapr 2,AV.mapr 3,AV.mapr 4,AV.mapr 5]],es:=5,ver:=0,frozen:=false,clean:=false },{ elems:=sm,es:=2,ver:=0,frozen:=false,clean:=true },{ elems:=st,es:=2,ver:=0,frozen:=false,clean:=true },{ elems:=dp,es:=2,ver:=0,frozen:=false,clean:=true },{ elems:=sz,es:=2,ver:=0,frozen:=false,clean:=true },{ elems:=dn,es:=2,ver:=0,frozen:=false,clean:=true }]) Q))) :
 tvXkz_at sm st dp sz dn g l m t n i Q:=by
 unfold tvXkz_at
 obtain ⟨k2,H⟩:=H
 obtain ⟨k3,H⟩:=H
 refine path_wp (G:=given kp46 [(8,5,(.elem (.vec bf 3 (Y.map Bk.a)):Ans))] []) 5 [] ⟨(atC (cd Try.f46) [1,1,0,1,0,0,1,1,0,0,1,1,1,1,0,1]),[(0,AV.ptr 0 0 0 0),(5,AV.vnil),(8,vi m),(9,vi t),(12,AV.vec bf 3 (List.map Bk.a Y)),(14,AV.vec g 3 (List.map Bk.a l)),(15,vi n),(16,vi i),(43,vb !mapHas m dn)],[⟨[zTpM3],5,0,false,false⟩,⟨sm,2,0,false,true⟩,⟨st,2,0,false,true⟩,⟨dp,2,0,false,true⟩,⟨sz,2,0,false,true⟩,⟨dn,2,0,false,true⟩],[true,mapKeys IntKind.i64 dn],[(mapVal (ofC (Value.slice none 0 0)) m dn = AV.vec bf 3 (List.map Bk.a Y))],_⟩ (by kernel_rfl) (bc rfl (bc ((i_var _).2 k2) b0)) (qc k3 q0) c0 ?_
 rcases xm (¬(mapHas m dn = true)) with d5 | d5
 ·have H:=H.1 d5
  exact False.elim H
 ·have H:=H.2 d5
  have w6:(List.map Bk.a Y).length = Y.length:=List.length_map ..
  have i7:((↑(List.map Bk.a Y).length:Int) == 0) = true ↔ ((↑Y.length:Int) = 0):=(by (try rw [w6]);all_goals exact i_eq)
  rcases xm ((↑Y.length:Int) = 0) with d8 | d8
  ·have H:=H.1 d8
   obtain ⟨k9,H⟩:=H
   have w10:wi (i + 1) = i + 1:=wI64 k9
   exact path_wp (G:=given kp46 [] []) 1000 [false,true] ⟨(atC (cd Try.f46) [1,1,0,1,0,0]),[(0,AV.ptr 0 0 0 0),(5,AV.vnil),(14,AV.vec g 3 (List.map Bk.a l)),(15,vi n),(16,vi (wi (i + 1)))],[⟨[zTpM3],5,0,false,false⟩,⟨sm,2,0,false,true⟩,⟨st,2,0,false,true⟩,⟨dp,2,0,false,true⟩,⟨sz,2,0,false,true⟩,⟨dn,2,0,false,true⟩],[(!mapHas m dn) == false,((↑(List.map Bk.a Y).length:Int) == 0) == true],[],_⟩ (by kernel_rfl) (bc (beq_f (fun h => d5 ((i_not (i_var _)).1 h))) (bc (beq_t (i7.2 d8)) b0)) q0 c0 (by (try rw [w10]);all_goals exact H)
  ·have H:=H.2 d8
   exact path_wp (G:=given kp46 [] []) 1000 [false,false] ⟨(atC (cd Try.f46) [1,1,0,1,0,0,1,1,0,0,1,1,1,1,1,1,1,0,0]),[(0,AV.ptr 0 0 0 0),(5,AV.vnil),(12,AV.vec bf 3 (List.map Bk.a Y)),(14,AV.vec g 3 (List.map Bk.a l)),(15,vi n),(16,vi i),(61,vi t),(62,vi 0)],[⟨[zTpM3],5,0,false,false⟩,⟨sm,2,0,false,true⟩,⟨st,2,0,false,true⟩,⟨dp,2,0,false,true⟩,⟨sz,2,0,false,true⟩,⟨dn,2,0,false,true⟩],[(!mapHas m dn) == false,((↑(List.map Bk.a Y).length:Int) == 0) == false],[],_⟩ (by kernel_rfl) (bc (beq_f (fun h => d5 ((i_not (i_var _)).1 h))) (bc (beq_f (fun h => d8 (i7.1 h))) b0)) q0 c0 (H)
noncomputable abbrev zTpM4:=ag [AV.mapr 1,AV.mapr 2,AV.mapr 3,AV.mapr 4,AV.mapr 5]
theorem tvXka (sm st dp sz dn:List AV) (g:Bool) (l:List Bk) (q:List Bk) (v:Nat) (m t n i:Int) (bf:Bool) (Y:List Bk) (Q:AV -> Heap -> Prop) (H :
  (mapKeys IntKind.i64 dn = true) /\
  (mapVal (ofC (Value.slice none 0 0)) m dn = AV.vec bf 3 (List.map Bk.a Y)) /\
  ((¬(mapHas m dn = true)) -> False) /\
  (¬(¬(mapHas m dn = true)) -> (((↑Y.length:Int) = 0) -> (-9223372036854775808 <= i + 1 /\ i + 1 <= 9223372036854775807) /\
    tvXaa_at (sm) (st) (dp) (sz) (dn) (g) (l) (q) (v) (n) (i + 1) Q) /\
   (¬((↑Y.length:Int) = 0) -> tvXra_at (sm) (st) (dp) (sz) (dn) (g) (l) (q) (v) (bf) (Y) (t) (0) (n) (i) Q))) :
 tvXka_at sm st dp sz dn g l q v m t n i Q:=by
 unfold tvXka_at
 obtain ⟨k2,H⟩:=H
 obtain ⟨k3,H⟩:=H
 refine path_wp (G:=given kp46 [(8,5,(.elem (.vec bf 3 (Y.map Bk.a)):Ans))] []) 5 [] ⟨(atC (cd Try.f46) [1,1,0,1,0,0,1,1,0,0,1,1,1,1,0,1]),[(0,AV.ptr 0 0 0 0),(5,AV.row 6 v),(8,vi m),(9,vi t),(12,AV.vec bf 3 (List.map Bk.a Y)),(14,AV.vec g 3 (List.map Bk.a l)),(15,vi n),(16,vi i),(43,vb !mapHas m dn)],[⟨[zTpM4],5,0,false,false⟩,⟨sm,2,0,false,true⟩,⟨st,2,0,false,true⟩,⟨dp,2,0,false,true⟩,⟨sz,2,0,false,true⟩,⟨dn,2,0,false,true⟩,⟨List.map Bk.a q,3,v,false,true⟩],[true,mapKeys IntKind.i64 dn],[(mapVal (ofC (Value.slice none 0 0)) m dn = AV.vec bf 3 (List.map Bk.a Y))],_⟩ (by kernel_rfl) (bc rfl (bc ((i_var _).2 k2) b0)) (qc k3 q0) c0 ?_
 rcases xm (¬(mapHas m dn = true)) with d5 | d5
 ·have H:=H.1 d5
  exact False.elim H
 ·have H:=H.2 d5
  have w6:(List.map Bk.a Y).length = Y.length:=List.length_map ..
  have i7:((↑(List.map Bk.a Y).length:Int) == 0) = true ↔ ((↑Y.length:Int) = 0):=(by (try rw [w6]);all_goals exact i_eq)
  rcases xm ((↑Y.length:Int) = 0) with d8 | d8
  ·have H:=H.1 d8
   obtain ⟨k9,H⟩:=H
   have w10:wi (i + 1) = i + 1:=wI64 k9
   exact path_wp (G:=given kp46 [] []) 1000 [false,true] ⟨(atC (cd Try.f46) [1,1,0,1,0,0]),[(0,AV.ptr 0 0 0 0),(5,AV.row 6 v),(14,AV.vec g 3 (List.map Bk.a l)),(15,vi n),(16,vi (wi (i + 1)))],[⟨[zTpM4],5,0,false,false⟩,⟨sm,2,0,false,true⟩,⟨st,2,0,false,true⟩,⟨dp,2,0,false,true⟩,⟨sz,2,0,false,true⟩,⟨dn,2,0,false,true⟩,⟨List.map Bk.a q,3,v,false,true⟩],[(!mapHas m dn) == false,((↑(List.map Bk.a Y).length:Int) == 0) == true],[],_⟩ (by kernel_rfl) (bc (beq_f (fun h => d5 ((i_not (i_var _)).1 h))) (bc (beq_t (i7.2 d8)) b0)) q0 c0 (by (try rw [w10]);all_goals exact H)
  ·have H:=H.2 d8
   exact path_wp (G:=given kp46 [] []) 1000 [false,false] ⟨(atC (cd Try.f46) [1,1,0,1,0,0,1,1,0,0,1,1,1,1,1,1,1,0,0]),[(0,AV.ptr 0 0 0 0),(5,AV.row 6 v),(12,AV.vec bf 3 (List.map Bk.a Y)),(14,AV.vec g 3 (List.map Bk.a l)),(15,vi n),(16,vi i),(61,vi t),(62,vi 0)],[⟨[zTpM4],5,0,false,false⟩,⟨sm,2,0,false,true⟩,⟨st,2,0,false,true⟩,⟨dp,2,0,false,true⟩,⟨sz,2,0,false,true⟩,⟨dn,2,0,false,true⟩,⟨List.map Bk.a q,3,v,false,true⟩],[(!mapHas m dn) == false,((↑(List.map Bk.a Y).length:Int) == 0) == false],[],_⟩ (by kernel_rfl) (bc (beq_f (fun h => d5 ((i_not (i_var _)).1 h))) (bc (beq_f (fun h => d8 (i7.1 h))) b0)) q0 c0 (H)
noncomputable abbrev zTpM5:=ag [AV.mapr 1,AV.mapr 2,AV.mapr 3,AV.mapr 4,AV.mapr 5]
theorem tvXuz (sm st dp sz dn:List AV) (g:Bool) (l:List Bk) (m t n i:Int) (bs:Bool) (S:List Bk) (bf:Bool) (Y:List Bk) (dn1:List AV) (Q:AV -> Heap -> Prop) (H :
  (mapKeys IntKind.i64 dn = true) /\
  (mapVal (ofC (Value.slice none 0 0)) m dn = AV.vnil) /\
  ((¬(mapHas m dn = true)) -> (Ev M1 (Conf.own 46 [AV.ptr 0 0 0 0,AV.vec bs 3 (List.map Bk.a S)] [{ elems:=[ag [AV.mapr 1,AV.mapr 2,AV.mapr 3,AV.mapr 4,AV.mapr 5]],es:=5,ver:=0,frozen:=false,clean:=false },{ elems:=sm,es:=2,ver:=0,frozen:=false,clean:=true },{ elems:=st,es:=2,ver:=0,frozen:=false,clean:=true },{ elems:=dp,es:=2,ver:=0,frozen:=false,clean:=true },{ elems:=sz,es:=2,ver:=0,frozen:=false,clean:=true },{ elems:=dn,es:=2,ver:=0,frozen:=false,clean:=true }]) (AV.vec bf 3 (List.map Bk.a Y)) [{ elems:=[ag [AV.mapr 1,AV.mapr 2,AV.mapr 3,AV.mapr 4,AV.mapr 5]],es:=5,ver:=0,frozen:=false,clean:=false },{ elems:=sm,es:=2,ver:=0,frozen:=false,clean:=true },{ elems:=st,es:=2,ver:=0,frozen:=false,clean:=true },{ elems:=dp,es:=2,ver:=0,frozen:=false,clean:=true },{ elems:=sz,es:=2,ver:=0,frozen:=false,clean:=true },{ elems:=dn1,es:=2,ver:=0,frozen:=false,clean:=true }]) /\
   (mapKeys IntKind.i64 sm = true) /\
   (mapVal (ofC (Value.slice none 0 0)) m sm = AV.vec bs 3 (List.map Bk.a S)) /\
   (mapKeys IntKind.i64 dn1 = true) /\
   (((↑Y.length:Int) = 0) -> (-9223372036854775808 <= i + 1 /\ i + 1 <= 9223372036854775807) /\
    tvXaz_at (sm) (st) (dp) (sz) (mapPut IntKind.i64 m (AV.vec bf 3 (List.map Bk.a Y)) dn1) (g) (l) (n) (i + 1) Q) /\
   (¬((↑Y.length:Int) = 0) -> Wp M1 (.run fi46 (atC (cd Try.f46) [1,1,0,1,0,0,1,1,0,0,1,1,1,1,1,1,1,0,0]) [(0,AV.ptr 0 0 0 0),(5,AV.vnil),(12,AV.vec bf 3 (List.map Bk.a Y)),(14,AV.vec g 3 (List.map Bk.a l)),(15,vi n),(16,vi i),(61,vi t),(62,vi 0)] [{ elems:=[ag [AV.mapr 1,AV.mapr 2,AV.mapr 3,AV.mapr 4,AV.mapr 5]],es:=5,ver:=0,frozen:=false,clean:=false },{ elems:=sm,es:=2,ver:=0,frozen:=false,clean:=true },{ elems:=st,es:=2,ver:=0,frozen:=false,clean:=true },{ elems:=dp,es:=2,ver:=0,frozen:=false,clean:=true },{ elems:=sz,es:=2,ver:=0,frozen:=false,clean:=true },{ elems:=mapPut IntKind.i64 m (AV.vec bf 3 (List.map Bk.a Y)) dn1,es:=2,ver:=0,frozen:=false,clean:=true }]) Q)) /\
  (¬(¬(mapHas m dn = true)) -> (-9223372036854775808 <= i + 1 /\ i + 1 <= 9223372036854775807) /\
   tvXaz_at (sm) (st) (dp) (sz) (dn) (g) (l) (n) (i + 1) Q)) :
 tvXuz_at sm st dp sz dn g l m t n i Q:=by
 unfold tvXuz_at
 obtain ⟨k2,H⟩:=H
 obtain ⟨k3,H⟩:=H
 refine path_wp (G:=given kp46 [(8,5,(.elem .vnil:Ans))] []) 5 [] ⟨(atC (cd Try.f46) [1,1,0,1,0,0,1,1,0,0,1,1,1,1,0,1]),[(0,AV.ptr 0 0 0 0),(5,AV.vnil),(8,vi m),(9,vi t),(12,AV.vnil),(14,AV.vec g 3 (List.map Bk.a l)),(15,vi n),(16,vi i),(43,vb !mapHas m dn)],[⟨[zTpM5],5,0,false,false⟩,⟨sm,2,0,false,true⟩,⟨st,2,0,false,true⟩,⟨dp,2,0,false,true⟩,⟨sz,2,0,false,true⟩,⟨dn,2,0,false,true⟩],[true,mapKeys IntKind.i64 dn],[(mapVal (ofC (Value.slice none 0 0)) m dn = AV.vnil)],_⟩ (by kernel_rfl) (bc rfl (bc ((i_var _).2 k2) b0)) (qc k3 q0) c0 ?_
 rcases xm (¬(mapHas m dn = true)) with d5 | d5
 ·have H:=H.1 d5
  obtain ⟨k6,H⟩:=H
  obtain ⟨k8,H⟩:=H
  obtain ⟨k9,H⟩:=H
  obtain ⟨k11,H⟩:=H
  have w12:(List.map Bk.a Y).length = Y.length:=List.length_map ..
  have i13:((↑(List.map Bk.a Y).length:Int) == 0) = true ↔ ((↑Y.length:Int) = 0):=(by (try rw [w12]);all_goals exact i_eq)
  refine path_wp (G:=given kp46 [(10,6,(.elem (.vec bs 3 (S.map Bk.a)):Ans)),(10,7,(.call (.vec bf 3 (Y.map Bk.a)) (some [⟨[.agg [.mapr 1,.mapr 2,.mapr 3,.mapr 4,.mapr 5]],5,0,false,false⟩,⟨sm,2,0,false,true⟩,⟨st,2,0,false,true⟩,⟨dp,2,0,false,true⟩,⟨sz,2,0,false,true⟩,⟨dn1,2,0,false,true⟩]):Ans))] []) 7 [true] ⟨(atC (cd Try.f46) [1,1,0,1,0,0,1,1,0,0,1,1,1,1,1,0,1]),[(0,AV.ptr 0 0 0 0),(5,AV.vnil),(9,vi t),(12,AV.vec bf 3 (List.map Bk.a Y)),(14,AV.vec g 3 (List.map Bk.a l)),(15,vi n),(16,vi i),(60,vb ((↑(List.map Bk.a Y).length:Int) == 0))],[⟨[zTpM5],5,0,false,false⟩,⟨sm,2,0,false,true⟩,⟨st,2,0,false,true⟩,⟨dp,2,0,false,true⟩,⟨sz,2,0,false,true⟩,⟨mapPut IntKind.i64 m (AV.vec bf 3 (List.map Bk.a Y)) dn1,2,0,false,true⟩],[(!mapHas m dn) == true,true,mapKeys IntKind.i64 sm,true,mapKeys IntKind.i64 dn1],[(mapVal (ofC (Value.slice none 0 0)) m sm = AV.vec bs 3 (List.map Bk.a S))],[⟨true,true,46,[AV.ptr 0 0 0 0,AV.vec bs 3 (List.map Bk.a S)],[⟨[zTpM5],5,0,false,false⟩,⟨sm,2,0,false,true⟩,⟨st,2,0,false,true⟩,⟨dp,2,0,false,true⟩,⟨sz,2,0,false,true⟩,⟨dn,2,0,false,true⟩],AV.vec bf 3 (List.map Bk.a Y),[⟨[zTpM5],5,0,false,false⟩,⟨sm,2,0,false,true⟩,⟨st,2,0,false,true⟩,⟨dp,2,0,false,true⟩,⟨sz,2,0,false,true⟩,⟨dn1,2,0,false,true⟩]⟩]⟩ (by kernel_rfl) (bc (beq_t ((i_not (i_var _)).2 d5)) (bc rfl (bc ((i_var _).2 k8) (bc rfl (bc ((i_var _).2 k11) b0))))) (qc k9 q0) (cc (fun _ => k6) c0) ?_
  rcases xm ((↑Y.length:Int) = 0) with d14 | d14
  ·have H:=H.1 d14
   obtain ⟨k15,H⟩:=H
   have w16:wi (i + 1) = i + 1:=wI64 k15
   exact path_wp (G:=given kp46 [] []) 1000 [true] ⟨(atC (cd Try.f46) [1,1,0,1,0,0]),[(0,AV.ptr 0 0 0 0),(5,AV.vnil),(14,AV.vec g 3 (List.map Bk.a l)),(15,vi n),(16,vi (wi (i + 1)))],[⟨[zTpM5],5,0,false,false⟩,⟨sm,2,0,false,true⟩,⟨st,2,0,false,true⟩,⟨dp,2,0,false,true⟩,⟨sz,2,0,false,true⟩,⟨mapPut IntKind.i64 m (AV.vec bf 3 (List.map Bk.a Y)) dn1,2,0,false,true⟩],_,[],_⟩ (by kernel_rfl) (bc (beq_t (i13.2 d14)) b0) q0 c0 (by (try rw [w16]);all_goals exact H)
  ·have H:=H.2 d14
   exact path_wp (G:=given kp46 [] []) 1000 [false] ⟨(atC (cd Try.f46) [1,1,0,1,0,0,1,1,0,0,1,1,1,1,1,1,1,0,0]),[(0,AV.ptr 0 0 0 0),(5,AV.vnil),(12,AV.vec bf 3 (List.map Bk.a Y)),(14,AV.vec g 3 (List.map Bk.a l)),(15,vi n),(16,vi i),(61,vi t),(62,vi 0)],[⟨[zTpM5],5,0,false,false⟩,⟨sm,2,0,false,true⟩,⟨st,2,0,false,true⟩,⟨dp,2,0,false,true⟩,⟨sz,2,0,false,true⟩,⟨mapPut IntKind.i64 m (AV.vec bf 3 (List.map Bk.a Y)) dn1,2,0,false,true⟩],_,[],_⟩ (by kernel_rfl) (bc (beq_f (fun h => d14 (i13.1 h))) b0) q0 c0 (H)
 ·have H:=H.2 d5
  obtain ⟨k17,H⟩:=H
  have w18:wi (i + 1) = i + 1:=wI64 k17
  exact path_wp (G:=given kp46 [] []) 1000 [false,true] ⟨(atC (cd Try.f46) [1,1,0,1,0,0]),[(0,AV.ptr 0 0 0 0),(5,AV.vnil),(14,AV.vec g 3 (List.map Bk.a l)),(15,vi n),(16,vi (wi (i + 1)))],[⟨[zTpM5],5,0,false,false⟩,⟨sm,2,0,false,true⟩,⟨st,2,0,false,true⟩,⟨dp,2,0,false,true⟩,⟨sz,2,0,false,true⟩,⟨dn,2,0,false,true⟩],[(!mapHas m dn) == false,true == true],[],_⟩ (by kernel_rfl) (bc (beq_f (fun h => d5 ((i_not (i_var _)).1 h))) (bc rfl b0)) q0 c0 (by (try rw [w18]);all_goals exact H)
noncomputable abbrev zTpM6:=ag [AV.mapr 1,AV.mapr 2,AV.mapr 3,AV.mapr 4,AV.mapr 5]
theorem tvXua (sm st dp sz dn:List AV) (g:Bool) (l:List Bk) (q:List Bk) (v:Nat) (m t n i:Int) (bs:Bool) (S:List Bk) (bf:Bool) (Y:List Bk) (dn1:List AV) (Q:AV -> Heap -> Prop) (H :
  (mapKeys IntKind.i64 dn = true) /\
  (mapVal (ofC (Value.slice none 0 0)) m dn = AV.vnil) /\
  ((¬(mapHas m dn = true)) -> (Ev M1 (Conf.own 46 [AV.ptr 0 0 0 0,AV.vec bs 3 (List.map Bk.a S)] [{ elems:=[ag [AV.mapr 1,AV.mapr 2,AV.mapr 3,AV.mapr 4,AV.mapr 5]],es:=5,ver:=0,frozen:=false,clean:=false },{ elems:=sm,es:=2,ver:=0,frozen:=false,clean:=true },{ elems:=st,es:=2,ver:=0,frozen:=false,clean:=true },{ elems:=dp,es:=2,ver:=0,frozen:=false,clean:=true },{ elems:=sz,es:=2,ver:=0,frozen:=false,clean:=true },{ elems:=dn,es:=2,ver:=0,frozen:=false,clean:=true }]) (AV.vec bf 3 (List.map Bk.a Y)) [{ elems:=[ag [AV.mapr 1,AV.mapr 2,AV.mapr 3,AV.mapr 4,AV.mapr 5]],es:=5,ver:=0,frozen:=false,clean:=false },{ elems:=sm,es:=2,ver:=0,frozen:=false,clean:=true },{ elems:=st,es:=2,ver:=0,frozen:=false,clean:=true },{ elems:=dp,es:=2,ver:=0,frozen:=false,clean:=true },{ elems:=sz,es:=2,ver:=0,frozen:=false,clean:=true },{ elems:=dn1,es:=2,ver:=0,frozen:=false,clean:=true }]) /\
   (mapKeys IntKind.i64 sm = true) /\
   (mapVal (ofC (Value.slice none 0 0)) m sm = AV.vec bs 3 (List.map Bk.a S)) /\
   (mapKeys IntKind.i64 dn1 = true) /\
   (((↑Y.length:Int) = 0) -> (-9223372036854775808 <= i + 1 /\ i + 1 <= 9223372036854775807) /\
    tvXaa_at (sm) (st) (dp) (sz) (mapPut IntKind.i64 m (AV.vec bf 3 (List.map Bk.a Y)) dn1) (g) (l) (q) (v) (n) (i + 1) Q) /\
   (¬((↑Y.length:Int) = 0) -> tvXra_at (sm) (st) (dp) (sz) (mapPut IntKind.i64 m (AV.vec bf 3 (List.map Bk.a Y)) dn1) (g) (l) (q) (v) (bf) (Y) (t) (0) (n) (i) Q)) /\
  (¬(¬(mapHas m dn = true)) -> (-9223372036854775808 <= i + 1 /\ i + 1 <= 9223372036854775807) /\
   tvXaa_at (sm) (st) (dp) (sz) (dn) (g) (l) (q) (v) (n) (i + 1) Q)) :
 tvXua_at sm st dp sz dn g l q v m t n i Q:=by
 unfold tvXua_at
 obtain ⟨k2,H⟩:=H
 obtain ⟨k3,H⟩:=H
 refine path_wp (G:=given kp46 [(8,5,(.elem .vnil:Ans))] []) 5 [] ⟨(atC (cd Try.f46) [1,1,0,1,0,0,1,1,0,0,1,1,1,1,0,1]),[(0,AV.ptr 0 0 0 0),(5,AV.row 6 v),(8,vi m),(9,vi t),(12,AV.vnil),(14,AV.vec g 3 (List.map Bk.a l)),(15,vi n),(16,vi i),(43,vb !mapHas m dn)],[⟨[zTpM6],5,0,false,false⟩,⟨sm,2,0,false,true⟩,⟨st,2,0,false,true⟩,⟨dp,2,0,false,true⟩,⟨sz,2,0,false,true⟩,⟨dn,2,0,false,true⟩,⟨List.map Bk.a q,3,v,false,true⟩],[true,mapKeys IntKind.i64 dn],[(mapVal (ofC (Value.slice none 0 0)) m dn = AV.vnil)],_⟩ (by kernel_rfl) (bc rfl (bc ((i_var _).2 k2) b0)) (qc k3 q0) c0 ?_
 rcases xm (¬(mapHas m dn = true)) with d5 | d5
 ·have H:=H.1 d5
  obtain ⟨k6,H⟩:=H
  obtain ⟨k8,H⟩:=H
  obtain ⟨k9,H⟩:=H
  obtain ⟨k11,H⟩:=H
  have w12:(List.map Bk.a Y).length = Y.length:=List.length_map ..
  have i13:((↑(List.map Bk.a Y).length:Int) == 0) = true ↔ ((↑Y.length:Int) = 0):=(by (try rw [w12]);all_goals exact i_eq)
  refine path_wp (G:=given kp46 [(10,6,(.elem (.vec bs 3 (S.map Bk.a)):Ans)),(10,7,(.call (.vec bf 3 (Y.map Bk.a)) (some [⟨[.agg [.mapr 1,.mapr 2,.mapr 3,.mapr 4,.mapr 5]],5,0,false,false⟩,⟨sm,2,0,false,true⟩,⟨st,2,0,false,true⟩,⟨dp,2,0,false,true⟩,⟨sz,2,0,false,true⟩,⟨dn1,2,0,false,true⟩]):Ans))] []) 7 [true] ⟨(atC (cd Try.f46) [1,1,0,1,0,0,1,1,0,0,1,1,1,1,1,0,1]),[(0,AV.ptr 0 0 0 0),(5,AV.row 6 v),(9,vi t),(12,AV.vec bf 3 (List.map Bk.a Y)),(14,AV.vec g 3 (List.map Bk.a l)),(15,vi n),(16,vi i),(60,vb ((↑(List.map Bk.a Y).length:Int) == 0))],[⟨[zTpM6],5,0,false,false⟩,⟨sm,2,0,false,true⟩,⟨st,2,0,false,true⟩,⟨dp,2,0,false,true⟩,⟨sz,2,0,false,true⟩,⟨mapPut IntKind.i64 m (AV.vec bf 3 (List.map Bk.a Y)) dn1,2,0,false,true⟩,⟨List.map Bk.a q,3,v,false,true⟩],[(!mapHas m dn) == true,true,mapKeys IntKind.i64 sm,true,mapKeys IntKind.i64 dn1],[(mapVal (ofC (Value.slice none 0 0)) m sm = AV.vec bs 3 (List.map Bk.a S))],[⟨true,true,46,[AV.ptr 0 0 0 0,AV.vec bs 3 (List.map Bk.a S)],[⟨[zTpM6],5,0,false,false⟩,⟨sm,2,0,false,true⟩,⟨st,2,0,false,true⟩,⟨dp,2,0,false,true⟩,⟨sz,2,0,false,true⟩,⟨dn,2,0,false,true⟩],AV.vec bf 3 (List.map Bk.a Y),[⟨[zTpM6],5,0,false,false⟩,⟨sm,2,0,false,true⟩,⟨st,2,0,false,true⟩,⟨dp,2,0,false,true⟩,⟨sz,2,0,false,true⟩,⟨dn1,2,0,false,true⟩]⟩]⟩ (by kernel_rfl) (bc (beq_t ((i_not (i_var _)).2 d5)) (bc rfl (bc ((i_var _).2 k8) (bc rfl (bc ((i_var _).2 k11) b0))))) (qc k9 q0) (cc (fun _ => k6) c0) ?_
  rcases xm ((↑Y.length:Int) = 0) with d14 | d14
  ·have H:=H.1 d14
   obtain ⟨k15,H⟩:=H
   have w16:wi (i + 1) = i + 1:=wI64 k15
   exact path_wp (G:=given kp46 [] []) 1000 [true] ⟨(atC (cd Try.f46) [1,1,0,1,0,0]),[(0,AV.ptr 0 0 0 0),(5,AV.row 6 v),(14,AV.vec g 3 (List.map Bk.a l)),(15,vi n),(16,vi (wi (i + 1)))],[⟨[zTpM6],5,0,false,false⟩,⟨sm,2,0,false,true⟩,⟨st,2,0,false,true⟩,⟨dp,2,0,false,true⟩,⟨sz,2,0,false,true⟩,⟨mapPut IntKind.i64 m (AV.vec bf 3 (List.map Bk.a Y)) dn1,2,0,false,true⟩,⟨List.map Bk.a q,3,v,false,true⟩],_,[],_⟩ (by kernel_rfl) (bc (beq_t (i13.2 d14)) b0) q0 c0 (by (try rw [w16]);all_goals exact H)
  ·have H:=H.2 d14
   exact path_wp (G:=given kp46 [] []) 1000 [false] ⟨(atC (cd Try.f46) [1,1,0,1,0,0,1,1,0,0,1,1,1,1,1,1,1,0,0]),[(0,AV.ptr 0 0 0 0),(5,AV.row 6 v),(12,AV.vec bf 3 (List.map Bk.a Y)),(14,AV.vec g 3 (List.map Bk.a l)),(15,vi n),(16,vi i),(61,vi t),(62,vi 0)],[⟨[zTpM6],5,0,false,false⟩,⟨sm,2,0,false,true⟩,⟨st,2,0,false,true⟩,⟨dp,2,0,false,true⟩,⟨sz,2,0,false,true⟩,⟨mapPut IntKind.i64 m (AV.vec bf 3 (List.map Bk.a Y)) dn1,2,0,false,true⟩,⟨List.map Bk.a q,3,v,false,true⟩],_,[],_⟩ (by kernel_rfl) (bc (beq_f (fun h => d14 (i13.1 h))) b0) q0 c0 (H)
 ·have H:=H.2 d5
  obtain ⟨k17,H⟩:=H
  have w18:wi (i + 1) = i + 1:=wI64 k17
  exact path_wp (G:=given kp46 [] []) 1000 [false,true] ⟨(atC (cd Try.f46) [1,1,0,1,0,0]),[(0,AV.ptr 0 0 0 0),(5,AV.row 6 v),(14,AV.vec g 3 (List.map Bk.a l)),(15,vi n),(16,vi (wi (i + 1)))],[⟨[zTpM6],5,0,false,false⟩,⟨sm,2,0,false,true⟩,⟨st,2,0,false,true⟩,⟨dp,2,0,false,true⟩,⟨sz,2,0,false,true⟩,⟨dn,2,0,false,true⟩,⟨List.map Bk.a q,3,v,false,true⟩],[(!mapHas m dn) == false,true == true],[],_⟩ (by kernel_rfl) (bc (beq_f (fun h => d5 ((i_not (i_var _)).1 h))) (bc rfl b0)) q0 c0 (by (try rw [w18]);all_goals exact H)
theorem tvXrz (sm st dp sz dn:List AV) (g:Bool) (l:List Bk) (bf:Bool) (y:Bk) (Y:List Bk) (t k n i:Int)  (Q:AV -> Heap -> Prop) (H :
  ((k < t) -> ((Y.length + 1) * 48 <= 1099511627776) /\
   (-9223372036854775808 <= k + 1 /\ k + 1 <= 9223372036854775807) /\
   Wp M1 (.run fi46 (atC (cd Try.f46) [1,1,0,1,0,0,1,1,0,0,1,1,1,1,1,1,1,0,0]) [(0,AV.ptr 0 0 0 0),(5,AV.row 6 0),(12,AV.vec bf 3 (ag [vb y.1,AV.vec y.2 2 (List.map Wo.a y.3),AV.str y.4] :: List.map Bk.a Y)),(14,AV.vec g 3 (List.map Bk.a l)),(15,vi n),(16,vi i),(61,vi t),(62,vi (k + 1))] [{ elems:=[ag [AV.mapr 1,AV.mapr 2,AV.mapr 3,AV.mapr 4,AV.mapr 5]],es:=5,ver:=0,frozen:=false,clean:=false },{ elems:=sm,es:=2,ver:=0,frozen:=false,clean:=true },{ elems:=st,es:=2,ver:=0,frozen:=false,clean:=true },{ elems:=dp,es:=2,ver:=0,frozen:=false,clean:=true },{ elems:=sz,es:=2,ver:=0,frozen:=false,clean:=true },{ elems:=dn,es:=2,ver:=0,frozen:=false,clean:=true },{ elems:=ag [vb y.1,AV.vec y.2 2 (List.map Wo.a y.3),AV.str y.4] :: List.map Bk.a Y,es:=3,ver:=0,frozen:=false,clean:=true }]) Q) /\
  (¬(k < t) -> (-9223372036854775808 <= i + 1 /\ i + 1 <= 9223372036854775807) /\
   tvXaz_at (sm) (st) (dp) (sz) (dn) (g) (l) (n) (i + 1) Q)) :
 tvXrz_at sm st dp sz dn g l bf y Y t k n i Q:=by
 unfold tvXrz_at
 rcases xm (k < t) with d2 | d2
 ·have H:=H.1 d2
  have w3:(List.map Bk.a Y).length = Y.length:=List.length_map ..
  have i4:(decide (((List.map Bk.a Y).length + 1) * 48 <= 1099511627776)) = true ↔ ((Y.length + 1) * 48 <= 1099511627776):=(by (try rw [w3]);all_goals exact i_dec)
  obtain ⟨k5,H⟩:=H
  obtain ⟨k6,H⟩:=H
  have w7:wi (k + 1) = k + 1:=wI64 k6
  exact path_wp (G:=given kp46 [] []) 1000 [true] ⟨(atC (cd Try.f46) [1,1,0,1,0,0,1,1,0,0,1,1,1,1,1,1,1,0,0]),[(0,AV.ptr 0 0 0 0),(5,AV.row 6 0),(12,AV.vec bf 3 (ag [vb y.1,AV.vec y.2 2 (List.map Wo.a y.3),AV.str y.4] :: List.map Bk.a Y)),(14,AV.vec g 3 (List.map Bk.a l)),(15,vi n),(16,vi i),(61,vi t),(62,vi (wi (k + 1)))],[⟨[ag [AV.mapr 1,AV.mapr 2,AV.mapr 3,AV.mapr 4,AV.mapr 5]],5,0,false,false⟩,⟨sm,2,0,false,true⟩,⟨st,2,0,false,true⟩,⟨dp,2,0,false,true⟩,⟨sz,2,0,false,true⟩,⟨dn,2,0,false,true⟩,⟨ag [vb y.1,AV.vec y.2 2 (List.map Wo.a y.3),AV.str y.4] :: List.map Bk.a Y,3,0,false,true⟩],_,[],_⟩ (by kernel_rfl) (bc (beq_t (i_dec.2 d2)) (bc (i4.2 k5) b0)) q0 c0 (by (try rw [w7]);all_goals exact H)
 ·have H:=H.2 d2
  obtain ⟨k8,H⟩:=H
  have w9:wi (i + 1) = i + 1:=wI64 k8
  exact path_wp (G:=given kp46 [] []) 1000 [false] ⟨(atC (cd Try.f46) [1,1,0,1,0,0]),[(0,AV.ptr 0 0 0 0),(5,AV.vnil),(14,AV.vec g 3 (List.map Bk.a l)),(15,vi n),(16,vi (wi (i + 1)))],[⟨[ag [AV.mapr 1,AV.mapr 2,AV.mapr 3,AV.mapr 4,AV.mapr 5]],5,0,false,false⟩,⟨sm,2,0,false,true⟩,⟨st,2,0,false,true⟩,⟨dp,2,0,false,true⟩,⟨sz,2,0,false,true⟩,⟨dn,2,0,false,true⟩],_,[],_⟩ (by kernel_rfl) (bc (beq_f (fun h => d2 (i_dec.1 h))) b0) q0 c0 (by (try rw [w9]);all_goals exact H)
theorem tvXra (sm st dp sz dn:List AV) (g:Bool) (l:List Bk) (q:List Bk) (v:Nat) (bf:Bool) (Y:List Bk) (t k n i:Int)  (Q:AV -> Heap -> Prop) (H :
  ((k < t) -> ((q.length + Y.length) * 48 <= 1099511627776) /\
   (-9223372036854775808 <= k + 1 /\ k + 1 <= 9223372036854775807) /\
   tvXra_at (sm) (st) (dp) (sz) (dn) (g) (l) (q ++ Y) (v + 1) (bf) (Y) (t) (k + 1) (n) (i) Q) /\
  (¬(k < t) -> (-9223372036854775808 <= i + 1 /\ i + 1 <= 9223372036854775807) /\
   tvXaa_at (sm) (st) (dp) (sz) (dn) (g) (l) (q) (v) (n) (i + 1) Q)) :
 tvXra_at sm st dp sz dn g l q v bf Y t k n i Q:=by
 unfold tvXra_at
 rcases xm (k < t) with d2 | d2
 ·have H:=H.1 d2
  have w3:(List.map Bk.a q).length = q.length:=List.length_map ..
  have w4:(List.map Bk.a Y).length = Y.length:=List.length_map ..
  have i5:(decide (((List.map Bk.a q).length + (List.map Bk.a Y).length) * 48 <= 1099511627776)) = true ↔ ((q.length + Y.length) * 48 <= 1099511627776):=(by (try rw [w3]);(try rw [w4]);all_goals exact i_dec)
  obtain ⟨k6,H⟩:=H
  have w7:List.map Bk.a q ++ List.map Bk.a Y = List.map Bk.a (q ++ Y):=(lm_app rfl rfl)
  obtain ⟨k8,H⟩:=H
  have w9:wi (k + 1) = k + 1:=wI64 k8
  exact path_wp (G:=given kp46 [] []) 1000 [true] ⟨(atC (cd Try.f46) [1,1,0,1,0,0,1,1,0,0,1,1,1,1,1,1,1,0,0]),[(0,AV.ptr 0 0 0 0),(5,AV.row 6 (v + 1)),(12,AV.vec bf 3 (List.map Bk.a Y)),(14,AV.vec g 3 (List.map Bk.a l)),(15,vi n),(16,vi i),(61,vi t),(62,vi (wi (k + 1)))],[⟨[ag [AV.mapr 1,AV.mapr 2,AV.mapr 3,AV.mapr 4,AV.mapr 5]],5,0,false,false⟩,⟨sm,2,0,false,true⟩,⟨st,2,0,false,true⟩,⟨dp,2,0,false,true⟩,⟨sz,2,0,false,true⟩,⟨dn,2,0,false,true⟩,⟨List.map Bk.a q ++ List.map Bk.a Y,3,v + 1,false,true⟩],[(decide (k < t)) == true,v == v,decide (((List.map Bk.a q).length + (List.map Bk.a Y).length) * 48 <= 1099511627776)],[],_⟩ (by kernel_rfl) (bc (beq_t (i_dec.2 d2)) (bc (beq_self_eq_true _) (bc (i5.2 k6) b0))) q0 c0 (by (try rw [w7]);(try rw [w9]);all_goals exact H)
 ·have H:=H.2 d2
  obtain ⟨k10,H⟩:=H
  have w11:wi (i + 1) = i + 1:=wI64 k10
  exact path_wp (G:=given kp46 [] []) 1000 [false] ⟨(atC (cd Try.f46) [1,1,0,1,0,0]),[(0,AV.ptr 0 0 0 0),(5,AV.row 6 v),(14,AV.vec g 3 (List.map Bk.a l)),(15,vi n),(16,vi (wi (i + 1)))],[⟨[ag [AV.mapr 1,AV.mapr 2,AV.mapr 3,AV.mapr 4,AV.mapr 5]],5,0,false,false⟩,⟨sm,2,0,false,true⟩,⟨st,2,0,false,true⟩,⟨dp,2,0,false,true⟩,⟨sz,2,0,false,true⟩,⟨dn,2,0,false,true⟩,⟨List.map Bk.a q,3,v,false,true⟩],_,[],_⟩ (by kernel_rfl) (bc (beq_f (fun h => d2 (i_dec.1 h))) b0) q0 c0 (by (try rw [w11]);all_goals exact H)
end Go.Av

namespace Go.Av
open Go.RowKit
theorem wp_narrowZ {M:Mach} {fi:Fi} {k:List Item} {env env':Vars} {L Lc:Heap} {d:AV} {K:Heap} (n:Nat) (rs:List Nat) (hk:frzOk n K = true) (hrs:rs.take n = List.range n) (hn:narrowIn L rs env = some (env',Lc)) (h:Wp M (.run fi k env' Lc) (FrzQ d K)):Wp M (.run fi k env L) (FrzQ d K):=by
 unfold frzOk at hk
 simp only [Bool.and_eq_true,List.all_eq_true,Nat.blt_eq,Nat.beq_eq] at hk
 obtain ⟨k1,k2⟩:=hk
 refine .narrow rs env' Lc hn (.mono h fun v L1 ⟨q1,q2,q3,q4⟩ => ?_)
 unfold narrowIn at hn
 split at hn
 ·rename_i rows0 hrows
  split at hn
  ·rename_i hc
   simp only [Bool.and_eq_true] at hc
   have hnd:=(noDup_iff rs).1 hc.1
   obtain ⟨g1,g2⟩:=getRows_spec hrows
   have hlen:n <= rs.length:=by
    have:=congrArg List.length hrs
    rw [List.length_take,List.length_range] at this;omega
   have hat:∀ i,i < n -> rs[i]? = some i:=fun i hi => by
    have this:(rs.take n)[i]? = (List.range n)[i]?:=by rw [hrs]
    rw [List.getElem?_take_of_lt hi,List.getElem?_range hi] at this
    exact this
   have hlt:∀ (j:Nat) r,rs[j]? = some r -> r < L.length:=fun j r hj => by
    obtain ⟨row,w1,_⟩:=g2 j r hj
    exact (List.getElem?_eq_some_iff.1 w1).1
   have hle:n <= L.length:=by
    by_cases h0:n = 0
    ·omega
    ·have:=hlt (n - 1) _ (hat (n - 1) (by omega));omega
   have hb:∀ r,r < n -> backAt L.length rs r = r:=fun r hr => by
    unfold backAt
    rw [Nat.blt_eq.mpr (show r < rs.length by omega),cond_true,List.getD_eq_getElem?_getD,hat r hr];rfl
   have hbg:∀ r,n <= r -> n <= backAt L.length rs r:=fun r hr => by
    unfold backAt
    by_cases hlt2:r < rs.length
    ·rw [Nat.blt_eq.mpr hlt2,cond_true]
     have hg:rs[r]? = some (rs.getD r 0):=by rw [List.getD_eq_getElem?_getD,List.getElem?_eq_getElem hlt2];rfl
     refine Classical.byContradiction fun y => ?_
     have e1:=posOf_at hnd hg
     have e2:=posOf_at hnd (hat (rs.getD r 0) (by omega))
     omega
    ·have:Nat.blt r rs.length = false:=by
      cases hb:Nat.blt r rs.length with
      | false => rfl
      | true => exact (hlt2 (Nat.blt_eq.mp hb)).elim
     rw [this,cond_false];omega
   obtain ⟨p1,p2⟩:=pureA_ren (back_at (L1:=L1) hrows hnd) v q1
   refine ⟨p1,by rw [p2];exact q2,fun r hr => ?_,?_⟩
   ·rw [rowsA_ren] at hr
    obtain ⟨a,ha,rfl⟩:=List.mem_map.1 hr
    have:=q3 a ha
    rw [k1] at this ⊢
    exact hbg a this
   ·rw [k1] at q4 ⊢
    have hlL1:n <= L1.length:=by
     have:=congrArg List.length q4
     rw [List.length_take,k1] at this;omega
    apply List.ext_getElem?
    intro i
    by_cases hi:i < n
    ·rw [List.getElem?_take_of_lt hi]
     have e1:L1[i]? = K[i]?:=by rw [<- q4,List.getElem?_take_of_lt hi]
     have hKi:i < K.length:=by omega
     rw [List.getElem?_eq_getElem hKi] at e1 ⊢
     have:=back_at (L1:=L1) hrows hnd i _ e1
     rw [hb i hi] at this
     rw [this,renRow_same fun r hr => hb r (k2 _ (List.getElem_mem hKi) r hr)]
    ·rw [List.getElem?_eq_none (by rw [List.length_take];omega),List.getElem?_eq_none (by omega)]
  ·simp at hn
 ·simp at hn
end Go.Av

namespace Go.Av
open Go.Proofs
def DInv (E:Int -> List Bk) (dn:List AV):Prop:=mapKeys .i64 dn = true /\ ∀ n,(mapHas n dn = false -> mapVal (ofC (Value.slice none 0 0)) n dn = .vnil) /\ (mapHas n dn = true -> ∃ bf,mapVal (ofC (Value.slice none 0 0)) n dn = .vec bf 3 ((E n).map Bk.a))
theorem dinv0 (E:Int -> List Bk):DInv E []:=⟨rfl,fun n => ⟨fun _ => rfl,fun h => by cases h⟩⟩
theorem dinv_put {E:Int -> List Bk} {dn:List AV} (h:DInv E dn) (m:Int) (bf:Bool):DInv E (mapPut .i64 m (.vec bf 3 ((E m).map Bk.a)) dn):=by
 obtain ⟨h1,h2⟩:=h
 obtain ⟨a1,a2,a3⟩:=valM_put (n:=m) (v:=.vec bf 3 ((E m).map Bk.a)) h1
 refine ⟨a1,fun n => ⟨fun k => ?_,fun k => ?_⟩⟩
 ·rw [a2,Bool.or_eq_false_iff,decide_eq_false_iff_not] at k
  rw [a3,if_neg k.1];exact (h2 n).1 k.2
 ·rw [a3]
  by_cases e:n = m
  ·rw [if_pos e,e];exact ⟨bf,rfl⟩
  ·rw [if_neg e]
   rw [a2,decide_eq_false e,Bool.false_or] at k
   exact (h2 n).2 k
def ExpE (E:Int -> List Bk) (sm st dp sz:List AV) (bs:Bool) (l:List Bk) (r:List Bk):Prop:=∀ dn,DInv E dn -> ∃ bf dn1,Ev M1 (.own 46 [.ptr 0 0 0 0,.vec bs 3 (l.map Bk.a)] (XH sm st dp sz dn)) (.vec bf 3 (r.map Bk.a)) (XH sm st dp sz dn1) /\ DInv E dn1
theorem expand_in {sm st dp sz dn:List AV} {g bf:Bool} {l Y:List Bk} {n i:Int} {Q:AV -> Heap -> Prop} (hi:-9223372036854775808 <= i + 1 /\ i + 1 <= 9223372036854775807) {t:Nat} (ht:t <= 1000000):∀ (c k:Nat) (q:List Bk) (v:Nat),k + c = t -> q.length + c * Y.length <= 1000000 -> (∀ v,tvXaa_at sm st dp sz dn g l (q ++ Sp.rep c Y) v n (i + 1) Q) -> tvXra_at sm st dp sz dn g l q v bf Y t k n i Q:=by
 intro c
 induction c with
 | zero =>
  intro k q v hk _ h
  rw [rep_zero,List.append_nil] at h
  exact tvXra _ _ _ _ _ _ _ _ _ _ _ _ _ _ _ _ ⟨fun y => by omega,fun _ => ⟨hi,h v⟩⟩
 | succ c ih =>
  intro k q v hk hl h
  rw [rep_succ,<- List.append_assoc] at h
  rw [Nat.succ_mul] at hl
  refine tvXra _ _ _ _ _ _ _ _ _ _ _ _ _ _ _ _ ⟨fun _ => ⟨by omega,by omega,ih (k + 1) (q ++ Y) (v + 1) (by omega) (by rw [List.length_append];omega) h⟩,fun y => by omega⟩
theorem expand_loop {E:Int -> List Bk} {sm st dp sz:List AV} {g:Bool} {l:List Bk} {P:Int -> Prop} (hsm:mapKeys .i64 sm = true) (hl:Sp.okBs l) (hlen:(Sp.xpd E l).length <= 1000000) (hP:∀ x ∈ l,Sp.cIs x.ws = true -> P (Sp.cN x.ws))
  (hrec:∀ m,P m -> (E m).length <= 1000000 -> ∃ bs S,mapVal (ofC (Value.slice none 0 0)) m sm = .vec bs 3 (S.map Bk.a) /\ ExpE E sm st dp sz bs S (E m)) :
  ∀ (c i:Nat) (q:List Bk) (dn:List AV),i + c = l.length -> q ++ Sp.xpd E (l.drop i) = Sp.xpd E l -> DInv E dn ->
  ∃ bf dn1,DInv E dn1 /\ (q = [] -> tvXaz_at sm st dp sz dn g l l.length i (FrzQ (.vec bf 3 ((Sp.xpd E l).map Bk.a)) (XH sm st dp sz dn1))) /\ (q ≠ [] -> ∀ v,tvXaa_at sm st dp sz dn g l q v l.length i (FrzQ (.vec bf 3 ((Sp.xpd E l).map Bk.a)) (XH sm st dp sz dn1))):=by
 have hll:=hl.1
 intro c
 induction c with
 | zero =>
  intro i q dn hi he hD
  rw [List.drop_eq_nil_of_le (by omega),show Sp.xpd E [] = [] from rfl,List.append_nil] at he
  subst he
  cases hx:Sp.xpd E l with
  | nil =>
   refine ⟨true,dn,hD,fun _ => ?_,fun h => (h rfl).elim⟩
   refine wp_vnil (es:=3) hm1 (tvXaz _ _ _ _ _ _ _ _ _ _ ⟨fun h => by omega,fun _ => .inr ⟨rfl,rfl,fun b hb => (by cases hb),fun r hr => (by cases hr),rfl⟩⟩:tvXaz_at sm st dp sz dn g l l.length i _)
  | cons y Y =>
   refine ⟨false,dn,hD,fun h => (by cases h),fun _ v => ?_⟩
   refine tvXaa _ _ _ _ _ _ _ _ _ _ _ _ ⟨fun h => by omega,fun _ => ⟨rfl,fun b hb => ?_,fun r hr => ?_,rfl⟩⟩
   ·rw [List.mem_singleton.1 hb];simp [verOk]
   ·rw [List.mem_singleton.1 hr];exact Nat.le_refl 6
 | succ c ih =>
  intro i q dn hi he hD
  have hx:l.getD i default ∈ l:=getD_mem (by omega)
  have hw:=hl.2 _ hx
  rw [drop_getD (show i < l.length by omega),xpd_cons,<- List.append_assoc] at he
  have htot:=congrArg List.length he
  rw [List.length_append,List.length_append] at htot
  by_cases k:Sp.cIs (l.getD i default).ws = true
  ·rw [if_pos k] at he htot
   have hct:=(cIs_at k).1
   have hpm:=hP _ hx k
   have ht1:1 <= (Sp.cT (l.getD i default).ws).toNat:=by omega
   rw [rep_len] at htot
   have hE:(E (Sp.cN (l.getD i default).ws)).length <= (Sp.cT (l.getD i default).ws).toNat * (E (Sp.cN (l.getD i default).ws)).length:=Nat.le_mul_of_pos_left _ (by omega)
   obtain ⟨bs,S,hv,hrc⟩:=hrec _ hpm (by omega)
   have htc:((Sp.cT (l.getD i default).ws).toNat:Int) = Sp.cT (l.getD i default).ws:=Int.toNat_of_nonneg (by omega)
   have body:∀ dnB bf,DInv E dnB -> ∃ rf dn1,DInv E dn1 /\
     (((E (Sp.cN (l.getD i default).ws)).length:Int) = 0 -> (q = [] -> tvXaz_at sm st dp sz dnB g l l.length (i + 1) (FrzQ (.vec rf 3 ((Sp.xpd E l).map Bk.a)) (XH sm st dp sz dn1))) /\ (q ≠ [] -> ∀ v,tvXaa_at sm st dp sz dnB g l q v l.length (i + 1) (FrzQ (.vec rf 3 ((Sp.xpd E l).map Bk.a)) (XH sm st dp sz dn1)))) /\
     (¬((E (Sp.cN (l.getD i default).ws)).length:Int) = 0 -> (q = [] -> tvXra_at sm st dp sz dnB g l [] 0 bf (E (Sp.cN (l.getD i default).ws)) (Sp.cT (l.getD i default).ws) 0 l.length i (FrzQ (.vec rf 3 ((Sp.xpd E l).map Bk.a)) (XH sm st dp sz dn1)) /\ ∃ y Y,E (Sp.cN (l.getD i default).ws) = y :: Y /\ tvXrz_at sm st dp sz dnB g l bf y Y (Sp.cT (l.getD i default).ws) 0 l.length i (FrzQ (.vec rf 3 ((Sp.xpd E l).map Bk.a)) (XH sm st dp sz dn1))) /\ (q ≠ [] -> ∀ v,tvXra_at sm st dp sz dnB g l q v bf (E (Sp.cN (l.getD i default).ws)) (Sp.cT (l.getD i default).ws) 0 l.length i (FrzQ (.vec rf 3 ((Sp.xpd E l).map Bk.a)) (XH sm st dp sz dn1)))):=by
    intro dnB bf hB
    obtain ⟨rf,dn1,d1,d2,d3⟩:=ih (i + 1) (q ++ Sp.rep (Sp.cT (l.getD i default).ws).toNat (E (Sp.cN (l.getD i default).ws))) dnB (by omega) he hB
    refine ⟨rf,dn1,d1,fun h0 => ?_,fun h0 => ?_⟩
    ·have e0:E (Sp.cN (l.getD i default).ws) = []:=List.eq_nil_of_length_eq_zero (by omega)
     rw [e0,rep_nil,List.append_nil] at d2 d3
     exact ⟨d2,d3⟩
    ·have hne:q ++ Sp.rep (Sp.cT (l.getD i default).ws).toNat (E (Sp.cN (l.getD i default).ws)) ≠ []:=fun e => by
      have:=congrArg List.length e
      rw [List.length_append,rep_len,List.length_nil] at this
      omega
     have d3:=d3 hne
     rw [<- htc]
     refine ⟨fun hq => ?_,fun hq v => ?_⟩
     ·subst hq
      refine ⟨?_,?_⟩
      ·exact expand_in (t:=(Sp.cT (l.getD i default).ws).toNat) (by omega) (by omega) _ 0 [] 0 (by omega) (by rw [List.length_nil];omega) d3
      ·cases hEc:E (Sp.cN (l.getD i default).ws) with
       | nil => rw [hEc] at h0;exact (h0 rfl).elim
       | cons y Y =>
        rw [hEc] at d3 htot
        refine ⟨y,Y,rfl,tvXrz _ _ _ _ _ _ _ _ _ _ _ _ _ _ _ ⟨fun _ => ⟨?_,by omega,?_⟩,fun z => by omega⟩⟩
        ·simp only [List.length_cons] at hE htot;rw [hEc] at hE;simp only [List.length_cons] at hE;omega
        ·obtain ⟨t,ht⟩:∃ t,(Sp.cT (l.getD i default).ws).toNat = t + 1:=⟨(Sp.cT (l.getD i default).ws).toNat - 1,by omega⟩
         rw [ht] at d3 htot
         rw [rep_succ,List.nil_append] at d3
         rw [ht]
         rw [Nat.succ_mul] at htot
         exact expand_in (Y:=y :: Y) (bf:=bf) (t:=t + 1) (by omega) (by omega) t 1 (y :: Y) 0 (by omega) (by omega) d3
     ·exact expand_in (t:=(Sp.cT (l.getD i default).ws).toNat) (by omega) (by omega) _ 0 q v (by omega) (by omega) d3
   have top:∀ {Q:AV × List AV},(q = [] -> tvXkz_at sm st dp sz dn g l (Sp.cN (l.getD i default).ws) (Sp.cT (l.getD i default).ws) l.length i (FrzQ Q.1 (XH sm st dp sz Q.2))) -> (q ≠ [] -> ∀ v,tvXka_at sm st dp sz dn g l q v (Sp.cN (l.getD i default).ws) (Sp.cT (l.getD i default).ws) l.length i (FrzQ Q.1 (XH sm st dp sz Q.2))) ->
     (q = [] -> tvXaz_at sm st dp sz dn g l l.length i (FrzQ Q.1 (XH sm st dp sz Q.2))) /\ (q ≠ [] -> ∀ v,tvXaa_at sm st dp sz dn g l q v l.length i (FrzQ Q.1 (XH sm st dp sz Q.2))):=fun {Q:AV × List AV} hz ha => by
    refine ⟨fun hq => ?_,fun hq v => ?_⟩
    ·refine tvXaz _ _ _ _ _ _ _ _ _ _ ⟨fun _ => ?_,fun h => by omega⟩
     rw [Int.toNat_natCast]
     exact ⟨by omega,by omega,hw,fun y => (y k).elim,fun _ => wp_narrowZ 6 [0,1,2,3,4,5] (by kernel_rfl) rfl (by kernel_rfl) (hz hq)⟩
    ·refine tvXaa _ _ _ _ _ _ _ _ _ _ _ _ ⟨fun _ => ?_,fun h => by omega⟩
     rw [Int.toNat_natCast]
     exact ⟨by omega,by omega,hw,fun y => (y k).elim,fun _ => wp_narrowZ 6 [0,1,2,3,4,5,6] (by kernel_rfl) rfl (by kernel_rfl) (ha hq v)⟩
   cases hh:mapHas (Sp.cN (l.getD i default).ws) dn with
   | true =>
    obtain ⟨bf,hbf⟩:=(hD.2 _).2 hh
    obtain ⟨rf,dn1,d1,d2,d3⟩:=body dn bf hD
    obtain ⟨t1,t2⟩:=top (Q:=(_,dn1)) (fun hq => tvXkz _ _ _ _ _ _ _ _ _ _ _ bf (E (Sp.cN (l.getD i default).ws)) _ ⟨hD.1,hbf,fun y => (y hh).elim,fun _ => ⟨fun z => ⟨by omega,(d2 z).1 hq⟩,fun z => by
      obtain ⟨_,y,Y,e1,e2⟩:=(d3 z).1 hq
      rw [e1];exact e2⟩⟩) (fun hq v => tvXka _ _ _ _ _ _ _ _ _ _ _ _ _ bf (E (Sp.cN (l.getD i default).ws)) _ ⟨hD.1,hbf,fun y => (y hh).elim,fun _ => ⟨fun z => ⟨by omega,(d2 z).2 hq v⟩,fun z => (d3 z).2 hq v⟩⟩)
    exact ⟨rf,dn1,d1,t1,t2⟩
   | false =>
    obtain ⟨bf,dnA,a1,a2⟩:=hrc dn hD
    have hB:=dinv_put a2 (Sp.cN (l.getD i default).ws) bf
    obtain ⟨rf,dn1,d1,d2,d3⟩:=body _ bf hB
    have hnv:=(hD.2 _).1 hh
    obtain ⟨t1,t2⟩:=top (Q:=(_,dn1)) (fun hq => (tvXuz _ _ _ _ _ _ _ _ _ _ _ bs S bf (E (Sp.cN (l.getD i default).ws)) dnA _ ⟨hD.1,hnv,fun _ => ⟨a1,hsm,hv,a2.1,fun z => ⟨by omega,(d2 z).1 hq⟩,fun z => by
      obtain ⟨_,y,Y,e1,e2⟩:=(d3 z).1 hq
      rw [e1] at e2 ⊢;exact e2⟩,fun y => (y (by rw [hh];simp)).elim⟩:tvXuz_at _ _ _ _ _ _ _ _ _ _ _ _)) (fun hq v => (tvXua _ _ _ _ _ _ _ _ _ _ _ _ _ bs S bf (E (Sp.cN (l.getD i default).ws)) dnA _ ⟨hD.1,hnv,fun _ => ⟨a1,hsm,hv,a2.1,fun z => ⟨by omega,(d2 z).2 hq v⟩,fun z => (d3 z).2 hq v⟩,fun y => (y (by rw [hh];simp)).elim⟩:tvXua_at _ _ _ _ _ _ _ _ _ _ _ _ _ _))
    exact ⟨rf,dn1,d1,t1,t2⟩
  ·rw [if_neg k] at he htot
   obtain ⟨rf,dn1,d1,_,d3⟩:=ih (i + 1) (q ++ [l.getD i default]) dn (by omega) he hD
   have d3:=d3 (by simp)
   refine ⟨rf,dn1,d1,fun hq => ?_,fun hq v => ?_⟩
   ·subst hq
    refine tvXaz _ _ _ _ _ _ _ _ _ _ ⟨fun _ => ?_,fun h => by omega⟩
    rw [Int.toNat_natCast]
    exact ⟨by omega,by omega,hw,fun _ => ⟨by omega,wp_narrowZ 6 [0,1,2,3,4,5,7] (by kernel_rfl) rfl (by kernel_rfl) (d3 0)⟩,fun y => (y k).elim⟩
   ·refine tvXaa _ _ _ _ _ _ _ _ _ _ _ _ ⟨fun _ => ?_,fun h => by omega⟩
    rw [Int.toNat_natCast]
    exact ⟨by omega,by omega,hw,fun _ => ⟨by omega,by omega,wp_narrowZ 6 [0,1,2,3,4,5,6] (by kernel_rfl) rfl (by kernel_rfl) (d3 (v + 1))⟩,fun y => (y k).elim⟩
end Go.Av

namespace Go.Av
open Go.Proofs
theorem expand_ev {S:Int -> List Bk} {ns:List Int} {sm st dp sz:List AV} {N:Nat} (hs:MSub S ns sm):∀ (k:Nat) (g:Bool) (l:List Bk),k <= N -> Sp.okBs l -> (∀ x ∈ l,Sp.cIs x.ws = true -> Sp.cN x.ws ∈ ns /\ (Sp.V S k (Sp.cN x.ws)).isSome = true) -> (Sp.xpd (Sp.X S N) l).length <= 1000000 ->
  ExpE (Sp.X S N) sm st dp sz g l (Sp.xpd (Sp.X S N) l):=by
 intro k
 induction k with
 | zero =>
  intro g l hk hl hc hlen dn hD
  obtain ⟨bf,dn1,d1,d2,_⟩:=expand_loop (st:=st) (dp:=dp) (sz:=sz) (g:=g) (P:=fun _ => False) hs.1 hl hlen (fun x hx y => by have:=(hc x hx y).2;simp [Sp.V] at this) (fun m hm => hm.elim) l.length 0 [] dn (by omega) (by rw [List.drop_zero];rfl) hD
  refine ⟨bf,dn1,own_freeze hm1 rfl rfl (owncall46 (tvXp _ _ _ _ _ _ _ _ (d2 rfl))),d1⟩
 | succ k ih =>
  intro g l hk hl hc hlen dn hD
  obtain ⟨bf,dn1,d1,d2,_⟩:=expand_loop (st:=st) (dp:=dp) (sz:=sz) (g:=g) (P:=fun m => m ∈ ns /\ (Sp.V S (k + 1) m).isSome = true) hs.1 hl hlen hc (fun m hm hml => by
   obtain ⟨hb,bs,hv⟩:=hs.2.2.2 m hm.1
   have e:Sp.X S N m = Sp.xpd (Sp.X S N) (S m):=(X_mono1 N m (V_some hm.2 hk)).symm
   refine ⟨bs,S m,hv,?_⟩
   have:=ih bs (S m) (by omega) hb (fun x hx y => ⟨hs.2.2.1 m hm.1 x hx y,V_succ.1 hm.2 x hx y⟩) (by rw [<- e];exact hml)
   rw [e];exact this) l.length 0 [] dn (by omega) (by rw [List.drop_zero];rfl) hD
  refine ⟨bf,dn1,own_freeze hm1 rfl rfl (owncall46 (tvXp _ _ _ _ _ _ _ _ (d2 rfl))),d1⟩
end Go.Av

namespace Go.Av
open Go.Proofs
set_option maxRecDepth 100000
def fi47:Fi:=⟨8,[.tmp 2]⟩
def kp47:List (Nat × List Nat):=[(0,[0]),(1,[0,4]),(2,[2]),(3,[2])]
def tvWe_at (g:Bool) (Q:AV -> Heap -> Prop):Prop:=Wp M1 (.run fi47 (atC (cd Try.f47) []) [(0,.vec g 2 [])] []) Q
def tvWc_at (g:Bool) (y:Wo) (l:List Wo) (Q:AV -> Heap -> Prop):Prop:=Wp M1 (.run fi47 (atC (cd Try.f47) []) [(0,.vec g 2 ((y :: l).map Wo.a))] []) Q
theorem call47 {args:List AV} {d:AV} (h:wc M1 fi47 Try.f47 args d):Ev M1 (.pure 47 args) d []:=pcl _ _ (by kernel_rfl) h
theorem tvWe (g:Bool)  (dq:AV) (H :
  (Weak (AV.vnil) dq) /\
  (Weak (AV.vec true 2 []) dq)) :
 tvWe_at g (PureQ dq):=by
 unfold tvWe_at
 refine path_wp (G:=given kp47 [] []) 4 [] ⟨(atC (cd Try.f47) [1,0,0]),[(0,AV.vec g 2 [])],[],_,[],_⟩ (by kernel_rfl) b0 q0 c0 (wp_nil 1 [0,4] (e1:=[(0,AV.vec g 2 []),(4,vb true)]) (e2:=[(0,AV.vec g 2 []),(4,vb false)]) (L1:=[]) (L2:=[]) (a1:=[]) (a2:=[]) (v1:=[(4,[],vb true),(3,[],AV.vec g 2 []),(0,[],AV.vec g 2 [])]) (v2:=[(4,[],vb false),(3,[],AV.vec g 2 []),(0,[],AV.vec g 2 [])]) (by kernel_rfl) (by kernel_rfl) allB_nil allB_nil (by kernel_rfl) (by kernel_rfl) ?_ ?_)
 ·have H:=H.1
  exact path_rq (G:=given kp47 [] []) 1000 [true] (AV.vnil) (by kernel_rfl) (bc rfl b0) q0 c0 H
 ·have H:=H.2
  exact path_rq (G:=given kp47 [] []) 1000 [false] (AV.vec true 2 []) (by kernel_rfl) (bc rfl b0) q0 c0 H
theorem tvWc (g:Bool) (y:Wo) (l:List Wo)  (dq:AV) (H :
  ((0 + (l.length + 1)) * 16 <= 1099511627776) /\
  Weak (AV.vec false 2 (ag [AV.int IntKind.u8 y.l,vi y.v] :: List.map Wo.a l)) dq) :
 tvWc_at g y l (PureQ dq):=by
 unfold tvWc_at
 have w1:(List.map Wo.a l).length = l.length:=List.length_map ..
 have i2:(decide ((0 + ((List.map Wo.a l).length + 1)) * 16 <= 1099511627776)) = true ↔ ((0 + (l.length + 1)) * 16 <= 1099511627776):=(by (try rw [w1]);all_goals exact i_dec)
 obtain ⟨k3,H⟩:=H
 exact path_ret (G:=given kp47 [] []) 1000 [false] (k:=((atC (cd Try.f47) [1,1,1])).tail) (env':=[(2,AV.row 0 0)]) (L':=[⟨ag [AV.int IntKind.u8 y.l,vi y.v] :: List.map Wo.a l,2,0,false,true⟩]) (asm:=[false == false,decide ((0 + ((List.map Wo.a l).length + 1)) * 16 <= 1099511627776)]) (eqs:=[]) (calls:=[]) (AV.row 0 0) (by kernel_rfl) (by kernel_rfl) (allB_cons rfl (allB_cons (i2.2 k3) allB_nil)) allP_nil allC_nil (pq_weak (d:=(AV.vec false 2 (ag [AV.int IntKind.u8 y.l,vi y.v] :: List.map Wo.a l))) (bs:=[0 == 0]) (by kernel_rfl) (by kernel_rfl) (allB_cons (beq_self_eq_true _) allB_nil) (by kernel_rfl) H)
end Go.Av

namespace Go.Av
open Go.Proofs
theorem ev47 (g:Bool) (l:List Wo) (h:Sp.okW l):Ev M1 (.pure 47 [.vec g 2 (l.map Wo.a)]) (.vec false 2 (l.map Wo.a)) []:=by
 have hl:=h.1
 cases l with
 | nil => exact call47 (tvWe g _ ⟨.vnil 2,.full 2 []⟩)
 | cons y l => exact call47 (tvWc g y l _ ⟨by simp at hl;omega,.refl _⟩)
end Go.Av

namespace Go.Av
open Go.Proofs
set_option maxRecDepth 100000
def fi16:Fi:=⟨38,[.tmp 2,.tmp 3]⟩
def kp16:List (Nat × List Nat):=[(0,[1]),(1,[1,4,6]),(2,[1,4,6,17]),(3,[2,3]),(4,[1,4,7]),(5,[7,22,23,24]),(6,[7,22,23,24,25]),(7,[7,9,22,23,24]),(8,[7,9,22,23,24]),(9,[7,22,23,24]),(10,[7,22,23,24]),(11,[2,3])]
def tvEpT_at (g:Bool) (l:List Bk) (h:Bool) (s:List Sb) (Q:AV -> Heap -> Prop):Prop:=Wp M1 (.run fi16 (atC (cd Try.f16) []) [(0,.agg [.vec g 3 (l.map Bk.a),.vec h 2 (s.map Sb.a)])] []) Q
def tvEpE_at (g:Bool) (l:List Bk) (h:Bool) (s:List Sb) (Q:AV -> Heap -> Prop):Prop:=Wp M1 (.run fi16 (atC (cd Try.f16) []) [(0,.agg [.vec g 3 (l.map Bk.a),.vec h 2 (s.map Sb.a)])] []) Q
def tvEpz_at (bf:Bool) (Y:List Bk) (n i:Int) (Q:AV -> Heap -> Prop):Prop:=Wp M1 (.run fi16 (atC (cd Try.f16) [1,1,1,1,0,1,0,0]) [(7,.vnil),(22,.vec bf 3 (Y.map Bk.a)),(23,.int .i64 n),(24,.int .i64 i)] []) Q
def tvEpa_at (bf:Bool) (Y:List Bk) (n i:Int) (q:List Bk) (v:Nat) (Q:AV -> Heap -> Prop):Prop:=Wp M1 (.run fi16 (atC (cd Try.f16) [1,1,1,1,0,1,0,0]) [(7,.row 0 v),(22,.vec bf 3 (Y.map Bk.a)),(23,.int .i64 n),(24,.int .i64 i)] [⟨q.map Bk.a,3,v,false,true⟩]) Q
theorem call16 {args:List AV} {d:AV} (h:wc M1 fi16 Try.f16 args d):Ev M1 (.pure 16 args) d []:=pcl _ _ (by kernel_rfl) h
noncomputable abbrev zTpO1:=ag [AV.mapr 1,AV.mapr 2,AV.mapr 3,AV.mapr 4,AV.mapr 5]
theorem tvEpT (g:Bool) (l:List Bk) (h:Bool) (s:List Sb) (sm st dp sz:List AV) (z:Int) (bf:Bool) (Y:List Bk) (dn1:List AV) (dq:AV) (H :
  (Ev M1 (Conf.own 45 [ag [AV.vec g 3 (List.map Bk.a l),AV.vec h 2 (List.map Sb.a s)]] []) (tu [AV.ptr 0 0 0 0,vi z,vi 0]) [{ elems:=[ag [AV.mapr 1,AV.mapr 2,AV.mapr 3,AV.mapr 4,AV.mapr 5]],es:=5,ver:=0,frozen:=false,clean:=false },{ elems:=sm,es:=2,ver:=0,frozen:=false,clean:=true },{ elems:=st,es:=2,ver:=0,frozen:=false,clean:=true },{ elems:=dp,es:=2,ver:=0,frozen:=false,clean:=true },{ elems:=sz,es:=2,ver:=0,frozen:=false,clean:=true },{ elems:=[],es:=2,ver:=0,frozen:=false,clean:=true }]) /\
  (Ev M1 (Conf.own 46 [AV.ptr 0 0 0 0,AV.vec g 3 (List.map Bk.a l)] [{ elems:=[ag [AV.mapr 1,AV.mapr 2,AV.mapr 3,AV.mapr 4,AV.mapr 5]],es:=5,ver:=0,frozen:=false,clean:=false },{ elems:=sm,es:=2,ver:=0,frozen:=false,clean:=true },{ elems:=st,es:=2,ver:=0,frozen:=false,clean:=true },{ elems:=dp,es:=2,ver:=0,frozen:=false,clean:=true },{ elems:=sz,es:=2,ver:=0,frozen:=false,clean:=true },{ elems:=[],es:=2,ver:=0,frozen:=false,clean:=true }]) (AV.vec bf 3 (List.map Bk.a Y)) [{ elems:=[ag [AV.mapr 1,AV.mapr 2,AV.mapr 3,AV.mapr 4,AV.mapr 5]],es:=5,ver:=0,frozen:=false,clean:=false },{ elems:=sm,es:=2,ver:=0,frozen:=false,clean:=true },{ elems:=st,es:=2,ver:=0,frozen:=false,clean:=true },{ elems:=dp,es:=2,ver:=0,frozen:=false,clean:=true },{ elems:=sz,es:=2,ver:=0,frozen:=false,clean:=true },{ elems:=dn1,es:=2,ver:=0,frozen:=false,clean:=true }]) /\
  tvEpz_at (bf) (Y) ((↑Y.length:Int)) (0) (PureQ dq)) :
 tvEpT_at g l h s (PureQ dq):=by
 unfold tvEpT_at
 obtain ⟨k1,H⟩:=H
 obtain ⟨k2,H⟩:=H
 have w3:(List.map Bk.a Y).length = Y.length:=List.length_map ..
 exact path_wp (G:=given kp16 [(1,1,(.call (.tup [.ptr 0 0 0 0,.int .i64 z,.int .i64 0]) (some [⟨[.agg [.mapr 1,.mapr 2,.mapr 3,.mapr 4,.mapr 5]],5,0,false,false⟩,⟨sm,2,0,false,true⟩,⟨st,2,0,false,true⟩,⟨dp,2,0,false,true⟩,⟨sz,2,0,false,true⟩,⟨[],2,0,false,true⟩]):Ans)),(5,3,(.call (.vec bf 3 (Y.map Bk.a)) (some [⟨[.agg [.mapr 1,.mapr 2,.mapr 3,.mapr 4,.mapr 5]],5,0,false,false⟩,⟨sm,2,0,false,true⟩,⟨st,2,0,false,true⟩,⟨dp,2,0,false,true⟩,⟨sz,2,0,false,true⟩,⟨dn1,2,0,false,true⟩]):Ans))] []) 1000 [false] ⟨(atC (cd Try.f16) [1,1,1,1,0,1,0,0]),[(7,AV.vnil),(22,AV.vec bf 3 (List.map Bk.a Y)),(23,vi (↑(List.map Bk.a Y).length:Int)),(24,vi 0)],[⟨[ag [AV.vec g 3 (List.map Bk.a l),AV.vec h 2 (List.map Sb.a s)]],2,0,false,false⟩,⟨[ag [AV.mapr 2,AV.mapr 3,AV.mapr 4,AV.mapr 5,AV.mapr 6]],5,0,false,false⟩,⟨sm,2,0,false,true⟩,⟨st,2,0,false,true⟩,⟨dp,2,0,false,true⟩,⟨sz,2,0,false,true⟩,⟨dn1,2,0,false,true⟩],_,[],[⟨true,true,45,[ag [AV.vec g 3 (List.map Bk.a l),AV.vec h 2 (List.map Sb.a s)]],[],tu [AV.ptr 0 0 0 0,vi z,vi 0],[⟨[zTpO1],5,0,false,false⟩,⟨sm,2,0,false,true⟩,⟨st,2,0,false,true⟩,⟨dp,2,0,false,true⟩,⟨sz,2,0,false,true⟩,⟨[],2,0,false,true⟩]⟩,⟨true,true,46,[AV.ptr 0 0 0 0,AV.vec g 3 (List.map Bk.a l)],[⟨[zTpO1],5,0,false,false⟩,⟨sm,2,0,false,true⟩,⟨st,2,0,false,true⟩,⟨dp,2,0,false,true⟩,⟨sz,2,0,false,true⟩,⟨[],2,0,false,true⟩],AV.vec bf 3 (List.map Bk.a Y),[⟨[zTpO1],5,0,false,false⟩,⟨sm,2,0,false,true⟩,⟨st,2,0,false,true⟩,⟨dp,2,0,false,true⟩,⟨sz,2,0,false,true⟩,⟨dn1,2,0,false,true⟩]⟩]⟩ (by kernel_rfl) (bc rfl (bc rfl (bc rfl b0))) q0 (cc (fun _ => k1) (cc (fun _ => k2) c0)) (by (try rw [w3]);all_goals exact wp_narrow [] (by kernel_rfl) H)
theorem tvEpE (g:Bool) (l:List Bk) (h:Bool) (s:List Sb) (z e:Int) (dq:AV) (H :
  (Ev M1 (Conf.own 45 [ag [AV.vec g 3 (List.map Bk.a l),AV.vec h 2 (List.map Sb.a s)]] []) (tu [AV.nilp,vi z,vi e]) []) /\
  ((¬e = 0) -> Weak (tu [AV.vnil,vi e]) dq) /\
  (¬(¬e = 0) -> False)) :
 tvEpE_at g l h s (PureQ dq):=by
 unfold tvEpE_at
 obtain ⟨k1,H⟩:=H
 refine path_wp (G:=given kp16 [(1,1,(.call (.tup [.nilp,.int .i64 z,.int .i64 e]) none:Ans))] []) 7 [] ⟨(atC (cd Try.f16) [1,1,0,1]),[(1,AV.ptr 0 0 0 0),(4,AV.nilp),(6,vi e),(17,vb (e != 0))],[⟨[ag [AV.vec g 3 (List.map Bk.a l),AV.vec h 2 (List.map Sb.a s)]],2,0,false,false⟩],_,[],[⟨true,true,45,[ag [AV.vec g 3 (List.map Bk.a l),AV.vec h 2 (List.map Sb.a s)]],[],tu [AV.nilp,vi z,vi e],[]⟩]⟩ (by kernel_rfl) (bc rfl b0) q0 (cc (fun _ => k1) c0) ?_
 rcases xm (¬e = 0) with d3 | d3
 ·have H:=H.1 d3
  exact path_rq (G:=given kp16 [] []) 1000 [true] (tu [AV.vnil,vi e]) (by kernel_rfl) (bc (beq_t (i_ne.2 d3)) b0) q0 c0 H
 ·have H:=H.2 d3
  exact False.elim H
theorem tvEpz (bf:Bool) (Y:List Bk) (n i:Int)  (dq:AV) (H :
  ((i < n) -> (0 <= i) /\
   (i.toNat < Y.length) /\
   (Sp.okW (Y.getD i.toNat default).3) /\
   (-9223372036854775808 <= i + 1 /\ i + 1 <= 9223372036854775807) /\
   tvEpa_at (bf) (Y) (n) (i + 1) ([{ sk:=(Y.getD i.toNat default).1,f:=false,ws:=(Y.getD i.toNat default).3,cm:=(Y.getD i.toNat default).4 }]) (0) (PureQ dq)) /\
  (¬(i < n) -> Weak (tu [AV.vnil,vi 0]) dq)) :
 tvEpz_at bf Y n i (PureQ dq):=by
 unfold tvEpz_at
 rcases xm (i < n) with d2 | d2
 ·have H:=H.1 d2
  obtain ⟨k4,H⟩:=H
  have w5:(List.map Bk.a Y).length = Y.length:=List.length_map ..
  have i6:(decide (i.toNat < (List.map Bk.a Y).length)) = true ↔ (i.toNat < Y.length):=(by (try rw [w5]);all_goals exact i_dec)
  obtain ⟨k7,H⟩:=H
  obtain ⟨k8,H⟩:=H
  obtain ⟨k9,H⟩:=H
  have w10:wi (i + 1) = i + 1:=wI64 k9
  have w11:[ag [vb (Y.getD i.toNat default).1,AV.vec false 2 (List.map Wo.a (Y.getD i.toNat default).3),AV.str (Y.getD i.toNat default).4]] = List.map Bk.a [{ sk:=(Y.getD i.toNat default).1,f:=false,ws:=(Y.getD i.toNat default).3,cm:=(Y.getD i.toNat default).4 }]:=rfl
  exact path_wp (G:=given kp16 [(7,1,.elem (ag [vb (Y.getD i.toNat default).1,AV.vec (Y.getD i.toNat default).2 2 (List.map Wo.a (Y.getD i.toNat default).3),AV.str (Y.getD i.toNat default).4])),(8,2,.call (AV.vec false 2 (List.map Wo.a (Y.getD i.toNat default).3)) none)] []) 1000 [true] ⟨(atC (cd Try.f16) [1,1,1,1,0,1,0,0]),[(7,AV.row 1 0),(22,AV.vec bf 3 (List.map Bk.a Y)),(23,vi n),(24,vi (wi (i + 1)))],[⟨[ag [vb (Y.getD i.toNat default).1,AV.vec false 2 (List.map Wo.a (Y.getD i.toNat default).3),AV.str (Y.getD i.toNat default).4]],3,0,false,false⟩,⟨[ag [vb (Y.getD i.toNat default).1,AV.vec false 2 (List.map Wo.a (Y.getD i.toNat default).3),AV.str (Y.getD i.toNat default).4]],3,0,false,true⟩],_,[((List.map Bk.a Y).get?Internal i.toNat = some (ag [vb (Y.getD i.toNat default).1,AV.vec (Y.getD i.toNat default).2 2 (List.map Wo.a (Y.getD i.toNat default).3),AV.str (Y.getD i.toNat default).4]))],_⟩ (by kernel_rfl) (bc (beq_t (i_dec.2 d2)) (bc (i_dec.2 k4) (bc (i6.2 k7) (bc rfl (bc rfl (bc rfl (bc rfl (bc rfl b0)))))))) (qc (el_map k7) q0) (ce (@ev47 ((Y.getD i.toNat default).2) ((Y.getD i.toNat default).3) k8) c0) (by (try rw [w10]);(try rw [w11]);all_goals exact wp_narrow [1] (by kernel_rfl) H)
 ·have H:=H.2 d2
  exact path_rq (G:=given kp16 [] []) 1000 [false] (tu [AV.vnil,vi 0]) (by kernel_rfl) (bc (beq_f (fun h => d2 (i_dec.1 h))) b0) q0 c0 H
theorem tvEpa (bf:Bool) (Y:List Bk) (n i:Int) (q:List Bk) (v:Nat)  (dq:AV) (H :
  ((i < n) -> (0 <= i) /\
   (i.toNat < Y.length) /\
   (Sp.okW (Y.getD i.toNat default).3) /\
   ((q.length + 1) * 48 <= 1099511627776) /\
   (-9223372036854775808 <= i + 1 /\ i + 1 <= 9223372036854775807) /\
   tvEpa_at (bf) (Y) (n) (i + 1) (q ++ [{ sk:=(Y.getD i.toNat default).1,f:=false,ws:=(Y.getD i.toNat default).3,cm:=(Y.getD i.toNat default).4 }]) (v + 1) (PureQ dq)) /\
  (¬(i < n) -> Weak (tu [AV.vec false 3 (List.map Bk.a q),vi 0]) dq)) :
 tvEpa_at bf Y n i q v (PureQ dq):=by
 unfold tvEpa_at
 rcases xm (i < n) with d2 | d2
 ·have H:=H.1 d2
  obtain ⟨k4,H⟩:=H
  have w5:(List.map Bk.a Y).length = Y.length:=List.length_map ..
  have i6:(decide (i.toNat < (List.map Bk.a Y).length)) = true ↔ (i.toNat < Y.length):=(by (try rw [w5]);all_goals exact i_dec)
  obtain ⟨k7,H⟩:=H
  obtain ⟨k8,H⟩:=H
  have w9:(List.map Bk.a q).length = q.length:=List.length_map ..
  have i10:(decide (((List.map Bk.a q).length + 1) * 48 <= 1099511627776)) = true ↔ ((q.length + 1) * 48 <= 1099511627776):=(by (try rw [w9]);all_goals exact i_dec)
  obtain ⟨k11,H⟩:=H
  have w12:List.map Bk.a q ++ [ag [vb (Y.getD i.toNat default).1,AV.vec false 2 (List.map Wo.a (Y.getD i.toNat default).3),AV.str (Y.getD i.toNat default).4]] = List.map Bk.a (q ++ [{ sk:=(Y.getD i.toNat default).1,f:=false,ws:=(Y.getD i.toNat default).3,cm:=(Y.getD i.toNat default).4 }]):=(lm_app rfl rfl)
  obtain ⟨k13,H⟩:=H
  have w14:wi (i + 1) = i + 1:=wI64 k13
  exact path_wp (G:=given kp16 [(7,1,.elem (ag [vb (Y.getD i.toNat default).1,AV.vec (Y.getD i.toNat default).2 2 (List.map Wo.a (Y.getD i.toNat default).3),AV.str (Y.getD i.toNat default).4])),(8,2,.call (AV.vec false 2 (List.map Wo.a (Y.getD i.toNat default).3)) none)] []) 1000 [true] ⟨(atC (cd Try.f16) [1,1,1,1,0,1,0,0]),[(7,AV.row 0 (v + 1)),(22,AV.vec bf 3 (List.map Bk.a Y)),(23,vi n),(24,vi (wi (i + 1)))],[⟨List.map Bk.a q ++ [ag [vb (Y.getD i.toNat default).1,AV.vec false 2 (List.map Wo.a (Y.getD i.toNat default).3),AV.str (Y.getD i.toNat default).4]],3,v + 1,false,true⟩,⟨[ag [vb (Y.getD i.toNat default).1,AV.vec false 2 (List.map Wo.a (Y.getD i.toNat default).3),AV.str (Y.getD i.toNat default).4]],3,0,false,false⟩],[(decide (i < n)) == true,decide (0 <= i),decide (i.toNat < (List.map Bk.a Y).length),true,true,true,true,v == v,decide (((List.map Bk.a q).length + 1) * 48 <= 1099511627776)],[((List.map Bk.a Y).get?Internal i.toNat = some (ag [vb (Y.getD i.toNat default).1,AV.vec (Y.getD i.toNat default).2 2 (List.map Wo.a (Y.getD i.toNat default).3),AV.str (Y.getD i.toNat default).4]))],_⟩ (by kernel_rfl) (bc (beq_t (i_dec.2 d2)) (bc (i_dec.2 k4) (bc (i6.2 k7) (bc rfl (bc rfl (bc rfl (bc rfl (bc (beq_self_eq_true _) (bc (i10.2 k11) b0))))))))) (qc (el_map k7) q0) (ce (@ev47 ((Y.getD i.toNat default).2) ((Y.getD i.toNat default).3) k8) c0) (by (try rw [w12]);(try rw [w14]);all_goals exact wp_narrow [0] (by kernel_rfl) H)
 ·have H:=H.2 d2
  exact path_ret (G:=given kp16 [] []) 1000 [false] (k:=((atC (cd Try.f16) [1,1,1,1,1,1])).tail) (env':=[(2,AV.row 0 v),(3,vi 0)]) (L':=[⟨List.map Bk.a q,3,v,false,true⟩]) (asm:=[(decide (i < n)) == false]) (eqs:=[]) (calls:=[]) (tu [AV.row 0 v,vi 0]) (by kernel_rfl) (by kernel_rfl) (allB_cons (beq_f (fun h => d2 (i_dec.1 h))) allB_nil) allP_nil allC_nil (pq_weak (d:=(tu [AV.vec false 3 (List.map Bk.a q),vi 0])) (bs:=[v == v]) (by kernel_rfl) (by kernel_rfl) (allB_cons (beq_self_eq_true _) allB_nil) (by kernel_rfl) H)
end Go.Av

namespace Go.Av
open Go.Proofs
namespace Sp
def cl (b:Bk):Bk:=⟨b.sk,false,b.ws,b.cm⟩
def exq (l:List Bk) (s:List Sb):List Bk × Int:=if (siz l s).2 = 0 then ((XM l s).map cl,0) else ([],(siz l s).2)
end Sp
theorem rep_mem {t:Nat} {Y:List Bk} {b:Bk} (h:b ∈ Sp.rep t Y):b ∈ Y:=by
 unfold Sp.rep at h
 obtain ⟨l,h1,h2⟩:=List.mem_flatten.1 h
 rw [List.eq_of_mem_replicate h1] at h2;exact h2
theorem xpd_mem {E:Int -> List Bk} {l:List Bk} {b:Bk} (h:b ∈ Sp.xpd E l):(b ∈ l /\ Sp.cIs b.ws = false) \/ ∃ m,b ∈ E m:=by
 unfold Sp.xpd at h
 obtain ⟨x,h1,h2⟩:=List.mem_flatMap.1 h
 split at h2
 ·exact .inr ⟨_,rep_mem h2⟩
 ·rename_i k
  rw [List.mem_singleton] at h2;subst h2
  exact .inl ⟨h1,Bool.eq_false_iff.2 k⟩
theorem X_mem {S:Int -> List Bk} {b:Bk}:∀ {k:Nat} {n:Int},b ∈ Sp.X S k n -> Sp.cIs b.ws = false /\ ∃ m,b ∈ S m
 | 0,n,h => by cases h
 | k + 1,n,h => by
  rw [Sp.X] at h
  rcases xpd_mem h with ⟨h1,h2⟩ | ⟨m,h1⟩
  ·exact ⟨h2,n,h1⟩
  ·exact X_mem h1
theorem bod_mem {b:Bk} {m:Int}:∀ {s:List Sb} {a:List Bk},b ∈ s.foldl (Sp.bodS m) a -> b ∈ a \/ ∃ x ∈ s,b ∈ x.bl
 | [],_,h => .inl h
 | x :: s,a,h => by
  rcases bod_mem (s:=s) (a:=Sp.bodS m a x) h with h | ⟨y,h1,h2⟩
  ·unfold Sp.bodS at h
   split at h
   ·exact .inr ⟨x,by simp,h⟩
   ·exact .inl h
  ·exact .inr ⟨y,List.mem_cons_of_mem _ h1,h2⟩
theorem XM_mem {l:List Bk} {s:List Sb} {b:Bk} (h:b ∈ Sp.XM l s):Sp.cIs b.ws = false /\ b ∈ Sp.blks l s:=by
 unfold Sp.blks
 rw [List.mem_append,List.mem_flatMap]
 rcases xpd_mem h with ⟨h1,h2⟩ | ⟨m,h1⟩
 ·exact ⟨h2,.inl h1⟩
 ·obtain ⟨h2,n,h3⟩:=X_mem h1
  refine ⟨h2,.inr ?_⟩
  rcases bod_mem h3 with h3 | ⟨x,h3,h4⟩
  ·cases h3
  ·exact ⟨x,h3,h4⟩
theorem tvEpa_loop {bf:Bool} {Y:List Bk} {dq:AV} (hY:∀ b ∈ Y,Sp.okW b.ws) (hl:Y.length <= 1000000) (hq:.tup [bsA false (Y.map Sp.cl),.int .i64 0] = dq):∀ (c i:Nat) (q:List Bk) (v:Nat),i + c = Y.length -> q = (Y.take i).map Sp.cl -> tvEpa_at bf Y Y.length i q v (PureQ dq):=by
 intro c
 induction c with
 | zero =>
  intro i q v hi he
  rw [List.take_of_length_le (by omega)] at he
  refine tvEpa _ _ _ _ _ _ _ ⟨fun h => by omega,fun _ => ?_⟩
  rw [he,<- hq];exact .refl _
 | succ c ih =>
  intro i q v hi he
  have hw:=hY _ (getD_mem (show i < Y.length by omega))
  have hql:q.length = i:=by rw [he,List.length_map,List.length_take];omega
  refine tvEpa _ _ _ _ _ _ _ ⟨fun _ => ?_,fun h => by omega⟩
  rw [Int.toNat_natCast]
  refine ⟨by omega,by omega,hw,by omega,by omega,ih (i + 1) _ _ (by omega) ?_⟩
  rw [List.take_succ_eq_append_getElem (show i < Y.length by omega),List.map_append,<- he,List.getD_eq_getElem?_getD,List.getElem?_eq_getElem (show i < Y.length by omega)];rfl
theorem ev16 (g:Bool) (l:List Bk) (h:Bool) (s:List Sb) (hok:Sp.okN l s):Ev M1 (.pure 16 [.agg [bsA g l,.vec h 2 (s.map Sb.a)]]) (.tup [.vec false 3 ((Sp.exq l s).1.map Bk.a),.int .i64 (Sp.exq l s).2]) []:=by
 by_cases he:(Sp.siz l s).2 = 0
 ·obtain ⟨st,dp,sz,e⟩:=chkd_ok (g:=g) (h:=h) hok he
  obtain ⟨hlen1,hlen⟩:=siz_len he
  obtain ⟨h0,_⟩:=siz_ok he
  obtain ⟨a1,a2,a3,a4⟩:=xe_ok h0
  have hm:=sub_all hok.2.2.1 hok.2.1 (prpB_rep a1) a3
  obtain ⟨bf,dn1,b1,_⟩:=expand_ev (st:=st) (dp:=dp) (sz:=sz) (N:=s.length) hm s.length g l (Nat.le_refl _) hok.1 (main_V h0) (show (Sp.XM l s).length <= 1000000 by omega) [] (dinv0 _)
  have hx:Sp.exq l s = ((Sp.XM l s).map Sp.cl,0):=by unfold Sp.exq;rw [if_pos he]
  rw [hx]
  have hY:∀ b ∈ Sp.XM l s,Sp.okW b.ws:=fun b hb => hok.2.2.2.2 b (XM_mem hb).2
  refine call16 (tvEpT _ _ _ _ _ st dp sz (Sp.siz l s).1 bf (Sp.XM l s) dn1 _ ⟨e,b1,?_⟩)
  cases hXM:Sp.XM l s with
  | nil => exact tvEpz _ _ _ _ _ ⟨fun h => by simp at h,fun _ => weak_tup2' (.vnil 3)⟩
  | cons y Y =>
   rw [<- hXM]
   have h0:0 < (Sp.XM l s).length:=by rw [hXM];simp
   have hw:=hY _ (getD_mem h0)
   refine tvEpz _ _ _ _ _ ⟨fun _ => ⟨by omega,h0,hw,by omega,?_⟩,fun z => by omega⟩
   refine tvEpa_loop hY (by omega) rfl ((Sp.XM l s).length - 1) 1 _ 0 (by omega) ?_
   rw [hXM];rfl
 ·have hx:Sp.exq l s = ([],(Sp.siz l s).2):=by unfold Sp.exq;rw [if_neg he]
  rw [hx]
  exact call16 (tvEpE _ _ _ _ _ _ _ ⟨chkd_err hok fun e => he (by rw [e]),fun _ => weak_tup2' (.vnil 3),fun y => (y he).elim⟩)
end Go.Av

namespace Go.Av
open Go.Proofs
set_option maxRecDepth 100000
def fi6:Fi:=⟨78,[.tmp 6]⟩
def kp6:List (Nat × List Nat):=[(0,[0,1,2]),(1,[0,1,2,20]),(2,[6]),(3,[0,1,2,7]),(4,[0,1,2,8,9]),(5,[0,1,2,40]),(6,[6]),(7,[0,10,11]),(8,[0,10,11,12,13]),(9,[6])]
def tvLf_at (g:Bool) (l:List Bk) (a b:Int) (Q:AV -> Heap -> Prop):Prop:=Wp M1 (.run fi6 (atC (cd Try.f6) []) [(0,.vec g 3 (l.map Bk.a)),(1,.int .u8 a),(2,.int .u8 b)] []) Q
theorem call6 {args:List AV} {d:AV} (h:wc M1 fi6 Try.f6 args d):Ev M1 (.pure 6 args) d []:=pcl _ _ (by kernel_rfl) h
noncomputable abbrev zTpP1 (l:List Bk) (a:Int) (b:Int):=Sp.exq (Sp.fdM l (1 + a) (1 + b.tmod 8)) (Sp.fdS l (1 + a) (1 + b.tmod 8))
theorem tvLf (g:Bool) (l:List Bk) (a b:Int)  (dq:AV) (H :
  (Sp.mO 40) /\
  ((¬(Sp.vals l 40 = true)) -> vb true = dq) /\
  (¬(¬(Sp.vals l 40 = true)) -> ∃ (n1:Int) (n2:Int),
   (Ev M1 (Conf.pure 26 [ag [AV.vec g 3 (List.map Bk.a l),AV.vnil]]) (tu [vi n1,vi n2]) []) /\
   ((¬((¬n2 = 0) \/ (¬n1 = (↑l.length:Int)))) -> (Sp.okBs l)) /\
   ((((¬n2 = 0) \/ (¬n1 = (↑l.length:Int))) \/ (Sp.anyP Sp.pCall l = true)) -> vb true = dq) /\
   (¬(((¬n2 = 0) \/ (¬n1 = (↑l.length:Int))) \/ (Sp.anyP Sp.pCall l = true)) -> (Sp.few6 l.length) /\
    (-9223372036854775808 <= a /\ a <= 9223372036854775807) /\
    (-9223372036854775808 <= 1 + a /\ 1 + a <= 9223372036854775807) /\
    (-9223372036854775808 <= b.tmod 8 /\ b.tmod 8 <= 9223372036854775807) /\
    (-9223372036854775808 <= 1 + b.tmod 8 /\ 1 + b.tmod 8 <= 9223372036854775807) /\
    (Sp.okBs l) /\
    (Sp.okN (Sp.fdM l (1 + a) (1 + b.tmod 8)) (Sp.fdS l (1 + a) (1 + b.tmod 8))) /\
    (((Sp.fdE (1 + a) (1 + b.tmod 8) = 0) /\ ((Sp.exq (Sp.fdM l (1 + a) (1 + b.tmod 8)) (Sp.fdS l (1 + a) (1 + b.tmod 8))).snd = 0)) -> (Sp.okBs (Sp.exq (Sp.fdM l (1 + a) (1 + b.tmod 8)) (Sp.fdS l (1 + a) (1 + b.tmod 8))).1)) /\
    vb (bif bif bif Sp.fdE (1 + a) (1 + b.tmod 8) == 0 then (Sp.exq (Sp.fdM l (1 + a) (1 + b.tmod 8)) (Sp.fdS l (1 + a) (1 + b.tmod 8))).snd == 0 else false then Sp.sameL (Sp.exq (Sp.fdM l (1 + a) (1 + b.tmod 8)) (Sp.fdS l (1 + a) (1 + b.tmod 8))).1 l else false then decide ((↑(Sp.fdM l (1 + a) (1 + b.tmod 8)).length:Int) <= (↑l.length:Int)) else false) = dq))) :
 tvLf_at g l a b (PureQ dq):=by
 unfold tvLf_at
 obtain ⟨k1,H⟩:=H
 refine path_wp (G:=given kp6 [(1,0,.call (vb true) none),(1,4,.call (vb (Sp.vals l 40)) none)] []) 5 [] ⟨(atC (cd Try.f6) [1,0,1]),[(0,AV.vec g 3 (List.map Bk.a l)),(1,AV.int IntKind.u8 a),(2,AV.int IntKind.u8 b),(20,vb !Sp.vals l 40)],[],_,[],_⟩ (by kernel_rfl) b0 q0 (ce (@ev11 ) (ce (@ev12 (g) (l) (40) k1) c0)) ?_
 rcases xm (¬(Sp.vals l 40 = true)) with d3 | d3
 ·have H:=H.1 d3
  exact path_re (G:=given kp6 [(2,0,.call (vb true) none)] []) 1000 [true] (asm:=[(!Sp.vals l 40) == true]) (vb true) (by kernel_rfl) (bc (beq_t ((i_not (i_var _)).2 d3)) b0) q0 (ce (@ev11 ) c0) H
 ·have H:=H.2 d3
  obtain ⟨n1,n2,H⟩:=H
  obtain ⟨k4,H⟩:=H
  have w5:(List.map Bk.a l).length = l.length:=List.length_map ..
  have i6:((bif n2 != 0 then true else n1 != (↑(List.map Bk.a l).length:Int)) == false && true && true) = true ↔ (¬((¬n2 = 0) \/ (¬n1 = (↑l.length:Int)))):=(by (try rw [w5]);all_goals exact (i_at (i_at (i_bf (i_bor i_ne i_ne)))))
  obtain ⟨k7,H⟩:=H
  have i8:(bif bif n2 != 0 then true else n1 != (↑(List.map Bk.a l).length:Int) then true else Sp.anyP Sp.pCall l) = true ↔ (((¬n2 = 0) \/ (¬n1 = (↑l.length:Int))) \/ (Sp.anyP Sp.pCall l = true)):=(by (try rw [w5]);all_goals exact (i_bor (i_bor i_ne i_ne) (i_var _)))
  refine path_wp (G:=given kp6 [(4,1,.call (tu [vi n1,vi n2]) none),(5,10,.call (vb (Sp.anyP Sp.pCall l)) none)] []) 9 [false] ⟨(atC (cd Try.f6) [1,1,1,0,1,1]),[(0,AV.vec g 3 (List.map Bk.a l)),(1,AV.int IntKind.u8 a),(2,AV.int IntKind.u8 b),(40,vb (bif bif n2 != 0 then true else n1 != (↑(List.map Bk.a l).length:Int) then true else Sp.anyP Sp.pCall l))],[⟨[ag [AV.vec g 3 (List.map Bk.a l),AV.vnil]],2,0,false,false⟩],[(!Sp.vals l 40) == false,true,true],[],[⟨true,false,26,[ag [AV.vec g 3 (List.map Bk.a l),AV.vnil]],[],tu [vi n1,vi n2],[]⟩,⟨(bif n2 != 0 then true else n1 != (↑(List.map Bk.a l).length:Int)) == false && true && true,false,27,[AV.vec g 3 (List.map Bk.a l),AV.func (Fn.func 28) [] []],[],vb (Sp.anyP Sp.pCall l),[]⟩]⟩ (by kernel_rfl) (bc (beq_f (fun h => d3 ((i_not (i_var _)).1 h))) (bc rfl (bc rfl b0))) q0 (cc (fun _ => k4) (cc (fun hc => ((@ev27_b (g) (l) (k7 (i6.1 hc))):Ev M1 (Conf.pure 27 [AV.vec g 3 (List.map Bk.a l),AV.func (Fn.func 28) [] []]) (vb (Sp.anyP Sp.pCall l)) [])) c0)) ?_
  rcases xm (((¬n2 = 0) \/ (¬n1 = (↑l.length:Int))) \/ (Sp.anyP Sp.pCall l = true)) with d9 | d9
  ·have H:=H.1 d9
   exact path_re (G:=given kp6 [] []) 1000 [true] (vb true) (by kernel_rfl) (bc (beq_t (i8.2 d9)) b0) q0 c0 H
  ·have H:=H.2 d9
   obtain ⟨k10,H⟩:=H
   obtain ⟨k11,H⟩:=H
   have w12:wi a = a:=wI64 k11
   obtain ⟨k13,H⟩:=H
   have w14:wi (1 + a) = 1 + a:=wI64 k13
   obtain ⟨k15,H⟩:=H
   have w16:wi (b.tmod 8) = b.tmod 8:=wI64 k15
   obtain ⟨k17,H⟩:=H
   have w18:wi (1 + b.tmod 8) = 1 + b.tmod 8:=wI64 k17
   obtain ⟨k19,H⟩:=H
   obtain ⟨k20,H⟩:=H
   obtain ⟨k22,H⟩:=H
   have w23:(List.map Bk.a (Sp.fdM l (1 + a) (1 + b.tmod 8))).length = (Sp.fdM l (1 + a) (1 + b.tmod 8)).length:=List.length_map ..
   exact path_re (G:=given kp6 [(7,1,.call (AV.vec false 3 (List.map Bk.a l)) none),(7,9,.call (tu [ag [AV.vec false 3 (List.map Bk.a (Sp.fdM l (1 + a) (1 + b.tmod 8))),AV.vec false 2 (List.map Sb.a (Sp.fdS l (1 + a) (1 + b.tmod 8)))],vi (Sp.fdE (1 + a) (1 + b.tmod 8))]) none),(8,1,.call (tu [AV.vec false 3 (List.map Bk.a (zTpP1 l a b).1),vi (zTpP1 l a b).snd]) none),(9,9,.call (vb (Sp.sameL (zTpP1 l a b).1 l)) none)] []) 1000 [false] (asm:=[(bif bif n2 != 0 then true else n1 != (↑(List.map Bk.a l).length:Int) then true else Sp.anyP Sp.pCall l) == false,true,true,true,!((bif bif Sp.fdE (1 + a) (1 + b.tmod 8) == 0 then (zTpP1 l a b).snd == 0 else false then Sp.sameL (zTpP1 l a b).1 l else false) == true && true) || true]) (calls:=[⟨true,false,22,[AV.vec g 3 (List.map Bk.a l)],[],AV.vec false 3 (List.map Bk.a l),[]⟩,⟨true,false,21,[AV.vec false 3 (List.map Bk.a l),vi (wi (1 + wi a)),vi (wi (1 + wi (b.tmod 8)))],[],tu [ag [AV.vec false 3 (List.map Bk.a (Sp.fdM l (1 + a) (1 + b.tmod 8))),AV.vec false 2 (List.map Sb.a (Sp.fdS l (1 + a) (1 + b.tmod 8)))],vi (Sp.fdE (1 + a) (1 + b.tmod 8))],[]⟩,⟨true,false,16,[ag [AV.vec false 3 (List.map Bk.a (Sp.fdM l (1 + a) (1 + b.tmod 8))),AV.vec false 2 (List.map Sb.a (Sp.fdS l (1 + a) (1 + b.tmod 8)))]],[],tu [AV.vec false 3 (List.map Bk.a (zTpP1 l a b).1),vi (zTpP1 l a b).snd],[]⟩,⟨(bif Sp.fdE (1 + a) (1 + b.tmod 8) == 0 then (zTpP1 l a b).snd == 0 else false) == true && true && true,false,18,[AV.vec false 3 (List.map Bk.a (zTpP1 l a b).1),AV.vec g 3 (List.map Bk.a l)],[],vb (Sp.sameL (zTpP1 l a b).1 l),[]⟩]) (vb (bif bif bif Sp.fdE (1 + a) (1 + b.tmod 8) == 0 then (zTpP1 l a b).snd == 0 else false then Sp.sameL (zTpP1 l a b).1 l else false then decide ((↑(List.map Bk.a (Sp.fdM l (1 + a) (1 + b.tmod 8))).length:Int) <= (↑(List.map Bk.a l).length:Int)) else false)) (by kernel_rfl) (bc (beq_f (fun h => d9 (i8.1 h))) (bc rfl (bc rfl (bc rfl (bc (Bool.or_true _) b0))))) q0 (cc (fun _ => (@ev22 (g) (l) k10)) (cc (fun _ => (by (try rw [w12]);(try rw [w14]);(try rw [w16]);(try rw [w18]);all_goals exact (@ev21 (false) (l) (1 + a) (1 + b.tmod 8) k19))) (cc (fun _ => (@ev16 (false) (Sp.fdM l (1 + a) (1 + b.tmod 8)) (false) (Sp.fdS l (1 + a) (1 + b.tmod 8)) k20)) (cc (fun hc => ((@ev18 (false) (g) ((zTpP1 l a b).1) (l) (k22 ((i_at (i_at (i_bt (i_band i_eq i_eq)))).1 hc))):Ev M1 (Conf.pure 18 [AV.vec false 3 (List.map Bk.a (zTpP1 l a b).1),AV.vec g 3 (List.map Bk.a l)]) (vb (Sp.sameL (zTpP1 l a b).1 l)) [])) c0)))) (by (try rw [w5]);(try rw [w23]);all_goals exact H)
end Go.Av

namespace Go.Av
open Go.Proofs
theorem ordB_snoc {Z:List Bk} {e:Bk} {s:List Sb}:Sp.ordB (Z ++ [e]) s = true ↔ (Sp.endB e.ws = true /\ Sp.letB e.ws 79 = false /\ Sp.backB e.ws = false) /\ (∀ b ∈ Z,Sp.mkB b.ws = false) /\ ∀ x ∈ s,Sp.sMk x = false:=by
 have h1:Sp.lastB (Z ++ [e]) = e:=by
  unfold Sp.lastB
  rw [List.length_append,List.length_singleton,Nat.add_sub_cancel,List.getD_eq_getElem?_getD,List.getElem?_append_right (by omega),Nat.sub_self];rfl
 have h2:(Z ++ [e]).take ((Z ++ [e]).length - 1) = Z:=by
  rw [List.length_append,List.length_singleton,Nat.add_sub_cancel,List.take_left'];rfl
 unfold Sp.ordB
 rw [h1,h2,decide_eq_true (show 0 < (Z ++ [e]).length by simp),Bool.true_and]
 simp only [Bool.and_eq_true,Bool.not_eq_true',Sp.anyP,List.any_eq_false]
 constructor
 ·rintro ⟨a,b,c,d,f⟩
  exact ⟨⟨a,b,c⟩,fun x hx => Bool.eq_false_iff.2 (d x hx),fun x hx => Bool.eq_false_iff.2 (f x hx)⟩
 ·rintro ⟨⟨a,b,c⟩,d,f⟩
  exact ⟨a,b,c,fun x hx => by have:=d x hx;unfold Sp.pMk;rw [this];simp,fun x hx => by rw [f x hx];simp⟩
theorem ordB_pos {l:List Bk} {s:List Sb} (h:Sp.ordB l s = true):∃ Z e,l = Z ++ [e]:=by
 have h0:0 < l.length:=by
  refine Classical.byContradiction fun z => ?_
  unfold Sp.ordB at h
  rw [decide_eq_false z,Bool.false_and] at h;cases h
 refine ⟨l.take (l.length - 1),l[l.length - 1],?_⟩
 have:=List.take_succ_eq_append_getElem (show l.length - 1 < l.length by omega)
 rw [show l.length - 1 + 1 = l.length by omega,List.take_length] at this
 exact this
theorem sum_len {l:List Bk} {s:List Sb} (h0:Sp.xe l s = 0):(Sp.sumE (Sp.VN s) l).2 = Sp.cap (Sp.XM l s).length:=by
 unfold Sp.sumE Sp.XM
 rw [sumP_len (E:=Sp.XN s) l 0 0 0 (fun x hx y => by
  obtain ⟨w,hw⟩:=Option.isSome_iff_exists.1 (main_V h0 x hx y).2
  rw [hw,Option.getD_some]
  exact V_len _ _ _ hw) (by omega) rfl,Int.zero_add]
theorem sum_dep {l:List Bk} {s:List Sb} (h0:Sp.xe l s = 0):(Sp.sumE (Sp.VN s) l).1 <= s.length + 1:=by
 unfold Sp.sumE
 exact (sumP_rng (t:=s.length) l 0 0 (fun x hx y => by
  obtain ⟨w,hw⟩:=Option.isSome_iff_exists.1 (main_V h0 x hx y).2
  rw [hw,Option.getD_some]
  exact V_rng _ _ _ hw) (by omega) (by omega) (by omega) (by omega)).1.2
theorem siz_of {l:List Bk} {s:List Sb} (h0:Sp.xe l s = 0) (hd:(Sp.sumE (Sp.VN s) l).1 <= 8) (hl:(Sp.XM l s).length <= 20000):Sp.siz l s = (((Sp.XM l s).length:Int),0):=by
 have e:=sum_len h0
 have ec:Sp.cap ((Sp.XM l s).length:Int) = (Sp.XM l s).length:=by unfold Sp.cap;rw [if_pos (by omega)]
 rw [ec] at e
 unfold Sp.siz
 rw [if_neg (by simp [h0]),if_neg (by omega),e]
theorem xe_of {l:List Bk} {s:List Sb} (h1:Sp.prpB l s = true) (h2:∀ b ∈ Sp.blks l s,Sp.cE b.ws = 0) (h3:∀ b ∈ Sp.blks l s,Sp.cIs b.ws = true -> 0 <= Sp.fnd s (Sp.cN b.ws)) (h4:∀ x ∈ s,(Sp.V (Sp.bod s) s.length x.n).isSome = true):Sp.xe l s = 0:=by
 unfold Sp.xe
 rw [if_neg (by simp [h1]),if_neg,if_neg,if_pos (List.all_eq_true.2 h4)]
 ·rw [Bool.not_eq_true,List.any_eq_false]
  intro b hb
  unfold Sp.lostB
  rw [Bool.and_eq_true,decide_eq_true_eq]
  rintro ⟨k1,k2⟩
  have:=h3 b hb k1;omega
 ·rw [Bool.not_eq_true,List.any_eq_false]
  intro b hb
  unfold Sp.badB
  rw [h2 b hb];simp
theorem xpd_nocall {E:Int -> List Bk}:∀ {l:List Bk},(∀ b ∈ l,Sp.cIs b.ws = false) -> Sp.xpd E l = l
 | [],_ => rfl
 | x :: l,h => by
  rw [xpd_cons,if_neg (by rw [h x (by simp)];simp),xpd_nocall fun b hb => h b (List.mem_cons_of_mem _ hb)];rfl
end Go.Av

namespace Go.Av
open Go.Proofs
theorem callB_at {m:Int} (h:1 <= m /\ m <= 9999):Sp.cIs (Sp.callB m).ws = true /\ Sp.cN (Sp.callB m).ws = m /\ Sp.cT (Sp.callB m).ws = 1 /\ Sp.cE (Sp.callB m).ws = 0 /\ Sp.mkB (Sp.callB m).ws = false:=by
 have c1:Sp.codes (Sp.callB m).ws 77 = [98000]:=rfl
 have c2:Sp.codes (Sp.callB m).ws 80 = [1000 * m]:=rfl
 have c3:Sp.codes (Sp.callB m).ws 76 = []:=rfl
 have c4:Sp.codes (Sp.callB m).ws 78 = []:=rfl
 have c5:Sp.codes (Sp.callB m).ws 79 = []:=rfl
 have w1:Sp.whV (1000 * m) = m:=Int.mul_tdiv_cancel_left m (by omega)
 have w2:Sp.whB (1000 * m) = true:=by
  unfold Sp.whB
  exact decide_eq_true ⟨Int.mul_tmod_right 1000 m,by rw [show (1000 * m).tdiv 1000 = m from w1];omega⟩
 have ok:Sp.okC (Sp.callB m).ws = true:=by
  unfold Sp.okC Sp.cnt
  rw [c1,c2,c3,c4]
  have e1:Sp.okL ⟨77,98000⟩ = true:=rfl
  have e2:Sp.okL ⟨80,1000 * m⟩ = true:=by unfold Sp.okL;rw [if_pos (.inl rfl)];exact w2
  show ([⟨77,98000⟩,⟨80,1000 * m⟩].all Sp.okL && _) = true
  rw [List.all_cons,List.all_cons,e1,e2]
  rfl
 have hw:Sp.hasW (Sp.callB m).ws 77 98000 = true:=by unfold Sp.hasW;rw [c1];rfl
 have is:Sp.cIs (Sp.callB m).ws = true:=by unfold Sp.cIs;rw [hw,ok];rfl
 refine ⟨is,?_,?_,?_,?_⟩
 ·unfold Sp.cN Sp.lp;rw [if_pos is,c2];exact w1
 ·unfold Sp.cT Sp.lt;rw [if_pos is,c3];rfl
 ·unfold Sp.cE;rw [hw,ok];rfl
 ·unfold Sp.mkB Sp.letB Sp.endB Sp.backB Sp.hasW;rw [c1,c5];rfl
theorem hasRun_at {l:List Bk} {n i:Nat}:∀ {c k:Nat},Sp.hasRun l n i c k = true -> ∃ k',Sp.runB l i k' n = true
 | 0,_,h => by cases h
 | c + 1,k,h => by
  rw [Sp.hasRun,Bool.or_eq_true] at h
  rcases h with h | h
  ·exact ⟨k,h⟩
  ·exact hasRun_at h
theorem findF_at {l:List Bk} {n:Nat}:∀ {c i:Nat},¬Sp.findF l n c i < 0 -> ∃ k',Sp.runB l (Sp.findF l n c i) k' n = true
 | 0,_,h => by exact (h (by show (-1:Int) < 0;omega)).elim
 | c + 1,i,h => by
  rw [Sp.findF] at h ⊢
  split
  ·rename_i k
   exact hasRun_at k
  ·rename_i k
   rw [if_neg k] at h
   exact findF_at h
theorem runB_at {l:List Bk} {a:Int} {k:Int} {n:Nat} (h:Sp.runB l a k n = true) {j:Nat} (hj:j < n):Sp.foldB (l.getD (a.toNat + j) default).ws = true /\ (l.getD (a.toNat + j) default).key = (l.getD (k.toNat + j) default).key:=by
 unfold Sp.runB at h
 rw [Int.toNat_natCast,all_range] at h
 have:=h j hj
 unfold Sp.rn at this
 rw [Bool.and_eq_true] at this
 exact ⟨this.1,same_iff.1 this.2⟩
theorem key_ws {b c:Bk} (h:b.key = c.key):b.ws = c.ws:=by
 unfold Bk.key at h
 simp only [Prod.mk.injEq] at h
 first | exact h.1 | exact h.2.1 | exact h.2.2
theorem fold_mk {ws:List Wo} (h:Sp.foldB ws = true):Sp.mkB ws = false:=by
 unfold Sp.foldB at h
 simp only [Bool.and_eq_true,Bool.not_eq_true'] at h
 exact h.1
def Sp.pc (l:List Bk) (i n:Nat):List Bk:=(l.take (i + n)).drop i
theorem pc_get {l:List Bk} {i n j:Nat} (h:i + n <= l.length) (hj:j < n):(Sp.pc l i n)[j]? = some (l.getD (i + j) default):=by
 unfold Sp.pc
 rw [List.getElem?_drop,List.getElem?_take_of_lt (by omega),List.getD_eq_getElem?_getD,List.getElem?_eq_getElem (show i + j < l.length by omega)];rfl
theorem pc_len {l:List Bk} {i n:Nat} (h:i + n <= l.length):(Sp.pc l i n).length = n:=by
 unfold Sp.pc;rw [List.length_drop,List.length_take];omega
theorem pc_mem {l:List Bk} {i n:Nat} (h:i + n <= l.length) {b:Bk} (hb:b ∈ Sp.pc l i n):∃ j,j < n /\ b = l.getD (i + j) default:=by
 obtain ⟨j,hj⟩:=List.getElem?_of_mem hb
 have hl:=(List.getElem?_eq_some_iff.1 hj).1
 rw [pc_len h] at hl
 rw [pc_get h hl] at hj
 exact ⟨j,hl,(Option.some.inj hj).symm⟩
theorem pc_keys {l:List Bk} {a i n:Nat} (h1:a + n <= l.length) (h2:i + n <= l.length) (h:∀ j,j < n -> (l.getD (a + j) default).key = (l.getD (i + j) default).key):(Sp.pc l a n).map Bk.key = (Sp.pc l i n).map Bk.key:=by
 apply List.ext_getElem?
 intro j
 by_cases hj:j < n
 ·rw [List.getElem?_map,List.getElem?_map,pc_get h1 hj,pc_get h2 hj,Option.map_some,Option.map_some,h j hj]
 ·rw [List.getElem?_eq_none (by rw [List.length_map,pc_len h1];omega),List.getElem?_eq_none (by rw [List.length_map,pc_len h2];omega)]
theorem pc_drop {l:List Bk} {i n:Nat} (h:i + n <= l.length):l.drop i = Sp.pc l i n ++ l.drop (i + n):=by
 unfold Sp.pc
 have:l = l.take (i + n) ++ l.drop (i + n):=(List.take_append_drop _ _).symm
 conv => lhs;rw [this]
 rw [List.drop_append_of_le_length (by rw [List.length_take];omega)]
theorem runR_at {l:List Bk} {a i n:Nat} (h:Sp.runR l a i n = true):i + n <= l.length /\ ∀ j,j < n -> Sp.foldB (l.getD (a + j) default).ws = true /\ (l.getD (a + j) default).key = (l.getD (i + j) default).key:=by
 unfold Sp.runR at h
 split at h
 ·cases h
 ·rename_i k
  exact ⟨by omega,fun j hj => by have:=runB_at h hj;rwa [Int.toNat_natCast,Int.toNat_natCast] at this⟩
theorem build_keys {l:List Bk} {m:Int} {n a:Nat} {E:Int -> List Bk} (hm:1 <= m /\ m <= 9999) (hn:1 <= n) (ha:a + n <= l.length) (hc:∀ b ∈ l,Sp.cIs b.ws = false) (hE:E m = Sp.pc l a n):∀ (f i:Nat),l.length <= i + f -> i <= l.length -> (Sp.xpd E (Sp.build l m n a f i)).map Bk.key = (l.drop i).map Bk.key:=by
 obtain ⟨c1,c2,c3,_⟩:=callB_at hm
 intro f
 induction f with
 | zero => intro i h1 h2;rw [List.drop_eq_nil_of_le (by omega)];rfl
 | succ f ih =>
  intro i h1 h2
  rw [Sp.build]
  by_cases hi:i < l.length
  ·rw [if_pos hi]
   by_cases hr:Sp.runR l a i n = true
   ·rw [if_pos hr]
    obtain ⟨r1,r2⟩:=runR_at hr
    rw [xpd_cons,if_pos c1,c2,c3,hE,show (1:Int).toNat = 0 + 1 from rfl,rep_succ,rep_zero,List.append_nil,List.map_append,ih (i + n) (by omega) (by omega),pc_drop r1,List.map_append]
    rw [pc_keys ha r1 fun j hj => (r2 j hj).2]
   ·rw [if_neg hr]
    have hx:l.getD i default ∈ l:=getD_mem hi
    rw [xpd_cons,if_neg (by rw [hc _ hx];simp),List.map_append,ih (i + 1) (by omega) (by omega),drop_getD hi];rfl
  ·rw [if_neg hi,List.drop_eq_nil_of_le (by omega)];rfl
theorem build_last {l:List Bk} {m:Int} {n a:Nat} (hn:1 <= n) (hlast:Sp.mkB (l.getD (l.length - 1) default).ws = true):∀ (f i:Nat),l.length <= i + f -> i < l.length -> ∃ Z,Sp.build l m n a f i = Z ++ [l.getD (l.length - 1) default] /\ (∀ b ∈ Z,b = Sp.callB m \/ ∃ j,j < l.length - 1 /\ b = l.getD j default) /\ Z.length + 1 <= l.length - i:=by
 intro f
 induction f with
 | zero => intro i h1 h2;omega
 | succ f ih =>
  intro i h1 h2
  rw [Sp.build,if_pos h2]
  by_cases hr:Sp.runR l a i n = true
  ·rw [if_pos hr]
   obtain ⟨r1,r2⟩:=runR_at hr
   have hlt:i + n < l.length:=by
    refine Classical.byContradiction fun y => ?_
    obtain ⟨q1,q2⟩:=r2 (l.length - 1 - i) (by omega)
    rw [show i + (l.length - 1 - i) = l.length - 1 by omega] at q2
    have:=fold_mk q1
    rw [key_ws q2,hlast] at this;cases this
   obtain ⟨Z,z1,z2,z3⟩:=ih (i + n) (by omega) hlt
   refine ⟨Sp.callB m :: Z,by rw [z1];rfl,fun b hb => ?_,by rw [List.length_cons];omega⟩
   rcases List.mem_cons.1 hb with rfl | hb
   ·exact .inl rfl
   ·exact z2 b hb
  ·rw [if_neg hr]
   by_cases hi:i + 1 < l.length
   ·obtain ⟨Z,z1,z2,z3⟩:=ih (i + 1) (by omega) hi
    refine ⟨l.getD i default :: Z,by rw [z1];rfl,fun b hb => ?_,by rw [List.length_cons];omega⟩
    rcases List.mem_cons.1 hb with rfl | hb
    ·exact .inr ⟨i,by omega,rfl⟩
    ·exact z2 b hb
   ·have e:i = l.length - 1:=by omega
    have e0:Sp.build l m n a f (i + 1) = []:=by
     cases f with
     | zero => rfl
     | succ f => rw [Sp.build,if_neg hi]
    rw [e0,e]
    exact ⟨[],rfl,fun b hb => (by cases hb),by simp;omega⟩
end Go.Av

namespace Go.Av
open Go.Proofs
theorem chk_at {l:List Bk} {s:List Sb} (h:(Sp.chk l s).2 = 0):Sp.prpB l s = true /\ (∀ b ∈ Sp.blks l s,Sp.cE b.ws = 0) /\ ∀ b ∈ Sp.blks l s,Sp.cIs b.ws = true -> 0 <= Sp.fnd s (Sp.cN b.ws):=by
 unfold Sp.chk at h
 split at h
 ·cases h
 rename_i a1
 split at h
 ·cases h
 rename_i a2
 split at h
 ·cases h
 rename_i a3
 rw [Bool.not_eq_true,List.any_eq_false] at a2
 refine ⟨Classical.not_not.1 a1,fun b hb => ?_,fun b hb k => found_of (Bool.eq_false_iff.2 a3) b hb k⟩
 have:=a2 b hb
 unfold Sp.badB at this
 simpa using this
theorem exq_of {l:List Bk} {s:List Sb} (h0:Sp.xe l s = 0) (hs:s.length <= 7) (hl:(Sp.XM l s).length <= 20000):Sp.exq l s = ((Sp.XM l s).map Sp.cl,0):=by
 have:=sum_dep h0
 unfold Sp.exq
 rw [siz_of h0 (by omega) hl];rfl
theorem cl_keys (l:List Bk):(l.map Sp.cl).map Bk.key = l.map Bk.key:=by rw [List.map_map];rfl
theorem okN_of {l:List Bk} {s:List Sb} (h1:Sp.okBs l) (h2:∀ x ∈ s,Sp.okBs x.bl /\ x.bl.length <= 1000) (h3:s.length <= 100) (h4:l.length <= 1000):Sp.okN l s:=
 ⟨h1,⟨by omega,fun x hx => (h2 x hx).1⟩,by omega,blks_ok ⟨h1,h3,h4,h2⟩⟩
theorem folded {l:List Bk} {m:Int} {n:Nat} (hk:Sp.okBs l) (hl:l.length <= 1000) (hm:1 <= m /\ m <= 9999) (hn:1 <= n) (h2:(Sp.chk l []).2 = 0) (hc:∀ b ∈ l,Sp.cIs b.ws = false) :
  Sp.okN (Sp.fdM l m n) (Sp.fdS l m n) /\ Sp.fdE m n = 0 /\ (Sp.exq (Sp.fdM l m n) (Sp.fdS l m n)).2 = 0 /\ Sp.okBs (Sp.exq (Sp.fdM l m n) (Sp.fdS l m n)).1 /\ Sp.sameL (Sp.exq (Sp.fdM l m n) (Sp.fdS l m n)).1 l = true /\ (Sp.fdM l m n).length <= l.length:=by
 obtain ⟨p1,p2,p3⟩:=chk_at h2
 rw [show Sp.blks l [] = l from by unfold Sp.blks;simp] at p2 p3
 have fo:Sp.fdOk m n:=by unfold Sp.fdOk;omega
 have clok:∀ {q:List Bk},Sp.okBs q -> Sp.okBs (q.map Sp.cl):=fun {q} h => ⟨by rw [List.length_map];exact h.1,fun b hb => by
  obtain ⟨c,hc,rfl⟩:=List.mem_map.1 hb
  exact h.2 c hc⟩
 by_cases hi:Sp.fdIs l n
 ·have e1:Sp.fdM l m n = Sp.build l m n (Sp.fst l n).toNat l.length 0:=by unfold Sp.fdM;rw [if_pos fo,if_pos hi,Int.toNat_natCast]
  have e2:Sp.fdS l m n = [⟨m,false,Sp.pc l (Sp.fst l n).toNat n⟩]:=by unfold Sp.fdS;rw [if_pos ⟨fo,hi⟩,Int.toNat_natCast];rfl
  have e3:Sp.fdE m n = 0:=by unfold Sp.fdE;rw [if_pos fo]
  rw [e1,e2,e3]
  obtain ⟨i1,i2⟩:=hi
  have hfin:=findF_in (l:=l) (n:=n) (l.length + 1 - 2 * n) 0
  have hfat:=findF_at (l:=l) (n:=n) (c:=l.length + 1 - 2 * n) (i:=0)
  unfold Sp.fst at i2 ⊢
  rw [Int.toNat_natCast] at i2 ⊢
  obtain ⟨k',hk'⟩:=hfat i2
  have hfin':=hfin.resolve_left (by omega)
  generalize Sp.findF l n (l.length + 1 - 2 * n) 0 = F at *
  obtain ⟨a,rfl⟩:=Int.eq_ofNat_of_zero_le (show 0 <= F by omega)
  rw [Int.toNat_natCast]
  have ha:a + n <= l.length:=by omega
  have hfold:∀ b ∈ Sp.pc l a n,Sp.foldB b.ws = true /\ b ∈ l:=fun b hb => by
   obtain ⟨j,hj,rfl⟩:=pc_mem ha hb
   have:=runB_at hk' hj
   rw [Int.toNat_natCast] at this
   exact ⟨this.1,getD_mem (by omega)⟩
  have hp:=p1
  unfold Sp.prpB at hp
  simp only [Bool.and_eq_true] at hp
  obtain ⟨Z0,e,hZe⟩:=ordB_pos hp.2.1
  have ho:=hp.2.1
  rw [hZe] at ho
  obtain ⟨⟨o1,o2,o3⟩,o4,_⟩:=ordB_snoc.1 ho
  have hle:l.length = Z0.length + 1:=by rw [hZe];simp
  have gl:l.getD (l.length - 1) default = e:=by
   rw [hle,Nat.add_sub_cancel,hZe,List.getD_eq_getElem?_getD,List.getElem?_append_right (by omega),Nat.sub_self];rfl
  have gz:∀ j,j < l.length - 1 -> l.getD j default ∈ Z0:=fun j hj => by
   rw [hle,Nat.add_sub_cancel] at hj
   rw [hZe,List.getD_eq_getElem?_getD,List.getElem?_append_left hj,List.getElem?_eq_getElem hj]
   exact List.getElem_mem hj
  have hmk:Sp.mkB (l.getD (l.length - 1) default).ws = true:=by
   rw [gl];unfold Sp.mkB;rw [o1];simp
  obtain ⟨Z,z1,z2,z3⟩:=build_last (m:=m) (a:=a) hn hmk l.length 0 (by omega) (by omega)
  obtain ⟨c1,c2,c3,c4,c5⟩:=callB_at hm
  have hbm:∀ b ∈ Sp.build l m n a l.length 0,b = Sp.callB m \/ b ∈ l:=fun b hb => by
   rw [z1] at hb
   rcases List.mem_append.1 hb with hb | hb
   ·rcases z2 b hb with h | ⟨j,hj,rfl⟩
    ·exact .inl h
    ·exact .inr (getD_mem (by omega))
   ·rw [List.mem_singleton] at hb;subst hb
    exact .inr (getD_mem (by omega))
  have hord:Sp.ordB (Sp.build l m n a l.length 0) [⟨m,false,Sp.pc l a n⟩] = true:=by
   rw [z1,gl]
   refine ordB_snoc.2 ⟨⟨o1,o2,o3⟩,fun b hb => ?_,fun x hx => ?_⟩
   ·rcases z2 b hb with rfl | ⟨j,hj,rfl⟩
    ·exact c5
    ·exact o4 _ (gz j hj)
   ·rw [List.mem_singleton] at hx;subst hx
    unfold Sp.sMk Sp.anyP
    rw [List.any_eq_false]
    intro b hb
    unfold Sp.pMk
    rw [fold_mk (hfold b hb).1];simp
  have hprp:Sp.prpB (Sp.build l m n a l.length 0) [⟨m,false,Sp.pc l a n⟩] = true:=by
   unfold Sp.prpB
   rw [hord]
   have n1:Sp.numB [⟨m,false,Sp.pc l a n⟩] = true:=by unfold Sp.numB;simp;omega
   have n2:Sp.repB [⟨m,false,Sp.pc l a n⟩] = false:=rfl
   rw [n1,n2];rfl
  have hblk:∀ b ∈ Sp.blks (Sp.build l m n a l.length 0) [⟨m,false,Sp.pc l a n⟩],b = Sp.callB m \/ b ∈ l:=fun b hb => by
   unfold Sp.blks at hb
   rw [List.flatMap_cons,List.flatMap_nil,List.append_nil] at hb
   rcases List.mem_append.1 hb with hb | hb
   ·exact hbm b hb
   ·exact .inr (hfold b hb).2
  have hbod:Sp.bod [⟨m,false,Sp.pc l a n⟩] m = Sp.pc l a n:=by unfold Sp.bod;rw [List.foldl_cons,List.foldl_nil,Sp.bodS,if_pos rfl]
  have hxe:Sp.xe (Sp.build l m n a l.length 0) [⟨m,false,Sp.pc l a n⟩] = 0:=by
   refine xe_of hprp (fun b hb => ?_) (fun b hb k => ?_) fun x hx => ?_
   ·rcases hblk b hb with rfl | h
    ·exact c4
    ·exact p2 b h
   ·rcases hblk b hb with rfl | h
    ·rw [c2];exact nums_of.2 (by simp [Sp.nums])
    ·rw [hc b h] at k;cases k
   ·rw [List.mem_singleton] at hx;subst hx
    refine V_succ.2 fun x hx k => ?_
    rw [hbod] at hx
    rw [hc x (hfold x hx).2] at k;cases k
  have hXN:Sp.XN [⟨m,false,Sp.pc l a n⟩] m = Sp.pc l a n:=by
   show Sp.xpd _ (Sp.bod [⟨m,false,Sp.pc l a n⟩] m) = _
   rw [hbod];exact xpd_nocall fun b hb => hc b (hfold b hb).2
  have hkeys:(Sp.XM (Sp.build l m n a l.length 0) [⟨m,false,Sp.pc l a n⟩]).map Bk.key = l.map Bk.key:=by
   have:=build_keys hm hn ha hc hXN l.length 0 (by omega) (by omega)
   rw [List.drop_zero] at this;exact this
  have hlen:=congrArg List.length hkeys
  rw [List.length_map,List.length_map] at hlen
  have hx:=exq_of hxe (by simp) (by omega)
  have hbl:(Sp.build l m n a l.length 0).length <= l.length:=by rw [z1,List.length_append,List.length_singleton];omega
  have hwl:∀ b,b = Sp.callB m \/ b ∈ l -> Sp.okW b.ws:=fun b hb => by
   rcases hb with rfl | hb
   ·refine ⟨by simp [Sp.callB],fun w hw => ?_⟩
    unfold Sp.okV
    simp only [Sp.callB,List.mem_cons,List.not_mem_nil,or_false] at hw
    rcases hw with rfl | rfl
    ·show -9000000000000000000 <= (98000:Int) /\ (98000:Int) <= 9000000000000000000;omega
    ·show -9000000000000000000 <= 1000 * m /\ 1000 * m <= 9000000000000000000;omega
   ·exact hk.2 b hb
  have hokb:Sp.okBs (Sp.build l m n a l.length 0):=⟨by omega,fun b hb => hwl b (hbm b hb)⟩
  refine ⟨okN_of hokb (fun x hx => ?_) (by simp) (by omega),rfl,by rw [hx],?_,?_,hbl⟩
  ·rw [List.mem_singleton] at hx;subst hx
   have:=pc_len ha
   exact ⟨⟨by show (Sp.pc l a n).length <= _;omega,fun b hb => hk.2 b (hfold b hb).2⟩,by show (Sp.pc l a n).length <= _;omega⟩
  ·rw [hx]
   exact clok ⟨by omega,fun b hb => hwl b (hblk b (XM_mem hb).2)⟩
  ·rw [hx]
   unfold Sp.sameL
   rw [cl_keys,hkeys];exact decide_eq_true rfl
 ·have e1:Sp.fdM l m n = l:=by unfold Sp.fdM;rw [if_pos fo,if_neg hi]
  have e2:Sp.fdS l m n = []:=by unfold Sp.fdS;rw [if_neg fun h => hi h.2]
  have e3:Sp.fdE m n = 0:=by unfold Sp.fdE;rw [if_pos fo]
  rw [e1,e2,e3]
  have hb:Sp.blks l [] = l:=by unfold Sp.blks;simp
  have hxe:Sp.xe l [] = 0:=xe_of p1 (by rw [hb];exact p2) (by rw [hb];exact p3) fun x hx => by cases hx
  have hXM:Sp.XM l [] = l:=xpd_nocall hc
  have hx:=exq_of hxe (by simp) (by rw [hXM];omega)
  rw [hXM] at hx
  rw [hx]
  refine ⟨okN_of hk (fun x hx => by cases hx) (by simp) hl,rfl,rfl,clok hk,?_,Nat.le_refl _⟩
  unfold Sp.sameL
  rw [cl_keys];exact decide_eq_true rfl
theorem ev6 (l:List Bk) (a b:Int) (ha:0 <= a /\ a <= 255) (hb:0 <= b /\ b <= 255):Ev M1 (.pure 6 [bsA false l,.int .u8 a,.int .u8 b]) (.bool true) []:=by
 refine call6 (tvLf false l a b _ ⟨by unfold Sp.mO;omega,fun _ => rfl,fun h => ?_⟩)
 have hv:=Classical.not_not.1 h
 have hk:=vals_okBs hv (by omega)
 have hl:=(vals_at hv).1
 have hck:=ev26 false false l [] ⟨hk,by simp,by omega,fun x hx => by cases hx⟩
 refine ⟨(Sp.chk l []).1,(Sp.chk l []).2,?_,fun _ => hk,fun _ => rfl,fun k => ?_⟩
 ·refine ev_weak hm1 hck rfl rfl fun i x y hx hy => ?_
  match i with
  | 0 => simp at hx hy;subst hx;subst hy;exact weak_agg2 (.refl _) (.vnil 2)
  | i + 1 => simp at hx
 ·have k1:(Sp.chk l []).2 = 0:=Classical.byContradiction fun y => k (.inl (.inl y))
  have k2:∀ b ∈ l,Sp.cIs b.ws = false:=fun c hc => by
   refine Bool.eq_false_iff.2 fun y => k (.inr ?_)
   unfold Sp.anyP
   exact List.any_eq_true.2 ⟨c,hc,y⟩
  have hr:=Int.tmod_nonneg 8 hb.1
  have hr2:=Int.tmod_lt_of_pos b (show (0:Int) < 8 by omega)
  obtain ⟨n,hn⟩:=Int.eq_ofNat_of_zero_le (show 0 <= 1 + b.tmod 8 by omega)
  obtain ⟨f1,f2,f3,f4,f5,f6⟩:=folded (m:=1 + a) (n:=n) hk (by omega) (by omega) (by omega) k1 k2
  rw [hn]
  refine ⟨by unfold Sp.few6;omega,by omega,by omega,by omega,by omega,hk,f1,fun _ => f4,?_⟩
  rw [f2,f3,f5,decide_eq_true (Int.ofNat_le.2 f6)];rfl
end Go.Av
