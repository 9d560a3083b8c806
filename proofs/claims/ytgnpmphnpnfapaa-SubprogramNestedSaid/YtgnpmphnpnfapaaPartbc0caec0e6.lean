/- PART 5 of the texts of a claim, joined by a program: what each part shows stands at its head. -/
import Derived.Test.YtgnpmphnpnfapaaPart06e9e49e8f

namespace Go.Av
open Go.Proofs
set_option maxRecDepth 100000
def fi46:Fi:=⟨70,[.tmp 4]⟩
def kp46:List (Nat × List Nat):=[(0,[0,1]),(1,[0,1,5]),(2,[0,5,14,15,16]),(3,[0,5,14,15,16,17]),(4,[0,5,7,14,15,16]),(5,[0,5,7,8,9,10,14,15,16]),(6,[0,5,7,8,9,14,15,16,28]),(7,[0,5,14,15,16]),(8,[0,5,8,9,12,13,14,15,16]),(9,[0,5,8,9,12,14,15,16,43]),(10,[0,5,8,9,12,14,15,16]),(11,[0,5,9,12,14,15,16]),(12,[0,5,9,12,14,15,16,60]),(13,[0,5,12,14,15,16,61,62]),(14,[0,5,12,14,15,16,61,62,63]),(15,[0,5,12,14,15,16,61,62]),(16,[0,5,12,14,15,16,61,62]),(17,[0,5,14,15,16]),(18,[4])]
def tvXp_at (sm st dp sz dn:List AV) (g:Bool) (l:List Bk) (Q:AV -> Heap -> Prop):Prop:=Wp M1 (.run fi46 (atC (cd Try.f46) []) [(0,.ptr 0 0 0 0),(1,.vec g 3 (l.map Bk.a))] [⟨[.agg [.mapr 1,.mapr 2,.mapr 3,.mapr 4,.mapr 5]],5,0,false,false⟩,⟨sm,2,0,false,true⟩,⟨st,2,0,false,true⟩,⟨dp,2,0,false,true⟩,⟨sz,2,0,false,true⟩,⟨dn,2,0,false,true⟩]) Q
def tvXaz_at (sm st dp sz dn:List AV) (g:Bool) (l:List Bk) (n i:Int) (Q:AV -> Heap -> Prop):Prop:=Wp M1 (.run fi46 (atC (cd Try.f46) [1,1,0,1,0,0]) [(0,.ptr 0 0 0 0),(5,.vnil),(14,.vec g 3 (l.map Bk.a)),(15,.int .i64 n),(16,.int .i64 i)] [⟨[.agg [.mapr 1,.mapr 2,.mapr 3,.mapr 4,.mapr 5]],5,0,false,false⟩,⟨sm,2,0,false,true⟩,⟨st,2,0,false,true⟩,⟨dp,2,0,false,true⟩,⟨sz,2,0,false,true⟩,⟨dn,2,0,false,true⟩]) Q
def tvXaa_at (sm st dp sz dn:List AV) (g:Bool) (l:List Bk) (q:List Bk) (v:Nat) (n i:Int) (Q:AV -> Heap -> Prop):Prop:=Wp M1 (.run fi46 (atC (cd Try.f46) [1,1,0,1,0,0]) [(0,.ptr 0 0 0 0),(5,.row 6 v),(14,.vec g 3 (l.map Bk.a)),(15,.int .i64 n),(16,.int .i64 i)] [⟨[.agg [.mapr 1,.mapr 2,.mapr 3,.mapr 4,.mapr 5]],5,0,false,false⟩,⟨sm,2,0,false,true⟩,⟨st,2,0,false,true⟩,⟨dp,2,0,false,true⟩,⟨sz,2,0,false,true⟩,⟨dn,2,0,false,true⟩,⟨q.map Bk.a,3,v,false,true⟩]) Q
def tvXkz_at (sm st dp sz dn:List AV) (g:Bool) (l:List Bk) (m t n i:Int) (Q:AV -> Heap -> Prop):Prop:=Wp M1 (.run fi46 (atC (cd Try.f46) [1,1,0,1,0,0,1,1,0,0,1,1,1]) [(0,.ptr 0 0 0 0),(5,.vnil),(8,.int .i64 m),(9,.int .i64 t),(14,.vec g 3 (l.map Bk.a)),(15,.int .i64 n),(16,.int .i64 i)] [⟨[.agg [.mapr 1,.mapr 2,.mapr 3,.mapr 4,.mapr 5]],5,0,false,false⟩,⟨sm,2,0,false,true⟩,⟨st,2,0,false,true⟩,⟨dp,2,0,false,true⟩,⟨sz,2,0,false,true⟩,⟨dn,2,0,false,true⟩]) Q
def tvXka_at (sm st dp sz dn:List AV) (g:Bool) (l:List Bk) (q:List Bk) (v:Nat) (m t n i:Int) (Q:AV -> Heap -> Prop):Prop:=Wp M1 (.run fi46 (atC (cd Try.f46) [1,1,0,1,0,0,1,1,0,0,1,1,1]) [(0,.ptr 0 0 0 0),(5,.row 6 v),(8,.int .i64 m),(9,.int .i64 t),(14,.vec g 3 (l.map Bk.a)),(15,.int .i64 n),(16,.int .i64 i)] [⟨[.agg [.mapr 1,.mapr 2,.mapr 3,.mapr 4,.mapr 5]],5,0,false,false⟩,⟨sm,2,0,false,true⟩,⟨st,2,0,false,true⟩,⟨dp,2,0,false,true⟩,⟨sz,2,0,false,true⟩,⟨dn,2,0,false,true⟩,⟨q.map Bk.a,3,v,false,true⟩]) Q
def tvXuz_at (sm st dp sz dn:List AV) (g:Bool) (l:List Bk) (m t n i:Int) (Q:AV -> Heap -> Prop):Prop:=Wp M1 (.run fi46 (atC (cd Try.f46) [1,1,0,1,0,0,1,1,0,0,1,1,1]) [(0,.ptr 0 0 0 0),(5,.vnil),(8,.int .i64 m),(9,.int .i64 t),(14,.vec g 3 (l.map Bk.a)),(15,.int .i64 n),(16,.int .i64 i)] [⟨[.agg [.mapr 1,.mapr 2,.mapr 3,.mapr 4,.mapr 5]],5,0,false,false⟩,⟨sm,2,0,false,true⟩,⟨st,2,0,false,true⟩,⟨dp,2,0,false,true⟩,⟨sz,2,0,false,true⟩,⟨dn,2,0,false,true⟩]) Q
def tvXua_at (sm st dp sz dn:List AV) (g:Bool) (l:List Bk) (q:List Bk) (v:Nat) (m t n i:Int) (Q:AV -> Heap -> Prop):Prop:=Wp M1 (.run fi46 (atC (cd Try.f46) [1,1,0,1,0,0,1,1,0,0,1,1,1]) [(0,.ptr 0 0 0 0),(5,.row 6 v),(8,.int .i64 m),(9,.int .i64 t),(14,.vec g 3 (l.map Bk.a)),(15,.int .i64 n),(16,.int .i64 i)] [⟨[.agg [.mapr 1,.mapr 2,.mapr 3,.mapr 4,.mapr 5]],5,0,false,false⟩,⟨sm,2,0,false,true⟩,⟨st,2,0,false,true⟩,⟨dp,2,0,false,true⟩,⟨sz,2,0,false,true⟩,⟨dn,2,0,false,true⟩,⟨q.map Bk.a,3,v,false,true⟩]) Q
def tvXrz_at (sm st dp sz dn:List AV) (g:Bool) (l:List Bk) (bf:Bool) (y:Bk) (Y:List Bk) (t k n i:Int) (Q:AV -> Heap -> Prop):Prop:=Wp M1 (.run fi46 (atC (cd Try.f46) [1,1,0,1,0,0,1,1,0,0,1,1,1,1,1,1,1,0,0]) [(0,.ptr 0 0 0 0),(5,.vnil),(12,.vec bf 3 ((y :: Y).map Bk.a)),(14,.vec g 3 (l.map Bk.a)),(15,.int .i64 n),(16,.int .i64 i),(61,.int .i64 t),(62,.int .i64 k)] [⟨[.agg [.mapr 1,.mapr 2,.mapr 3,.mapr 4,.mapr 5]],5,0,false,false⟩,⟨sm,2,0,false,true⟩,⟨st,2,0,false,true⟩,⟨dp,2,0,false,true⟩,⟨sz,2,0,false,true⟩,⟨dn,2,0,false,true⟩]) Q
def tvXra_at (sm st dp sz dn:List AV) (g:Bool) (l:List Bk) (q:List Bk) (v:Nat) (bf:Bool) (Y:List Bk) (t k n i:Int) (Q:AV -> Heap -> Prop):Prop:=Wp M1 (.run fi46 (atC (cd Try.f46) [1,1,0,1,0,0,1,1,0,0,1,1,1,1,1,1,1,0,0]) [(0,.ptr 0 0 0 0),(5,.row 6 v),(12,.vec bf 3 (Y.map Bk.a)),(14,.vec g 3 (l.map Bk.a)),(15,.int .i64 n),(16,.int .i64 i),(61,.int .i64 t),(62,.int .i64 k)] [⟨[.agg [.mapr 1,.mapr 2,.mapr 3,.mapr 4,.mapr 5]],5,0,false,false⟩,⟨sm,2,0,false,true⟩,⟨st,2,0,false,true⟩,⟨dp,2,0,false,true⟩,⟨sz,2,0,false,true⟩,⟨dn,2,0,false,true⟩,⟨q.map Bk.a,3,v,false,true⟩]) Q
theorem owncall46 {args:List AV} {L:Heap} {Q:AV -> Heap -> Prop} (h:Wp M1 (.run fi46 [.code (cd Try.f46)] (argVars 0 args) L) Q):Wp M1 (.own 46 args L) Q:=
 own_wp Try.f46 fi46 (by kernel_rfl) (by kernel_rfl) (by kernel_rfl) (by kernel_rfl) h
theorem tvXp (sm st dp sz dn:List AV) (g:Bool) (l:List Bk)  (Q:AV -> Heap -> Prop) (H :
  tvXaz_at (sm) (st) (dp) (sz) (dn) (g) (l) ((↑l.length:Int)) (0) Q) :
 tvXp_at sm st dp sz dn g l Q:=by
 unfold tvXp_at
 have w1:(List.map Bk.a l).length = l.length:=List.length_map ..
 exact path_wp (G:=given kp46 [] []) 1000 [] ⟨(atC (cd Try.f46) [1,1,0,1,0,0]),[(0,AV.ptr 0 0 0 0),(5,AV.vnil),(14,AV.vec g 3 (List.map Bk.a l)),(15,vi (↑(List.map Bk.a l).length:Int)),(16,vi 0)],[⟨[ag [AV.mapr 1,AV.mapr 2,AV.mapr 3,AV.mapr 4,AV.mapr 5]],5,0,false,false⟩,⟨sm,2,0,false,true⟩,⟨st,2,0,false,true⟩,⟨dp,2,0,false,true⟩,⟨sz,2,0,false,true⟩,⟨dn,2,0,false,true⟩],_,[],_⟩ (by kernel_rfl) b0 q0 c0 (by (try rw [w1]);all_goals exact H)
noncomputable abbrev zTpM1:=ag [AV.mapr 1,AV.mapr 2,AV.mapr 3,AV.mapr 4,AV.mapr 5]
theorem tvXaz (sm st dp sz dn:List AV) (g:Bool) (l:List Bk) (n i:Int)  (Q:AV -> Heap -> Prop) (H :
  ((i < n) -> (0 <= i) /\
   (i.toNat < l.length) /\
   (Sp.okW (l.getD i.toNat default).3) /\
   ((¬(Sp.cIs (l.getD i.toNat default).3 = true)) -> (-9223372036854775808 <= i + 1 /\ i + 1 <= 9223372036854775807) /\
    Wp M1 (.run fi46 (atC (cd Try.f46) [1,1,0,1,0,0]) [(0,AV.ptr 0 0 0 0),(5,AV.row 7 0),(14,AV.vec g 3 (List.map Bk.a l)),(15,vi n),(16,vi (i + 1))] [{ elems:=[ag [AV.mapr 1,AV.mapr 2,AV.mapr 3,AV.mapr 4,AV.mapr 5]],es:=5,ver:=0,frozen:=false,clean:=false },{ elems:=sm,es:=2,ver:=0,frozen:=false,clean:=true },{ elems:=st,es:=2,ver:=0,frozen:=false,clean:=true },{ elems:=dp,es:=2,ver:=0,frozen:=false,clean:=true },{ elems:=sz,es:=2,ver:=0,frozen:=false,clean:=true },{ elems:=dn,es:=2,ver:=0,frozen:=false,clean:=true },{ elems:=[ag [vb (l.getD i.toNat default).1,AV.vec (l.getD i.toNat default).2 2 (List.map Wo.a (l.getD i.toNat default).3),AV.str (l.getD i.toNat default).4]],es:=3,ver:=0,frozen:=false,clean:=false },{ elems:=[ag [vb (l.getD i.toNat default).1,AV.vec (l.getD i.toNat default).2 2 (List.map Wo.a (l.getD i.toNat default).3),AV.str (l.getD i.toNat default).4]],es:=3,ver:=0,frozen:=false,clean:=true }]) Q) /\
   (¬(¬(Sp.cIs (l.getD i.toNat default).3 = true)) -> Wp M1 (.run fi46 (atC (cd Try.f46) [1,1,0,1,0,0,1,1,0,0,1,1,1]) [(0,AV.ptr 0 0 0 0),(5,AV.vnil),(8,vi (Sp.cN (l.getD i.toNat default).3)),(9,vi (Sp.cT (l.getD i.toNat default).3)),(14,AV.vec g 3 (List.map Bk.a l)),(15,vi n),(16,vi i)] [{ elems:=[ag [AV.mapr 1,AV.mapr 2,AV.mapr 3,AV.mapr 4,AV.mapr 5]],es:=5,ver:=0,frozen:=false,clean:=false },{ elems:=sm,es:=2,ver:=0,frozen:=false,clean:=true },{ elems:=st,es:=2,ver:=0,frozen:=false,clean:=true },{ elems:=dp,es:=2,ver:=0,frozen:=false,clean:=true },{ elems:=sz,es:=2,ver:=0,frozen:=false,clean:=true },{ elems:=dn,es:=2,ver:=0,frozen:=false,clean:=true },{ elems:=List.map Bk.a [{ sk:=(l.getD i.toNat default).1,f:=(l.getD i.toNat default).2,ws:=(l.getD i.toNat default).3,cm:=(l.getD i.toNat default).4 }],es:=3,ver:=0,frozen:=false,clean:=false }]) Q)) /\
  (¬(i < n) -> Q (AV.vnil) [{ elems:=[ag [AV.mapr 1,AV.mapr 2,AV.mapr 3,AV.mapr 4,AV.mapr 5]],es:=5,ver:=0,frozen:=false,clean:=false },{ elems:=sm,es:=2,ver:=0,frozen:=false,clean:=true },{ elems:=st,es:=2,ver:=0,frozen:=false,clean:=true },{ elems:=dp,es:=2,ver:=0,frozen:=false,clean:=true },{ elems:=sz,es:=2,ver:=0,frozen:=false,clean:=true },{ elems:=dn,es:=2,ver:=0,frozen:=false,clean:=true }])) :
 tvXaz_at sm st dp sz dn g l n i Q:=by
 unfold tvXaz_at
 rcases xm (i < n) with d2 | d2
 ·have H:=H.1 d2
  obtain ⟨k4,H⟩:=H
  have w5:(List.map Bk.a l).length = l.length:=List.length_map ..
  have i6:(decide (i.toNat < (List.map Bk.a l).length)) = true ↔ (i.toNat < l.length):=(by (try rw [w5]);all_goals exact i_dec)
  obtain ⟨k7,H⟩:=H
  obtain ⟨k8,H⟩:=H
  refine path_wp (G:=given kp46 [(4,1,.elem (ag [vb (l.getD i.toNat default).1,AV.vec (l.getD i.toNat default).2 2 (List.map Wo.a (l.getD i.toNat default).3),AV.str (l.getD i.toNat default).4])),(5,1,.call (tu [vi (Sp.cN (l.getD i.toNat default).3),vi (Sp.cT (l.getD i.toNat default).3),vb (Sp.cIs (l.getD i.toNat default).3),vi (Sp.cE (l.getD i.toNat default).3)]) none)] []) 14 [true] ⟨(atC (cd Try.f46) [1,1,0,1,0,0,1,1,0,0,1,1,0,1]),[(0,AV.ptr 0 0 0 0),(5,AV.vnil),(7,AV.ptr 6 0 0 0),(8,vi (Sp.cN (l.getD i.toNat default).3)),(9,vi (Sp.cT (l.getD i.toNat default).3)),(14,AV.vec g 3 (List.map Bk.a l)),(15,vi n),(16,vi i),(28,vb !Sp.cIs (l.getD i.toNat default).3)],[⟨[zTpM1],5,0,false,false⟩,⟨sm,2,0,false,true⟩,⟨st,2,0,false,true⟩,⟨dp,2,0,false,true⟩,⟨sz,2,0,false,true⟩,⟨dn,2,0,false,true⟩,⟨[ag [vb (l.getD i.toNat default).1,AV.vec (l.getD i.toNat default).2 2 (List.map Wo.a (l.getD i.toNat default).3),AV.str (l.getD i.toNat default).4]],3,0,false,false⟩],_,[((List.map Bk.a l).get?Internal i.toNat = some (ag [vb (l.getD i.toNat default).1,AV.vec (l.getD i.toNat default).2 2 (List.map Wo.a (l.getD i.toNat default).3),AV.str (l.getD i.toNat default).4]))],_⟩ (by kernel_rfl) (bc (beq_t (i_dec.2 d2)) (bc (i_dec.2 k4) (bc (i6.2 k7) (bc rfl (bc rfl b0))))) (qc (el_map k7) q0) (ce (@ev13 ((l.getD i.toNat default).1) ((l.getD i.toNat default).2) ((l.getD i.toNat default).3) ((l.getD i.toNat default).4) k8) c0) ?_
  rcases xm (¬(Sp.cIs (l.getD i.toNat default).3 = true)) with d10 | d10
  ·have H:=H.1 d10
   obtain ⟨k11,H⟩:=H
   have w12:wi (i + 1) = i + 1:=wI64 k11
   exact path_wp (G:=given kp46 [] []) 1000 [true] ⟨(atC (cd Try.f46) [1,1,0,1,0,0]),[(0,AV.ptr 0 0 0 0),(5,AV.row 7 0),(14,AV.vec g 3 (List.map Bk.a l)),(15,vi n),(16,vi (wi (i + 1)))],[⟨[zTpM1],5,0,false,false⟩,⟨sm,2,0,false,true⟩,⟨st,2,0,false,true⟩,⟨dp,2,0,false,true⟩,⟨sz,2,0,false,true⟩,⟨dn,2,0,false,true⟩,⟨[ag [vb (l.getD i.toNat default).1,AV.vec (l.getD i.toNat default).2 2 (List.map Wo.a (l.getD i.toNat default).3),AV.str (l.getD i.toNat default).4]],3,0,false,false⟩,⟨[ag [vb (l.getD i.toNat default).1,AV.vec (l.getD i.toNat default).2 2 (List.map Wo.a (l.getD i.toNat default).3),AV.str (l.getD i.toNat default).4]],3,0,false,true⟩],[(!Sp.cIs (l.getD i.toNat default).3) == true,true,true],[],_⟩ (by kernel_rfl) (bc (beq_t ((i_not (i_var _)).2 d10)) (bc rfl (bc rfl b0))) q0 c0 (by (try rw [w12]);all_goals exact H)
  ·have H:=H.2 d10
   have w13:[ag [vb (l.getD i.toNat default).1,AV.vec (l.getD i.toNat default).2 2 (List.map Wo.a (l.getD i.toNat default).3),AV.str (l.getD i.toNat default).4]] = List.map Bk.a [{ sk:=(l.getD i.toNat default).1,f:=(l.getD i.toNat default).2,ws:=(l.getD i.toNat default).3,cm:=(l.getD i.toNat default).4 }]:=rfl
   exact path_wp (G:=given kp46 [] []) 2 [false] ⟨(atC (cd Try.f46) [1,1,0,1,0,0,1,1,0,0,1,1,1]),[(0,AV.ptr 0 0 0 0),(5,AV.vnil),(7,AV.ptr 6 0 0 0),(8,vi (Sp.cN (l.getD i.toNat default).3)),(9,vi (Sp.cT (l.getD i.toNat default).3)),(14,AV.vec g 3 (List.map Bk.a l)),(15,vi n),(16,vi i),(28,vb !Sp.cIs (l.getD i.toNat default).3)],[⟨[zTpM1],5,0,false,false⟩,⟨sm,2,0,false,true⟩,⟨st,2,0,false,true⟩,⟨dp,2,0,false,true⟩,⟨sz,2,0,false,true⟩,⟨dn,2,0,false,true⟩,⟨[ag [vb (l.getD i.toNat default).1,AV.vec (l.getD i.toNat default).2 2 (List.map Wo.a (l.getD i.toNat default).3),AV.str (l.getD i.toNat default).4]],3,0,false,false⟩],[(!Sp.cIs (l.getD i.toNat default).3) == false],[],_⟩ (by kernel_rfl) (bc (beq_f (fun h => d10 ((i_not (i_var _)).1 h))) b0) q0 c0 (by (try rw [w13]);all_goals exact Wp.less [0,5,8,9,14,15,16] (H))
 ·have H:=H.2 d2
  exact path_ret (G:=given kp46 [] []) 1000 [false] (k:=((atC (cd Try.f46) [1,1,1,1])).tail) (env':=[(4,AV.vnil)]) (L':=[⟨[zTpM1],5,0,false,false⟩,⟨sm,2,0,false,true⟩,⟨st,2,0,false,true⟩,⟨dp,2,0,false,true⟩,⟨sz,2,0,false,true⟩,⟨dn,2,0,false,true⟩]) (asm:=[(decide (i < n)) == false]) (eqs:=[]) (calls:=[]) (AV.vnil) (by kernel_rfl) (by kernel_rfl) (allB_cons (beq_f (fun h => d2 (i_dec.1 h))) allB_nil) allP_nil allC_nil H
noncomputable abbrev zTpM2:=ag [AV.mapr 1,AV.mapr 2,AV.mapr 3,AV.mapr 4,AV.mapr 5]
theorem tvXaa (sm st dp sz dn:List AV) (g:Bool) (l:List Bk) (q:List Bk) (v:Nat) (n i:Int)  (Q:AV -> Heap -> Prop) (H :
  ((i < n) -> (0 <= i) /\
   (i.toNat < l.length) /\
   (Sp.okW (l.getD i.toNat default).3) /\
   ((¬(Sp.cIs (l.getD i.toNat default).3 = true)) -> ((q.length + 1) * 48 <= 1099511627776) /\
    (-9223372036854775808 <= i + 1 /\ i + 1 <= 9223372036854775807) /\
    Wp M1 (.run fi46 (atC (cd Try.f46) [1,1,0,1,0,0]) [(0,AV.ptr 0 0 0 0),(5,AV.row 6 (v + 1)),(14,AV.vec g 3 (List.map Bk.a l)),(15,vi n),(16,vi (i + 1))] [{ elems:=[ag [AV.mapr 1,AV.mapr 2,AV.mapr 3,AV.mapr 4,AV.mapr 5]],es:=5,ver:=0,frozen:=false,clean:=false },{ elems:=sm,es:=2,ver:=0,frozen:=false,clean:=true },{ elems:=st,es:=2,ver:=0,frozen:=false,clean:=true },{ elems:=dp,es:=2,ver:=0,frozen:=false,clean:=true },{ elems:=sz,es:=2,ver:=0,frozen:=false,clean:=true },{ elems:=dn,es:=2,ver:=0,frozen:=false,clean:=true },{ elems:=List.map Bk.a (q ++ [{ sk:=(l.getD i.toNat default).1,f:=(l.getD i.toNat default).2,ws:=(l.getD i.toNat default).3,cm:=(l.getD i.toNat default).4 }]),es:=3,ver:=v + 1,frozen:=false,clean:=true },{ elems:=[ag [vb (l.getD i.toNat default).1,AV.vec (l.getD i.toNat default).2 2 (List.map Wo.a (l.getD i.toNat default).3),AV.str (l.getD i.toNat default).4]],es:=3,ver:=0,frozen:=false,clean:=false }]) Q) /\
   (¬(¬(Sp.cIs (l.getD i.toNat default).3 = true)) -> Wp M1 (.run fi46 (atC (cd Try.f46) [1,1,0,1,0,0,1,1,0,0,1,1,1]) [(0,AV.ptr 0 0 0 0),(5,AV.row 6 v),(8,vi (Sp.cN (l.getD i.toNat default).3)),(9,vi (Sp.cT (l.getD i.toNat default).3)),(14,AV.vec g 3 (List.map Bk.a l)),(15,vi n),(16,vi i)] [{ elems:=[ag [AV.mapr 1,AV.mapr 2,AV.mapr 3,AV.mapr 4,AV.mapr 5]],es:=5,ver:=0,frozen:=false,clean:=false },{ elems:=sm,es:=2,ver:=0,frozen:=false,clean:=true },{ elems:=st,es:=2,ver:=0,frozen:=false,clean:=true },{ elems:=dp,es:=2,ver:=0,frozen:=false,clean:=true },{ elems:=sz,es:=2,ver:=0,frozen:=false,clean:=true },{ elems:=dn,es:=2,ver:=0,frozen:=false,clean:=true },{ elems:=List.map Bk.a q,es:=3,ver:=v,frozen:=false,clean:=true },{ elems:=[ag [vb (l.getD i.toNat default).1,AV.vec (l.getD i.toNat default).2 2 (List.map Wo.a (l.getD i.toNat default).3),AV.str (l.getD i.toNat default).4]],es:=3,ver:=0,frozen:=false,clean:=false }]) Q)) /\
  (¬(i < n) -> Q (AV.row 6 v) [{ elems:=[ag [AV.mapr 1,AV.mapr 2,AV.mapr 3,AV.mapr 4,AV.mapr 5]],es:=5,ver:=0,frozen:=false,clean:=false },{ elems:=sm,es:=2,ver:=0,frozen:=false,clean:=true },{ elems:=st,es:=2,ver:=0,frozen:=false,clean:=true },{ elems:=dp,es:=2,ver:=0,frozen:=false,clean:=true },{ elems:=sz,es:=2,ver:=0,frozen:=false,clean:=true },{ elems:=dn,es:=2,ver:=0,frozen:=false,clean:=true },{ elems:=List.map Bk.a q,es:=3,ver:=v,frozen:=false,clean:=true }])) :
 tvXaa_at sm st dp sz dn g l q v n i Q:=by
 unfold tvXaa_at
 rcases xm (i < n) with d2 | d2
 ·have H:=H.1 d2
  obtain ⟨k4,H⟩:=H
  have w5:(List.map Bk.a l).length = l.length:=List.length_map ..
  have i6:(decide (i.toNat < (List.map Bk.a l).length)) = true ↔ (i.toNat < l.length):=(by (try rw [w5]);all_goals exact i_dec)
  obtain ⟨k7,H⟩:=H
  obtain ⟨k8,H⟩:=H
  refine path_wp (G:=given kp46 [(4,1,.elem (ag [vb (l.getD i.toNat default).1,AV.vec (l.getD i.toNat default).2 2 (List.map Wo.a (l.getD i.toNat default).3),AV.str (l.getD i.toNat default).4])),(5,1,.call (tu [vi (Sp.cN (l.getD i.toNat default).3),vi (Sp.cT (l.getD i.toNat default).3),vb (Sp.cIs (l.getD i.toNat default).3),vi (Sp.cE (l.getD i.toNat default).3)]) none)] []) 14 [true] ⟨(atC (cd Try.f46) [1,1,0,1,0,0,1,1,0,0,1,1,0,1]),[(0,AV.ptr 0 0 0 0),(5,AV.row 6 v),(7,AV.ptr 7 0 0 0),(8,vi (Sp.cN (l.getD i.toNat default).3)),(9,vi (Sp.cT (l.getD i.toNat default).3)),(14,AV.vec g 3 (List.map Bk.a l)),(15,vi n),(16,vi i),(28,vb !Sp.cIs (l.getD i.toNat default).3)],[⟨[zTpM2],5,0,false,false⟩,⟨sm,2,0,false,true⟩,⟨st,2,0,false,true⟩,⟨dp,2,0,false,true⟩,⟨sz,2,0,false,true⟩,⟨dn,2,0,false,true⟩,⟨List.map Bk.a q,3,v,false,true⟩,⟨[ag [vb (l.getD i.toNat default).1,AV.vec (l.getD i.toNat default).2 2 (List.map Wo.a (l.getD i.toNat default).3),AV.str (l.getD i.toNat default).4]],3,0,false,false⟩],_,[((List.map Bk.a l).get?Internal i.toNat = some (ag [vb (l.getD i.toNat default).1,AV.vec (l.getD i.toNat default).2 2 (List.map Wo.a (l.getD i.toNat default).3),AV.str (l.getD i.toNat default).4]))],_⟩ (by kernel_rfl) (bc (beq_t (i_dec.2 d2)) (bc (i_dec.2 k4) (bc (i6.2 k7) (bc rfl (bc rfl b0))))) (qc (el_map k7) q0) (ce (@ev13 ((l.getD i.toNat default).1) ((l.getD i.toNat default).2) ((l.getD i.toNat default).3) ((l.getD i.toNat default).4) k8) c0) ?_
  rcases xm (¬(Sp.cIs (l.getD i.toNat default).3 = true)) with d10 | d10
  ·have H:=H.1 d10
   have w11:(List.map Bk.a q).length = q.length:=List.length_map ..
   have i12:(decide (((List.map Bk.a q).length + 1) * 48 <= 1099511627776)) = true ↔ ((q.length + 1) * 48 <= 1099511627776):=(by (try rw [w11]);all_goals exact i_dec)
   obtain ⟨k13,H⟩:=H
   have w14:List.map Bk.a q ++ [ag [vb (l.getD i.toNat default).1,AV.vec (l.getD i.toNat default).2 2 (List.map Wo.a (l.getD i.toNat default).3),AV.str (l.getD i.toNat default).4]] = List.map Bk.a (q ++ [{ sk:=(l.getD i.toNat default).1,f:=(l.getD i.toNat default).2,ws:=(l.getD i.toNat default).3,cm:=(l.getD i.toNat default).4 }]):=(lm_app rfl rfl)
   obtain ⟨k15,H⟩:=H
   have w16:wi (i + 1) = i + 1:=wI64 k15
   exact path_wp (G:=given kp46 [] []) 1000 [true] ⟨(atC (cd Try.f46) [1,1,0,1,0,0]),[(0,AV.ptr 0 0 0 0),(5,AV.row 6 (v + 1)),(14,AV.vec g 3 (List.map Bk.a l)),(15,vi n),(16,vi (wi (i + 1)))],[⟨[zTpM2],5,0,false,false⟩,⟨sm,2,0,false,true⟩,⟨st,2,0,false,true⟩,⟨dp,2,0,false,true⟩,⟨sz,2,0,false,true⟩,⟨dn,2,0,false,true⟩,⟨List.map Bk.a q ++ [ag [vb (l.getD i.toNat default).1,AV.vec (l.getD i.toNat default).2 2 (List.map Wo.a (l.getD i.toNat default).3),AV.str (l.getD i.toNat default).4]],3,v + 1,false,true⟩,⟨[ag [vb (l.getD i.toNat default).1,AV.vec (l.getD i.toNat default).2 2 (List.map Wo.a (l.getD i.toNat default).3),AV.str (l.getD i.toNat default).4]],3,0,false,false⟩],[(!Sp.cIs (l.getD i.toNat default).3) == true,true,v == v,decide (((List.map Bk.a q).length + 1) * 48 <= 1099511627776)],[],_⟩ (by kernel_rfl) (bc (beq_t ((i_not (i_var _)).2 d10)) (bc rfl (bc (beq_self_eq_true _) (bc (i12.2 k13) b0)))) q0 c0 (by (try rw [w14]);(try rw [w16]);all_goals exact H)
  ·have H:=H.2 d10
   exact path_wp (G:=given kp46 [] []) 2 [false] ⟨(atC (cd Try.f46) [1,1,0,1,0,0,1,1,0,0,1,1,1]),[(0,AV.ptr 0 0 0 0),(5,AV.row 6 v),(7,AV.ptr 7 0 0 0),(8,vi (Sp.cN (l.getD i.toNat default).3)),(9,vi (Sp.cT (l.getD i.toNat default).3)),(14,AV.vec g 3 (List.map Bk.a l)),(15,vi n),(16,vi i),(28,vb !Sp.cIs (l.getD i.toNat default).3)],[⟨[zTpM2],5,0,false,false⟩,⟨sm,2,0,false,true⟩,⟨st,2,0,false,true⟩,⟨dp,2,0,false,true⟩,⟨sz,2,0,false,true⟩,⟨dn,2,0,false,true⟩,⟨List.map Bk.a q,3,v,false,true⟩,⟨[ag [vb (l.getD i.toNat default).1,AV.vec (l.getD i.toNat default).2 2 (List.map Wo.a (l.getD i.toNat default).3),AV.str (l.getD i.toNat default).4]],3,0,false,false⟩],[(!Sp.cIs (l.getD i.toNat default).3) == false],[],_⟩ (by kernel_rfl) (bc (beq_f (fun h => d10 ((i_not (i_var _)).1 h))) b0) q0 c0 (Wp.less [0,5,8,9,14,15,16] (H))
 ·have H:=H.2 d2
  exact path_ret (G:=given kp46 [] []) 1000 [false] (k:=((atC (cd Try.f46) [1,1,1,1])).tail) (env':=[(4,AV.row 6 v)]) (L':=[⟨[zTpM2],5,0,false,false⟩,⟨sm,2,0,false,true⟩,⟨st,2,0,false,true⟩,⟨dp,2,0,false,true⟩,⟨sz,2,0,false,true⟩,⟨dn,2,0,false,true⟩,⟨List.map Bk.a q,3,v,false,true⟩]) (asm:=[(decide (i < n)) == false]) (eqs:=[]) (calls:=[]) (AV.row 6 v) (by kernel_rfl) (by kernel_rfl) (allB_cons (beq_f (fun h => d2 (i_dec.1 h))) allB_nil) allP_nil allC_nil H
noncomputable abbrev zTpM3:=ag [AV.mapr 1,AV.mapr 2,AV.mapr 3,AV.mapr 4,AV.mapr 5]
theorem tvXkz (sm st dp sz dn:List AV) (g:Bool) (l:List Bk) (m t n i:Int) (bf:Bool) (Y:List Bk) (Q:AV -> Heap -> Prop) (H :
  (mapKeys IntKind.i64 dn = true) /\
  (mapVal (ofC (Value.slice none 0 0)) m dn = AV.vec bf 3 (List.map Bk.a Y)) /\
  ((¬(mapHas m dn = true)) -> False) /\
  (¬(¬(mapHas m dn = true)) -> (((↑Y.length:Int) = 0) -> (-9223372036854775808 <= i + 1 /\ i + 1 <= 9223372036854775807) /\
    tvXaz_at (sm) (st) (dp) (sz) (dn) (g) (l) (n) (i + 1) Q) /\
   (¬((↑Y.length:Int) = 0) -> Wp M1 (.run fi46 (atC (cd Try.f46) [1,1,0,1,0,0,1,1,0,0,1,1,1,1,1,1,1,0,0]) [(0,AV.ptr 0 0 0 0),(5,AV.vnil),(12,AV.vec bf 3 (List.map Bk.a Y)),(14,AV.vec g 3 (List.map Bk.a l)),(15,vi n),(16,vi i),(61,vi t),(62,vi 0)] [{ elems:=[ag [AV.mapr 1,AV.mapr 2,AV.mapr 3,AV.mapr 4,AV.mapr 5]],es:=5,ver:=0,frozen:=false,clean:=false },{ elems:=sm,es:=2,ver:=0,frozen:=false,clean:=true },{ elems:=st,es:=2,ver:=0,frozen:=false,clean:=true },{ elems:=dp,es:=2,ver:=0,frozen:=false,clean:=true },{ elems:=sz,es:=2,ver:=0,frozen:=false,clean:=true },{ elems:=dn,es:=2,ver:=0,frozen:=false,clean:=true }]) Q))) :
 tvXkz_at sm st dp sz dn g l m t n i Q:=by
 unfold tvXkz_at
 obtain ⟨k2,H⟩:=H
 obtain ⟨k3,H⟩:=H
 refine path_wp (G:=given kp46 [(8,5,(.elem (.vec bf 3 (Y.map Bk.a)):Ans))] []) 5 [] ⟨(atC (cd Try.f46) [1,1,0,1,0,0,1,1,0,0,1,1,1,1,0,1]),[(0,AV.ptr 0 0 0 0),(5,AV.vnil),(8,vi m),(9,vi t),(12,AV.vec bf 3 (List.map Bk.a Y)),(14,AV.vec g 3 (List.map Bk.a l)),(15,vi n),(16,vi i),(43,vb !mapHas m dn)],[⟨[zTpM3],5,0,false,false⟩,⟨sm,2,0,false,true⟩,⟨st,2,0,false,true⟩,⟨dp,2,0,false,true⟩,⟨sz,2,0,false,true⟩,⟨dn,2,0,false,true⟩],[true,mapKeys IntKind.i64 dn],[(mapVal (ofC (Value.slice none 0 0)) m dn = AV.vec bf 3 (List.map Bk.a Y))],_⟩ (by kernel_rfl) (bc rfl (bc ((i_var _).2 k2) b0)) (qc k3 q0) c0 ?_
 rcases xm (¬(mapHas m dn = true)) with d5 | d5
 ·have H:=H.1 d5
  exact False.elim H
 ·have H:=H.2 d5
  have w6:(List.map Bk.a Y).length = Y.length:=List.length_map ..
  have i7:((↑(List.map Bk.a Y).length:Int) == 0) = true ↔ ((↑Y.length:Int) = 0):=(by (try rw [w6]);all_goals exact i_eq)
  rcases xm ((↑Y.length:Int) = 0) with d8 | d8
  ·have H:=H.1 d8
   obtain ⟨k9,H⟩:=H
   have w10:wi (i + 1) = i + 1:=wI64 k9
   exact path_wp (G:=given kp46 [] []) 1000 [false,true] ⟨(atC (cd Try.f46) [1,1,0,1,0,0]),[(0,AV.ptr 0 0 0 0),(5,AV.vnil),(14,AV.vec g 3 (List.map Bk.a l)),(15,vi n),(16,vi (wi (i + 1)))],[⟨[zTpM3],5,0,false,false⟩,⟨sm,2,0,false,true⟩,⟨st,2,0,false,true⟩,⟨dp,2,0,false,true⟩,⟨sz,2,0,false,true⟩,⟨dn,2,0,false,true⟩],[(!mapHas m dn) == false,((↑(List.map Bk.a Y).length:Int) == 0) == true],[],_⟩ (by kernel_rfl) (bc (beq_f (fun h => d5 ((i_not (i_var _)).1 h))) (bc (beq_t (i7.2 d8)) b0)) q0 c0 (by (try rw [w10]);all_goals exact H)
  ·have H:=H.2 d8
   exact path_wp (G:=given kp46 [] []) 1000 [false,false] ⟨(atC (cd Try.f46) [1,1,0,1,0,0,1,1,0,0,1,1,1,1,1,1,1,0,0]),[(0,AV.ptr 0 0 0 0),(5,AV.vnil),(12,AV.vec bf 3 (List.map Bk.a Y)),(14,AV.vec g 3 (List.map Bk.a l)),(15,vi n),(16,vi i),(61,vi t),(62,vi 0)],[⟨[zTpM3],5,0,false,false⟩,⟨sm,2,0,false,true⟩,⟨st,2,0,false,true⟩,⟨dp,2,0,false,true⟩,⟨sz,2,0,false,true⟩,⟨dn,2,0,false,true⟩],[(!mapHas m dn) == false,((↑(List.map Bk.a Y).length:Int) == 0) == false],[],_⟩ (by kernel_rfl) (bc (beq_f (fun h => d5 ((i_not (i_var _)).1 h))) (bc (beq_f (fun h => d8 (i7.1 h))) b0)) q0 c0 (H)
noncomputable abbrev zTpM4:=ag [AV.mapr 1,AV.mapr 2,AV.mapr 3,AV.mapr 4,AV.mapr 5]
theorem tvXka (sm st dp sz dn:List AV) (g:Bool) (l:List Bk) (q:List Bk) (v:Nat) (m t n i:Int) (bf:Bool) (Y:List Bk) (Q:AV -> Heap -> Prop) (H :
  (mapKeys IntKind.i64 dn = true) /\
  (mapVal (ofC (Value.slice none 0 0)) m dn = AV.vec bf 3 (List.map Bk.a Y)) /\
  ((¬(mapHas m dn = true)) -> False) /\
  (¬(¬(mapHas m dn = true)) -> (((↑Y.length:Int) = 0) -> (-9223372036854775808 <= i + 1 /\ i + 1 <= 9223372036854775807) /\
    tvXaa_at (sm) (st) (dp) (sz) (dn) (g) (l) (q) (v) (n) (i + 1) Q) /\
   (¬((↑Y.length:Int) = 0) -> tvXra_at (sm) (st) (dp) (sz) (dn) (g) (l) (q) (v) (bf) (Y) (t) (0) (n) (i) Q))) :
 tvXka_at sm st dp sz dn g l q v m t n i Q:=by
 unfold tvXka_at
 obtain ⟨k2,H⟩:=H
 obtain ⟨k3,H⟩:=H
 refine path_wp (G:=given kp46 [(8,5,(.elem (.vec bf 3 (Y.map Bk.a)):Ans))] []) 5 [] ⟨(atC (cd Try.f46) [1,1,0,1,0,0,1,1,0,0,1,1,1,1,0,1]),[(0,AV.ptr 0 0 0 0),(5,AV.row 6 v),(8,vi m),(9,vi t),(12,AV.vec bf 3 (List.map Bk.a Y)),(14,AV.vec g 3 (List.map Bk.a l)),(15,vi n),(16,vi i),(43,vb !mapHas m dn)],[⟨[zTpM4],5,0,false,false⟩,⟨sm,2,0,false,true⟩,⟨st,2,0,false,true⟩,⟨dp,2,0,false,true⟩,⟨sz,2,0,false,true⟩,⟨dn,2,0,false,true⟩,⟨List.map Bk.a q,3,v,false,true⟩],[true,mapKeys IntKind.i64 dn],[(mapVal (ofC (Value.slice none 0 0)) m dn = AV.vec bf 3 (List.map Bk.a Y))],_⟩ (by kernel_rfl) (bc rfl (bc ((i_var _).2 k2) b0)) (qc k3 q0) c0 ?_
 rcases xm (¬(mapHas m dn = true)) with d5 | d5
 ·have H:=H.1 d5
  exact False.elim H
 ·have H:=H.2 d5
  have w6:(List.map Bk.a Y).length = Y.length:=List.length_map ..
  have i7:((↑(List.map Bk.a Y).length:Int) == 0) = true ↔ ((↑Y.length:Int) = 0):=(by (try rw [w6]);all_goals exact i_eq)
  rcases xm ((↑Y.length:Int) = 0) with d8 | d8
  ·have H:=H.1 d8
   obtain ⟨k9,H⟩:=H
   have w10:wi (i + 1) = i + 1:=wI64 k9
   exact path_wp (G:=given kp46 [] []) 1000 [false,true] ⟨(atC (cd Try.f46) [1,1,0,1,0,0]),[(0,AV.ptr 0 0 0 0),(5,AV.row 6 v),(14,AV.vec g 3 (List.map Bk.a l)),(15,vi n),(16,vi (wi (i + 1)))],[⟨[zTpM4],5,0,false,false⟩,⟨sm,2,0,false,true⟩,⟨st,2,0,false,true⟩,⟨dp,2,0,false,true⟩,⟨sz,2,0,false,true⟩,⟨dn,2,0,false,true⟩,⟨List.map Bk.a q,3,v,false,true⟩],[(!mapHas m dn) == false,((↑(List.map Bk.a Y).length:Int) == 0) == true],[],_⟩ (by kernel_rfl) (bc (beq_f (fun h => d5 ((i_not (i_var _)).1 h))) (bc (beq_t (i7.2 d8)) b0)) q0 c0 (by (try rw [w10]);all_goals exact H)
  ·have H:=H.2 d8
   exact path_wp (G:=given kp46 [] []) 1000 [false,false] ⟨(atC (cd Try.f46) [1,1,0,1,0,0,1,1,0,0,1,1,1,1,1,1,1,0,0]),[(0,AV.ptr 0 0 0 0),(5,AV.row 6 v),(12,AV.vec bf 3 (List.map Bk.a Y)),(14,AV.vec g 3 (List.map Bk.a l)),(15,vi n),(16,vi i),(61,vi t),(62,vi 0)],[⟨[zTpM4],5,0,false,false⟩,⟨sm,2,0,false,true⟩,⟨st,2,0,false,true⟩,⟨dp,2,0,false,true⟩,⟨sz,2,0,false,true⟩,⟨dn,2,0,false,true⟩,⟨List.map Bk.a q,3,v,false,true⟩],[(!mapHas m dn) == false,((↑(List.map Bk.a Y).length:Int) == 0) == false],[],_⟩ (by kernel_rfl) (bc (beq_f (fun h => d5 ((i_not (i_var _)).1 h))) (bc (beq_f (fun h => d8 (i7.1 h))) b0)) q0 c0 (H)
noncomputable abbrev zTpM5:=ag [AV.mapr 1,AV.mapr 2,AV.mapr 3,AV.mapr 4,AV.mapr 5]
theorem tvXuz (sm st dp sz dn:List AV) (g:Bool) (l:List Bk) (m t n i:Int) (bs:Bool) (S:List Bk) (bf:Bool) (Y:List Bk) (dn1:List AV) (Q:AV -> Heap -> Prop) (H :
  (mapKeys IntKind.i64 dn = true) /\
  (mapVal (ofC (Value.slice none 0 0)) m dn = AV.vnil) /\
  ((¬(mapHas m dn = true)) -> (Ev M1 (Conf.own 46 [AV.ptr 0 0 0 0,AV.vec bs 3 (List.map Bk.a S)] [{ elems:=[ag [AV.mapr 1,AV.mapr 2,AV.mapr 3,AV.mapr 4,AV.mapr 5]],es:=5,ver:=0,frozen:=false,clean:=false },{ elems:=sm,es:=2,ver:=0,frozen:=false,clean:=true },{ elems:=st,es:=2,ver:=0,frozen:=false,clean:=true },{ elems:=dp,es:=2,ver:=0,frozen:=false,clean:=true },{ elems:=sz,es:=2,ver:=0,frozen:=false,clean:=true },{ elems:=dn,es:=2,ver:=0,frozen:=false,clean:=true }]) (AV.vec bf 3 (List.map Bk.a Y)) [{ elems:=[ag [AV.mapr 1,AV.mapr 2,AV.mapr 3,AV.mapr 4,AV.mapr 5]],es:=5,ver:=0,frozen:=false,clean:=false },{ elems:=sm,es:=2,ver:=0,frozen:=false,clean:=true },{ elems:=st,es:=2,ver:=0,frozen:=false,clean:=true },{ elems:=dp,es:=2,ver:=0,frozen:=false,clean:=true },{ elems:=sz,es:=2,ver:=0,frozen:=false,clean:=true },{ elems:=dn1,es:=2,ver:=0,frozen:=false,clean:=true }]) /\
   (mapKeys IntKind.i64 sm = true) /\
   (mapVal (ofC (Value.slice none 0 0)) m sm = AV.vec bs 3 (List.map Bk.a S)) /\
   (mapKeys IntKind.i64 dn1 = true) /\
   (((↑Y.length:Int) = 0) -> (-9223372036854775808 <= i + 1 /\ i + 1 <= 9223372036854775807) /\
    tvXaz_at (sm) (st) (dp) (sz) (mapPut IntKind.i64 m (AV.vec bf 3 (List.map Bk.a Y)) dn1) (g) (l) (n) (i + 1) Q) /\
   (¬((↑Y.length:Int) = 0) -> Wp M1 (.run fi46 (atC (cd Try.f46) [1,1,0,1,0,0,1,1,0,0,1,1,1,1,1,1,1,0,0]) [(0,AV.ptr 0 0 0 0),(5,AV.vnil),(12,AV.vec bf 3 (List.map Bk.a Y)),(14,AV.vec g 3 (List.map Bk.a l)),(15,vi n),(16,vi i),(61,vi t),(62,vi 0)] [{ elems:=[ag [AV.mapr 1,AV.mapr 2,AV.mapr 3,AV.mapr 4,AV.mapr 5]],es:=5,ver:=0,frozen:=false,clean:=false },{ elems:=sm,es:=2,ver:=0,frozen:=false,clean:=true },{ elems:=st,es:=2,ver:=0,frozen:=false,clean:=true },{ elems:=dp,es:=2,ver:=0,frozen:=false,clean:=true },{ elems:=sz,es:=2,ver:=0,frozen:=false,clean:=true },{ elems:=mapPut IntKind.i64 m (AV.vec bf 3 (List.map Bk.a Y)) dn1,es:=2,ver:=0,frozen:=false,clean:=true }]) Q)) /\
  (¬(¬(mapHas m dn = true)) -> (-9223372036854775808 <= i + 1 /\ i + 1 <= 9223372036854775807) /\
   tvXaz_at (sm) (st) (dp) (sz) (dn) (g) (l) (n) (i + 1) Q)) :
 tvXuz_at sm st dp sz dn g l m t n i Q:=by
 unfold tvXuz_at
 obtain ⟨k2,H⟩:=H
 obtain ⟨k3,H⟩:=H
 refine path_wp (G:=given kp46 [(8,5,(.elem .vnil:Ans))] []) 5 [] ⟨(atC (cd Try.f46) [1,1,0,1,0,0,1,1,0,0,1,1,1,1,0,1]),[(0,AV.ptr 0 0 0 0),(5,AV.vnil),(8,vi m),(9,vi t),(12,AV.vnil),(14,AV.vec g 3 (List.map Bk.a l)),(15,vi n),(16,vi i),(43,vb !mapHas m dn)],[⟨[zTpM5],5,0,false,false⟩,⟨sm,2,0,false,true⟩,⟨st,2,0,false,true⟩,⟨dp,2,0,false,true⟩,⟨sz,2,0,false,true⟩,⟨dn,2,0,false,true⟩],[true,mapKeys IntKind.i64 dn],[(mapVal (ofC (Value.slice none 0 0)) m dn = AV.vnil)],_⟩ (by kernel_rfl) (bc rfl (bc ((i_var _).2 k2) b0)) (qc k3 q0) c0 ?_
 rcases xm (¬(mapHas m dn = true)) with d5 | d5
 ·have H:=H.1 d5
  obtain ⟨k6,H⟩:=H
  obtain ⟨k8,H⟩:=H
  obtain ⟨k9,H⟩:=H
  obtain ⟨k11,H⟩:=H
  have w12:(List.map Bk.a Y).length = Y.length:=List.length_map ..
  have i13:((↑(List.map Bk.a Y).length:Int) == 0) = true ↔ ((↑Y.length:Int) = 0):=(by (try rw [w12]);all_goals exact i_eq)
  refine path_wp (G:=given kp46 [(10,6,(.elem (.vec bs 3 (S.map Bk.a)):Ans)),(10,7,(.call (.vec bf 3 (Y.map Bk.a)) (some [⟨[.agg [.mapr 1,.mapr 2,.mapr 3,.mapr 4,.mapr 5]],5,0,false,false⟩,⟨sm,2,0,false,true⟩,⟨st,2,0,false,true⟩,⟨dp,2,0,false,true⟩,⟨sz,2,0,false,true⟩,⟨dn1,2,0,false,true⟩]):Ans))] []) 7 [true] ⟨(atC (cd Try.f46) [1,1,0,1,0,0,1,1,0,0,1,1,1,1,1,0,1]),[(0,AV.ptr 0 0 0 0),(5,AV.vnil),(9,vi t),(12,AV.vec bf 3 (List.map Bk.a Y)),(14,AV.vec g 3 (List.map Bk.a l)),(15,vi n),(16,vi i),(60,vb ((↑(List.map Bk.a Y).length:Int) == 0))],[⟨[zTpM5],5,0,false,false⟩,⟨sm,2,0,false,true⟩,⟨st,2,0,false,true⟩,⟨dp,2,0,false,true⟩,⟨sz,2,0,false,true⟩,⟨mapPut IntKind.i64 m (AV.vec bf 3 (List.map Bk.a Y)) dn1,2,0,false,true⟩],[(!mapHas m dn) == true,true,mapKeys IntKind.i64 sm,true,mapKeys IntKind.i64 dn1],[(mapVal (ofC (Value.slice none 0 0)) m sm = AV.vec bs 3 (List.map Bk.a S))],[⟨true,true,46,[AV.ptr 0 0 0 0,AV.vec bs 3 (List.map Bk.a S)],[⟨[zTpM5],5,0,false,false⟩,⟨sm,2,0,false,true⟩,⟨st,2,0,false,true⟩,⟨dp,2,0,false,true⟩,⟨sz,2,0,false,true⟩,⟨dn,2,0,false,true⟩],AV.vec bf 3 (List.map Bk.a Y),[⟨[zTpM5],5,0,false,false⟩,⟨sm,2,0,false,true⟩,⟨st,2,0,false,true⟩,⟨dp,2,0,false,true⟩,⟨sz,2,0,false,true⟩,⟨dn1,2,0,false,true⟩]⟩]⟩ (by kernel_rfl) (bc (beq_t ((i_not (i_var _)).2 d5)) (bc rfl (bc ((i_var _).2 k8) (bc rfl (bc ((i_var _).2 k11) b0))))) (qc k9 q0) (cc (fun _ => k6) c0) ?_
  rcases xm ((↑Y.length:Int) = 0) with d14 | d14
  ·have H:=H.1 d14
   obtain ⟨k15,H⟩:=H
   have w16:wi (i + 1) = i + 1:=wI64 k15
   exact path_wp (G:=given kp46 [] []) 1000 [true] ⟨(atC (cd Try.f46) [1,1,0,1,0,0]),[(0,AV.ptr 0 0 0 0),(5,AV.vnil),(14,AV.vec g 3 (List.map Bk.a l)),(15,vi n),(16,vi (wi (i + 1)))],[⟨[zTpM5],5,0,false,false⟩,⟨sm,2,0,false,true⟩,⟨st,2,0,false,true⟩,⟨dp,2,0,false,true⟩,⟨sz,2,0,false,true⟩,⟨mapPut IntKind.i64 m (AV.vec bf 3 (List.map Bk.a Y)) dn1,2,0,false,true⟩],_,[],_⟩ (by kernel_rfl) (bc (beq_t (i13.2 d14)) b0) q0 c0 (by (try rw [w16]);all_goals exact H)
  ·have H:=H.2 d14
   exact path_wp (G:=given kp46 [] []) 1000 [false] ⟨(atC (cd Try.f46) [1,1,0,1,0,0,1,1,0,0,1,1,1,1,1,1,1,0,0]),[(0,AV.ptr 0 0 0 0),(5,AV.vnil),(12,AV.vec bf 3 (List.map Bk.a Y)),(14,AV.vec g 3 (List.map Bk.a l)),(15,vi n),(16,vi i),(61,vi t),(62,vi 0)],[⟨[zTpM5],5,0,false,false⟩,⟨sm,2,0,false,true⟩,⟨st,2,0,false,true⟩,⟨dp,2,0,false,true⟩,⟨sz,2,0,false,true⟩,⟨mapPut IntKind.i64 m (AV.vec bf 3 (List.map Bk.a Y)) dn1,2,0,false,true⟩],_,[],_⟩ (by kernel_rfl) (bc (beq_f (fun h => d14 (i13.1 h))) b0) q0 c0 (H)
 ·have H:=H.2 d5
  obtain ⟨k17,H⟩:=H
  have w18:wi (i + 1) = i + 1:=wI64 k17
  exact path_wp (G:=given kp46 [] []) 1000 [false,true] ⟨(atC (cd Try.f46) [1,1,0,1,0,0]),[(0,AV.ptr 0 0 0 0),(5,AV.vnil),(14,AV.vec g 3 (List.map Bk.a l)),(15,vi n),(16,vi (wi (i + 1)))],[⟨[zTpM5],5,0,false,false⟩,⟨sm,2,0,false,true⟩,⟨st,2,0,false,true⟩,⟨dp,2,0,false,true⟩,⟨sz,2,0,false,true⟩,⟨dn,2,0,false,true⟩],[(!mapHas m dn) == false,true == true],[],_⟩ (by kernel_rfl) (bc (beq_f (fun h => d5 ((i_not (i_var _)).1 h))) (bc rfl b0)) q0 c0 (by (try rw [w18]);all_goals exact H)
noncomputable abbrev zTpM6:=ag [AV.mapr 1,AV.mapr 2,AV.mapr 3,AV.mapr 4,AV.mapr 5]
theorem tvXua (sm st dp sz dn:List AV) (g:Bool) (l:List Bk) (q:List Bk) (v:Nat) (m t n i:Int) (bs:Bool) (S:List Bk) (bf:Bool) (Y:List Bk) (dn1:List AV) (Q:AV -> Heap -> Prop) (H :
  (mapKeys IntKind.i64 dn = true) /\
  (mapVal (ofC (Value.slice none 0 0)) m dn = AV.vnil) /\
  ((¬(mapHas m dn = true)) -> (Ev M1 (Conf.own 46 [AV.ptr 0 0 0 0,AV.vec bs 3 (List.map Bk.a S)] [{ elems:=[ag [AV.mapr 1,AV.mapr 2,AV.mapr 3,AV.mapr 4,AV.mapr 5]],es:=5,ver:=0,frozen:=false,clean:=false },{ elems:=sm,es:=2,ver:=0,frozen:=false,clean:=true },{ elems:=st,es:=2,ver:=0,frozen:=false,clean:=true },{ elems:=dp,es:=2,ver:=0,frozen:=false,clean:=true },{ elems:=sz,es:=2,ver:=0,frozen:=false,clean:=true },{ elems:=dn,es:=2,ver:=0,frozen:=false,clean:=true }]) (AV.vec bf 3 (List.map Bk.a Y)) [{ elems:=[ag [AV.mapr 1,AV.mapr 2,AV.mapr 3,AV.mapr 4,AV.mapr 5]],es:=5,ver:=0,frozen:=false,clean:=false },{ elems:=sm,es:=2,ver:=0,frozen:=false,clean:=true },{ elems:=st,es:=2,ver:=0,frozen:=false,clean:=true },{ elems:=dp,es:=2,ver:=0,frozen:=false,clean:=true },{ elems:=sz,es:=2,ver:=0,frozen:=false,clean:=true },{ elems:=dn1,es:=2,ver:=0,frozen:=false,clean:=true }]) /\
   (mapKeys IntKind.i64 sm = true) /\
   (mapVal (ofC (Value.slice none 0 0)) m sm = AV.vec bs 3 (List.map Bk.a S)) /\
   (mapKeys IntKind.i64 dn1 = true) /\
   (((↑Y.length:Int) = 0) -> (-9223372036854775808 <= i + 1 /\ i + 1 <= 9223372036854775807) /\
    tvXaa_at (sm) (st) (dp) (sz) (mapPut IntKind.i64 m (AV.vec bf 3 (List.map Bk.a Y)) dn1) (g) (l) (q) (v) (n) (i + 1) Q) /\
   (¬((↑Y.length:Int) = 0) -> tvXra_at (sm) (st) (dp) (sz) (mapPut IntKind.i64 m (AV.vec bf 3 (List.map Bk.a Y)) dn1) (g) (l) (q) (v) (bf) (Y) (t) (0) (n) (i) Q)) /\
  (¬(¬(mapHas m dn = true)) -> (-9223372036854775808 <= i + 1 /\ i + 1 <= 9223372036854775807) /\
   tvXaa_at (sm) (st) (dp) (sz) (dn) (g) (l) (q) (v) (n) (i + 1) Q)) :
 tvXua_at sm st dp sz dn g l q v m t n i Q:=by
 unfold tvXua_at
 obtain ⟨k2,H⟩:=H
 obtain ⟨k3,H⟩:=H
 refine path_wp (G:=given kp46 [(8,5,(.elem .vnil:Ans))] []) 5 [] ⟨(atC (cd Try.f46) [1,1,0,1,0,0,1,1,0,0,1,1,1,1,0,1]),[(0,AV.ptr 0 0 0 0),(5,AV.row 6 v),(8,vi m),(9,vi t),(12,AV.vnil),(14,AV.vec g 3 (List.map Bk.a l)),(15,vi n),(16,vi i),(43,vb !mapHas m dn)],[⟨[zTpM6],5,0,false,false⟩,⟨sm,2,0,false,true⟩,⟨st,2,0,false,true⟩,⟨dp,2,0,false,true⟩,⟨sz,2,0,false,true⟩,⟨dn,2,0,false,true⟩,⟨List.map Bk.a q,3,v,false,true⟩],[true,mapKeys IntKind.i64 dn],[(mapVal (ofC (Value.slice none 0 0)) m dn = AV.vnil)],_⟩ (by kernel_rfl) (bc rfl (bc ((i_var _).2 k2) b0)) (qc k3 q0) c0 ?_
 rcases xm (¬(mapHas m dn = true)) with d5 | d5
 ·have H:=H.1 d5
  obtain ⟨k6,H⟩:=H
  obtain ⟨k8,H⟩:=H
  obtain ⟨k9,H⟩:=H
  obtain ⟨k11,H⟩:=H
  have w12:(List.map Bk.a Y).length = Y.length:=List.length_map ..
  have i13:((↑(List.map Bk.a Y).length:Int) == 0) = true ↔ ((↑Y.length:Int) = 0):=(by (try rw [w12]);all_goals exact i_eq)
  refine path_wp (G:=given kp46 [(10,6,(.elem (.vec bs 3 (S.map Bk.a)):Ans)),(10,7,(.call (.vec bf 3 (Y.map Bk.a)) (some [⟨[.agg [.mapr 1,.mapr 2,.mapr 3,.mapr 4,.mapr 5]],5,0,false,false⟩,⟨sm,2,0,false,true⟩,⟨st,2,0,false,true⟩,⟨dp,2,0,false,true⟩,⟨sz,2,0,false,true⟩,⟨dn1,2,0,false,true⟩]):Ans))] []) 7 [true] ⟨(atC (cd Try.f46) [1,1,0,1,0,0,1,1,0,0,1,1,1,1,1,0,1]),[(0,AV.ptr 0 0 0 0),(5,AV.row 6 v),(9,vi t),(12,AV.vec bf 3 (List.map Bk.a Y)),(14,AV.vec g 3 (List.map Bk.a l)),(15,vi n),(16,vi i),(60,vb ((↑(List.map Bk.a Y).length:Int) == 0))],[⟨[zTpM6],5,0,false,false⟩,⟨sm,2,0,false,true⟩,⟨st,2,0,false,true⟩,⟨dp,2,0,false,true⟩,⟨sz,2,0,false,true⟩,⟨mapPut IntKind.i64 m (AV.vec bf 3 (List.map Bk.a Y)) dn1,2,0,false,true⟩,⟨List.map Bk.a q,3,v,false,true⟩],[(!mapHas m dn) == true,true,mapKeys IntKind.i64 sm,true,mapKeys IntKind.i64 dn1],[(mapVal (ofC (Value.slice none 0 0)) m sm = AV.vec bs 3 (List.map Bk.a S))],[⟨true,true,46,[AV.ptr 0 0 0 0,AV.vec bs 3 (List.map Bk.a S)],[⟨[zTpM6],5,0,false,false⟩,⟨sm,2,0,false,true⟩,⟨st,2,0,false,true⟩,⟨dp,2,0,false,true⟩,⟨sz,2,0,false,true⟩,⟨dn,2,0,false,true⟩],AV.vec bf 3 (List.map Bk.a Y),[⟨[zTpM6],5,0,false,false⟩,⟨sm,2,0,false,true⟩,⟨st,2,0,false,true⟩,⟨dp,2,0,false,true⟩,⟨sz,2,0,false,true⟩,⟨dn1,2,0,false,true⟩]⟩]⟩ (by kernel_rfl) (bc (beq_t ((i_not (i_var _)).2 d5)) (bc rfl (bc ((i_var _).2 k8) (bc rfl (bc ((i_var _).2 k11) b0))))) (qc k9 q0) (cc (fun _ => k6) c0) ?_
  rcases xm ((↑Y.length:Int) = 0) with d14 | d14
  ·have H:=H.1 d14
   obtain ⟨k15,H⟩:=H
   have w16:wi (i + 1) = i + 1:=wI64 k15
   exact path_wp (G:=given kp46 [] []) 1000 [true] ⟨(atC (cd Try.f46) [1,1,0,1,0,0]),[(0,AV.ptr 0 0 0 0),(5,AV.row 6 v),(14,AV.vec g 3 (List.map Bk.a l)),(15,vi n),(16,vi (wi (i + 1)))],[⟨[zTpM6],5,0,false,false⟩,⟨sm,2,0,false,true⟩,⟨st,2,0,false,true⟩,⟨dp,2,0,false,true⟩,⟨sz,2,0,false,true⟩,⟨mapPut IntKind.i64 m (AV.vec bf 3 (List.map Bk.a Y)) dn1,2,0,false,true⟩,⟨List.map Bk.a q,3,v,false,true⟩],_,[],_⟩ (by kernel_rfl) (bc (beq_t (i13.2 d14)) b0) q0 c0 (by (try rw [w16]);all_goals exact H)
  ·have H:=H.2 d14
   exact path_wp (G:=given kp46 [] []) 1000 [false] ⟨(atC (cd Try.f46) [1,1,0,1,0,0,1,1,0,0,1,1,1,1,1,1,1,0,0]),[(0,AV.ptr 0 0 0 0),(5,AV.row 6 v),(12,AV.vec bf 3 (List.map Bk.a Y)),(14,AV.vec g 3 (List.map Bk.a l)),(15,vi n),(16,vi i),(61,vi t),(62,vi 0)],[⟨[zTpM6],5,0,false,false⟩,⟨sm,2,0,false,true⟩,⟨st,2,0,false,true⟩,⟨dp,2,0,false,true⟩,⟨sz,2,0,false,true⟩,⟨mapPut IntKind.i64 m (AV.vec bf 3 (List.map Bk.a Y)) dn1,2,0,false,true⟩,⟨List.map Bk.a q,3,v,false,true⟩],_,[],_⟩ (by kernel_rfl) (bc (beq_f (fun h => d14 (i13.1 h))) b0) q0 c0 (H)
 ·have H:=H.2 d5
  obtain ⟨k17,H⟩:=H
  have w18:wi (i + 1) = i + 1:=wI64 k17
  exact path_wp (G:=given kp46 [] []) 1000 [false,true] ⟨(atC (cd Try.f46) [1,1,0,1,0,0]),[(0,AV.ptr 0 0 0 0),(5,AV.row 6 v),(14,AV.vec g 3 (List.map Bk.a l)),(15,vi n),(16,vi (wi (i + 1)))],[⟨[zTpM6],5,0,false,false⟩,⟨sm,2,0,false,true⟩,⟨st,2,0,false,true⟩,⟨dp,2,0,false,true⟩,⟨sz,2,0,false,true⟩,⟨dn,2,0,false,true⟩,⟨List.map Bk.a q,3,v,false,true⟩],[(!mapHas m dn) == false,true == true],[],_⟩ (by kernel_rfl) (bc (beq_f (fun h => d5 ((i_not (i_var _)).1 h))) (bc rfl b0)) q0 c0 (by (try rw [w18]);all_goals exact H)
theorem tvXrz (sm st dp sz dn:List AV) (g:Bool) (l:List Bk) (bf:Bool) (y:Bk) (Y:List Bk) (t k n i:Int)  (Q:AV -> Heap -> Prop) (H :
  ((k < t) -> ((Y.length + 1) * 48 <= 1099511627776) /\
   (-9223372036854775808 <= k + 1 /\ k + 1 <= 9223372036854775807) /\
   Wp M1 (.run fi46 (atC (cd Try.f46) [1,1,0,1,0,0,1,1,0,0,1,1,1,1,1,1,1,0,0]) [(0,AV.ptr 0 0 0 0),(5,AV.row 6 0),(12,AV.vec bf 3 (ag [vb y.1,AV.vec y.2 2 (List.map Wo.a y.3),AV.str y.4] :: List.map Bk.a Y)),(14,AV.vec g 3 (List.map Bk.a l)),(15,vi n),(16,vi i),(61,vi t),(62,vi (k + 1))] [{ elems:=[ag [AV.mapr 1,AV.mapr 2,AV.mapr 3,AV.mapr 4,AV.mapr 5]],es:=5,ver:=0,frozen:=false,clean:=false },{ elems:=sm,es:=2,ver:=0,frozen:=false,clean:=true },{ elems:=st,es:=2,ver:=0,frozen:=false,clean:=true },{ elems:=dp,es:=2,ver:=0,frozen:=false,clean:=true },{ elems:=sz,es:=2,ver:=0,frozen:=false,clean:=true },{ elems:=dn,es:=2,ver:=0,frozen:=false,clean:=true },{ elems:=ag [vb y.1,AV.vec y.2 2 (List.map Wo.a y.3),AV.str y.4] :: List.map Bk.a Y,es:=3,ver:=0,frozen:=false,clean:=true }]) Q) /\
  (¬(k < t) -> (-9223372036854775808 <= i + 1 /\ i + 1 <= 9223372036854775807) /\
   tvXaz_at (sm) (st) (dp) (sz) (dn) (g) (l) (n) (i + 1) Q)) :
 tvXrz_at sm st dp sz dn g l bf y Y t k n i Q:=by
 unfold tvXrz_at
 rcases xm (k < t) with d2 | d2
 ·have H:=H.1 d2
  have w3:(List.map Bk.a Y).length = Y.length:=List.length_map ..
  have i4:(decide (((List.map Bk.a Y).length + 1) * 48 <= 1099511627776)) = true ↔ ((Y.length + 1) * 48 <= 1099511627776):=(by (try rw [w3]);all_goals exact i_dec)
  obtain ⟨k5,H⟩:=H
  obtain ⟨k6,H⟩:=H
  have w7:wi (k + 1) = k + 1:=wI64 k6
  exact path_wp (G:=given kp46 [] []) 1000 [true] ⟨(atC (cd Try.f46) [1,1,0,1,0,0,1,1,0,0,1,1,1,1,1,1,1,0,0]),[(0,AV.ptr 0 0 0 0),(5,AV.row 6 0),(12,AV.vec bf 3 (ag [vb y.1,AV.vec y.2 2 (List.map Wo.a y.3),AV.str y.4] :: List.map Bk.a Y)),(14,AV.vec g 3 (List.map Bk.a l)),(15,vi n),(16,vi i),(61,vi t),(62,vi (wi (k + 1)))],[⟨[ag [AV.mapr 1,AV.mapr 2,AV.mapr 3,AV.mapr 4,AV.mapr 5]],5,0,false,false⟩,⟨sm,2,0,false,true⟩,⟨st,2,0,false,true⟩,⟨dp,2,0,false,true⟩,⟨sz,2,0,false,true⟩,⟨dn,2,0,false,true⟩,⟨ag [vb y.1,AV.vec y.2 2 (List.map Wo.a y.3),AV.str y.4] :: List.map Bk.a Y,3,0,false,true⟩],_,[],_⟩ (by kernel_rfl) (bc (beq_t (i_dec.2 d2)) (bc (i4.2 k5) b0)) q0 c0 (by (try rw [w7]);all_goals exact H)
 ·have H:=H.2 d2
  obtain ⟨k8,H⟩:=H
  have w9:wi (i + 1) = i + 1:=wI64 k8
  exact path_wp (G:=given kp46 [] []) 1000 [false] ⟨(atC (cd Try.f46) [1,1,0,1,0,0]),[(0,AV.ptr 0 0 0 0),(5,AV.vnil),(14,AV.vec g 3 (List.map Bk.a l)),(15,vi n),(16,vi (wi (i + 1)))],[⟨[ag [AV.mapr 1,AV.mapr 2,AV.mapr 3,AV.mapr 4,AV.mapr 5]],5,0,false,false⟩,⟨sm,2,0,false,true⟩,⟨st,2,0,false,true⟩,⟨dp,2,0,false,true⟩,⟨sz,2,0,false,true⟩,⟨dn,2,0,false,true⟩],_,[],_⟩ (by kernel_rfl) (bc (beq_f (fun h => d2 (i_dec.1 h))) b0) q0 c0 (by (try rw [w9]);all_goals exact H)
theorem tvXra (sm st dp sz dn:List AV) (g:Bool) (l:List Bk) (q:List Bk) (v:Nat) (bf:Bool) (Y:List Bk) (t k n i:Int)  (Q:AV -> Heap -> Prop) (H :
  ((k < t) -> ((q.length + Y.length) * 48 <= 1099511627776) /\
   (-9223372036854775808 <= k + 1 /\ k + 1 <= 9223372036854775807) /\
   tvXra_at (sm) (st) (dp) (sz) (dn) (g) (l) (q ++ Y) (v + 1) (bf) (Y) (t) (k + 1) (n) (i) Q) /\
  (¬(k < t) -> (-9223372036854775808 <= i + 1 /\ i + 1 <= 9223372036854775807) /\
   tvXaa_at (sm) (st) (dp) (sz) (dn) (g) (l) (q) (v) (n) (i + 1) Q)) :
 tvXra_at sm st dp sz dn g l q v bf Y t k n i Q:=by
 unfold tvXra_at
 rcases xm (k < t) with d2 | d2
 ·have H:=H.1 d2
  have w3:(List.map Bk.a q).length = q.length:=List.length_map ..
  have w4:(List.map Bk.a Y).length = Y.length:=List.length_map ..
  have i5:(decide (((List.map Bk.a q).length + (List.map Bk.a Y).length) * 48 <= 1099511627776)) = true ↔ ((q.length + Y.length) * 48 <= 1099511627776):=(by (try rw [w3]);(try rw [w4]);all_goals exact i_dec)
  obtain ⟨k6,H⟩:=H
  have w7:List.map Bk.a q ++ List.map Bk.a Y = List.map Bk.a (q ++ Y):=(lm_app rfl rfl)
  obtain ⟨k8,H⟩:=H
  have w9:wi (k + 1) = k + 1:=wI64 k8
  exact path_wp (G:=given kp46 [] []) 1000 [true] ⟨(atC (cd Try.f46) [1,1,0,1,0,0,1,1,0,0,1,1,1,1,1,1,1,0,0]),[(0,AV.ptr 0 0 0 0),(5,AV.row 6 (v + 1)),(12,AV.vec bf 3 (List.map Bk.a Y)),(14,AV.vec g 3 (List.map Bk.a l)),(15,vi n),(16,vi i),(61,vi t),(62,vi (wi (k + 1)))],[⟨[ag [AV.mapr 1,AV.mapr 2,AV.mapr 3,AV.mapr 4,AV.mapr 5]],5,0,false,false⟩,⟨sm,2,0,false,true⟩,⟨st,2,0,false,true⟩,⟨dp,2,0,false,true⟩,⟨sz,2,0,false,true⟩,⟨dn,2,0,false,true⟩,⟨List.map Bk.a q ++ List.map Bk.a Y,3,v + 1,false,true⟩],[(decide (k < t)) == true,v == v,decide (((List.map Bk.a q).length + (List.map Bk.a Y).length) * 48 <= 1099511627776)],[],_⟩ (by kernel_rfl) (bc (beq_t (i_dec.2 d2)) (bc (beq_self_eq_true _) (bc (i5.2 k6) b0))) q0 c0 (by (try rw [w7]);(try rw [w9]);all_goals exact H)
 ·have H:=H.2 d2
  obtain ⟨k10,H⟩:=H
  have w11:wi (i + 1) = i + 1:=wI64 k10
  exact path_wp (G:=given kp46 [] []) 1000 [false] ⟨(atC (cd Try.f46) [1,1,0,1,0,0]),[(0,AV.ptr 0 0 0 0),(5,AV.row 6 v),(14,AV.vec g 3 (List.map Bk.a l)),(15,vi n),(16,vi (wi (i + 1)))],[⟨[ag [AV.mapr 1,AV.mapr 2,AV.mapr 3,AV.mapr 4,AV.mapr 5]],5,0,false,false⟩,⟨sm,2,0,false,true⟩,⟨st,2,0,false,true⟩,⟨dp,2,0,false,true⟩,⟨sz,2,0,false,true⟩,⟨dn,2,0,false,true⟩,⟨List.map Bk.a q,3,v,false,true⟩],_,[],_⟩ (by kernel_rfl) (bc (beq_f (fun h => d2 (i_dec.1 h))) b0) q0 c0 (by (try rw [w11]);all_goals exact H)
end Go.Av

namespace Go.Av
open Go.RowKit
theorem wp_narrowZ {M:Mach} {fi:Fi} {k:List Item} {env env':Vars} {L Lc:Heap} {d:AV} {K:Heap} (n:Nat) (rs:List Nat) (hk:frzOk n K = true) (hrs:rs.take n = List.range n) (hn:narrowIn L rs env = some (env',Lc)) (h:Wp M (.run fi k env' Lc) (FrzQ d K)):Wp M (.run fi k env L) (FrzQ d K):=by
 unfold frzOk at hk
 simp only [Bool.and_eq_true,List.all_eq_true,Nat.blt_eq,Nat.beq_eq] at hk
 obtain ⟨k1,k2⟩:=hk
 refine .narrow rs env' Lc hn (.mono h fun v L1 ⟨q1,q2,q3,q4⟩ => ?_)
 unfold narrowIn at hn
 split at hn
 ·rename_i rows0 hrows
  split at hn
  ·rename_i hc
   simp only [Bool.and_eq_true] at hc
   have hnd:=(noDup_iff rs).1 hc.1
   obtain ⟨g1,g2⟩:=getRows_spec hrows
   have hlen:n <= rs.length:=by
    have:=congrArg List.length hrs
    rw [List.length_take,List.length_range] at this;omega
   have hat:∀ i,i < n -> rs[i]? = some i:=fun i hi => by
    have this:(rs.take n)[i]? = (List.range n)[i]?:=by rw [hrs]
    rw [List.getElem?_take_of_lt hi,List.getElem?_range hi] at this
    exact this
   have hlt:∀ (j:Nat) r,rs[j]? = some r -> r < L.length:=fun j r hj => by
    obtain ⟨row,w1,_⟩:=g2 j r hj
    exact (List.getElem?_eq_some_iff.1 w1).1
   have hle:n <= L.length:=by
    by_cases h0:n = 0
    ·omega
    ·have:=hlt (n - 1) _ (hat (n - 1) (by omega));omega
   have hb:∀ r,r < n -> backAt L.length rs r = r:=fun r hr => by
    unfold backAt
    rw [Nat.blt_eq.mpr (show r < rs.length by omega),cond_true,List.getD_eq_getElem?_getD,hat r hr];rfl
   have hbg:∀ r,n <= r -> n <= backAt L.length rs r:=fun r hr => by
    unfold backAt
    by_cases hlt2:r < rs.length
    ·rw [Nat.blt_eq.mpr hlt2,cond_true]
     have hg:rs[r]? = some (rs.getD r 0):=by rw [List.getD_eq_getElem?_getD,List.getElem?_eq_getElem hlt2];rfl
     refine Classical.byContradiction fun y => ?_
     have e1:=posOf_at hnd hg
     have e2:=posOf_at hnd (hat (rs.getD r 0) (by omega))
     omega
    ·have:Nat.blt r rs.length = false:=by
      cases hb:Nat.blt r rs.length with
      | false => rfl
      | true => exact (hlt2 (Nat.blt_eq.mp hb)).elim
     rw [this,cond_false];omega
   obtain ⟨p1,p2⟩:=pureA_ren (back_at (L1:=L1) hrows hnd) v q1
   refine ⟨p1,by rw [p2];exact q2,fun r hr => ?_,?_⟩
   ·rw [rowsA_ren] at hr
    obtain ⟨a,ha,rfl⟩:=List.mem_map.1 hr
    have:=q3 a ha
    rw [k1] at this ⊢
    exact hbg a this
   ·rw [k1] at q4 ⊢
    have hlL1:n <= L1.length:=by
     have:=congrArg List.length q4
     rw [List.length_take,k1] at this;omega
    apply List.ext_getElem?
    intro i
    by_cases hi:i < n
    ·rw [List.getElem?_take_of_lt hi]
     have e1:L1[i]? = K[i]?:=by rw [<- q4,List.getElem?_take_of_lt hi]
     have hKi:i < K.length:=by omega
     rw [List.getElem?_eq_getElem hKi] at e1 ⊢
     have:=back_at (L1:=L1) hrows hnd i _ e1
     rw [hb i hi] at this
     rw [this,renRow_same fun r hr => hb r (k2 _ (List.getElem_mem hKi) r hr)]
    ·rw [List.getElem?_eq_none (by rw [List.length_take];omega),List.getElem?_eq_none (by omega)]
  ·simp at hn
 ·simp at hn
end Go.Av

namespace Go.Av
open Go.Proofs
def DInv (E:Int -> List Bk) (dn:List AV):Prop:=mapKeys .i64 dn = true /\ ∀ n,(mapHas n dn = false -> mapVal (ofC (Value.slice none 0 0)) n dn = .vnil) /\ (mapHas n dn = true -> ∃ bf,mapVal (ofC (Value.slice none 0 0)) n dn = .vec bf 3 ((E n).map Bk.a))
theorem dinv0 (E:Int -> List Bk):DInv E []:=⟨rfl,fun n => ⟨fun _ => rfl,fun h => by cases h⟩⟩
theorem dinv_put {E:Int -> List Bk} {dn:List AV} (h:DInv E dn) (m:Int) (bf:Bool):DInv E (mapPut .i64 m (.vec bf 3 ((E m).map Bk.a)) dn):=by
 obtain ⟨h1,h2⟩:=h
 obtain ⟨a1,a2,a3⟩:=valM_put (n:=m) (v:=.vec bf 3 ((E m).map Bk.a)) h1
 refine ⟨a1,fun n => ⟨fun k => ?_,fun k => ?_⟩⟩
 ·rw [a2,Bool.or_eq_false_iff,decide_eq_false_iff_not] at k
  rw [a3,if_neg k.1];exact (h2 n).1 k.2
 ·rw [a3]
  by_cases e:n = m
  ·rw [if_pos e,e];exact ⟨bf,rfl⟩
  ·rw [if_neg e]
   rw [a2,decide_eq_false e,Bool.false_or] at k
   exact (h2 n).2 k
def ExpE (E:Int -> List Bk) (sm st dp sz:List AV) (bs:Bool) (l:List Bk) (r:List Bk):Prop:=∀ dn,DInv E dn -> ∃ bf dn1,Ev M1 (.own 46 [.ptr 0 0 0 0,.vec bs 3 (l.map Bk.a)] (XH sm st dp sz dn)) (.vec bf 3 (r.map Bk.a)) (XH sm st dp sz dn1) /\ DInv E dn1
theorem expand_in {sm st dp sz dn:List AV} {g bf:Bool} {l Y:List Bk} {n i:Int} {Q:AV -> Heap -> Prop} (hi:-9223372036854775808 <= i + 1 /\ i + 1 <= 9223372036854775807) {t:Nat} (ht:t <= 1000000):∀ (c k:Nat) (q:List Bk) (v:Nat),k + c = t -> q.length + c * Y.length <= 1000000 -> (∀ v,tvXaa_at sm st dp sz dn g l (q ++ Sp.rep c Y) v n (i + 1) Q) -> tvXra_at sm st dp sz dn g l q v bf Y t k n i Q:=by
 intro c
 induction c with
 | zero =>
  intro k q v hk _ h
  rw [rep_zero,List.append_nil] at h
  exact tvXra _ _ _ _ _ _ _ _ _ _ _ _ _ _ _ _ ⟨fun y => by omega,fun _ => ⟨hi,h v⟩⟩
 | succ c ih =>
  intro k q v hk hl h
  rw [rep_succ,<- List.append_assoc] at h
  rw [Nat.succ_mul] at hl
  refine tvXra _ _ _ _ _ _ _ _ _ _ _ _ _ _ _ _ ⟨fun _ => ⟨by omega,by omega,ih (k + 1) (q ++ Y) (v + 1) (by omega) (by rw [List.length_append];omega) h⟩,fun y => by omega⟩
theorem expand_loop {E:Int -> List Bk} {sm st dp sz:List AV} {g:Bool} {l:List Bk} {P:Int -> Prop} (hsm:mapKeys .i64 sm = true) (hl:Sp.okBs l) (hlen:(Sp.xpd E l).length <= 1000000) (hP:∀ x ∈ l,Sp.cIs x.ws = true -> P (Sp.cN x.ws))
  (hrec:∀ m,P m -> (E m).length <= 1000000 -> ∃ bs S,mapVal (ofC (Value.slice none 0 0)) m sm = .vec bs 3 (S.map Bk.a) /\ ExpE E sm st dp sz bs S (E m)) :
  ∀ (c i:Nat) (q:List Bk) (dn:List AV),i + c = l.length -> q ++ Sp.xpd E (l.drop i) = Sp.xpd E l -> DInv E dn ->
  ∃ bf dn1,DInv E dn1 /\ (q = [] -> tvXaz_at sm st dp sz dn g l l.length i (FrzQ (.vec bf 3 ((Sp.xpd E l).map Bk.a)) (XH sm st dp sz dn1))) /\ (q ≠ [] -> ∀ v,tvXaa_at sm st dp sz dn g l q v l.length i (FrzQ (.vec bf 3 ((Sp.xpd E l).map Bk.a)) (XH sm st dp sz dn1))):=by
 have hll:=hl.1
 intro c
 induction c with
 | zero =>
  intro i q dn hi he hD
  rw [List.drop_eq_nil_of_le (by omega),show Sp.xpd E [] = [] from rfl,List.append_nil] at he
  subst he
  cases hx:Sp.xpd E l with
  | nil =>
   refine ⟨true,dn,hD,fun _ => ?_,fun h => (h rfl).elim⟩
   refine wp_vnil (es:=3) hm1 (tvXaz _ _ _ _ _ _ _ _ _ _ ⟨fun h => by omega,fun _ => .inr ⟨rfl,rfl,fun b hb => (by cases hb),fun r hr => (by cases hr),rfl⟩⟩:tvXaz_at sm st dp sz dn g l l.length i _)
  | cons y Y =>
   refine ⟨false,dn,hD,fun h => (by cases h),fun _ v => ?_⟩
   refine tvXaa _ _ _ _ _ _ _ _ _ _ _ _ ⟨fun h => by omega,fun _ => ⟨rfl,fun b hb => ?_,fun r hr => ?_,rfl⟩⟩
   ·rw [List.mem_singleton.1 hb];simp [verOk]
   ·rw [List.mem_singleton.1 hr];exact Nat.le_refl 6
 | succ c ih =>
  intro i q dn hi he hD
  have hx:l.getD i default ∈ l:=getD_mem (by omega)
  have hw:=hl.2 _ hx
  rw [drop_getD (show i < l.length by omega),xpd_cons,<- List.append_assoc] at he
  have htot:=congrArg List.length he
  rw [List.length_append,List.length_append] at htot
  by_cases k:Sp.cIs (l.getD i default).ws = true
  ·rw [if_pos k] at he htot
   have hct:=(cIs_at k).1
   have hpm:=hP _ hx k
   have ht1:1 <= (Sp.cT (l.getD i default).ws).toNat:=by omega
   rw [rep_len] at htot
   have hE:(E (Sp.cN (l.getD i default).ws)).length <= (Sp.cT (l.getD i default).ws).toNat * (E (Sp.cN (l.getD i default).ws)).length:=Nat.le_mul_of_pos_left _ (by omega)
   obtain ⟨bs,S,hv,hrc⟩:=hrec _ hpm (by omega)
   have htc:((Sp.cT (l.getD i default).ws).toNat:Int) = Sp.cT (l.getD i default).ws:=Int.toNat_of_nonneg (by omega)
   have body:∀ dnB bf,DInv E dnB -> ∃ rf dn1,DInv E dn1 /\
     (((E (Sp.cN (l.getD i default).ws)).length:Int) = 0 -> (q = [] -> tvXaz_at sm st dp sz dnB g l l.length (i + 1) (FrzQ (.vec rf 3 ((Sp.xpd E l).map Bk.a)) (XH sm st dp sz dn1))) /\ (q ≠ [] -> ∀ v,tvXaa_at sm st dp sz dnB g l q v l.length (i + 1) (FrzQ (.vec rf 3 ((Sp.xpd E l).map Bk.a)) (XH sm st dp sz dn1)))) /\
     (¬((E (Sp.cN (l.getD i default).ws)).length:Int) = 0 -> (q = [] -> tvXra_at sm st dp sz dnB g l [] 0 bf (E (Sp.cN (l.getD i default).ws)) (Sp.cT (l.getD i default).ws) 0 l.length i (FrzQ (.vec rf 3 ((Sp.xpd E l).map Bk.a)) (XH sm st dp sz dn1)) /\ ∃ y Y,E (Sp.cN (l.getD i default).ws) = y :: Y /\ tvXrz_at sm st dp sz dnB g l bf y Y (Sp.cT (l.getD i default).ws) 0 l.length i (FrzQ (.vec rf 3 ((Sp.xpd E l).map Bk.a)) (XH sm st dp sz dn1))) /\ (q ≠ [] -> ∀ v,tvXra_at sm st dp sz dnB g l q v bf (E (Sp.cN (l.getD i default).ws)) (Sp.cT (l.getD i default).ws) 0 l.length i (FrzQ (.vec rf 3 ((Sp.xpd E l).map Bk.a)) (XH sm st dp sz dn1)))):=by
    intro dnB bf hB
    obtain ⟨rf,dn1,d1,d2,d3⟩:=ih (i + 1) (q ++ Sp.rep (Sp.cT (l.getD i default).ws).toNat (E (Sp.cN (l.getD i default).ws))) dnB (by omega) he hB
    refine ⟨rf,dn1,d1,fun h0 => ?_,fun h0 => ?_⟩
    ·have e0:E (Sp.cN (l.getD i default).ws) = []:=List.eq_nil_of_length_eq_zero (by omega)
     rw [e0,rep_nil,List.append_nil] at d2 d3
     exact ⟨d2,d3⟩
    ·have hne:q ++ Sp.rep (Sp.cT (l.getD i default).ws).toNat (E (Sp.cN (l.getD i default).ws)) ≠ []:=fun e => by
      have:=congrArg List.length e
      rw [List.length_append,rep_len,List.length_nil] at this
      omega
     have d3:=d3 hne
     rw [<- htc]
     refine ⟨fun hq => ?_,fun hq v => ?_⟩
     ·subst hq
      refine ⟨?_,?_⟩
      ·exact expand_in (t:=(Sp.cT (l.getD i default).ws).toNat) (by omega) (by omega) _ 0 [] 0 (by omega) (by rw [List.length_nil];omega) d3
      ·cases hEc:E (Sp.cN (l.getD i default).ws) with
       | nil => rw [hEc] at h0;exact (h0 rfl).elim
       | cons y Y =>
        rw [hEc] at d3 htot
        refine ⟨y,Y,rfl,tvXrz _ _ _ _ _ _ _ _ _ _ _ _ _ _ _ ⟨fun _ => ⟨?_,by omega,?_⟩,fun z => by omega⟩⟩
        ·simp only [List.length_cons] at hE htot;rw [hEc] at hE;simp only [List.length_cons] at hE;omega
        ·obtain ⟨t,ht⟩:∃ t,(Sp.cT (l.getD i default).ws).toNat = t + 1:=⟨(Sp.cT (l.getD i default).ws).toNat - 1,by omega⟩
         rw [ht] at d3 htot
         rw [rep_succ,List.nil_append] at d3
         rw [ht]
         rw [Nat.succ_mul] at htot
         exact expand_in (Y:=y :: Y) (bf:=bf) (t:=t + 1) (by omega) (by omega) t 1 (y :: Y) 0 (by omega) (by omega) d3
     ·exact expand_in (t:=(Sp.cT (l.getD i default).ws).toNat) (by omega) (by omega) _ 0 q v (by omega) (by omega) d3
   have top:∀ {Q:AV × List AV},(q = [] -> tvXkz_at sm st dp sz dn g l (Sp.cN (l.getD i default).ws) (Sp.cT (l.getD i default).ws) l.length i (FrzQ Q.1 (XH sm st dp sz Q.2))) -> (q ≠ [] -> ∀ v,tvXka_at sm st dp sz dn g l q v (Sp.cN (l.getD i default).ws) (Sp.cT (l.getD i default).ws) l.length i (FrzQ Q.1 (XH sm st dp sz Q.2))) ->
     (q = [] -> tvXaz_at sm st dp sz dn g l l.length i (FrzQ Q.1 (XH sm st dp sz Q.2))) /\ (q ≠ [] -> ∀ v,tvXaa_at sm st dp sz dn g l q v l.length i (FrzQ Q.1 (XH sm st dp sz Q.2))):=fun {Q:AV × List AV} hz ha => by
    refine ⟨fun hq => ?_,fun hq v => ?_⟩
    ·refine tvXaz _ _ _ _ _ _ _ _ _ _ ⟨fun _ => ?_,fun h => by omega⟩
     rw [Int.toNat_natCast]
     exact ⟨by omega,by omega,hw,fun y => (y k).elim,fun _ => wp_narrowZ 6 [0,1,2,3,4,5] (by kernel_rfl) rfl (by kernel_rfl) (hz hq)⟩
    ·refine tvXaa _ _ _ _ _ _ _ _ _ _ _ _ ⟨fun _ => ?_,fun h => by omega⟩
     rw [Int.toNat_natCast]
     exact ⟨by omega,by omega,hw,fun y => (y k).elim,fun _ => wp_narrowZ 6 [0,1,2,3,4,5,6] (by kernel_rfl) rfl (by kernel_rfl) (ha hq v)⟩
   cases hh:mapHas (Sp.cN (l.getD i default).ws) dn with
   | true =>
    obtain ⟨bf,hbf⟩:=(hD.2 _).2 hh
    obtain ⟨rf,dn1,d1,d2,d3⟩:=body dn bf hD
    obtain ⟨t1,t2⟩:=top (Q:=(_,dn1)) (fun hq => tvXkz _ _ _ _ _ _ _ _ _ _ _ bf (E (Sp.cN (l.getD i default).ws)) _ ⟨hD.1,hbf,fun y => (y hh).elim,fun _ => ⟨fun z => ⟨by omega,(d2 z).1 hq⟩,fun z => by
      obtain ⟨_,y,Y,e1,e2⟩:=(d3 z).1 hq
      rw [e1];exact e2⟩⟩) (fun hq v => tvXka _ _ _ _ _ _ _ _ _ _ _ _ _ bf (E (Sp.cN (l.getD i default).ws)) _ ⟨hD.1,hbf,fun y => (y hh).elim,fun _ => ⟨fun z => ⟨by omega,(d2 z).2 hq v⟩,fun z => (d3 z).2 hq v⟩⟩)
    exact ⟨rf,dn1,d1,t1,t2⟩
   | false =>
    obtain ⟨bf,dnA,a1,a2⟩:=hrc dn hD
    have hB:=dinv_put a2 (Sp.cN (l.getD i default).ws) bf
    obtain ⟨rf,dn1,d1,d2,d3⟩:=body _ bf hB
    have hnv:=(hD.2 _).1 hh
    obtain ⟨t1,t2⟩:=top (Q:=(_,dn1)) (fun hq => (tvXuz _ _ _ _ _ _ _ _ _ _ _ bs S bf (E (Sp.cN (l.getD i default).ws)) dnA _ ⟨hD.1,hnv,fun _ => ⟨a1,hsm,hv,a2.1,fun z => ⟨by omega,(d2 z).1 hq⟩,fun z => by
      obtain ⟨_,y,Y,e1,e2⟩:=(d3 z).1 hq
      rw [e1] at e2 ⊢;exact e2⟩,fun y => (y (by rw [hh];simp)).elim⟩:tvXuz_at _ _ _ _ _ _ _ _ _ _ _ _)) (fun hq v => (tvXua _ _ _ _ _ _ _ _ _ _ _ _ _ bs S bf (E (Sp.cN (l.getD i default).ws)) dnA _ ⟨hD.1,hnv,fun _ => ⟨a1,hsm,hv,a2.1,fun z => ⟨by omega,(d2 z).2 hq v⟩,fun z => (d3 z).2 hq v⟩,fun y => (y (by rw [hh];simp)).elim⟩:tvXua_at _ _ _ _ _ _ _ _ _ _ _ _ _ _))
    exact ⟨rf,dn1,d1,t1,t2⟩
  ·rw [if_neg k] at he htot
   obtain ⟨rf,dn1,d1,_,d3⟩:=ih (i + 1) (q ++ [l.getD i default]) dn (by omega) he hD
   have d3:=d3 (by simp)
   refine ⟨rf,dn1,d1,fun hq => ?_,fun hq v => ?_⟩
   ·subst hq
    refine tvXaz _ _ _ _ _ _ _ _ _ _ ⟨fun _ => ?_,fun h => by omega⟩
    rw [Int.toNat_natCast]
    exact ⟨by omega,by omega,hw,fun _ => ⟨by omega,wp_narrowZ 6 [0,1,2,3,4,5,7] (by kernel_rfl) rfl (by kernel_rfl) (d3 0)⟩,fun y => (y k).elim⟩
   ·refine tvXaa _ _ _ _ _ _ _ _ _ _ _ _ ⟨fun _ => ?_,fun h => by omega⟩
    rw [Int.toNat_natCast]
    exact ⟨by omega,by omega,hw,fun _ => ⟨by omega,by omega,wp_narrowZ 6 [0,1,2,3,4,5,6] (by kernel_rfl) rfl (by kernel_rfl) (d3 (v + 1))⟩,fun y => (y k).elim⟩
end Go.Av

namespace Go.Av
open Go.Proofs
theorem expand_ev {S:Int -> List Bk} {ns:List Int} {sm st dp sz:List AV} {N:Nat} (hs:MSub S ns sm):∀ (k:Nat) (g:Bool) (l:List Bk),k <= N -> Sp.okBs l -> (∀ x ∈ l,Sp.cIs x.ws = true -> Sp.cN x.ws ∈ ns /\ (Sp.V S k (Sp.cN x.ws)).isSome = true) -> (Sp.xpd (Sp.X S N) l).length <= 1000000 ->
  ExpE (Sp.X S N) sm st dp sz g l (Sp.xpd (Sp.X S N) l):=by
 intro k
 induction k with
 | zero =>
  intro g l hk hl hc hlen dn hD
  obtain ⟨bf,dn1,d1,d2,_⟩:=expand_loop (st:=st) (dp:=dp) (sz:=sz) (g:=g) (P:=fun _ => False) hs.1 hl hlen (fun x hx y => by have:=(hc x hx y).2;simp [Sp.V] at this) (fun m hm => hm.elim) l.length 0 [] dn (by omega) (by rw [List.drop_zero];rfl) hD
  refine ⟨bf,dn1,own_freeze hm1 rfl rfl (owncall46 (tvXp _ _ _ _ _ _ _ _ (d2 rfl))),d1⟩
 | succ k ih =>
  intro g l hk hl hc hlen dn hD
  obtain ⟨bf,dn1,d1,d2,_⟩:=expand_loop (st:=st) (dp:=dp) (sz:=sz) (g:=g) (P:=fun m => m ∈ ns /\ (Sp.V S (k + 1) m).isSome = true) hs.1 hl hlen hc (fun m hm hml => by
   obtain ⟨hb,bs,hv⟩:=hs.2.2.2 m hm.1
   have e:Sp.X S N m = Sp.xpd (Sp.X S N) (S m):=(X_mono1 N m (V_some hm.2 hk)).symm
   refine ⟨bs,S m,hv,?_⟩
   have:=ih bs (S m) (by omega) hb (fun x hx y => ⟨hs.2.2.1 m hm.1 x hx y,V_succ.1 hm.2 x hx y⟩) (by rw [<- e];exact hml)
   rw [e];exact this) l.length 0 [] dn (by omega) (by rw [List.drop_zero];rfl) hD
  refine ⟨bf,dn1,own_freeze hm1 rfl rfl (owncall46 (tvXp _ _ _ _ _ _ _ _ (d2 rfl))),d1⟩
end Go.Av

namespace Go.Av
open Go.Proofs
set_option maxRecDepth 100000
def fi47:Fi:=⟨8,[.tmp 2]⟩
def kp47:List (Nat × List Nat):=[(0,[0]),(1,[0,4]),(2,[2]),(3,[2])]
def tvWe_at (g:Bool) (Q:AV -> Heap -> Prop):Prop:=Wp M1 (.run fi47 (atC (cd Try.f47) []) [(0,.vec g 2 [])] []) Q
def tvWc_at (g:Bool) (y:Wo) (l:List Wo) (Q:AV -> Heap -> Prop):Prop:=Wp M1 (.run fi47 (atC (cd Try.f47) []) [(0,.vec g 2 ((y :: l).map Wo.a))] []) Q
theorem call47 {args:List AV} {d:AV} (h:wc M1 fi47 Try.f47 args d):Ev M1 (.pure 47 args) d []:=pcl _ _ (by kernel_rfl) h
theorem tvWe (g:Bool)  (dq:AV) (H :
  (Weak (AV.vnil) dq) /\
  (Weak (AV.vec true 2 []) dq)) :
 tvWe_at g (PureQ dq):=by
 unfold tvWe_at
 refine path_wp (G:=given kp47 [] []) 4 [] ⟨(atC (cd Try.f47) [1,0,0]),[(0,AV.vec g 2 [])],[],_,[],_⟩ (by kernel_rfl) b0 q0 c0 (wp_nil 1 [0,4] (e1:=[(0,AV.vec g 2 []),(4,vb true)]) (e2:=[(0,AV.vec g 2 []),(4,vb false)]) (L1:=[]) (L2:=[]) (a1:=[]) (a2:=[]) (v1:=[(4,[],vb true),(3,[],AV.vec g 2 []),(0,[],AV.vec g 2 [])]) (v2:=[(4,[],vb false),(3,[],AV.vec g 2 []),(0,[],AV.vec g 2 [])]) (by kernel_rfl) (by kernel_rfl) allB_nil allB_nil (by kernel_rfl) (by kernel_rfl) ?_ ?_)
 ·have H:=H.1
  exact path_rq (G:=given kp47 [] []) 1000 [true] (AV.vnil) (by kernel_rfl) (bc rfl b0) q0 c0 H
 ·have H:=H.2
  exact path_rq (G:=given kp47 [] []) 1000 [false] (AV.vec true 2 []) (by kernel_rfl) (bc rfl b0) q0 c0 H
theorem tvWc (g:Bool) (y:Wo) (l:List Wo)  (dq:AV) (H :
  ((0 + (l.length + 1)) * 16 <= 1099511627776) /\
  Weak (AV.vec false 2 (ag [AV.int IntKind.u8 y.l,vi y.v] :: List.map Wo.a l)) dq) :
 tvWc_at g y l (PureQ dq):=by
 unfold tvWc_at
 have w1:(List.map Wo.a l).length = l.length:=List.length_map ..
 have i2:(decide ((0 + ((List.map Wo.a l).length + 1)) * 16 <= 1099511627776)) = true ↔ ((0 + (l.length + 1)) * 16 <= 1099511627776):=(by (try rw [w1]);all_goals exact i_dec)
 obtain ⟨k3,H⟩:=H
 exact path_ret (G:=given kp47 [] []) 1000 [false] (k:=((atC (cd Try.f47) [1,1,1])).tail) (env':=[(2,AV.row 0 0)]) (L':=[⟨ag [AV.int IntKind.u8 y.l,vi y.v] :: List.map Wo.a l,2,0,false,true⟩]) (asm:=[false == false,decide ((0 + ((List.map Wo.a l).length + 1)) * 16 <= 1099511627776)]) (eqs:=[]) (calls:=[]) (AV.row 0 0) (by kernel_rfl) (by kernel_rfl) (allB_cons rfl (allB_cons (i2.2 k3) allB_nil)) allP_nil allC_nil (pq_weak (d:=(AV.vec false 2 (ag [AV.int IntKind.u8 y.l,vi y.v] :: List.map Wo.a l))) (bs:=[0 == 0]) (by kernel_rfl) (by kernel_rfl) (allB_cons (beq_self_eq_true _) allB_nil) (by kernel_rfl) H)
end Go.Av

namespace Go.Av
open Go.Proofs
theorem ev47 (g:Bool) (l:List Wo) (h:Sp.okW l):Ev M1 (.pure 47 [.vec g 2 (l.map Wo.a)]) (.vec false 2 (l.map Wo.a)) []:=by
 have hl:=h.1
 cases l with
 | nil => exact call47 (tvWe g _ ⟨.vnil 2,.full 2 []⟩)
 | cons y l => exact call47 (tvWc g y l _ ⟨by simp at hl;omega,.refl _⟩)
end Go.Av

namespace Go.Av
open Go.Proofs
set_option maxRecDepth 100000
def fi16:Fi:=⟨38,[.tmp 2,.tmp 3]⟩
def kp16:List (Nat × List Nat):=[(0,[1]),(1,[1,4,6]),(2,[1,4,6,17]),(3,[2,3]),(4,[1,4,7]),(5,[7,22,23,24]),(6,[7,22,23,24,25]),(7,[7,9,22,23,24]),(8,[7,9,22,23,24]),(9,[7,22,23,24]),(10,[7,22,23,24]),(11,[2,3])]
def tvEpT_at (g:Bool) (l:List Bk) (h:Bool) (s:List Sb) (Q:AV -> Heap -> Prop):Prop:=Wp M1 (.run fi16 (atC (cd Try.f16) []) [(0,.agg [.vec g 3 (l.map Bk.a),.vec h 2 (s.map Sb.a)])] []) Q
def tvEpE_at (g:Bool) (l:List Bk) (h:Bool) (s:List Sb) (Q:AV -> Heap -> Prop):Prop:=Wp M1 (.run fi16 (atC (cd Try.f16) []) [(0,.agg [.vec g 3 (l.map Bk.a),.vec h 2 (s.map Sb.a)])] []) Q
def tvEpz_at (bf:Bool) (Y:List Bk) (n i:Int) (Q:AV -> Heap -> Prop):Prop:=Wp M1 (.run fi16 (atC (cd Try.f16) [1,1,1,1,0,1,0,0]) [(7,.vnil),(22,.vec bf 3 (Y.map Bk.a)),(23,.int .i64 n),(24,.int .i64 i)] []) Q
def tvEpa_at (bf:Bool) (Y:List Bk) (n i:Int) (q:List Bk) (v:Nat) (Q:AV -> Heap -> Prop):Prop:=Wp M1 (.run fi16 (atC (cd Try.f16) [1,1,1,1,0,1,0,0]) [(7,.row 0 v),(22,.vec bf 3 (Y.map Bk.a)),(23,.int .i64 n),(24,.int .i64 i)] [⟨q.map Bk.a,3,v,false,true⟩]) Q
theorem call16 {args:List AV} {d:AV} (h:wc M1 fi16 Try.f16 args d):Ev M1 (.pure 16 args) d []:=pcl _ _ (by kernel_rfl) h
noncomputable abbrev zTpO1:=ag [AV.mapr 1,AV.mapr 2,AV.mapr 3,AV.mapr 4,AV.mapr 5]
theorem tvEpT (g:Bool) (l:List Bk) (h:Bool) (s:List Sb) (sm st dp sz:List AV) (z:Int) (bf:Bool) (Y:List Bk) (dn1:List AV) (dq:AV) (H :
  (Ev M1 (Conf.own 45 [ag [AV.vec g 3 (List.map Bk.a l),AV.vec h 2 (List.map Sb.a s)]] []) (tu [AV.ptr 0 0 0 0,vi z,vi 0]) [{ elems:=[ag [AV.mapr 1,AV.mapr 2,AV.mapr 3,AV.mapr 4,AV.mapr 5]],es:=5,ver:=0,frozen:=false,clean:=false },{ elems:=sm,es:=2,ver:=0,frozen:=false,clean:=true },{ elems:=st,es:=2,ver:=0,frozen:=false,clean:=true },{ elems:=dp,es:=2,ver:=0,frozen:=false,clean:=true },{ elems:=sz,es:=2,ver:=0,frozen:=false,clean:=true },{ elems:=[],es:=2,ver:=0,frozen:=false,clean:=true }]) /\
  (Ev M1 (Conf.own 46 [AV.ptr 0 0 0 0,AV.vec g 3 (List.map Bk.a l)] [{ elems:=[ag [AV.mapr 1,AV.mapr 2,AV.mapr 3,AV.mapr 4,AV.mapr 5]],es:=5,ver:=0,frozen:=false,clean:=false },{ elems:=sm,es:=2,ver:=0,frozen:=false,clean:=true },{ elems:=st,es:=2,ver:=0,frozen:=false,clean:=true },{ elems:=dp,es:=2,ver:=0,frozen:=false,clean:=true },{ elems:=sz,es:=2,ver:=0,frozen:=false,clean:=true },{ elems:=[],es:=2,ver:=0,frozen:=false,clean:=true }]) (AV.vec bf 3 (List.map Bk.a Y)) [{ elems:=[ag [AV.mapr 1,AV.mapr 2,AV.mapr 3,AV.mapr 4,AV.mapr 5]],es:=5,ver:=0,frozen:=false,clean:=false },{ elems:=sm,es:=2,ver:=0,frozen:=false,clean:=true },{ elems:=st,es:=2,ver:=0,frozen:=false,clean:=true },{ elems:=dp,es:=2,ver:=0,frozen:=false,clean:=true },{ elems:=sz,es:=2,ver:=0,frozen:=false,clean:=true },{ elems:=dn1,es:=2,ver:=0,frozen:=false,clean:=true }]) /\
  tvEpz_at (bf) (Y) ((↑Y.length:Int)) (0) (PureQ dq)) :
 tvEpT_at g l h s (PureQ dq):=by
 unfold tvEpT_at
 obtain ⟨k1,H⟩:=H
 obtain ⟨k2,H⟩:=H
 have w3:(List.map Bk.a Y).length = Y.length:=List.length_map ..
 exact path_wp (G:=given kp16 [(1,1,(.call (.tup [.ptr 0 0 0 0,.int .i64 z,.int .i64 0]) (some [⟨[.agg [.mapr 1,.mapr 2,.mapr 3,.mapr 4,.mapr 5]],5,0,false,false⟩,⟨sm,2,0,false,true⟩,⟨st,2,0,false,true⟩,⟨dp,2,0,false,true⟩,⟨sz,2,0,false,true⟩,⟨[],2,0,false,true⟩]):Ans)),(5,3,(.call (.vec bf 3 (Y.map Bk.a)) (some [⟨[.agg [.mapr 1,.mapr 2,.mapr 3,.mapr 4,.mapr 5]],5,0,false,false⟩,⟨sm,2,0,false,true⟩,⟨st,2,0,false,true⟩,⟨dp,2,0,false,true⟩,⟨sz,2,0,false,true⟩,⟨dn1,2,0,false,true⟩]):Ans))] []) 1000 [false] ⟨(atC (cd Try.f16) [1,1,1,1,0,1,0,0]),[(7,AV.vnil),(22,AV.vec bf 3 (List.map Bk.a Y)),(23,vi (↑(List.map Bk.a Y).length:Int)),(24,vi 0)],[⟨[ag [AV.vec g 3 (List.map Bk.a l),AV.vec h 2 (List.map Sb.a s)]],2,0,false,false⟩,⟨[ag [AV.mapr 2,AV.mapr 3,AV.mapr 4,AV.mapr 5,AV.mapr 6]],5,0,false,false⟩,⟨sm,2,0,false,true⟩,⟨st,2,0,false,true⟩,⟨dp,2,0,false,true⟩,⟨sz,2,0,false,true⟩,⟨dn1,2,0,false,true⟩],_,[],[⟨true,true,45,[ag [AV.vec g 3 (List.map Bk.a l),AV.vec h 2 (List.map Sb.a s)]],[],tu [AV.ptr 0 0 0 0,vi z,vi 0],[⟨[zTpO1],5,0,false,false⟩,⟨sm,2,0,false,true⟩,⟨st,2,0,false,true⟩,⟨dp,2,0,false,true⟩,⟨sz,2,0,false,true⟩,⟨[],2,0,false,true⟩]⟩,⟨true,true,46,[AV.ptr 0 0 0 0,AV.vec g 3 (List.map Bk.a l)],[⟨[zTpO1],5,0,false,false⟩,⟨sm,2,0,false,true⟩,⟨st,2,0,false,true⟩,⟨dp,2,0,false,true⟩,⟨sz,2,0,false,true⟩,⟨[],2,0,false,true⟩],AV.vec bf 3 (List.map Bk.a Y),[⟨[zTpO1],5,0,false,false⟩,⟨sm,2,0,false,true⟩,⟨st,2,0,false,true⟩,⟨dp,2,0,false,true⟩,⟨sz,2,0,false,true⟩,⟨dn1,2,0,false,true⟩]⟩]⟩ (by kernel_rfl) (bc rfl (bc rfl (bc rfl b0))) q0 (cc (fun _ => k1) (cc (fun _ => k2) c0)) (by (try rw [w3]);all_goals exact wp_narrow [] (by kernel_rfl) H)
theorem tvEpE (g:Bool) (l:List Bk) (h:Bool) (s:List Sb) (z e:Int) (dq:AV) (H :
  (Ev M1 (Conf.own 45 [ag [AV.vec g 3 (List.map Bk.a l),AV.vec h 2 (List.map Sb.a s)]] []) (tu [AV.nilp,vi z,vi e]) []) /\
  ((¬e = 0) -> Weak (tu [AV.vnil,vi e]) dq) /\
  (¬(¬e = 0) -> False)) :
 tvEpE_at g l h s (PureQ dq):=by
 unfold tvEpE_at
 obtain ⟨k1,H⟩:=H
 refine path_wp (G:=given kp16 [(1,1,(.call (.tup [.nilp,.int .i64 z,.int .i64 e]) none:Ans))] []) 7 [] ⟨(atC (cd Try.f16) [1,1,0,1]),[(1,AV.ptr 0 0 0 0),(4,AV.nilp),(6,vi e),(17,vb (e != 0))],[⟨[ag [AV.vec g 3 (List.map Bk.a l),AV.vec h 2 (List.map Sb.a s)]],2,0,false,false⟩],_,[],[⟨true,true,45,[ag [AV.vec g 3 (List.map Bk.a l),AV.vec h 2 (List.map Sb.a s)]],[],tu [AV.nilp,vi z,vi e],[]⟩]⟩ (by kernel_rfl) (bc rfl b0) q0 (cc (fun _ => k1) c0) ?_
 rcases xm (¬e = 0) with d3 | d3
 ·have H:=H.1 d3
  exact path_rq (G:=given kp16 [] []) 1000 [true] (tu [AV.vnil,vi e]) (by kernel_rfl) (bc (beq_t (i_ne.2 d3)) b0) q0 c0 H
 ·have H:=H.2 d3
  exact False.elim H
theorem tvEpz (bf:Bool) (Y:List Bk) (n i:Int)  (dq:AV) (H :
  ((i < n) -> (0 <= i) /\
   (i.toNat < Y.length) /\
   (Sp.okW (Y.getD i.toNat default).3) /\
   (-9223372036854775808 <= i + 1 /\ i + 1 <= 9223372036854775807) /\
   tvEpa_at (bf) (Y) (n) (i + 1) ([{ sk:=(Y.getD i.toNat default).1,f:=false,ws:=(Y.getD i.toNat default).3,cm:=(Y.getD i.toNat default).4 }]) (0) (PureQ dq)) /\
  (¬(i < n) -> Weak (tu [AV.vnil,vi 0]) dq)) :
 tvEpz_at bf Y n i (PureQ dq):=by
 unfold tvEpz_at
 rcases xm (i < n) with d2 | d2
 ·have H:=H.1 d2
  obtain ⟨k4,H⟩:=H
  have w5:(List.map Bk.a Y).length = Y.length:=List.length_map ..
  have i6:(decide (i.toNat < (List.map Bk.a Y).length)) = true ↔ (i.toNat < Y.length):=(by (try rw [w5]);all_goals exact i_dec)
  obtain ⟨k7,H⟩:=H
  obtain ⟨k8,H⟩:=H
  obtain ⟨k9,H⟩:=H
  have w10:wi (i + 1) = i + 1:=wI64 k9
  have w11:[ag [vb (Y.getD i.toNat default).1,AV.vec false 2 (List.map Wo.a (Y.getD i.toNat default).3),AV.str (Y.getD i.toNat default).4]] = List.map Bk.a [{ sk:=(Y.getD i.toNat default).1,f:=false,ws:=(Y.getD i.toNat default).3,cm:=(Y.getD i.toNat default).4 }]:=rfl
  exact path_wp (G:=given kp16 [(7,1,.elem (ag [vb (Y.getD i.toNat default).1,AV.vec (Y.getD i.toNat default).2 2 (List.map Wo.a (Y.getD i.toNat default).3),AV.str (Y.getD i.toNat default).4])),(8,2,.call (AV.vec false 2 (List.map Wo.a (Y.getD i.toNat default).3)) none)] []) 1000 [true] ⟨(atC (cd Try.f16) [1,1,1,1,0,1,0,0]),[(7,AV.row 1 0),(22,AV.vec bf 3 (List.map Bk.a Y)),(23,vi n),(24,vi (wi (i + 1)))],[⟨[ag [vb (Y.getD i.toNat default).1,AV.vec false 2 (List.map Wo.a (Y.getD i.toNat default).3),AV.str (Y.getD i.toNat default).4]],3,0,false,false⟩,⟨[ag [vb (Y.getD i.toNat default).1,AV.vec false 2 (List.map Wo.a (Y.getD i.toNat default).3),AV.str (Y.getD i.toNat default).4]],3,0,false,true⟩],_,[((List.map Bk.a Y).get?Internal i.toNat = some (ag [vb (Y.getD i.toNat default).1,AV.vec (Y.getD i.toNat default).2 2 (List.map Wo.a (Y.getD i.toNat default).3),AV.str (Y.getD i.toNat default).4]))],_⟩ (by kernel_rfl) (bc (beq_t (i_dec.2 d2)) (bc (i_dec.2 k4) (bc (i6.2 k7) (bc rfl (bc rfl (bc rfl (bc rfl (bc rfl b0)))))))) (qc (el_map k7) q0) (ce (@ev47 ((Y.getD i.toNat default).2) ((Y.getD i.toNat default).3) k8) c0) (by (try rw [w10]);(try rw [w11]);all_goals exact wp_narrow [1] (by kernel_rfl) H)
 ·have H:=H.2 d2
  exact path_rq (G:=given kp16 [] []) 1000 [false] (tu [AV.vnil,vi 0]) (by kernel_rfl) (bc (beq_f (fun h => d2 (i_dec.1 h))) b0) q0 c0 H
theorem tvEpa (bf:Bool) (Y:List Bk) (n i:Int) (q:List Bk) (v:Nat)  (dq:AV) (H :
  ((i < n) -> (0 <= i) /\
   (i.toNat < Y.length) /\
   (Sp.okW (Y.getD i.toNat default).3) /\
   ((q.length + 1) * 48 <= 1099511627776) /\
   (-9223372036854775808 <= i + 1 /\ i + 1 <= 9223372036854775807) /\
   tvEpa_at (bf) (Y) (n) (i + 1) (q ++ [{ sk:=(Y.getD i.toNat default).1,f:=false,ws:=(Y.getD i.toNat default).3,cm:=(Y.getD i.toNat default).4 }]) (v + 1) (PureQ dq)) /\
  (¬(i < n) -> Weak (tu [AV.vec false 3 (List.map Bk.a q),vi 0]) dq)) :
 tvEpa_at bf Y n i q v (PureQ dq):=by
 unfold tvEpa_at
 rcases xm (i < n) with d2 | d2
 ·have H:=H.1 d2
  obtain ⟨k4,H⟩:=H
  have w5:(List.map Bk.a Y).length = Y.length:=List.length_map ..
  have i6:(decide (i.toNat < (List.map Bk.a Y).length)) = true ↔ (i.toNat < Y.length):=(by (try rw [w5]);all_goals exact i_dec)
  obtain ⟨k7,H⟩:=H
  obtain ⟨k8,H⟩:=H
  have w9:(List.map Bk.a q).length = q.length:=List.length_map ..
  have i10:(decide (((List.map Bk.a q).length + 1) * 48 <= 1099511627776)) = true ↔ ((q.length + 1) * 48 <= 1099511627776):=(by (try rw [w9]);all_goals exact i_dec)
  obtain ⟨k11,H⟩:=H
  have w12:List.map Bk.a q ++ [ag [vb (Y.getD i.toNat default).1,AV.vec false 2 (List.map Wo.a (Y.getD i.toNat default).3),AV.str (Y.getD i.toNat default).4]] = List.map Bk.a (q ++ [{ sk:=(Y.getD i.toNat default).1,f:=false,ws:=(Y.getD i.toNat default).3,cm:=(Y.getD i.toNat default).4 }]):=(lm_app rfl rfl)
  obtain ⟨k13,H⟩:=H
  have w14:wi (i + 1) = i + 1:=wI64 k13
  exact path_wp (G:=given kp16 [(7,1,.elem (ag [vb (Y.getD i.toNat default).1,AV.vec (Y.getD i.toNat default).2 2 (List.map Wo.a (Y.getD i.toNat default).3),AV.str (Y.getD i.toNat default).4])),(8,2,.call (AV.vec false 2 (List.map Wo.a (Y.getD i.toNat default).3)) none)] []) 1000 [true] ⟨(atC (cd Try.f16) [1,1,1,1,0,1,0,0]),[(7,AV.row 0 (v + 1)),(22,AV.vec bf 3 (List.map Bk.a Y)),(23,vi n),(24,vi (wi (i + 1)))],[⟨List.map Bk.a q ++ [ag [vb (Y.getD i.toNat default).1,AV.vec false 2 (List.map Wo.a (Y.getD i.toNat default).3),AV.str (Y.getD i.toNat default).4]],3,v + 1,false,true⟩,⟨[ag [vb (Y.getD i.toNat default).1,AV.vec false 2 (List.map Wo.a (Y.getD i.toNat default).3),AV.str (Y.getD i.toNat default).4]],3,0,false,false⟩],[(decide (i < n)) == true,decide (0 <= i),decide (i.toNat < (List.map Bk.a Y).length),true,true,true,true,v == v,decide (((List.map Bk.a q).length + 1) * 48 <= 1099511627776)],[((List.map Bk.a Y).get?Internal i.toNat = some (ag [vb (Y.getD i.toNat default).1,AV.vec (Y.getD i.toNat default).2 2 (List.map Wo.a (Y.getD i.toNat default).3),AV.str (Y.getD i.toNat default).4]))],_⟩ (by kernel_rfl) (bc (beq_t (i_dec.2 d2)) (bc (i_dec.2 k4) (bc (i6.2 k7) (bc rfl (bc rfl (bc rfl (bc rfl (bc (beq_self_eq_true _) (bc (i10.2 k11) b0))))))))) (qc (el_map k7) q0) (ce (@ev47 ((Y.getD i.toNat default).2) ((Y.getD i.toNat default).3) k8) c0) (by (try rw [w12]);(try rw [w14]);all_goals exact wp_narrow [0] (by kernel_rfl) H)
 ·have H:=H.2 d2
  exact path_ret (G:=given kp16 [] []) 1000 [false] (k:=((atC (cd Try.f16) [1,1,1,1,1,1])).tail) (env':=[(2,AV.row 0 v),(3,vi 0)]) (L':=[⟨List.map Bk.a q,3,v,false,true⟩]) (asm:=[(decide (i < n)) == false]) (eqs:=[]) (calls:=[]) (tu [AV.row 0 v,vi 0]) (by kernel_rfl) (by kernel_rfl) (allB_cons (beq_f (fun h => d2 (i_dec.1 h))) allB_nil) allP_nil allC_nil (pq_weak (d:=(tu [AV.vec false 3 (List.map Bk.a q),vi 0])) (bs:=[v == v]) (by kernel_rfl) (by kernel_rfl) (allB_cons (beq_self_eq_true _) allB_nil) (by kernel_rfl) H)
end Go.Av

namespace Go.Av
open Go.Proofs
namespace Sp
def cl (b:Bk):Bk:=⟨b.sk,false,b.ws,b.cm⟩
def exq (l:List Bk) (s:List Sb):List Bk × Int:=if (siz l s).2 = 0 then ((XM l s).map cl,0) else ([],(siz l s).2)
end Sp
theorem rep_mem {t:Nat} {Y:List Bk} {b:Bk} (h:b ∈ Sp.rep t Y):b ∈ Y:=by
 unfold Sp.rep at h
 obtain ⟨l,h1,h2⟩:=List.mem_flatten.1 h
 rw [List.eq_of_mem_replicate h1] at h2;exact h2
theorem xpd_mem {E:Int -> List Bk} {l:List Bk} {b:Bk} (h:b ∈ Sp.xpd E l):(b ∈ l /\ Sp.cIs b.ws = false) \/ ∃ m,b ∈ E m:=by
 unfold Sp.xpd at h
 obtain ⟨x,h1,h2⟩:=List.mem_flatMap.1 h
 split at h2
 ·exact .inr ⟨_,rep_mem h2⟩
 ·rename_i k
  rw [List.mem_singleton] at h2;subst h2
  exact .inl ⟨h1,Bool.eq_false_iff.2 k⟩
theorem X_mem {S:Int -> List Bk} {b:Bk}:∀ {k:Nat} {n:Int},b ∈ Sp.X S k n -> Sp.cIs b.ws = false /\ ∃ m,b ∈ S m
 | 0,n,h => by cases h
 | k + 1,n,h => by
  rw [Sp.X] at h
  rcases xpd_mem h with ⟨h1,h2⟩ | ⟨m,h1⟩
  ·exact ⟨h2,n,h1⟩
  ·exact X_mem h1
theorem bod_mem {b:Bk} {m:Int}:∀ {s:List Sb} {a:List Bk},b ∈ s.foldl (Sp.bodS m) a -> b ∈ a \/ ∃ x ∈ s,b ∈ x.bl
 | [],_,h => .inl h
 | x :: s,a,h => by
  rcases bod_mem (s:=s) (a:=Sp.bodS m a x) h with h | ⟨y,h1,h2⟩
  ·unfold Sp.bodS at h
   split at h
   ·exact .inr ⟨x,by simp,h⟩
   ·exact .inl h
  ·exact .inr ⟨y,List.mem_cons_of_mem _ h1,h2⟩
theorem XM_mem {l:List Bk} {s:List Sb} {b:Bk} (h:b ∈ Sp.XM l s):Sp.cIs b.ws = false /\ b ∈ Sp.blks l s:=by
 unfold Sp.blks
 rw [List.mem_append,List.mem_flatMap]
 rcases xpd_mem h with ⟨h1,h2⟩ | ⟨m,h1⟩
 ·exact ⟨h2,.inl h1⟩
 ·obtain ⟨h2,n,h3⟩:=X_mem h1
  refine ⟨h2,.inr ?_⟩
  rcases bod_mem h3 with h3 | ⟨x,h3,h4⟩
  ·cases h3
  ·exact ⟨x,h3,h4⟩
theorem tvEpa_loop {bf:Bool} {Y:List Bk} {dq:AV} (hY:∀ b ∈ Y,Sp.okW b.ws) (hl:Y.length <= 1000000) (hq:.tup [bsA false (Y.map Sp.cl),.int .i64 0] = dq):∀ (c i:Nat) (q:List Bk) (v:Nat),i + c = Y.length -> q = (Y.take i).map Sp.cl -> tvEpa_at bf Y Y.length i q v (PureQ dq):=by
 intro c
 induction c with
 | zero =>
  intro i q v hi he
  rw [List.take_of_length_le (by omega)] at he
  refine tvEpa _ _ _ _ _ _ _ ⟨fun h => by omega,fun _ => ?_⟩
  rw [he,<- hq];exact .refl _
 | succ c ih =>
  intro i q v hi he
  have hw:=hY _ (getD_mem (show i < Y.length by omega))
  have hql:q.length = i:=by rw [he,List.length_map,List.length_take];omega
  refine tvEpa _ _ _ _ _ _ _ ⟨fun _ => ?_,fun h => by omega⟩
  rw [Int.toNat_natCast]
  refine ⟨by omega,by omega,hw,by omega,by omega,ih (i + 1) _ _ (by omega) ?_⟩
  rw [List.take_succ_eq_append_getElem (show i < Y.length by omega),List.map_append,<- he,List.getD_eq_getElem?_getD,List.getElem?_eq_getElem (show i < Y.length by omega)];rfl
theorem ev16 (g:Bool) (l:List Bk) (h:Bool) (s:List Sb) (hok:Sp.okN l s):Ev M1 (.pure 16 [.agg [bsA g l,.vec h 2 (s.map Sb.a)]]) (.tup [.vec false 3 ((Sp.exq l s).1.map Bk.a),.int .i64 (Sp.exq l s).2]) []:=by
 by_cases he:(Sp.siz l s).2 = 0
 ·obtain ⟨st,dp,sz,e⟩:=chkd_ok (g:=g) (h:=h) hok he
  obtain ⟨hlen1,hlen⟩:=siz_len he
  obtain ⟨h0,_⟩:=siz_ok he
  obtain ⟨a1,a2,a3,a4⟩:=xe_ok h0
  have hm:=sub_all hok.2.2.1 hok.2.1 (prpB_rep a1) a3
  obtain ⟨bf,dn1,b1,_⟩:=expand_ev (st:=st) (dp:=dp) (sz:=sz) (N:=s.length) hm s.length g l (Nat.le_refl _) hok.1 (main_V h0) (show (Sp.XM l s).length <= 1000000 by omega) [] (dinv0 _)
  have hx:Sp.exq l s = ((Sp.XM l s).map Sp.cl,0):=by unfold Sp.exq;rw [if_pos he]
  rw [hx]
  have hY:∀ b ∈ Sp.XM l s,Sp.okW b.ws:=fun b hb => hok.2.2.2.2 b (XM_mem hb).2
  refine call16 (tvEpT _ _ _ _ _ st dp sz (Sp.siz l s).1 bf (Sp.XM l s) dn1 _ ⟨e,b1,?_⟩)
  cases hXM:Sp.XM l s with
  | nil => exact tvEpz _ _ _ _ _ ⟨fun h => by simp at h,fun _ => weak_tup2' (.vnil 3)⟩
  | cons y Y =>
   rw [<- hXM]
   have h0:0 < (Sp.XM l s).length:=by rw [hXM];simp
   have hw:=hY _ (getD_mem h0)
   refine tvEpz _ _ _ _ _ ⟨fun _ => ⟨by omega,h0,hw,by omega,?_⟩,fun z => by omega⟩
   refine tvEpa_loop hY (by omega) rfl ((Sp.XM l s).length - 1) 1 _ 0 (by omega) ?_
   rw [hXM];rfl
 ·have hx:Sp.exq l s = ([],(Sp.siz l s).2):=by unfold Sp.exq;rw [if_neg he]
  rw [hx]
  exact call16 (tvEpE _ _ _ _ _ _ _ ⟨chkd_err hok fun e => he (by rw [e]),fun _ => weak_tup2' (.vnil 3),fun y => (y he).elim⟩)
end Go.Av

namespace Go.Av
open Go.Proofs
set_option maxRecDepth 100000
end Go.Av

namespace Go.Av
open Go.Proofs
theorem ordB_snoc {Z:List Bk} {e:Bk} {s:List Sb}:Sp.ordB (Z ++ [e]) s = true ↔ (Sp.endB e.ws = true /\ Sp.letB e.ws 79 = false /\ Sp.backB e.ws = false) /\ (∀ b ∈ Z,Sp.mkB b.ws = false) /\ ∀ x ∈ s,Sp.sMk x = false:=by
 have h1:Sp.lastB (Z ++ [e]) = e:=by
  unfold Sp.lastB
  rw [List.length_append,List.length_singleton,Nat.add_sub_cancel,List.getD_eq_getElem?_getD,List.getElem?_append_right (by omega),Nat.sub_self];rfl
 have h2:(Z ++ [e]).take ((Z ++ [e]).length - 1) = Z:=by
  rw [List.length_append,List.length_singleton,Nat.add_sub_cancel,List.take_left'];rfl
 unfold Sp.ordB
 rw [h1,h2,decide_eq_true (show 0 < (Z ++ [e]).length by simp),Bool.true_and]
 simp only [Bool.and_eq_true,Bool.not_eq_true',Sp.anyP,List.any_eq_false]
 constructor
 ·rintro ⟨a,b,c,d,f⟩
  exact ⟨⟨a,b,c⟩,fun x hx => Bool.eq_false_iff.2 (d x hx),fun x hx => Bool.eq_false_iff.2 (f x hx)⟩
 ·rintro ⟨⟨a,b,c⟩,d,f⟩
  exact ⟨a,b,c,fun x hx => by have:=d x hx;unfold Sp.pMk;rw [this];simp,fun x hx => by rw [f x hx];simp⟩
end Go.Av

namespace Go.Av
open Go.Proofs
def Sp.pc (l:List Bk) (i n:Nat):List Bk:=(l.take (i + n)).drop i
end Go.Av

namespace Go.Av
open Go.Proofs
theorem okN_of {l:List Bk} {s:List Sb} (h1:Sp.okBs l) (h2:∀ x ∈ s,Sp.okBs x.bl /\ x.bl.length <= 1000) (h3:s.length <= 100) (h4:l.length <= 1000):Sp.okN l s:=
 ⟨h1,⟨by omega,fun x hx => (h2 x hx).1⟩,by omega,blks_ok ⟨h1,h3,h4,h2⟩⟩
end Go.Av

namespace Go.Av
open Go.Proofs
end Go.Av

namespace Go.Av
open Go.Proofs
end Go.Av

namespace Go.Av
open Go.Proofs
set_option maxRecDepth 100000
end Go.Av

namespace Go.Av
open Go.Proofs
end Go.Av

namespace Go.Av
open Go.Proofs
end Go.Av

namespace Go.Av
open Go.Proofs
namespace Sp
def callL (n c:Int):Bk:=⟨false,true,[⟨77,98000⟩,⟨80,1000 * n⟩,⟨76,1000 * c⟩],[]⟩
def feedB (n:Int):Bk:=⟨false,true,[⟨71,1000⟩,⟨88,1000 * n⟩],[]⟩
def endL:Bk:=⟨false,true,[⟨77,30000⟩],[]⟩
def nb (d c:Int) (bk:Bool) (i:Int):List Bk:=if i < d then [callL (i + 1) c] else if bk = true then [feedB i,callL 1 c] else [feedB i]
def nf (d:Int) (bk:Bool) (i:Int):Bool:=if i < d then true else !bk
def nest (d c:Int) (bk:Bool) (k:Nat):List Sb:=(List.range k).map fun (j:Nat) => ⟨(j:Int) + 1,nf d bk ((j:Int) + 1),nb d c bk ((j:Int) + 1)⟩
end Sp
theorem callL_at {n c:Int} (hn:1 <= n /\ n <= 9999) (hc:1 <= c /\ c <= 9999):Sp.cIs (Sp.callL n c).ws = true /\ Sp.cN (Sp.callL n c).ws = n /\ Sp.cT (Sp.callL n c).ws = c /\ Sp.cE (Sp.callL n c).ws = 0 /\ Sp.mkB (Sp.callL n c).ws = false:=by
 have c1:Sp.codes (Sp.callL n c).ws 77 = [98000]:=rfl
 have c2:Sp.codes (Sp.callL n c).ws 80 = [1000 * n]:=rfl
 have c3:Sp.codes (Sp.callL n c).ws 76 = [1000 * c]:=rfl
 have c4:Sp.codes (Sp.callL n c).ws 78 = []:=rfl
 have c5:Sp.codes (Sp.callL n c).ws 79 = []:=rfl
 have wV:∀ m:Int,Sp.whV (1000 * m) = m:=fun m => Int.mul_tdiv_cancel_left m (by omega)
 have wB:∀ m:Int,1 <= m /\ m <= 9999 -> Sp.whB (1000 * m) = true:=fun m hm => by
  unfold Sp.whB
  exact decide_eq_true ⟨Int.mul_tmod_right 1000 m,by rw [show (1000 * m).tdiv 1000 = m from wV m];omega⟩
 have ok:Sp.okC (Sp.callL n c).ws = true:=by
  unfold Sp.okC Sp.cnt
  rw [c1,c2,c3,c4]
  have e1:Sp.okL ⟨77,98000⟩ = true:=rfl
  have e2:Sp.okL ⟨80,1000 * n⟩ = true:=by unfold Sp.okL;rw [if_pos (.inl rfl)];exact wB n hn
  have e3:Sp.okL ⟨76,1000 * c⟩ = true:=by unfold Sp.okL;rw [if_pos (.inr rfl)];exact wB c hc
  show ([⟨77,98000⟩,⟨80,1000 * n⟩,⟨76,1000 * c⟩].all Sp.okL && _) = true
  rw [List.all_cons,List.all_cons,List.all_cons,e1,e2,e3]
  rfl
 have hw:Sp.hasW (Sp.callL n c).ws 77 98000 = true:=by unfold Sp.hasW;rw [c1];rfl
 have is:Sp.cIs (Sp.callL n c).ws = true:=by unfold Sp.cIs;rw [hw,ok];rfl
 refine ⟨is,?_,?_,?_,?_⟩
 ·unfold Sp.cN Sp.lp;rw [if_pos is,c2];exact wV n
 ·unfold Sp.cT Sp.lt;rw [if_pos is,c3];exact wV c
 ·unfold Sp.cE;rw [hw,ok];rfl
 ·unfold Sp.mkB Sp.letB Sp.endB Sp.backB Sp.hasW;rw [c1,c5];rfl
theorem feedB_at (n:Int):Sp.cIs (Sp.feedB n).ws = false /\ Sp.cE (Sp.feedB n).ws = 0 /\ Sp.mkB (Sp.feedB n).ws = false:=by
 have c1:Sp.codes (Sp.feedB n).ws 77 = []:=rfl
 have c5:Sp.codes (Sp.feedB n).ws 79 = []:=rfl
 have hw:Sp.hasW (Sp.feedB n).ws 77 98000 = false:=by unfold Sp.hasW;rw [c1];rfl
 refine ⟨?_,?_,?_⟩
 ·unfold Sp.cIs;rw [hw];rfl
 ·unfold Sp.cE;rw [hw];rfl
 ·unfold Sp.mkB Sp.letB Sp.endB Sp.backB Sp.hasW;rw [c1,c5];rfl
theorem endL_at:Sp.cIs Sp.endL.ws = false /\ Sp.cE Sp.endL.ws = 0 /\ Sp.endB Sp.endL.ws = true /\ Sp.letB Sp.endL.ws 79 = false /\ Sp.backB Sp.endL.ws = false:=⟨rfl,rfl,rfl,rfl,rfl⟩
def neOK (d c:Int):Prop:=(1 <= d /\ d <= 12) /\ 1 <= c /\ c <= 3
theorem nest_len (d c:Int) (bk:Bool) (k:Nat):(Sp.nest d c bk k).length = k:=by unfold Sp.nest;simp
theorem nest_mem {d c:Int} {bk:Bool} {k:Nat} {x:Sb} (h:x ∈ Sp.nest d c bk k):∃ i:Int,(1 <= i /\ i <= k) /\ x = ⟨i,Sp.nf d bk i,Sp.nb d c bk i⟩:=by
 unfold Sp.nest at h
 obtain ⟨j,hj,rfl⟩:=List.mem_map.1 h
 rw [List.mem_range] at hj
 exact ⟨(j:Int) + 1,by omega,rfl⟩
theorem nest_in {d c:Int} {bk:Bool} {k:Nat} {i:Int} (h:1 <= i /\ i <= k):(⟨i,Sp.nf d bk i,Sp.nb d c bk i⟩:Sb) ∈ Sp.nest d c bk k:=by
 unfold Sp.nest
 refine List.mem_map.2 ⟨(i - 1).toNat,by rw [List.mem_range];omega,?_⟩
 have e:(((i - 1).toNat:Nat):Int) + 1 = i:=by omega
 rw [e]
theorem nest_rep (d c:Int) (bk:Bool) (k:Nat):Sp.repB (Sp.nest d c bk k) = false:=by
 unfold Sp.repB
 rw [List.any_eq_false]
 intro i hi
 rw [List.mem_range'_1,nest_len] at hi
 unfold Sp.anyP
 rw [Bool.not_eq_true,List.any_eq_false]
 intro x hx
 have hg:∀ j,j < k -> (Sp.nest d c bk k)[j]? = some ⟨(j:Int) + 1,Sp.nf d bk ((j:Int) + 1),Sp.nb d c bk ((j:Int) + 1)⟩:=fun j hj => by
  unfold Sp.nest
  rw [List.getElem?_map,List.getElem?_range hj];rfl
 obtain ⟨j,hj⟩:=List.getElem?_of_mem hx
 have hjl:=(List.getElem?_eq_some_iff.1 hj).1
 rw [List.length_take,nest_len] at hjl
 rw [List.getElem?_take_of_lt (by omega),hg j (by omega)] at hj
 rw [List.getD_eq_getElem?_getD,hg i (by omega),<- Option.some.inj hj]
 unfold Sp.sIs Sp.eqI
 simp
 omega
theorem nest_bod {d c:Int} {bk:Bool} {k:Nat} {i:Int} (h:1 <= i /\ i <= k):Sp.bod (Sp.nest d c bk k) i = Sp.nb d c bk i:=bod_at (nest_rep d c bk k) (nest_in (d:=d) (c:=c) (bk:=bk) h)
theorem nb_mem {d c:Int} {bk:Bool} {i:Int} (hdc:neOK d c) (hi:1 <= i /\ i <= d) {b:Bk} (h:b ∈ Sp.nb d c bk i):(∃ m,(1 <= m /\ m <= d) /\ b = Sp.callL m c) \/ b = Sp.feedB i:=by
 unfold Sp.nb at h
 obtain ⟨h1,_⟩:=hdc
 split at h
 ·rw [List.mem_singleton] at h
  exact .inl ⟨i + 1,by omega,h⟩
 ·split at h
  ·simp only [List.mem_cons,List.not_mem_nil,or_false] at h
   rcases h with h | h
   ·exact .inr h
   ·exact .inl ⟨1,by omega,h⟩
  ·rw [List.mem_singleton] at h
   exact .inr h
abbrev neM (c:Int):List Bk:=[Sp.callL 1 c,Sp.endL]
theorem nest_blk {d c:Int} {bk:Bool} {n:Nat} (hn:(n:Int) = d) (hdc:neOK d c) {b:Bk} (h:b ∈ Sp.blks (neM c) (Sp.nest d c bk n)):(∃ m,(1 <= m /\ m <= d) /\ b = Sp.callL m c) \/ (∃ i,b = Sp.feedB i) \/ b = Sp.endL:=by
 have hdc':=hdc
 obtain ⟨h1,_⟩:=hdc'
 unfold Sp.blks at h
 rw [List.mem_append,List.mem_flatMap] at h
 rcases h with h | ⟨x,hx,h⟩
 ·simp only [neM,List.mem_cons,List.not_mem_nil,or_false] at h
  rcases h with h | h
  ·exact .inl ⟨1,by omega,h⟩
  ·exact .inr (.inr h)
 ·obtain ⟨i,hi,rfl⟩:=nest_mem hx
  rcases nb_mem hdc (by omega) h with h | h
  ·exact .inl h
  ·exact .inr (.inl ⟨i,h⟩)
theorem nest_prp {d c:Int} {bk:Bool} {n:Nat} (hn:(n:Int) = d) (hdc:neOK d c):Sp.prpB (neM c) (Sp.nest d c bk n) = true:=by
 have hdc':=hdc
 obtain ⟨h1,h2⟩:=hdc'
 have hcl:=fun (m:Int) (hm:1 <= m /\ m <= d) => callL_at (n:=m) (c:=c) (by omega) (by omega)
 unfold Sp.prpB
 have e1:Sp.numB (Sp.nest d c bk n) = true:=by
  unfold Sp.numB
  rw [List.all_eq_true]
  intro x hx
  obtain ⟨i,hi,rfl⟩:=nest_mem hx
  exact decide_eq_true (by show 1 <= i /\ i <= 9999;omega)
 have e2:Sp.ordB (neM c) (Sp.nest d c bk n) = true:=by
  refine (ordB_snoc (Z:=[Sp.callL 1 c]) (e:=Sp.endL)).2 ⟨⟨rfl,rfl,rfl⟩,fun b hb => ?_,fun x hx => ?_⟩
  ·rw [List.mem_singleton] at hb;subst hb
   exact (hcl 1 (by omega)).2.2.2.2
  ·obtain ⟨i,hi,rfl⟩:=nest_mem hx
   unfold Sp.sMk Sp.anyP
   rw [List.any_eq_false]
   intro b hb
   unfold Sp.pMk
   rcases nb_mem hdc (by omega) hb with ⟨m,hm,rfl⟩ | rfl
   ·rw [(hcl m hm).2.2.2.2];simp
   ·rw [(feedB_at i).2.2];simp
 rw [e1,e2,nest_rep];rfl
theorem nest_in' {d c:Int} {bk:Bool} {n:Nat} (hn:(n:Int) = d) (m:Int) (hm:1 <= m /\ m <= d):0 <= Sp.fnd (Sp.nest d c bk n) m:=nums_of.2 (by
 unfold Sp.nums
 exact List.mem_map.2 ⟨_,nest_in (d:=d) (c:=c) (bk:=bk) (i:=m) (by omega),rfl⟩)
theorem nest_V {d c:Int} {n:Nat} (hn:(n:Int) = d) (hdc:neOK d c):∀ (j:Nat),(j:Int) < d -> ∃ z,Sp.V (Sp.bod (Sp.nest d c false n)) (j + 1) (d - j) = some ((j:Int),z) /\ z = Sp.cap (c ^ j):=by
 have hdc':=hdc
 obtain ⟨h1,h2⟩:=hdc'
 intro j
 induction j with
 | zero =>
  intro hj
  have hb:Sp.bod (Sp.nest d c false n) (d - (0:Nat)) = [Sp.feedB d]:=by
   rw [nest_bod (by omega)]
   unfold Sp.nb
   rw [if_neg (by omega),if_neg (by simp)]
   rw [show d - ((0:Nat):Int) = d by omega]
  refine ⟨1,?_,by rw [Int.pow_zero];rfl⟩
  rw [Sp.V,hb]
  have hf:=(feedB_at d).1
  have ha:Sp.allD (Sp.V (Sp.bod (Sp.nest d c false n)) 0) [Sp.feedB d] = true:=allD_iff.2 fun x hx k => by
   rw [List.mem_singleton] at hx;subst hx
   rw [hf] at k;cases k
  rw [if_pos ha]
  unfold Sp.sumE
  rw [Sp.sumP,if_neg (by rw [hf];simp),Sp.sumP]
  rfl
 | succ j ih =>
  intro hj
  obtain ⟨z,hz,hzc⟩:=ih (by omega)
  have hb:Sp.bod (Sp.nest d c false n) (d - ((j + 1:Nat):Int)) = [Sp.callL (d - j) c]:=by
   rw [nest_bod (by omega)]
   unfold Sp.nb
   rw [if_pos (by omega),show d - ((j + 1:Nat):Int) + 1 = d - j by omega]
  obtain ⟨c1,c2,c3,_⟩:=callL_at (n:=d - j) (c:=c) (by omega) (by omega)
  refine ⟨_,?_,rfl⟩
  rw [Sp.V,hb]
  have ha:Sp.allD (Sp.V (Sp.bod (Sp.nest d c false n)) (j + 1)) [Sp.callL (d - j) c] = true:=allD_iff.2 fun x hx k => by
   rw [List.mem_singleton] at hx;subst hx
   rw [c2,hz];rfl
  rw [if_pos ha]
  unfold Sp.sumE
  rw [Sp.sumP,if_pos c1,Sp.sumP,c2,c3,hz,Option.getD_some]
  have hpos:0 <= c ^ j:=Int.pow_nonneg (by omega)
  have e1:Sp.mx (1 + (j:Int)) 0 = ((j + 1:Nat):Int):=by unfold Sp.mx;split <;> omega
  have e2:Sp.cap (0 + Sp.cap (c * z)) = Sp.cap (c ^ (j + 1)):=by
   rw [hzc,cap_mul (by omega) hpos,Int.zero_add,Int.pow_succ,Int.mul_comm c]
   rcases cap_cap 0 (c ^ j * c) with e | e
   ·rw [Int.zero_add,Int.zero_add] at e;exact e
   ·omega
  rw [e1,e2]
theorem nest_cyc {d c:Int} {n:Nat} (hn:(n:Int) = d) (hdc:neOK d c):∀ (k:Nat) (i:Int),1 <= i /\ i <= d -> (Sp.V (Sp.bod (Sp.nest d c true n)) k i).isSome = false:=by
 have hdc':=hdc
 obtain ⟨h1,h2⟩:=hdc'
 intro k
 induction k with
 | zero => intro i hi;rfl
 | succ k ih =>
  intro i hi
  refine Bool.eq_false_iff.2 fun hs => ?_
  rw [V_succ,nest_bod (by omega)] at hs
  unfold Sp.nb at hs
  by_cases hlt:i < d
  ·rw [if_pos hlt] at hs
   obtain ⟨c1,c2,_⟩:=callL_at (n:=i + 1) (c:=c) (by omega) (by omega)
   have:=hs (Sp.callL (i + 1) c) (by simp) c1
   rw [c2,ih (i + 1) (by omega)] at this;cases this
  ·rw [if_neg hlt,if_pos rfl] at hs
   obtain ⟨c1,c2,_⟩:=callL_at (n:=1) (c:=c) (by omega) (by omega)
   have:=hs (Sp.callL 1 c) (by simp) c1
   rw [c2,ih 1 (by omega)] at this;cases this
theorem nest_siz {d c:Int} {bk:Bool} {n:Nat} (hn:(n:Int) = d) (hdc:neOK d c):Sp.siz (neM c) (Sp.nest d c bk n) = if bk = true then (0,12) else if d > 8 then (0,3) else (c ^ n + 1,0):=by
 have hdc':=hdc
 obtain ⟨h1,h2⟩:=hdc'
 have hp:=nest_prp (bk:=bk) hn hdc
 have hb:(Sp.blks (neM c) (Sp.nest d c bk n)).any Sp.badB = false:=by
  rw [List.any_eq_false]
  intro b hb
  unfold Sp.badB
  rcases nest_blk hn hdc hb with ⟨m,hm,rfl⟩ | ⟨i,rfl⟩ | rfl
  ·rw [(callL_at (n:=m) (c:=c) (by omega) (by omega)).2.2.2.1];simp
  ·rw [(feedB_at i).2.1];simp
  ·rw [endL_at.2.1];simp
 have hl:(Sp.blks (neM c) (Sp.nest d c bk n)).any (Sp.lostB (Sp.nest d c bk n)) = false:=by
  rw [List.any_eq_false]
  intro b hb
  unfold Sp.lostB
  rw [Bool.and_eq_true,decide_eq_true_eq]
  rintro ⟨k,hk⟩
  rcases nest_blk hn hdc hb with ⟨m,hm,rfl⟩ | ⟨i,rfl⟩ | rfl
  ·rw [(callL_at (n:=m) (c:=c) (by omega) (by omega)).2.1] at hk
   have:=nest_in' (c:=c) (bk:=bk) hn m hm
   omega
  ·rw [(feedB_at i).1] at k;cases k
  ·cases k
 cases bk with
 | true =>
  have hx:Sp.xe (neM c) (Sp.nest d c true n) = 12:=by
   unfold Sp.xe
   rw [if_neg (by simp [hp]),if_neg (by simp [hb]),if_neg (by simp [hl]),if_neg]
   rw [Bool.not_eq_true,List.all_eq_false]
   refine ⟨_,nest_in (i:=1) (by omega),?_⟩
   rw [nest_cyc hn hdc _ 1 (by omega)];simp
  unfold Sp.siz
  rw [hx,if_pos (by decide),if_pos rfl]
 | false =>
  have hv:∀ i,1 <= i /\ i <= d -> ∃ z,Sp.VN (Sp.nest d c false n) i = some (d - i,z) /\ z = Sp.cap (c ^ (d - i).toNat):=fun i hi => by
   obtain ⟨z,hz,hzc⟩:=nest_V hn hdc (d - i).toNat (by omega)
   have e:d - (((d - i).toNat:Nat):Int) = i:=by omega
   rw [e] at hz
   refine ⟨z,?_,hzc⟩
   unfold Sp.VN
   rw [nest_len]
   have:=V_mono hz (show (d - i).toNat + 1 <= n by omega)
   rw [this,show (((d - i).toNat:Nat):Int) = d - i by omega]
  have hx:Sp.xe (neM c) (Sp.nest d c false n) = 0:=by
   unfold Sp.xe
   rw [if_neg (by simp [hp]),if_neg (by simp [hb]),if_neg (by simp [hl]),if_pos]
   rw [List.all_eq_true]
   intro x hx
   obtain ⟨i,hi,rfl⟩:=nest_mem hx
   obtain ⟨z,hz,_⟩:=hv i (by omega)
   have hz':Sp.V (Sp.bod (Sp.nest d c false n)) (Sp.nest d c false n).length i = _:=hz
   rw [hz'];rfl
  obtain ⟨z,hz,hzc⟩:=hv 1 (by omega)
  obtain ⟨c1,c2,c3,_⟩:=callL_at (n:=1) (c:=c) (by omega) (by omega)
  have hpos:0 <= c ^ (d - 1).toNat:=Int.pow_nonneg (by omega)
  have hs:Sp.sumE (Sp.VN (Sp.nest d c false n)) (neM c) = (d,Sp.cap (c ^ n + 1)):=by
   unfold Sp.sumE neM
   rw [Sp.sumP,if_pos c1,Sp.sumP,if_neg (by rw [endL_at.1];simp),Sp.sumP,c2,c3,hz,Option.getD_some]
   have e1:Sp.mx (1 + (d - 1)) 0 = d:=by unfold Sp.mx;split <;> omega
   have e2:Sp.cap (c * z) = Sp.cap (c ^ n):=by
    rw [hzc,cap_mul (by omega) hpos,<- Int.pow_succ',show (d - 1).toNat + 1 = n by omega]
   have hpn:0 <= c ^ n:=Int.pow_nonneg (by omega)
   have e3:Sp.cap (Sp.cap (0 + Sp.cap (c ^ n)) + 1) = Sp.cap (c ^ n + 1):=by
    unfold Sp.cap
    repeat' split
    all_goals omega
   rw [e1,e2,e3]
  have e0:Sp.siz (neM c) (Sp.nest d c false n) = if d > 8 \/ Sp.cap (c ^ n + 1) > 20000 then (0,3) else (Sp.cap (c ^ n + 1),0):=by
   unfold Sp.siz
   rw [hx,if_neg (show ¬¬(0:Int) = 0 by omega),hs]
  rw [e0,if_neg (show ¬false = true by simp)]
  by_cases h8:d > 8
  ·rw [if_pos (.inl h8),if_pos h8]
  ·have hle:c ^ n <= 6561:=by
    have e1:c ^ n <= 3 ^ n:=by
     have hcn:c = ((c.toNat:Nat):Int):=by omega
     rw [hcn,<- Int.natCast_pow]
     have:=Nat.pow_le_pow_left (show c.toNat <= 3 by omega) n
     have e:((3 ^ n:Nat):Int) = 3 ^ n:=by rw [Int.natCast_pow];rfl
     rw [<- e];exact Int.ofNat_le.2 this
    have e2:(3:Nat) ^ n <= 3 ^ 8:=Nat.pow_le_pow_right (by omega) (by omega)
    have e:((3 ^ n:Nat):Int) = 3 ^ n:=by rw [Int.natCast_pow];rfl
    have e3:(3:Nat) ^ 8 = 6561:=by decide
    omega
   have hpn:0 <= c ^ n:=Int.pow_nonneg (by omega)
   have e:Sp.cap (c ^ n + 1) = c ^ n + 1:=by unfold Sp.cap;rw [if_pos (by omega)]
   rw [e,if_neg (by omega),if_neg h8]
end Go.Av

namespace Go.Av
open Go.Proofs
set_option maxRecDepth 100000
def fi32:Fi:=⟨5,[.cell 2 24]⟩
def kp32:List (Nat × List Nat):=[(0,[0,2]),(1,[2])]
def fi33:Fi:=⟨9,[.cell 4 65]⟩
def kp33:List (Nat × List Nat):=[(0,[0,1,4]),(1,[4])]
def tvWo_at (c n:Int) (Q:AV -> Heap -> Prop):Prop:=Wp M1 (.run fi33 (atC (cd Try.f33) []) [(0,.int .u8 c),(1,.int .i64 n)] []) Q
def tvWs_at (f:Bool) (ws:List Wo) (Q:AV -> Heap -> Prop):Prop:=Wp M1 (.run fi32 (atC (cd Try.f32) []) [(0,.vec f 2 (ws.map Wo.a))] []) Q
theorem call32 {args:List AV} {d:AV} (h:wc M1 fi32 Try.f32 args d):Ev M1 (.pure 32 args) d []:=pcl _ _ (by kernel_rfl) h
theorem call33 {args:List AV} {d:AV} (h:wc M1 fi33 Try.f33 args d):Ev M1 (.pure 33 args) d []:=pcl _ _ (by kernel_rfl) h
theorem tvWo (c n:Int)  (dq:AV) (H :
  (-9223372036854775808 <= 1000 * n /\ 1000 * n <= 9223372036854775807) /\
  ag [AV.int IntKind.u8 c,vi (1000 * n)] = dq) :
 tvWo_at c n (PureQ dq):=by
 unfold tvWo_at
 obtain ⟨k1,H⟩:=H
 have w2:wi (1000 * n) = 1000 * n:=wI64 k1
 exact path_re (G:=given kp33 [] []) 1000 [] (ag [AV.int IntKind.u8 c,vi (wi (1000 * n))]) (by kernel_rfl) (bc rfl b0) q0 c0 (by (try rw [w2]);all_goals exact H)
theorem tvWs (f:Bool) (ws:List Wo)  (dq:AV) (H :
  Weak (ag [vb false,AV.vec f 2 (List.map Wo.a ws),AV.str []]) dq) :
 tvWs_at f ws (PureQ dq):=by
 unfold tvWs_at
 exact path_rq (G:=given kp32 [] []) 1000 [] (ag [vb false,AV.vec f 2 (List.map Wo.a ws),AV.str []]) (by kernel_rfl) (bc rfl b0) q0 c0 H
end Go.Av

namespace Go.Av
open Go.Proofs
def Sp.inW (n:Int):Prop:=-1000000 <= n /\ n <= 1000000
theorem ev33 (c n:Int) (h:Sp.inW n):Ev M1 (.pure 33 [.int .u8 c,.int .i64 n]) (.agg [.int .u8 c,.int .i64 (1000 * n)]) []:=by
 obtain ⟨h1,h2⟩:=h
 exact call33 (tvWo _ _ _ ⟨by omega,rfl⟩)
theorem ev32 (f:Bool) (ws:List Wo):Ev M1 (.pure 32 [.vec f 2 (ws.map Wo.a)]) (.agg [.bool false,.vec f 2 (ws.map Wo.a),.str []]) []:=
 call32 (tvWs _ _ _ (.refl _))
end Go.Av

namespace Go.Av
open Go.Proofs
set_option maxRecDepth 100000
def fi31:Fi:=⟨11,[.cell 3 24]⟩
def kp31:List (Nat × List Nat):=[(0,[0,1,3]),(1,[3])]
def tvNc1_at (n c:Int) (Q:AV -> Heap -> Prop):Prop:=Wp M1 (.run fi31 (atC (cd Try.f31) []) [(0,.int .i64 n),(1,.eptr 1 [.int .i64 c] 0 0)] []) Q
theorem call31 {args:List AV} {d:AV} (h:wc M1 fi31 Try.f31 args d):Ev M1 (.pure 31 args) d []:=pcl _ _ (by kernel_rfl) h
theorem tvNc1 (n c:Int)  (dq:AV) (H :
  (Sp.inW 98) /\
  (Sp.inW n) /\
  (Sp.inW c) /\
  ∃ (x1:Bk),
  (Ev M1 (Conf.pure 32 [AV.vec true 2 [ag [AV.int IntKind.u8 77,vi 98000],ag [AV.int IntKind.u8 80,vi (1000 * n)],ag [AV.int IntKind.u8 76,vi (1000 * c)]]]) (ag [vb x1.1,AV.vec x1.2 2 (List.map Wo.a x1.3),AV.str x1.4]) []) /\
  Weak (ag [vb x1.1,AV.vec x1.2 2 (List.map Wo.a x1.3),AV.str x1.4]) dq) :
 tvNc1_at n c (PureQ dq):=by
 unfold tvNc1_at
 obtain ⟨k1,H⟩:=H
 obtain ⟨k2,H⟩:=H
 obtain ⟨k3,H⟩:=H
 obtain ⟨x1,H⟩:=H
 obtain ⟨k4,H⟩:=H
 exact path_rq (G:=given kp31 [(1,0,.call (ag [AV.int IntKind.u8 77,vi 98000]) none),(1,2,.call (ag [AV.int IntKind.u8 80,vi (1000 * n)]) none),(1,4,.call (ag [AV.int IntKind.u8 76,vi (1000 * c)]) none),(1,6,.call (ag [vb x1.1,AV.vec x1.2 2 (List.map Wo.a x1.3),AV.str x1.4]) none)] []) 1000 [] (ag [vb x1.1,AV.vec x1.2 2 (List.map Wo.a x1.3),AV.str x1.4]) (by kernel_rfl) (bc rfl b0) q0 (ce (@ev33 (77) (98) k1) (ce (@ev33 (80) (n) k2) (ce (@ev33 (76) (c) k3) (ce k4 c0)))) H
end Go.Av

namespace Go.Av
open Go.Proofs
theorem ev31 (n c:Int) (h:Sp.inW n /\ Sp.inW c):Ev M1 (.pure 31 [.int .i64 n,.eptr 1 [.int .i64 c] 0 0]) (.agg [.bool (Sp.callL n c).sk,.vec (Sp.callL n c).f 2 ((Sp.callL n c).ws.map Wo.a),.str (Sp.callL n c).cm]) []:=by
 obtain ⟨h1,h2⟩:=h
 exact call31 (tvNc1 _ _ _ ⟨by unfold Sp.inW;omega,h1,h2,Sp.callL n c,ev32 true [⟨77,98000⟩,⟨80,1000 * n⟩,⟨76,1000 * c⟩],.refl _⟩)
end Go.Av

namespace Go.Av
open Go.RowKit
def purV (L:Heap) (ts:List Nat) (env:Vars):Vars:=env.map fun e => (e.1,bif ts.contains e.1 then (pureA L e.2).getD .any else e.2)
def purB (L:Heap) (ts rs:List Nat) (env:Vars):Bool:=env.all fun e => bif ts.contains e.1 then (pureA L e.2).isSome && ((versA L e.2).all id && (rowsA e.2).all rs.contains) else true
theorem purV_get {L:Heap} {ts rs:List Nat}:∀ {env:Vars},purB L ts rs env = true -> ∀ t,(purV L ts env).get t = env.get t \/ (pureA L (env.get t) = some ((purV L ts env).get t) /\ (∀ b ∈ versA L (env.get t),b = true) /\ ∀ r ∈ rowsA (env.get t),r ∈ rs)
 | [],_,_ => .inl rfl
 | e :: env,h,t => by
  obtain ⟨k,v⟩:=e
  unfold purB at h
  rw [List.all_cons,Bool.and_eq_true] at h
  have ih:=purV_get (env:=env) h.2 t
  unfold purV at ih ⊢
  simp only [List.map_cons,Vars.get]
  cases hk:k == t with
  | false => exact ih
  | true =>
   simp only [cond_true]
   cases hc:ts.contains k with
   | false => exact .inl rfl
   | true =>
    have h1:=h.1
    simp only [hc,cond_true,Bool.and_eq_true,List.all_eq_true,List.contains_iff_mem,id_eq] at h1
    obtain ⟨d,hd⟩:=Option.isSome_iff_exists.1 h1.1
    right
    rw [hd]
    exact ⟨rfl,h1.2.1,h1.2.2⟩
theorem wp_pureV {M:Mach} (hm:(M.P ()).follows .mixedOrders = true) {fi:Fi} {k:List Item} {env env':Vars} {L L':Heap} {Q:AV -> Heap -> Prop} (ts rs:List Nat) (hb:purB L ts rs env = true) (he:purV L ts env = env') (hl:freeze rs L = L')
  (h:Wp M (.run fi k env' L') Q):Wp M (.run fi k env L) Q:=by
 refine .sem fun S b a cs fn h1 h2 h3 h4 h5 h6 h7 h8 => ?_
 subst h6;subst he;subst hl
 have fr:=freeze_ok rs h5
 have hV:VRel ⟨S.base,S.acc,freeze rs S.L,S.β,S.w⟩ (purV S.L ts env) a.tmps:=by
  intro t
  rcases purV_get hb t with e | ⟨e1,e2,e3⟩
  ·rw [e];exact (h7 t).mono fr.2
  ·refine .data _ _ (pure_rel (S':=⟨S.base,S.acc,freeze rs S.L,S.β,S.w⟩) h5 rfl (fun b off hi hb => (fr.2.imm b off hi hb).1) _ (h7 t) e1 e2 fun r hr => ?_)
   exact freeze_holds h5 rs r (e3 r hr)
 obtain ⟨a',todo',Ds,w',β',v,L1,q1,q2,q3,q4,q5,q6,q7,q8,q9⟩:=(wp_sound hm (c:=.run fi k _ _) h:RunSnd M fi k _ _ Q) ⟨S.base,S.acc,freeze rs S.L,S.β,S.w⟩ b a cs fn h1 h2 h3 h4 fr.1 rfl hV h8
 exact ⟨a',todo',Ds,w',β',v,L1,q1,q2,q3,q4,q5,q6,q7,q8,fr.2.trans q9⟩
end Go.Av

namespace Go.Av
open Go.Proofs
set_option maxRecDepth 100000
def fi8:Fi:=⟨134,[.tmp 6]⟩
def kp8:List (Nat × List Nat):=[(0,[0,1,2]),(1,[0,1,2,27]),(2,[6]),(3,[0,2,7]),(4,[0,2,7,8]),(5,[0,2,7,8,9]),(6,[0,2,7,8,9,10]),(7,[0,2,7,8,9,10,11]),(8,[0,2,7,8,9,10,11,44]),(9,[0,2,7,8,9,10,11]),(10,[0,2,7,8,9,10,11,12]),(11,[0,2,7,8,9,10,11,12,58]),(12,[0,2,7,8,9,10,11,12]),(13,[0,2,7,8,9,10,11,12,65]),(14,[0,2,7,8,9,10,11,12]),(15,[0,2,7,8,9,10,11]),(16,[0,2,7,8,9,10,11]),(17,[0,2,9,10,13,14]),(18,[0,2,10,13,14,15,16]),(19,[0,2,10,13,14,15,16,17]),(20,[0,10,13,14,15,16,17,92]),(21,[10,13,14,15,16,17]),(22,[10,13,14,15,16,17,94]),(23,[10,13,14,15,16,17]),(24,[10,13,14,15,16,17,98]),(25,[6]),(26,[6])]
def tvNs_at (a b:Int) (k:Bool) (Q:AV -> Heap -> Prop):Prop:=Wp M1 (.run fi8 (atC (cd Try.f8) []) [(0,.int .u8 a),(1,.int .u8 b),(2,.bool k)] []) Q
def tvNsz_at (a:Int) (k fm:Bool) (mn:List Bk) (c z i:Int) (Q:AV -> Heap -> Prop):Prop:=Wp M1 (.run fi8 (atC (cd Try.f8) [1,1,1,1,1,1,0,1,0,0]) [(0,.int .u8 a),(2,.bool k),(7,.ptr 0 0 0 0),(8,.func (.func 31) [] [.eptr 1 [.int .i64 c] 0 0]),(9,.ptr 1 0 0 0),(10,.int .i64 z),(11,.int .i64 i)] [⟨[.int .i64 c],1,0,true,false⟩,⟨[.agg [.vec fm 3 (mn.map Bk.a),.vnil]],2,0,false,false⟩]) Q
def tvNss_at (a:Int) (k fm:Bool) (mn:List Bk) (c z i:Int) (t:List Sb) (v:Nat) (Q:AV -> Heap -> Prop):Prop:=Wp M1 (.run fi8 (atC (cd Try.f8) [1,1,1,1,1,1,0,1,0,0]) [(0,.int .u8 a),(2,.bool k),(7,.ptr 0 0 0 0),(8,.func (.func 31) [] [.eptr 1 [.int .i64 c] 0 0]),(9,.ptr 1 0 0 0),(10,.int .i64 z),(11,.int .i64 i)] [⟨[.int .i64 c],1,0,true,true⟩,⟨[.agg [.vec fm 3 (mn.map Bk.a),.row 2 v]],2,0,false,false⟩,⟨t.map Sb.a,2,v,false,true⟩]) Q
def tvNty_at (a:Int) (k fm:Bool) (mn:List Bk) (c z i:Int) (m:Int) (fs:Bool) (w:List Bk) (Q:AV -> Heap -> Prop):Prop:=Wp M1 (.run fi8 (atC (cd Try.f8) [1,1,1,1,1,1,0,1,0,0,1,0,0,1,1]) [(0,.int .u8 a),(2,.bool k),(7,.ptr 0 0 0 0),(8,.func (.func 31) [] [.eptr 1 [.int .i64 c] 0 0]),(9,.ptr 1 0 0 0),(10,.int .i64 z),(11,.int .i64 i),(12,.ptr 2 0 0 0)] [⟨[.int .i64 c],1,0,true,true⟩,⟨[.agg [.vec fm 3 (mn.map Bk.a),.vnil]],2,0,false,true⟩,⟨[.agg [.int .i64 m,.vec fs 3 (w.map Bk.a)]],2,0,false,true⟩]) Q
def tvNtx_at (a:Int) (k fm:Bool) (mn:List Bk) (c z i:Int) (t:List Sb) (v:Nat) (m:Int) (fs:Bool) (w:List Bk) (Q:AV -> Heap -> Prop):Prop:=Wp M1 (.run fi8 (atC (cd Try.f8) [1,1,1,1,1,1,0,1,0,0,1,0,0,1,1]) [(0,.int .u8 a),(2,.bool k),(7,.ptr 0 0 0 0),(8,.func (.func 31) [] [.eptr 1 [.int .i64 c] 0 0]),(9,.ptr 1 0 0 0),(10,.int .i64 z),(11,.int .i64 i),(12,.ptr 2 0 0 0)] [⟨[.int .i64 c],1,0,true,true⟩,⟨[.agg [.vec fm 3 (mn.map Bk.a),.row 3 v]],2,0,false,false⟩,⟨[.agg [.int .i64 m,.vec fs 3 (w.map Bk.a)]],2,0,false,true⟩,⟨t.map Sb.a,2,v,false,true⟩]) Q
theorem call8 {args:List AV} {d:AV} (h:wc M1 fi8 Try.f8 args d):Ev M1 (.pure 8 args) d []:=pcl _ _ (by kernel_rfl) h
noncomputable abbrev zTpW1:=ag [AV.int IntKind.u8 77,vi 30000]
theorem tvNs (a b:Int) (k:Bool)  (dq:AV) (H :
  (((a > 12) \/ (a < 1)) -> vb true = dq) /\
  (¬((a > 12) \/ (a < 1)) -> (-9223372036854775808 <= b.tmod 3 /\ b.tmod 3 <= 9223372036854775807) /\
   (-9223372036854775808 <= 1 + b.tmod 3 /\ 1 + b.tmod 3 <= 9223372036854775807) /\
   (Sp.inW 1 /\ Sp.inW (1 + b.tmod 3)) /\
   (Sp.inW 30) /\
   ∃ (x1:Bk),
   (Ev M1 (Conf.pure 32 [AV.vec true 2 [ag [AV.int IntKind.u8 77,vi 30000]]]) (ag [vb x1.1,AV.vec x1.2 2 (List.map Wo.a x1.3),AV.str x1.4]) []) /\
   Wp M1 (.run fi8 (atC (cd Try.f8) [1,1,1,1,1,1,0,1,0,0]) [(0,AV.int IntKind.u8 a),(2,vb k),(7,AV.ptr 0 0 0 0),(8,AV.func (Fn.func 31) [] [AV.ptr 0 0 0 0]),(9,AV.ptr 1 0 0 0),(10,vi 1),(11,vi 1)] [{ elems:=[vi (1 + b.tmod 3)],es:=1,ver:=0,frozen:=true,clean:=false },{ elems:=[ag [AV.vec true 3 [ag [vb (Sp.callL 1 (1 + b.tmod 3)).1,AV.vec (Sp.callL 1 (1 + b.tmod 3)).2 2 (List.map Wo.a (Sp.callL 1 (1 + b.tmod 3)).3),AV.str (Sp.callL 1 (1 + b.tmod 3)).4],ag [vb x1.1,AV.vec x1.2 2 (List.map Wo.a x1.3),AV.str x1.4]],AV.vnil]],es:=2,ver:=0,frozen:=false,clean:=false }]) (PureQ dq))) :
 tvNs_at a b k (PureQ dq):=by
 unfold tvNs_at
 refine path_wp (G:=given kp8 [(1,0,.call (vb true) none)] []) 5 [] ⟨(atC (cd Try.f8) [1,0,1]),[(0,AV.int IntKind.u8 a),(1,AV.int IntKind.u8 b),(2,vb k),(27,vb (bif decide (a > 12) then true else decide (a < 1)))],[],_,[],_⟩ (by kernel_rfl) b0 q0 (ce (@ev11 ) c0) ?_
 rcases xm ((a > 12) \/ (a < 1)) with d2 | d2
 ·have H:=H.1 d2
  exact path_re (G:=given kp8 [(2,0,.call (vb true) none)] []) 1000 [true] (vb true) (by kernel_rfl) (bc (beq_t ((i_bor i_dec i_dec).2 d2)) b0) q0 (ce (@ev11 ) c0) H
 ·have H:=H.2 d2
  obtain ⟨k3,H⟩:=H
  have w4:wi (b.tmod 3) = b.tmod 3:=wI64 k3
  obtain ⟨k5,H⟩:=H
  have w6:wi (1 + b.tmod 3) = 1 + b.tmod 3:=wI64 k5
  obtain ⟨k7,H⟩:=H
  obtain ⟨k8,H⟩:=H
  obtain ⟨x1,H⟩:=H
  obtain ⟨k9,H⟩:=H
  exact path_wp (G:=given kp8 [(5,1,.call (ag [vb (Sp.callL 1 (1 + b.tmod 3)).1,AV.vec (Sp.callL 1 (1 + b.tmod 3)).2 2 (List.map Wo.a (Sp.callL 1 (1 + b.tmod 3)).3),AV.str (Sp.callL 1 (1 + b.tmod 3)).4]) none),(5,2,.call (zTpW1) none),(5,4,.call (ag [vb x1.1,AV.vec x1.2 2 (List.map Wo.a x1.3),AV.str x1.4]) none)] []) 1000 [false] ⟨(atC (cd Try.f8) [1,1,1,1,1,1,0,1,0,0]),[(0,AV.int IntKind.u8 a),(2,vb k),(7,AV.ptr 0 0 0 0),(8,AV.func (Fn.func 31) [] [AV.ptr 0 0 0 0]),(9,AV.ptr 1 0 0 0),(10,vi 1),(11,vi 1)],[⟨[vi (wi (1 + wi (b.tmod 3)))],1,0,true,false⟩,⟨[ag [AV.vec true 3 [ag [vb (Sp.callL 1 (1 + b.tmod 3)).1,AV.vec (Sp.callL 1 (1 + b.tmod 3)).2 2 (List.map Wo.a (Sp.callL 1 (1 + b.tmod 3)).3),AV.str (Sp.callL 1 (1 + b.tmod 3)).4],ag [vb x1.1,AV.vec x1.2 2 (List.map Wo.a x1.3),AV.str x1.4]],AV.vnil]],2,0,false,false⟩],_,[],[pc 31 [vi 1,AV.eptr 1 [vi (wi (1 + wi (b.tmod 3)))] 0 0] (ag [vb (Sp.callL 1 (1 + b.tmod 3)).1,AV.vec (Sp.callL 1 (1 + b.tmod 3)).2 2 (List.map Wo.a (Sp.callL 1 (1 + b.tmod 3)).3),AV.str (Sp.callL 1 (1 + b.tmod 3)).4]),pc 33 [AV.int IntKind.u8 77,vi 30] (zTpW1),pc 32 [AV.vec true 2 [zTpW1]] (ag [vb x1.1,AV.vec x1.2 2 (List.map Wo.a x1.3),AV.str x1.4])]⟩ (by kernel_rfl) (bc (beq_f (fun h => d2 ((i_bor i_dec i_dec).1 h))) (bc rfl (bc rfl (bc rfl (bc rfl b0))))) q0 (ce (by (try rw [w4]);(try rw [w6]);all_goals exact (@ev31 (1) (1 + b.tmod 3) k7)) (ce (@ev33 (77) (30) k8) (ce k9 c0))) (by (try rw [w4]);(try rw [w6]);all_goals exact H)
theorem tvNsz (a:Int) (k fm:Bool) (mn:List Bk) (c z i:Int)  (dq:AV) (H :
  (-9223372036854775808 <= a /\ a <= 9223372036854775807) /\
  ((i <= a) -> (Sp.inW 1) /\
   (Sp.inW i) /\
   ∃ (x1:Bk),
   (Ev M1 (Conf.pure 32 [AV.vec true 2 [ag [AV.int IntKind.u8 71,vi 1000],ag [AV.int IntKind.u8 88,vi (1000 * i)]]]) (ag [vb x1.1,AV.vec x1.2 2 (List.map Wo.a x1.3),AV.str x1.4]) []) /\
   ((i < a) -> (-9223372036854775808 <= i + 1 /\ i + 1 <= 9223372036854775807) /\
    (Sp.inW (i + 1) /\ Sp.inW c) /\
    Wp M1 (.run fi8 (atC (cd Try.f8) [1,1,1,1,1,1,0,1,0,0,1,0,0,1,1]) [(0,AV.int IntKind.u8 a),(2,vb k),(7,AV.ptr 0 0 0 0),(8,AV.func (Fn.func 31) [] [AV.eptr 1 [vi c] 0 0]),(9,AV.ptr 1 0 0 0),(10,vi z),(11,vi i),(12,AV.ptr 2 0 0 0)] [{ elems:=[vi c],es:=1,ver:=0,frozen:=true,clean:=true },{ elems:=[ag [AV.vec fm 3 (List.map Bk.a mn),AV.vnil]],es:=2,ver:=0,frozen:=false,clean:=true },{ elems:=[ag [vi i,AV.vec true 3 [ag [vb (Sp.callL (i + 1) c).1,AV.vec (Sp.callL (i + 1) c).2 2 (List.map Wo.a (Sp.callL (i + 1) c).3),AV.str (Sp.callL (i + 1) c).4]]]],es:=2,ver:=0,frozen:=false,clean:=true }]) (PureQ dq)) /\
   (¬(i < a) -> ((k = true) -> (Sp.inW 1 /\ Sp.inW c) /\
     Wp M1 (.run fi8 (atC (cd Try.f8) [1,1,1,1,1,1,0,1,0,0,1,0,0,1,1]) [(0,AV.int IntKind.u8 a),(2,vb k),(7,AV.ptr 0 0 0 0),(8,AV.func (Fn.func 31) [] [AV.eptr 1 [vi c] 0 0]),(9,AV.ptr 1 0 0 0),(10,vi z),(11,vi i),(12,AV.ptr 2 0 0 0)] [{ elems:=[vi c],es:=1,ver:=0,frozen:=true,clean:=true },{ elems:=[ag [AV.vec fm 3 (List.map Bk.a mn),AV.vnil]],es:=2,ver:=0,frozen:=false,clean:=true },{ elems:=[ag [vi i,AV.vec false 3 [ag [vb x1.1,AV.vec x1.2 2 (List.map Wo.a x1.3),AV.str x1.4],ag [vb (Sp.callL 1 c).1,AV.vec (Sp.callL 1 c).2 2 (List.map Wo.a (Sp.callL 1 c).3),AV.str (Sp.callL 1 c).4]]]],es:=2,ver:=0,frozen:=false,clean:=true }]) (PureQ dq)) /\
    (¬(k = true) -> Wp M1 (.run fi8 (atC (cd Try.f8) [1,1,1,1,1,1,0,1,0,0,1,0,0,1,1]) [(0,AV.int IntKind.u8 a),(2,vb k),(7,AV.ptr 0 0 0 0),(8,AV.func (Fn.func 31) [] [AV.eptr 1 [vi c] 0 0]),(9,AV.ptr 1 0 0 0),(10,vi z),(11,vi i),(12,AV.ptr 2 0 0 0)] [{ elems:=[vi c],es:=1,ver:=0,frozen:=true,clean:=true },{ elems:=[ag [AV.vec fm 3 (List.map Bk.a mn),AV.vnil]],es:=2,ver:=0,frozen:=false,clean:=true },{ elems:=[ag [vi i,AV.vec true 3 [ag [vb x1.1,AV.vec x1.2 2 (List.map Wo.a x1.3),AV.str x1.4]]]],es:=2,ver:=0,frozen:=false,clean:=true }]) (PureQ dq)))) /\
  (¬(i <= a) -> ∃ (n1:Int) (n2:Int),
   (Ev M1 (Conf.pure 29 [ag [AV.vec fm 3 (List.map Bk.a mn),AV.vnil]]) (tu [vi n1,vi n2]) []) /\
   ∃ (l1:List (Bk)) (n3:Int),
   (Ev M1 (Conf.pure 16 [ag [AV.vec fm 3 (List.map Bk.a mn),AV.vnil]]) (tu [AV.vec false 3 (List.map Bk.a l1),vi n3]) []) /\
   ((k = true) -> vb (bif bif bif n2 == 12 then n3 == 12 else false then n1 == 0 else false then (↑l1.length:Int) == 0 else false) = dq) /\
   (¬(k = true) -> ((a > 8) -> vb (bif bif bif n2 == 3 then n3 == 3 else false then n1 == 0 else false then (↑l1.length:Int) == 0 else false) = dq) /\
    (¬(a > 8) -> vb (bif bif bif n2 == 0 then n3 == 0 else false then n1 == IntKind.i64.wrap (z + 1) else false then (↑l1.length:Int) == n1 else false) = dq)))) :
 tvNsz_at a k fm mn c z i (PureQ dq):=by
 unfold tvNsz_at
 obtain ⟨k1,H⟩:=H
 have w2:wi a = a:=wI64 k1
 have i3:(decide (i <= wi a)) = true ↔ (i <= a):=(by (try rw [w2]);all_goals exact i_dec)
 rcases xm (i <= a) with d4 | d4
 ·have H:=H.1 d4
  obtain ⟨k5,H⟩:=H
  obtain ⟨k6,H⟩:=H
  obtain ⟨x1,H⟩:=H
  obtain ⟨k7,H⟩:=H
  have i8:(decide (i < wi a)) = true ↔ (i < a):=(by (try rw [w2]);all_goals exact i_dec)
  refine path_wp (G:=given kp8 [(10,1,.call (ag [AV.int IntKind.u8 71,vi 1000]) none),(10,3,.call (ag [AV.int IntKind.u8 88,vi (1000 * i)]) none),(10,5,.call (ag [vb x1.1,AV.vec x1.2 2 (List.map Wo.a x1.3),AV.str x1.4]) none)] []) 12 [true] ⟨(atC (cd Try.f8) [1,1,1,1,1,1,0,1,0,0,1,0,0,1,0,1]),[(0,AV.int IntKind.u8 a),(2,vb k),(7,AV.ptr 0 0 0 0),(8,AV.func (Fn.func 31) [] [AV.eptr 1 [vi c] 0 0]),(9,AV.ptr 1 0 0 0),(10,vi z),(11,vi i),(12,AV.ptr 2 0 0 0),(58,vb (decide (i < wi a)))],[⟨[vi c],1,0,true,false⟩,⟨[ag [AV.vec fm 3 (List.map Bk.a mn),AV.vnil]],2,0,false,false⟩,⟨[ag [vi i,AV.vec true 3 [ag [vb x1.1,AV.vec x1.2 2 (List.map Wo.a x1.3),AV.str x1.4]]]],2,0,false,false⟩],_,[],_⟩ (by kernel_rfl) (bc (beq_t (i3.2 d4)) (bc rfl b0)) q0 (ce (@ev33 (71) (1) k5) (ce (@ev33 (88) (i) k6) (ce k7 c0))) ?_
  rcases xm (i < a) with d9 | d9
  ·have H:=H.1 d9
   obtain ⟨k10,H⟩:=H
   have w11:wi (i + 1) = i + 1:=wI64 k10
   obtain ⟨k12,H⟩:=H
   exact path_wp (G:=given kp8 [(12,3,.call (ag [vb (Sp.callL (i + 1) c).1,AV.vec (Sp.callL (i + 1) c).2 2 (List.map Wo.a (Sp.callL (i + 1) c).3),AV.str (Sp.callL (i + 1) c).4]) none)] []) 2 [true] ⟨(atC (cd Try.f8) [1,1,1,1,1,1,0,1,0,0,1,0,0,1,1]),[(0,AV.int IntKind.u8 a),(2,vb k),(7,AV.ptr 0 0 0 0),(8,AV.func (Fn.func 31) [] [AV.eptr 1 [vi c] 0 0]),(9,AV.ptr 1 0 0 0),(10,vi z),(11,vi i),(12,AV.ptr 2 0 0 0)],[⟨[vi c],1,0,true,false⟩,⟨[ag [AV.vec fm 3 (List.map Bk.a mn),AV.vnil]],2,0,false,false⟩,⟨[ag [vi i,AV.vec true 3 [ag [vb (Sp.callL (i + 1) c).1,AV.vec (Sp.callL (i + 1) c).2 2 (List.map Wo.a (Sp.callL (i + 1) c).3),AV.str (Sp.callL (i + 1) c).4]]]],2,0,false,false⟩],[(decide (i < wi a)) == true,0 == 0],[],[pc 31 [vi (wi (i + 1)),AV.eptr 1 [vi c] 0 0] (ag [vb (Sp.callL (i + 1) c).1,AV.vec (Sp.callL (i + 1) c).2 2 (List.map Wo.a (Sp.callL (i + 1) c).3),AV.str (Sp.callL (i + 1) c).4])]⟩ (by kernel_rfl) (bc (beq_t (i8.2 d9)) (bc (beq_self_eq_true _) b0)) q0 (ce (by (try rw [w11]);all_goals exact (@ev31 (i + 1) (c) k12)) c0) (wp_melt (by kernel_rfl) [] (env':=[(0,AV.int IntKind.u8 a),(2,vb k),(7,AV.ptr 0 0 0 0),(8,AV.func (Fn.func 31) [] [AV.eptr 1 [vi c] 0 0]),(9,AV.ptr 1 0 0 0),(10,vi z),(11,vi i),(12,AV.ptr 2 0 0 0)]) (L':=[⟨[vi c],1,0,true,true⟩,⟨[ag [AV.vec fm 3 (List.map Bk.a mn),AV.vnil]],2,0,false,true⟩,⟨[ag [vi i,AV.vec true 3 [ag [vb (Sp.callL (i + 1) c).1,AV.vec (Sp.callL (i + 1) c).2 2 (List.map Wo.a (Sp.callL (i + 1) c).3),AV.str (Sp.callL (i + 1) c).4]]]],2,0,false,true⟩]) (bs:=[]) (by kernel_rfl) (by kernel_rfl) (by kernel_rfl) allB_nil (H))
  ·have H:=H.2 d9
   rcases xm (k = true) with d14 | d14
   ·have H:=H.1 d14
    obtain ⟨k15,H⟩:=H
    exact path_wp (G:=given kp8 [(14,3,.call (ag [vb (Sp.callL 1 c).1,AV.vec (Sp.callL 1 c).2 2 (List.map Wo.a (Sp.callL 1 c).3),AV.str (Sp.callL 1 c).4]) none)] []) 5 [false,true] ⟨(atC (cd Try.f8) [1,1,1,1,1,1,0,1,0,0,1,0,0,1,1]),[(0,AV.int IntKind.u8 a),(2,vb k),(7,AV.ptr 0 0 0 0),(8,AV.func (Fn.func 31) [] [AV.eptr 1 [vi c] 0 0]),(9,AV.ptr 1 0 0 0),(10,vi z),(11,vi i),(12,AV.ptr 2 0 0 0)],[⟨[vi c],1,0,true,false⟩,⟨[ag [AV.vec fm 3 (List.map Bk.a mn),AV.vnil]],2,0,false,false⟩,⟨[ag [vi i,AV.row 3 0]],2,0,false,false⟩,⟨[ag [vb x1.1,AV.vec x1.2 2 (List.map Wo.a x1.3),AV.str x1.4],ag [vb (Sp.callL 1 c).1,AV.vec (Sp.callL 1 c).2 2 (List.map Wo.a (Sp.callL 1 c).3),AV.str (Sp.callL 1 c).4]],3,0,false,true⟩],[(decide (i < wi a)) == false,(k) == true,true,true,true],[],_⟩ (by kernel_rfl) (bc (beq_f (fun h => d9 (i8.1 h))) (bc (beq_t ((i_var _).2 d14)) (bc rfl (bc rfl (bc rfl b0))))) q0 (ce (@ev31 (1) (c) k15) c0) (wp_melt (by kernel_rfl) [3] (env':=[(0,AV.int IntKind.u8 a),(2,vb k),(7,AV.ptr 0 0 0 0),(8,AV.func (Fn.func 31) [] [AV.eptr 1 [vi c] 0 0]),(9,AV.ptr 1 0 0 0),(10,vi z),(11,vi i),(12,AV.ptr 2 0 0 0)]) (L':=[⟨[vi c],1,0,true,true⟩,⟨[ag [AV.vec fm 3 (List.map Bk.a mn),AV.vnil]],2,0,false,true⟩,⟨[ag [vi i,AV.vec false 3 [ag [vb x1.1,AV.vec x1.2 2 (List.map Wo.a x1.3),AV.str x1.4],ag [vb (Sp.callL 1 c).1,AV.vec (Sp.callL 1 c).2 2 (List.map Wo.a (Sp.callL 1 c).3),AV.str (Sp.callL 1 c).4]]]],2,0,false,true⟩,⟨[ag [vb x1.1,AV.vec x1.2 2 (List.map Wo.a x1.3),AV.str x1.4],ag [vb (Sp.callL 1 c).1,AV.vec (Sp.callL 1 c).2 2 (List.map Wo.a (Sp.callL 1 c).3),AV.str (Sp.callL 1 c).4]],3,0,true,true⟩]) (bs:=[0 == 0]) (by kernel_rfl) (by kernel_rfl) (by kernel_rfl) (allB_cons (beq_self_eq_true _) allB_nil) (wp_narrow [0,1,2] (by kernel_rfl) H))
   ·have H:=H.2 d14
    exact path_wp (G:=given kp8 [] []) 5 [false,false] ⟨(atC (cd Try.f8) [1,1,1,1,1,1,0,1,0,0,1,0,0,1,1]),[(0,AV.int IntKind.u8 a),(2,vb k),(7,AV.ptr 0 0 0 0),(8,AV.func (Fn.func 31) [] [AV.eptr 1 [vi c] 0 0]),(9,AV.ptr 1 0 0 0),(10,vi z),(11,vi i),(12,AV.ptr 2 0 0 0),(65,vb k)],[⟨[vi c],1,0,true,false⟩,⟨[ag [AV.vec fm 3 (List.map Bk.a mn),AV.vnil]],2,0,false,false⟩,⟨[ag [vi i,AV.vec true 3 [ag [vb x1.1,AV.vec x1.2 2 (List.map Wo.a x1.3),AV.str x1.4]]]],2,0,false,false⟩],[(decide (i < wi a)) == false,(k) == false],[],_⟩ (by kernel_rfl) (bc (beq_f (fun h => d9 (i8.1 h))) (bc (beq_f (fun h => d14 ((i_var _).1 h))) b0)) q0 c0 (Wp.less [0,2,7,8,9,10,11,12] (wp_melt (by kernel_rfl) [] (env':=[(0,AV.int IntKind.u8 a),(2,vb k),(7,AV.ptr 0 0 0 0),(8,AV.func (Fn.func 31) [] [AV.eptr 1 [vi c] 0 0]),(9,AV.ptr 1 0 0 0),(10,vi z),(11,vi i),(12,AV.ptr 2 0 0 0)]) (L':=[⟨[vi c],1,0,true,true⟩,⟨[ag [AV.vec fm 3 (List.map Bk.a mn),AV.vnil]],2,0,false,true⟩,⟨[ag [vi i,AV.vec true 3 [ag [vb x1.1,AV.vec x1.2 2 (List.map Wo.a x1.3),AV.str x1.4]]]],2,0,false,true⟩]) (bs:=[]) (by kernel_rfl) (by kernel_rfl) (by kernel_rfl) allB_nil (H)))
 ·have H:=H.2 d4
  obtain ⟨n1,n2,H⟩:=H
  obtain ⟨k16,H⟩:=H
  obtain ⟨l1,n3,H⟩:=H
  obtain ⟨k17,H⟩:=H
  refine path_wp (G:=given kp8 [(17,1,.call (tu [vi n1,vi n2]) none),(18,1,.call (tu [AV.vec false 3 (List.map Bk.a l1),vi n3]) none)] []) 15 [false] ⟨(atC (cd Try.f8) [1,1,1,1,1,1,1,1,1,1,0,0,1]),[(0,AV.int IntKind.u8 a),(10,vi z),(13,vi n1),(14,vi n2),(15,AV.vec false 3 (List.map Bk.a l1)),(16,vi n3),(17,vi 0),(92,vb k)],[⟨[vi c],1,0,true,false⟩,⟨[ag [AV.vec fm 3 (List.map Bk.a mn),AV.vnil]],2,0,false,false⟩],_,[],_⟩ (by kernel_rfl) (bc (beq_f (fun h => d4 (i3.1 h))) (bc rfl (bc rfl b0))) q0 (ce k16 (ce k17 c0)) ?_
  rcases xm (k = true) with d19 | d19
  ·have H:=H.1 d19
   have w20:(List.map Bk.a l1).length = l1.length:=List.length_map ..
   exact path_re (G:=given kp8 [] []) 1000 [true,true] (asm:=[(k) == true,true == true]) (vb (bif bif bif n2 == 12 then n3 == 12 else false then n1 == 0 else false then (↑(List.map Bk.a l1).length:Int) == 0 else false)) (by kernel_rfl) (bc (beq_t ((i_var _).2 d19)) (bc rfl b0)) q0 c0 (by (try rw [w20]);all_goals exact H)
  ·have H:=H.2 d19
   rcases xm (a > 8) with d22 | d22
   ·have H:=H.1 d22
    have w23:(List.map Bk.a l1).length = l1.length:=List.length_map ..
    exact path_re (G:=given kp8 [] []) 1000 [false,true,true] (asm:=[(k) == false,(decide (a > 8)) == true,true == true]) (vb (bif bif bif n2 == 3 then n3 == 3 else false then n1 == 0 else false then (↑(List.map Bk.a l1).length:Int) == 0 else false)) (by kernel_rfl) (bc (beq_f (fun h => d19 ((i_var _).1 h))) (bc (beq_t (i_dec.2 d22)) (bc rfl b0))) q0 c0 (by (try rw [w23]);all_goals exact H)
   ·have H:=H.2 d22
    have w24:(List.map Bk.a l1).length = l1.length:=List.length_map ..
    exact path_re (G:=given kp8 [] []) 1000 [false,false,false] (asm:=[(k) == false,(decide (a > 8)) == false,false == false]) (vb (bif bif bif n2 == 0 then n3 == 0 else false then n1 == wi (z + 1) else false then (↑(List.map Bk.a l1).length:Int) == n1 else false)) (by kernel_rfl) (bc (beq_f (fun h => d19 ((i_var _).1 h))) (bc (beq_f (fun h => d22 (i_dec.1 h))) (bc rfl b0))) q0 c0 (by (try rw [w24]);all_goals exact H)
theorem tvNss (a:Int) (k fm:Bool) (mn:List Bk) (c z i:Int) (t:List Sb) (v:Nat)  (dq:AV) (H :
  (-9223372036854775808 <= a /\ a <= 9223372036854775807) /\
  ((i <= a) -> (Sp.inW 1) /\
   (Sp.inW i) /\
   ∃ (x1:Bk),
   (Ev M1 (Conf.pure 32 [AV.vec true 2 [ag [AV.int IntKind.u8 71,vi 1000],ag [AV.int IntKind.u8 88,vi (1000 * i)]]]) (ag [vb x1.1,AV.vec x1.2 2 (List.map Wo.a x1.3),AV.str x1.4]) []) /\
   ((i < a) -> (-9223372036854775808 <= i + 1 /\ i + 1 <= 9223372036854775807) /\
    (Sp.inW (i + 1) /\ Sp.inW c) /\
    Wp M1 (.run fi8 (atC (cd Try.f8) [1,1,1,1,1,1,0,1,0,0,1,0,0,1,1]) [(0,AV.int IntKind.u8 a),(2,vb k),(7,AV.ptr 0 0 0 0),(8,AV.func (Fn.func 31) [] [AV.eptr 1 [vi c] 0 0]),(9,AV.ptr 1 0 0 0),(10,vi z),(11,vi i),(12,AV.ptr 2 0 0 0)] [{ elems:=[vi c],es:=1,ver:=0,frozen:=true,clean:=true },{ elems:=[ag [AV.vec fm 3 (List.map Bk.a mn),AV.row 3 v]],es:=2,ver:=0,frozen:=false,clean:=false },{ elems:=[ag [vi i,AV.vec true 3 [ag [vb (Sp.callL (i + 1) c).1,AV.vec (Sp.callL (i + 1) c).2 2 (List.map Wo.a (Sp.callL (i + 1) c).3),AV.str (Sp.callL (i + 1) c).4]]]],es:=2,ver:=0,frozen:=false,clean:=true },{ elems:=List.map Sb.a t,es:=2,ver:=v,frozen:=false,clean:=true }]) (PureQ dq)) /\
   (¬(i < a) -> ((k = true) -> (Sp.inW 1 /\ Sp.inW c) /\
     Wp M1 (.run fi8 (atC (cd Try.f8) [1,1,1,1,1,1,0,1,0,0,1,0,0,1,1]) [(0,AV.int IntKind.u8 a),(2,vb k),(7,AV.ptr 0 0 0 0),(8,AV.func (Fn.func 31) [] [AV.eptr 1 [vi c] 0 0]),(9,AV.ptr 1 0 0 0),(10,vi z),(11,vi i),(12,AV.ptr 2 0 0 0)] [{ elems:=[vi c],es:=1,ver:=0,frozen:=true,clean:=true },{ elems:=[ag [AV.vec fm 3 (List.map Bk.a mn),AV.row 3 v]],es:=2,ver:=0,frozen:=false,clean:=false },{ elems:=[ag [vi i,AV.vec false 3 [ag [vb x1.1,AV.vec x1.2 2 (List.map Wo.a x1.3),AV.str x1.4],ag [vb (Sp.callL 1 c).1,AV.vec (Sp.callL 1 c).2 2 (List.map Wo.a (Sp.callL 1 c).3),AV.str (Sp.callL 1 c).4]]]],es:=2,ver:=0,frozen:=false,clean:=true },{ elems:=List.map Sb.a t,es:=2,ver:=v,frozen:=false,clean:=true }]) (PureQ dq)) /\
    (¬(k = true) -> Wp M1 (.run fi8 (atC (cd Try.f8) [1,1,1,1,1,1,0,1,0,0,1,0,0,1,1]) [(0,AV.int IntKind.u8 a),(2,vb k),(7,AV.ptr 0 0 0 0),(8,AV.func (Fn.func 31) [] [AV.eptr 1 [vi c] 0 0]),(9,AV.ptr 1 0 0 0),(10,vi z),(11,vi i),(12,AV.ptr 2 0 0 0)] [{ elems:=[vi c],es:=1,ver:=0,frozen:=true,clean:=true },{ elems:=[ag [AV.vec fm 3 (List.map Bk.a mn),AV.row 3 v]],es:=2,ver:=0,frozen:=false,clean:=false },{ elems:=[ag [vi i,AV.vec true 3 [ag [vb x1.1,AV.vec x1.2 2 (List.map Wo.a x1.3),AV.str x1.4]]]],es:=2,ver:=0,frozen:=false,clean:=true },{ elems:=List.map Sb.a t,es:=2,ver:=v,frozen:=false,clean:=true }]) (PureQ dq)))) /\
  (¬(i <= a) -> (Sp.okN mn t) /\
   ((k = true) -> vb (bif bif bif (Sp.siz mn t).snd == 12 then (Sp.exq mn t).snd == 12 else false then (Sp.siz mn t).fst == 0 else false then (↑(Sp.exq mn t).1.length:Int) == 0 else false) = dq) /\
   (¬(k = true) -> ((a > 8) -> vb (bif bif bif (Sp.siz mn t).snd == 3 then (Sp.exq mn t).snd == 3 else false then (Sp.siz mn t).fst == 0 else false then (↑(Sp.exq mn t).1.length:Int) == 0 else false) = dq) /\
    (¬(a > 8) -> vb (bif bif bif (Sp.siz mn t).snd == 0 then (Sp.exq mn t).snd == 0 else false then (Sp.siz mn t).fst == IntKind.i64.wrap (z + 1) else false then (↑(Sp.exq mn t).1.length:Int) == (Sp.siz mn t).fst else false) = dq)))) :
 tvNss_at a k fm mn c z i t v (PureQ dq):=by
 unfold tvNss_at
 obtain ⟨k1,H⟩:=H
 have w2:wi a = a:=wI64 k1
 have i3:(decide (i <= wi a)) = true ↔ (i <= a):=(by (try rw [w2]);all_goals exact i_dec)
 rcases xm (i <= a) with d4 | d4
 ·have H:=H.1 d4
  obtain ⟨k5,H⟩:=H
  obtain ⟨k6,H⟩:=H
  obtain ⟨x1,H⟩:=H
  obtain ⟨k7,H⟩:=H
  have i8:(decide (i < wi a)) = true ↔ (i < a):=(by (try rw [w2]);all_goals exact i_dec)
  refine path_wp (G:=given kp8 [(10,1,.call (ag [AV.int IntKind.u8 71,vi 1000]) none),(10,3,.call (ag [AV.int IntKind.u8 88,vi (1000 * i)]) none),(10,5,.call (ag [vb x1.1,AV.vec x1.2 2 (List.map Wo.a x1.3),AV.str x1.4]) none)] []) 12 [true] ⟨(atC (cd Try.f8) [1,1,1,1,1,1,0,1,0,0,1,0,0,1,0,1]),[(0,AV.int IntKind.u8 a),(2,vb k),(7,AV.ptr 0 0 0 0),(8,AV.func (Fn.func 31) [] [AV.eptr 1 [vi c] 0 0]),(9,AV.ptr 1 0 0 0),(10,vi z),(11,vi i),(12,AV.ptr 3 0 0 0),(58,vb (decide (i < wi a)))],[⟨[vi c],1,0,true,true⟩,⟨[ag [AV.vec fm 3 (List.map Bk.a mn),AV.row 2 v]],2,0,false,false⟩,⟨List.map Sb.a t,2,v,false,true⟩,⟨[ag [vi i,AV.vec true 3 [ag [vb x1.1,AV.vec x1.2 2 (List.map Wo.a x1.3),AV.str x1.4]]]],2,0,false,false⟩],_,[],_⟩ (by kernel_rfl) (bc (beq_t (i3.2 d4)) (bc rfl b0)) q0 (ce (@ev33 (71) (1) k5) (ce (@ev33 (88) (i) k6) (ce k7 c0))) ?_
  rcases xm (i < a) with d9 | d9
  ·have H:=H.1 d9
   obtain ⟨k10,H⟩:=H
   have w11:wi (i + 1) = i + 1:=wI64 k10
   obtain ⟨k12,H⟩:=H
   exact path_wp (G:=given kp8 [(12,3,.call (ag [vb (Sp.callL (i + 1) c).1,AV.vec (Sp.callL (i + 1) c).2 2 (List.map Wo.a (Sp.callL (i + 1) c).3),AV.str (Sp.callL (i + 1) c).4]) none)] []) 2 [true] ⟨(atC (cd Try.f8) [1,1,1,1,1,1,0,1,0,0,1,0,0,1,1]),[(0,AV.int IntKind.u8 a),(2,vb k),(7,AV.ptr 0 0 0 0),(8,AV.func (Fn.func 31) [] [AV.eptr 1 [vi c] 0 0]),(9,AV.ptr 1 0 0 0),(10,vi z),(11,vi i),(12,AV.ptr 3 0 0 0)],[⟨[vi c],1,0,true,true⟩,⟨[ag [AV.vec fm 3 (List.map Bk.a mn),AV.row 2 v]],2,0,false,false⟩,⟨List.map Sb.a t,2,v,false,true⟩,⟨[ag [vi i,AV.vec true 3 [ag [vb (Sp.callL (i + 1) c).1,AV.vec (Sp.callL (i + 1) c).2 2 (List.map Wo.a (Sp.callL (i + 1) c).3),AV.str (Sp.callL (i + 1) c).4]]]],2,0,false,false⟩],[(decide (i < wi a)) == true,0 == 0],[],[pc 31 [vi (wi (i + 1)),AV.eptr 1 [vi c] 0 0] (ag [vb (Sp.callL (i + 1) c).1,AV.vec (Sp.callL (i + 1) c).2 2 (List.map Wo.a (Sp.callL (i + 1) c).3),AV.str (Sp.callL (i + 1) c).4])]⟩ (by kernel_rfl) (bc (beq_t (i8.2 d9)) (bc (beq_self_eq_true _) b0)) q0 (ce (by (try rw [w11]);all_goals exact (@ev31 (i + 1) (c) k12)) c0) (wp_melt (by kernel_rfl) [] (env':=[(0,AV.int IntKind.u8 a),(2,vb k),(7,AV.ptr 0 0 0 0),(8,AV.func (Fn.func 31) [] [AV.eptr 1 [vi c] 0 0]),(9,AV.ptr 1 0 0 0),(10,vi z),(11,vi i),(12,AV.ptr 3 0 0 0)]) (L':=[⟨[vi c],1,0,true,true⟩,⟨[ag [AV.vec fm 3 (List.map Bk.a mn),AV.row 2 v]],2,0,false,false⟩,⟨List.map Sb.a t,2,v,false,true⟩,⟨[ag [vi i,AV.vec true 3 [ag [vb (Sp.callL (i + 1) c).1,AV.vec (Sp.callL (i + 1) c).2 2 (List.map Wo.a (Sp.callL (i + 1) c).3),AV.str (Sp.callL (i + 1) c).4]]]],2,0,false,true⟩]) (bs:=[]) (by kernel_rfl) (by kernel_rfl) (by kernel_rfl) allB_nil (wp_narrow [0,1,3,2] (by kernel_rfl) H))
  ·have H:=H.2 d9
   rcases xm (k = true) with d14 | d14
   ·have H:=H.1 d14
    obtain ⟨k15,H⟩:=H
    exact path_wp (G:=given kp8 [(14,3,.call (ag [vb (Sp.callL 1 c).1,AV.vec (Sp.callL 1 c).2 2 (List.map Wo.a (Sp.callL 1 c).3),AV.str (Sp.callL 1 c).4]) none)] []) 5 [false,true] ⟨(atC (cd Try.f8) [1,1,1,1,1,1,0,1,0,0,1,0,0,1,1]),[(0,AV.int IntKind.u8 a),(2,vb k),(7,AV.ptr 0 0 0 0),(8,AV.func (Fn.func 31) [] [AV.eptr 1 [vi c] 0 0]),(9,AV.ptr 1 0 0 0),(10,vi z),(11,vi i),(12,AV.ptr 3 0 0 0)],[⟨[vi c],1,0,true,true⟩,⟨[ag [AV.vec fm 3 (List.map Bk.a mn),AV.row 2 v]],2,0,false,false⟩,⟨List.map Sb.a t,2,v,false,true⟩,⟨[ag [vi i,AV.row 4 0]],2,0,false,false⟩,⟨[ag [vb x1.1,AV.vec x1.2 2 (List.map Wo.a x1.3),AV.str x1.4],ag [vb (Sp.callL 1 c).1,AV.vec (Sp.callL 1 c).2 2 (List.map Wo.a (Sp.callL 1 c).3),AV.str (Sp.callL 1 c).4]],3,0,false,true⟩],[(decide (i < wi a)) == false,(k) == true,true,true,true],[],_⟩ (by kernel_rfl) (bc (beq_f (fun h => d9 (i8.1 h))) (bc (beq_t ((i_var _).2 d14)) (bc rfl (bc rfl (bc rfl b0))))) q0 (ce (@ev31 (1) (c) k15) c0) (wp_melt (by kernel_rfl) [4] (env':=[(0,AV.int IntKind.u8 a),(2,vb k),(7,AV.ptr 0 0 0 0),(8,AV.func (Fn.func 31) [] [AV.eptr 1 [vi c] 0 0]),(9,AV.ptr 1 0 0 0),(10,vi z),(11,vi i),(12,AV.ptr 3 0 0 0)]) (L':=[⟨[vi c],1,0,true,true⟩,⟨[ag [AV.vec fm 3 (List.map Bk.a mn),AV.row 2 v]],2,0,false,false⟩,⟨List.map Sb.a t,2,v,false,true⟩,⟨[ag [vi i,AV.vec false 3 [ag [vb x1.1,AV.vec x1.2 2 (List.map Wo.a x1.3),AV.str x1.4],ag [vb (Sp.callL 1 c).1,AV.vec (Sp.callL 1 c).2 2 (List.map Wo.a (Sp.callL 1 c).3),AV.str (Sp.callL 1 c).4]]]],2,0,false,true⟩,⟨[ag [vb x1.1,AV.vec x1.2 2 (List.map Wo.a x1.3),AV.str x1.4],ag [vb (Sp.callL 1 c).1,AV.vec (Sp.callL 1 c).2 2 (List.map Wo.a (Sp.callL 1 c).3),AV.str (Sp.callL 1 c).4]],3,0,true,true⟩]) (bs:=[0 == 0]) (by kernel_rfl) (by kernel_rfl) (by kernel_rfl) (allB_cons (beq_self_eq_true _) allB_nil) (wp_narrow [0,1,3,2] (by kernel_rfl) H))
   ·have H:=H.2 d14
    exact path_wp (G:=given kp8 [] []) 5 [false,false] ⟨(atC (cd Try.f8) [1,1,1,1,1,1,0,1,0,0,1,0,0,1,1]),[(0,AV.int IntKind.u8 a),(2,vb k),(7,AV.ptr 0 0 0 0),(8,AV.func (Fn.func 31) [] [AV.eptr 1 [vi c] 0 0]),(9,AV.ptr 1 0 0 0),(10,vi z),(11,vi i),(12,AV.ptr 3 0 0 0),(65,vb k)],[⟨[vi c],1,0,true,true⟩,⟨[ag [AV.vec fm 3 (List.map Bk.a mn),AV.row 2 v]],2,0,false,false⟩,⟨List.map Sb.a t,2,v,false,true⟩,⟨[ag [vi i,AV.vec true 3 [ag [vb x1.1,AV.vec x1.2 2 (List.map Wo.a x1.3),AV.str x1.4]]]],2,0,false,false⟩],[(decide (i < wi a)) == false,(k) == false],[],_⟩ (by kernel_rfl) (bc (beq_f (fun h => d9 (i8.1 h))) (bc (beq_f (fun h => d14 ((i_var _).1 h))) b0)) q0 c0 (Wp.less [0,2,7,8,9,10,11,12] (wp_melt (by kernel_rfl) [] (env':=[(0,AV.int IntKind.u8 a),(2,vb k),(7,AV.ptr 0 0 0 0),(8,AV.func (Fn.func 31) [] [AV.eptr 1 [vi c] 0 0]),(9,AV.ptr 1 0 0 0),(10,vi z),(11,vi i),(12,AV.ptr 3 0 0 0)]) (L':=[⟨[vi c],1,0,true,true⟩,⟨[ag [AV.vec fm 3 (List.map Bk.a mn),AV.row 2 v]],2,0,false,false⟩,⟨List.map Sb.a t,2,v,false,true⟩,⟨[ag [vi i,AV.vec true 3 [ag [vb x1.1,AV.vec x1.2 2 (List.map Wo.a x1.3),AV.str x1.4]]]],2,0,false,true⟩]) (bs:=[]) (by kernel_rfl) (by kernel_rfl) (by kernel_rfl) allB_nil (wp_narrow [0,1,3,2] (by kernel_rfl) H)))
 ·have H:=H.2 d4
  obtain ⟨k16,H⟩:=H
  refine path_wp (G:=given kp8 [(17,1,.call (tu [vi (Sp.siz mn t).fst,vi (Sp.siz mn t).snd]) none),(18,1,.call (tu [AV.vec false 3 (List.map Bk.a (Sp.exq mn t).1),vi (Sp.exq mn t).snd]) none)] []) 15 [false] ⟨(atC (cd Try.f8) [1,1,1,1,1,1,1,1,1,1,0,0,1]),[(0,AV.int IntKind.u8 a),(10,vi z),(13,vi (Sp.siz mn t).fst),(14,vi (Sp.siz mn t).snd),(15,AV.vec false 3 (List.map Bk.a (Sp.exq mn t).1)),(16,vi (Sp.exq mn t).snd),(17,vi 0),(92,vb k)],[⟨[vi c],1,0,true,true⟩,⟨[ag [AV.vec fm 3 (List.map Bk.a mn),AV.row 2 v]],2,0,false,false⟩,⟨List.map Sb.a t,2,v,true,true⟩],[(decide (i <= wi a)) == false,true,v == v,true,v == v],[],_⟩ (by kernel_rfl) (bc (beq_f (fun h => d4 (i3.1 h))) (bc rfl (bc (beq_self_eq_true _) (bc rfl (bc (beq_self_eq_true _) b0))))) q0 (ce (@ev29 (fm) (mn) (false) (t) k16) (ce (@ev16 (fm) (mn) (false) (t) k16) c0)) ?_
  rcases xm (k = true) with d18 | d18
  ·have H:=H.1 d18
   have w19:(List.map Bk.a (Sp.exq mn t).1).length = (Sp.exq mn t).1.length:=List.length_map ..
   exact path_re (G:=given kp8 [] []) 1000 [true,true] (asm:=[(k) == true,true == true]) (vb (bif bif bif (Sp.siz mn t).snd == 12 then (Sp.exq mn t).snd == 12 else false then (Sp.siz mn t).fst == 0 else false then (↑(List.map Bk.a (Sp.exq mn t).1).length:Int) == 0 else false)) (by kernel_rfl) (bc (beq_t ((i_var _).2 d18)) (bc rfl b0)) q0 c0 (by (try rw [w19]);all_goals exact H)
  ·have H:=H.2 d18
   rcases xm (a > 8) with d21 | d21
   ·have H:=H.1 d21
    have w22:(List.map Bk.a (Sp.exq mn t).1).length = (Sp.exq mn t).1.length:=List.length_map ..
    exact path_re (G:=given kp8 [] []) 1000 [false,true,true] (asm:=[(k) == false,(decide (a > 8)) == true,true == true]) (vb (bif bif bif (Sp.siz mn t).snd == 3 then (Sp.exq mn t).snd == 3 else false then (Sp.siz mn t).fst == 0 else false then (↑(List.map Bk.a (Sp.exq mn t).1).length:Int) == 0 else false)) (by kernel_rfl) (bc (beq_f (fun h => d18 ((i_var _).1 h))) (bc (beq_t (i_dec.2 d21)) (bc rfl b0))) q0 c0 (by (try rw [w22]);all_goals exact H)
   ·have H:=H.2 d21
    have w23:(List.map Bk.a (Sp.exq mn t).1).length = (Sp.exq mn t).1.length:=List.length_map ..
    exact path_re (G:=given kp8 [] []) 1000 [false,false,false] (asm:=[(k) == false,(decide (a > 8)) == false,false == false]) (vb (bif bif bif (Sp.siz mn t).snd == 0 then (Sp.exq mn t).snd == 0 else false then (Sp.siz mn t).fst == wi (z + 1) else false then (↑(List.map Bk.a (Sp.exq mn t).1).length:Int) == (Sp.siz mn t).fst else false)) (by kernel_rfl) (bc (beq_f (fun h => d18 ((i_var _).1 h))) (bc (beq_f (fun h => d21 (i_dec.1 h))) (bc rfl b0))) q0 c0 (by (try rw [w23]);all_goals exact H)
theorem tvNty (a:Int) (k fm:Bool) (mn:List Bk) (c z i:Int) (m:Int) (fs:Bool) (w:List Bk)  (dq:AV) (H :
  (-9223372036854775808 <= z * c /\ z * c <= 9223372036854775807) /\
  (-9223372036854775808 <= i + 1 /\ i + 1 <= 9223372036854775807) /\
  tvNss_at (a) (k) (fm) (mn) (c) (z * c) (i + 1) ([{ n:=m,f:=fs,bl:=w }]) (0) (PureQ dq)) :
 tvNty_at a k fm mn c z i m fs w (PureQ dq):=by
 unfold tvNty_at
 obtain ⟨k1,H⟩:=H
 have w2:wi (z * c) = z * c:=wI64 k1
 obtain ⟨k3,H⟩:=H
 have w4:wi (i + 1) = i + 1:=wI64 k3
 have w5:[ag [vi m,AV.vec fs 3 (List.map Bk.a w)]] = List.map Sb.a [{ n:=m,f:=fs,bl:=w }]:=rfl
 exact path_wp (G:=given kp8 [] []) 1000 [] ⟨(atC (cd Try.f8) [1,1,1,1,1,1,0,1,0,0]),[(0,AV.int IntKind.u8 a),(2,vb k),(7,AV.ptr 0 0 0 0),(8,AV.func (Fn.func 31) [] [AV.eptr 1 [vi c] 0 0]),(9,AV.ptr 1 0 0 0),(10,vi (wi (z * c))),(11,vi (wi (i + 1)))],[⟨[vi c],1,0,true,true⟩,⟨[ag [AV.vec fm 3 (List.map Bk.a mn),AV.row 3 0]],2,0,false,false⟩,⟨[ag [vi m,AV.vec fs 3 (List.map Bk.a w)]],2,0,false,true⟩,⟨[ag [vi m,AV.vec fs 3 (List.map Bk.a w)]],2,0,false,true⟩],_,[],_⟩ (by kernel_rfl) (bc rfl (bc rfl (bc rfl (bc rfl (bc rfl b0))))) q0 c0 (by (try rw [w2]);(try rw [w4]);(try rw [w5]);all_goals exact wp_narrow [0,1,3] (by kernel_rfl) H)
theorem tvNtx (a:Int) (k fm:Bool) (mn:List Bk) (c z i:Int) (t:List Sb) (v:Nat) (m:Int) (fs:Bool) (w:List Bk)  (dq:AV) (H :
  ((t.length + 1) * 32 <= 1099511627776) /\
  (-9223372036854775808 <= z * c /\ z * c <= 9223372036854775807) /\
  (-9223372036854775808 <= i + 1 /\ i + 1 <= 9223372036854775807) /\
  tvNss_at (a) (k) (fm) (mn) (c) (z * c) (i + 1) (t ++ [{ n:=m,f:=fs,bl:=w }]) (v + 1) (PureQ dq)) :
 tvNtx_at a k fm mn c z i t v m fs w (PureQ dq):=by
 unfold tvNtx_at
 have w1:(List.map Sb.a t).length = t.length:=List.length_map ..
 have i2:(decide (((List.map Sb.a t).length + 1) * 32 <= 1099511627776)) = true ↔ ((t.length + 1) * 32 <= 1099511627776):=(by (try rw [w1]);all_goals exact i_dec)
 obtain ⟨k3,H⟩:=H
 have w4:List.map Sb.a t ++ [ag [vi m,AV.vec fs 3 (List.map Bk.a w)]] = List.map Sb.a (t ++ [{ n:=m,f:=fs,bl:=w }]):=(lm_app rfl rfl)
 obtain ⟨k5,H⟩:=H
 have w6:wi (z * c) = z * c:=wI64 k5
 obtain ⟨k7,H⟩:=H
 have w8:wi (i + 1) = i + 1:=wI64 k7
 exact path_wp (G:=given kp8 [] []) 1000 [] ⟨(atC (cd Try.f8) [1,1,1,1,1,1,0,1,0,0]),[(0,AV.int IntKind.u8 a),(2,vb k),(7,AV.ptr 0 0 0 0),(8,AV.func (Fn.func 31) [] [AV.eptr 1 [vi c] 0 0]),(9,AV.ptr 1 0 0 0),(10,vi (wi (z * c))),(11,vi (wi (i + 1)))],[⟨[vi c],1,0,true,true⟩,⟨[ag [AV.vec fm 3 (List.map Bk.a mn),AV.row 3 (v + 1)]],2,0,false,false⟩,⟨[ag [vi m,AV.vec fs 3 (List.map Bk.a w)]],2,0,false,true⟩,⟨List.map Sb.a t ++ [ag [vi m,AV.vec fs 3 (List.map Bk.a w)]],2,v + 1,false,true⟩],[true,true,v == v,decide (((List.map Sb.a t).length + 1) * 32 <= 1099511627776),true,true],[],_⟩ (by kernel_rfl) (bc rfl (bc rfl (bc (beq_self_eq_true _) (bc (i2.2 k3) (bc rfl (bc rfl b0)))))) q0 c0 (by (try rw [w4]);(try rw [w6]);(try rw [w8]);all_goals exact wp_narrow [0,1,3] (by kernel_rfl) H)
end Go.Av

namespace Go.Av
open Go.Proofs
theorem nest_succ (d c:Int) (bk:Bool) (k:Nat):Sp.nest d c bk (k + 1) = Sp.nest d c bk k ++ [⟨(k:Int) + 1,Sp.nf d bk ((k:Int) + 1),Sp.nb d c bk ((k:Int) + 1)⟩]:=by
 unfold Sp.nest
 rw [List.range_succ,List.map_append];rfl
theorem pow_rng {c:Int} (hc:1 <= c /\ c <= 3) {n:Nat} (hn:n <= 13):0 <= c ^ n /\ c ^ n <= 1594323:=by
 refine ⟨Int.pow_nonneg (by omega),?_⟩
 have hcn:c = ((c.toNat:Nat):Int):=by omega
 rw [hcn,<- Int.natCast_pow]
 have h1:=Nat.pow_le_pow_left (show c.toNat <= 3 by omega) n
 have h2:(3:Nat) ^ n <= 3 ^ 13:=Nat.pow_le_pow_right (by omega) hn
 have h3:(3:Nat) ^ 13 = 1594323:=by decide
 omega
theorem nest_okN {d c:Int} {bk:Bool} {n:Nat} (hn:(n:Int) = d) (hdc:neOK d c):Sp.okN (neM c) (Sp.nest d c bk n):=by
 have hdc':=hdc
 obtain ⟨h1,h2⟩:=hdc'
 have hcl:∀ m,1 <= m /\ m <= 12 -> Sp.okW (Sp.callL m c).ws:=fun m hm => ⟨by simp [Sp.callL],fun w hw => by
  unfold Sp.okV
  simp only [Sp.callL,List.mem_cons,List.not_mem_nil,or_false] at hw
  rcases hw with rfl | rfl | rfl
  ·show -9000000000000000000 <= (98000:Int) /\ (98000:Int) <= 9000000000000000000;omega
  ·show -9000000000000000000 <= 1000 * m /\ 1000 * m <= 9000000000000000000;omega
  ·show -9000000000000000000 <= 1000 * c /\ 1000 * c <= 9000000000000000000;omega⟩
 have hfe:∀ i,1 <= i /\ i <= 12 -> Sp.okW (Sp.feedB i).ws:=fun i hi => ⟨by simp [Sp.feedB],fun w hw => by
  unfold Sp.okV
  simp only [Sp.feedB,List.mem_cons,List.not_mem_nil,or_false] at hw
  rcases hw with rfl | rfl
  ·show -9000000000000000000 <= (1000:Int) /\ (1000:Int) <= 9000000000000000000;omega
  ·show -9000000000000000000 <= 1000 * i /\ 1000 * i <= 9000000000000000000;omega⟩
 refine okN_of ⟨by simp,fun b hb => ?_⟩ (fun x hx => ?_) (by rw [nest_len];omega) (by simp)
 ·simp only [neM,List.mem_cons,List.not_mem_nil,or_false] at hb
  rcases hb with rfl | rfl
  ·exact hcl 1 (by omega)
  ·refine ⟨by simp [Sp.endL],fun w hw => ?_⟩
   unfold Sp.okV
   simp only [Sp.endL,List.mem_singleton] at hw
   subst hw
   show -9000000000000000000 <= (30000:Int) /\ (30000:Int) <= 9000000000000000000;omega
 ·obtain ⟨i,hi,rfl⟩:=nest_mem hx
  have hl:(Sp.nb d c bk i).length <= 2:=by
   unfold Sp.nb
   split
   ·simp
   ·split <;> simp
  refine ⟨⟨by show (Sp.nb d c bk i).length <= _;omega,fun b hb => ?_⟩,by show (Sp.nb d c bk i).length <= _;omega⟩
  rcases nb_mem hdc (by omega) hb with ⟨m,hm,rfl⟩ | rfl
  ·exact hcl m (by omega)
  ·exact hfe i (by omega)
theorem nested_end {d c:Int} {bk:Bool} {n:Nat} (hn:(n:Int) = d) (hdc:neOK d c):Sp.exq (neM c) (Sp.nest d c bk n) = Sp.exq (neM c) (Sp.nest d c bk n) /\
  (bk = true -> (Sp.siz (neM c) (Sp.nest d c bk n) = (0,12) /\ Sp.exq (neM c) (Sp.nest d c bk n) = ([],12))) /\ (¬bk = true -> (d > 8 -> Sp.siz (neM c) (Sp.nest d c bk n) = (0,3) /\ Sp.exq (neM c) (Sp.nest d c bk n) = ([],3)) /\
   (¬d > 8 -> Sp.siz (neM c) (Sp.nest d c bk n) = (c ^ n + 1,0) /\ (Sp.exq (neM c) (Sp.nest d c bk n)).2 = 0 /\ ((Sp.exq (neM c) (Sp.nest d c bk n)).1.length:Int) = c ^ n + 1)):=by
 have hs:=nest_siz (bk:=bk) hn hdc
 refine ⟨rfl,fun k => ?_,fun k => ⟨fun h8 => ?_,fun h8 => ?_⟩⟩
 ·rw [if_pos k] at hs
  refine ⟨hs,?_⟩
  unfold Sp.exq
  rw [hs,if_neg (by decide)]
 ·rw [if_neg k,if_pos h8] at hs
  refine ⟨hs,?_⟩
  unfold Sp.exq
  rw [hs,if_neg (by decide)]
 ·rw [if_neg k,if_neg h8] at hs
  have h0:(Sp.siz (neM c) (Sp.nest d c bk n)).2 = 0:=by rw [hs]
  have hl:=siz_len h0
  rw [hs] at hl
  refine ⟨hs,?_,?_⟩
  ·unfold Sp.exq;rw [if_pos h0]
  ·unfold Sp.exq;rw [if_pos h0,List.length_map];exact hl.1
theorem feed_ev (i:Int):Ev M1 (.pure 32 [.vec true 2 [.agg [.int .u8 71,.int .i64 1000],.agg [.int .u8 88,.int .i64 (1000 * i)]]]) (.agg [.bool (Sp.feedB i).sk,.vec (Sp.feedB i).f 2 ((Sp.feedB i).ws.map Wo.a),.str (Sp.feedB i).cm]) []:=ev32 true [⟨71,1000⟩,⟨88,1000 * i⟩]
theorem tvNss_loop {d c:Int} {k:Bool} {N:Nat} (hN:(N:Int) = d) (hdc:neOK d c):∀ (r n:Nat) (v:Nat),n + r = N -> tvNss_at d k true (neM c) c (c ^ n) (n + 1) (Sp.nest d c k n) v (PureQ (.bool true)):=by
 have hdc':=hdc
 obtain ⟨h1,h2⟩:=hdc'
 intro r
 induction r with
 | zero =>
  intro n v hn
  have hnN:n = N:=by omega
  subst hnN
  have hp:=pow_rng h2 (show n <= 13 by omega)
  obtain ⟨_,e1,e2⟩:=nested_end (bk:=k) hN hdc
  refine tvNss _ _ _ _ _ _ _ _ _ _ ⟨by omega,fun z => by omega,fun _ => ⟨nest_okN hN hdc,fun y => ?_,fun y => ⟨fun h8 => ?_,fun h8 => ?_⟩⟩⟩
  ·obtain ⟨s1,s2⟩:=e1 y
   rw [s1,s2];rfl
  ·obtain ⟨s1,s2⟩:=(e2 y).1 h8
   rw [s1,s2];rfl
  ·obtain ⟨s1,s2,s3⟩:=(e2 y).2 h8
   have hw:IntKind.i64.wrap (c ^ n + 1) = c ^ n + 1:=wI64 (by omega)
   rw [s2,s3,s1,hw]
   simp
 | succ r ih =>
  intro n v hn
  have hp:=pow_rng h2 (show n <= 13 by omega)
  have hp1:=pow_rng h2 (show n + 1 <= 13 by omega)
  have hnext:=ih (n + 1) (v + 1) (by omega)
  rw [nest_succ,Int.pow_succ] at hnext
  rw [Int.pow_succ] at hp1
  have fin:∀ {fs:Bool} {w:List Bk},Sp.nf d k ((n:Int) + 1) = fs -> Sp.nb d c k ((n:Int) + 1) = w -> tvNtx_at d k true (neM c) c (c ^ n) (n + 1) (Sp.nest d c k n) v (n + 1) fs w (PureQ (.bool true)):=fun {fs w} hf hw => by
   subst hf;subst hw
   exact tvNtx _ _ _ _ _ _ _ _ _ _ _ _ _ ⟨by rw [nest_len];omega,by omega,by omega,hnext⟩
  refine tvNss _ _ _ _ _ _ _ _ _ _ ⟨by omega,fun _ => ⟨by unfold Sp.inW;omega,by unfold Sp.inW;omega,Sp.feedB ((n:Int) + 1),feed_ev _,fun z => ⟨by omega,⟨by unfold Sp.inW;omega,by unfold Sp.inW;omega⟩,?_⟩,fun z => ⟨fun y => ⟨⟨by unfold Sp.inW;omega,by unfold Sp.inW;omega⟩,?_⟩,fun y => ?_⟩⟩,fun z => by omega⟩
  ·exact fin (fs:=true) (w:=[Sp.callL ((n:Int) + 1 + 1) c]) (by unfold Sp.nf;rw [if_pos z]) (by unfold Sp.nb;rw [if_pos z])
  ·exact fin (fs:=false) (w:=[Sp.feedB ((n:Int) + 1),Sp.callL 1 c]) (by unfold Sp.nf;rw [if_neg z,y];rfl) (by unfold Sp.nb;rw [if_neg z,if_pos y])
  ·exact fin (fs:=true) (w:=[Sp.feedB ((n:Int) + 1)]) (by unfold Sp.nf;rw [if_neg z,Bool.eq_false_iff.2 y];rfl) (by unfold Sp.nb;rw [if_neg z,if_neg y])
theorem ev8 (a b:Int) (k:Bool) (ha:0 <= a /\ a <= 255) (hb:0 <= b /\ b <= 255):Ev M1 (.pure 8 [.int .u8 a,.int .u8 b,.bool k]) (.bool true) []:=by
 have hr:=Int.tmod_nonneg 3 hb.1
 have hr2:=Int.tmod_lt_of_pos b (show (0:Int) < 3 by omega)
 refine call8 (tvNs a b k _ ⟨fun _ => rfl,fun h => ⟨by omega,by omega,⟨by unfold Sp.inW;omega,by unfold Sp.inW;omega⟩,by unfold Sp.inW;omega,Sp.endL,ev32 true [⟨77,30000⟩],?_⟩⟩)
 generalize hc:1 + b.tmod 3 = c
 have hdc:neOK a c:=⟨by omega,by omega⟩
 obtain ⟨N,hN⟩:=Int.eq_ofNat_of_zero_le (show 0 <= a by omega)
 have start:tvNsz_at a k true (neM c) c 1 1 (PureQ (.bool true)):=by
  have hdc':=hdc
  obtain ⟨h1,h2⟩:=hdc'
  have hnext:=tvNss_loop (k:=k) hN.symm hdc (N - 1) 1 0 (by omega)
  have e1:Sp.nest a c k 1 = [⟨1,Sp.nf a k 1,Sp.nb a c k 1⟩]:=rfl
  rw [e1,Int.pow_succ,Int.pow_zero] at hnext
  have fin:∀ {fs:Bool} {w:List Bk},Sp.nf a k 1 = fs -> Sp.nb a c k 1 = w -> tvNty_at a k true (neM c) c 1 1 1 fs w (PureQ (.bool true)):=fun {fs w} hf hw => by
   subst hf;subst hw
   exact tvNty _ _ _ _ _ _ _ _ _ _ _ ⟨by omega,by omega,hnext⟩
  refine tvNsz _ _ _ _ _ _ _ _ ⟨by omega,fun _ => ⟨by unfold Sp.inW;omega,by unfold Sp.inW;omega,Sp.feedB 1,feed_ev _,fun z => ⟨by omega,⟨by unfold Sp.inW;omega,by unfold Sp.inW;omega⟩,?_⟩,fun z => ⟨fun y => ⟨⟨by unfold Sp.inW;omega,by unfold Sp.inW;omega⟩,?_⟩,fun y => ?_⟩⟩,fun z => by omega⟩
  ·exact fin (fs:=true) (w:=[Sp.callL (1 + 1) c]) (by unfold Sp.nf;rw [if_pos z]) (by unfold Sp.nb;rw [if_pos z])
  ·exact fin (fs:=false) (w:=[Sp.feedB 1,Sp.callL 1 c]) (by unfold Sp.nf;rw [if_neg z,y];rfl) (by unfold Sp.nb;rw [if_neg z,if_pos y])
  ·exact fin (fs:=true) (w:=[Sp.feedB 1]) (by unfold Sp.nf;rw [if_neg z,Bool.eq_false_iff.2 y];rfl) (by unfold Sp.nb;rw [if_neg z,if_neg y])
 exact wp_pureV hm1 [8] [0] (by kernel_rfl) rfl rfl start
end Go.Av
