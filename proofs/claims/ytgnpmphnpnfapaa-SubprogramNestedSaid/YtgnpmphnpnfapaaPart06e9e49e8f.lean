/- PART 4 of the texts of a claim, joined by a program: what each part shows stands at its head. -/
import Derived.Test.YtgnpmphnpnfapaaPart7a62b3d9a5

namespace Go.Av
open Go.Proofs
set_option maxRecDepth 100000
def fi86:Fi:=⟨19,[.tmp 4]⟩
def kp86:List (Nat × List Nat):=[(0,[0,1]),(1,[0,1,7,8]),(2,[0,1,7,8,9]),(3,[0,1,5,7,8]),(4,[0,1,5,7,8,16]),(5,[4]),(6,[0,1,7,8]),(7,[4])]
def svJo_at (h:Bool) (s:List Sb) (Q:AV -> Heap -> Prop):Prop:=Wp M1 (.run fi86 (atC (cd Try.f86) []) [(0,.vec h 2 (s.map Sb.a)),(1,.func (.func 79) [] [])] []) Q
def svJoa_at (h:Bool) (s:List Sb) (n i:Int) (Q:AV -> Heap -> Prop):Prop:=Wp M1 (.run fi86 (atC (cd Try.f86) [1,0,1,0,0]) [(0,.vec h 2 (s.map Sb.a)),(1,.func (.func 79) [] []),(7,.int .i64 n),(8,.int .i64 i)] []) Q
def svJr_at (h:Bool) (s:List Sb) (m:Int) (f:Bool) (q:List Bk) (Q:AV -> Heap -> Prop):Prop:=Wp M1 (.run fi86 (atC (cd Try.f86) []) [(0,.vec h 2 (s.map Sb.a)),(1,.func (.func 80) [] [.eptr 2 [.agg [.int .i64 m,.vec f 3 (q.map Bk.a)]] 0 0])] []) Q
def svJra_at (h:Bool) (s:List Sb) (m:Int) (f:Bool) (q:List Bk) (n i:Int) (Q:AV -> Heap -> Prop):Prop:=Wp M1 (.run fi86 (atC (cd Try.f86) [1,0,1,0,0]) [(0,.vec h 2 (s.map Sb.a)),(1,.func (.func 80) [] [.eptr 2 [.agg [.int .i64 m,.vec f 3 (q.map Bk.a)]] 0 0]),(7,.int .i64 n),(8,.int .i64 i)] []) Q
theorem call86 {args:List AV} {d:AV} (h:wc M1 fi86 Try.f86 args d):Ev M1 (.pure 86 args) d []:=pcl _ _ (by kernel_rfl) h
theorem svJo (h:Bool) (s:List Sb)  (dq:AV) (H :
  svJoa_at (h) (s) ((↑s.length:Int)) (0) (PureQ dq)) :
 svJo_at h s (PureQ dq):=by
 unfold svJo_at
 have w1:(List.map Sb.a s).length = s.length:=List.length_map ..
 exact path_wp (G:=given kp86 [] []) 1000 [] ⟨(atC (cd Try.f86) [1,0,1,0,0]),[(0,AV.vec h 2 (List.map Sb.a s)),(1,AV.func (Fn.func 79) [] []),(7,vi (↑(List.map Sb.a s).length:Int)),(8,vi 0)],[],_,[],_⟩ (by kernel_rfl) b0 q0 c0 (by (try rw [w1]);all_goals exact H)
theorem svJoa (h:Bool) (s:List Sb) (n i:Int)  (dq:AV) (H :
  ((i < n) -> (Sp.okBs (s.getD i.toNat default).3) /\
   (0 <= i) /\
   (i.toNat < s.length) /\
   ((Sp.anyP Sp.pMk (s.getD i.toNat default).3 = true) -> vi i = dq) /\
   (¬(Sp.anyP Sp.pMk (s.getD i.toNat default).3 = true) -> (-9223372036854775808 <= i + 1 /\ i + 1 <= 9223372036854775807) /\
    svJoa_at (h) (s) (n) (i + 1) (PureQ dq))) /\
  (¬(i < n) -> vi (-1) = dq)) :
 svJoa_at h s n i (PureQ dq):=by
 unfold svJoa_at
 rcases xm (i < n) with d2 | d2
 ·have H:=H.1 d2
  obtain ⟨k3,H⟩:=H
  obtain ⟨k5,H⟩:=H
  have w6:(List.map Sb.a s).length = s.length:=List.length_map ..
  have i7:(decide (i.toNat < (List.map Sb.a s).length)) = true ↔ (i.toNat < s.length):=(by (try rw [w6]);all_goals exact i_dec)
  obtain ⟨k8,H⟩:=H
  refine path_wp (G:=given kp86 [(4,4,.elem (ag [vi (s.getD i.toNat default).n,AV.vec (s.getD i.toNat default).2 3 (List.map Bk.a (s.getD i.toNat default).3)])),(4,5,.call (vb (Sp.anyP Sp.pMk (s.getD i.toNat default).3)) none)] []) 11 [true] ⟨(atC (cd Try.f86) [1,0,1,0,0,1,1,0,0,1,1]),[(0,AV.vec h 2 (List.map Sb.a s)),(1,AV.func (Fn.func 79) [] []),(5,vi i),(7,vi n),(8,vi i),(16,vb (Sp.anyP Sp.pMk (s.getD i.toNat default).3))],[],_,[((List.map Sb.a s).get?Internal i.toNat = some (ag [vi (s.getD i.toNat default).n,AV.vec (s.getD i.toNat default).2 3 (List.map Bk.a (s.getD i.toNat default).3)]))],_⟩ (by kernel_rfl) (bc (beq_t (i_dec.2 d2)) (bc (i_dec.2 k5) (bc (i7.2 k8) b0))) (qc (el_map k8) q0) (ce (@ev79 ((s.getD i.toNat default).n) ((s.getD i.toNat default).2) ((s.getD i.toNat default).3) k3) c0) ?_
  rcases xm (Sp.anyP Sp.pMk (s.getD i.toNat default).3 = true) with d10 | d10
  ·have H:=H.1 d10
   exact path_re (G:=given kp86 [] []) 1000 [true] (asm:=[(Sp.anyP Sp.pMk (s.getD i.toNat default).3) == true]) (vi i) (by kernel_rfl) (bc (beq_t ((i_var _).2 d10)) b0) q0 c0 H
  ·have H:=H.2 d10
   obtain ⟨k11,H⟩:=H
   have w12:wi (i + 1) = i + 1:=wI64 k11
   exact path_wp (G:=given kp86 [] []) 1000 [false] ⟨(atC (cd Try.f86) [1,0,1,0,0]),[(0,AV.vec h 2 (List.map Sb.a s)),(1,AV.func (Fn.func 79) [] []),(7,vi n),(8,vi (wi (i + 1)))],[],[(Sp.anyP Sp.pMk (s.getD i.toNat default).3) == false],[],_⟩ (by kernel_rfl) (bc (beq_f (fun h => d10 ((i_var _).1 h))) b0) q0 c0 (by (try rw [w12]);all_goals exact H)
 ·have H:=H.2 d2
  exact path_re (G:=given kp86 [] []) 1000 [false] (vi (-1)) (by kernel_rfl) (bc (beq_f (fun h => d2 (i_dec.1 h))) b0) q0 c0 H
theorem svJr (h:Bool) (s:List Sb) (m:Int) (f:Bool) (q:List Bk)  (dq:AV) (H :
  svJra_at (h) (s) (m) (f) (q) ((↑s.length:Int)) (0) (PureQ dq)) :
 svJr_at h s m f q (PureQ dq):=by
 unfold svJr_at
 have w1:(List.map Sb.a s).length = s.length:=List.length_map ..
 exact path_wp (G:=given kp86 [] []) 1000 [] ⟨(atC (cd Try.f86) [1,0,1,0,0]),[(0,AV.vec h 2 (List.map Sb.a s)),(1,AV.func (Fn.func 80) [] [AV.eptr 2 [ag [vi m,AV.vec f 3 (List.map Bk.a q)]] 0 0]),(7,vi (↑(List.map Sb.a s).length:Int)),(8,vi 0)],[],_,[],_⟩ (by kernel_rfl) b0 q0 c0 (by (try rw [w1]);all_goals exact H)
theorem svJra (h:Bool) (s:List Sb) (m:Int) (f:Bool) (q:List Bk) (n i:Int)  (dq:AV) (H :
  ((i < n) -> (0 <= i) /\
   (i.toNat < s.length) /\
   ((Sp.eqI m (s.getD i.toNat default).n = true) -> vi i = dq) /\
   (¬(Sp.eqI m (s.getD i.toNat default).n = true) -> (-9223372036854775808 <= i + 1 /\ i + 1 <= 9223372036854775807) /\
    svJra_at (h) (s) (m) (f) (q) (n) (i + 1) (PureQ dq))) /\
  (¬(i < n) -> vi (-1) = dq)) :
 svJra_at h s m f q n i (PureQ dq):=by
 unfold svJra_at
 rcases xm (i < n) with d2 | d2
 ·have H:=H.1 d2
  obtain ⟨k4,H⟩:=H
  have w5:(List.map Sb.a s).length = s.length:=List.length_map ..
  have i6:(decide (i.toNat < (List.map Sb.a s).length)) = true ↔ (i.toNat < s.length):=(by (try rw [w5]);all_goals exact i_dec)
  obtain ⟨k7,H⟩:=H
  refine path_wp (G:=given kp86 [(4,4,.elem (ag [vi (s.getD i.toNat default).n,AV.vec (s.getD i.toNat default).2 3 (List.map Bk.a (s.getD i.toNat default).3)])),(4,5,.call (vb (Sp.eqI m (s.getD i.toNat default).n)) none)] []) 11 [true] ⟨(atC (cd Try.f86) [1,0,1,0,0,1,1,0,0,1,1]),[(0,AV.vec h 2 (List.map Sb.a s)),(1,AV.func (Fn.func 80) [] [AV.eptr 2 [ag [vi m,AV.vec f 3 (List.map Bk.a q)]] 0 0]),(5,vi i),(7,vi n),(8,vi i),(16,vb (Sp.eqI m (s.getD i.toNat default).n))],[],_,[((List.map Sb.a s).get?Internal i.toNat = some (ag [vi (s.getD i.toNat default).n,AV.vec (s.getD i.toNat default).2 3 (List.map Bk.a (s.getD i.toNat default).3)]))],_⟩ (by kernel_rfl) (bc (beq_t (i_dec.2 d2)) (bc (i_dec.2 k4) (bc (i6.2 k7) b0))) (qc (el_map k7) q0) (ce (@ev80 ((s.getD i.toNat default).n) (m) ((s.getD i.toNat default).2) (f) ((s.getD i.toNat default).3) (q)) c0) ?_
  rcases xm (Sp.eqI m (s.getD i.toNat default).n = true) with d9 | d9
  ·have H:=H.1 d9
   exact path_re (G:=given kp86 [] []) 1000 [true] (asm:=[(Sp.eqI m (s.getD i.toNat default).n) == true]) (vi i) (by kernel_rfl) (bc (beq_t ((i_var _).2 d9)) b0) q0 c0 H
  ·have H:=H.2 d9
   obtain ⟨k10,H⟩:=H
   have w11:wi (i + 1) = i + 1:=wI64 k10
   exact path_wp (G:=given kp86 [] []) 1000 [false] ⟨(atC (cd Try.f86) [1,0,1,0,0]),[(0,AV.vec h 2 (List.map Sb.a s)),(1,AV.func (Fn.func 80) [] [AV.eptr 2 [ag [vi m,AV.vec f 3 (List.map Bk.a q)]] 0 0]),(7,vi n),(8,vi (wi (i + 1)))],[],[(Sp.eqI m (s.getD i.toNat default).n) == false],[],_⟩ (by kernel_rfl) (bc (beq_f (fun h => d9 ((i_var _).1 h))) b0) q0 c0 (by (try rw [w11]);all_goals exact H)
 ·have H:=H.2 d2
  exact path_re (G:=given kp86 [] []) 1000 [false] (vi (-1)) (by kernel_rfl) (bc (beq_f (fun h => d2 (i_dec.1 h))) b0) q0 c0 H
end Go.Av

namespace Go.Av
open Go.Proofs
theorem svJo_loop {h:Bool} {s:List Sb} {dq:AV} (hk:s.length <= 1000000 /\ ∀ x ∈ s,Sp.okBs x.bl):∀ (c i:Nat),i + c = s.length -> AV.int .i64 (Sp.idxF Sp.sMk (s.drop i) i) = dq -> svJoa_at h s s.length i (PureQ dq):=by
 have hl:s.length <= 1000000:=hk.1
 intro c
 induction c with
 | zero =>
  intro i hi hq
  rw [List.drop_eq_nil_of_le (by omega)] at hq
  exact svJoa _ _ _ _ _ ⟨fun h => by omega,fun _ => hq⟩
 | succ c ih =>
  intro i hi hq
  have hm:=hk.2 _ (getD_mem (show i < s.length by omega))
  rw [drop_getD (show i < s.length by omega),Sp.idxF] at hq
  refine svJoa _ _ _ _ _ ⟨fun _ => ?_,fun h => by omega⟩
  rw [Int.toNat_natCast]
  refine ⟨hm,by omega,by omega,fun h => ?_,fun h => ⟨by omega,ih (i + 1) (by omega) ?_⟩⟩
  ·rw [if_pos (show Sp.sMk (s.getD i default) = true from h)] at hq
   exact hq
  ·rw [if_neg (show ¬Sp.sMk (s.getD i default) = true from h)] at hq
   exact hq
theorem ev86_a (h:Bool) (s:List Sb) (hk:s.length <= 1000000 /\ ∀ x ∈ s,Sp.okBs x.bl):Ev M1 (.pure 86 [sbA h s,.func (.func 79) [] []]) (.int .i64 (Sp.idxP Sp.sMk s)) []:=
 call86 (svJo h s _ (svJo_loop hk s.length 0 (by omega) rfl))
theorem svJr_loop {h:Bool} {s:List Sb} {m:Int} {f:Bool} {q:List Bk} {dq:AV} (hk:s.length <= 1000000):∀ (c i:Nat),i + c = s.length -> AV.int .i64 (Sp.idxF (Sp.sIs m) (s.drop i) i) = dq -> svJra_at h s m f q s.length i (PureQ dq):=by
 have hl:s.length <= 1000000:=hk
 intro c
 induction c with
 | zero =>
  intro i hi hq
  rw [List.drop_eq_nil_of_le (by omega)] at hq
  exact svJra _ _ _ _ _ _ _ _ ⟨fun h => by omega,fun _ => hq⟩
 | succ c ih =>
  intro i hi hq
  rw [drop_getD (show i < s.length by omega),Sp.idxF] at hq
  refine svJra _ _ _ _ _ _ _ _ ⟨fun _ => ?_,fun h => by omega⟩
  rw [Int.toNat_natCast]
  refine ⟨by omega,by omega,fun h => ?_,fun h => ⟨by omega,ih (i + 1) (by omega) ?_⟩⟩
  ·rw [if_pos (show (Sp.sIs m) (s.getD i default) = true from h)] at hq
   exact hq
  ·rw [if_neg (show ¬(Sp.sIs m) (s.getD i default) = true from h)] at hq
   exact hq
theorem ev86_b (h:Bool) (s:List Sb) (m:Int) (f:Bool) (q:List Bk) (hk:s.length <= 1000000):Ev M1 (.pure 86 [sbA h s,.func (.func 80) [] [.eptr 2 [.agg [.int .i64 m,.vec f 3 (q.map Bk.a)]] 0 0]]) (.int .i64 (Sp.idxP (Sp.sIs m) s)) []:=
 call86 (svJr h s m f q _ (svJr_loop hk s.length 0 (by omega) rfl))
end Go.Av

namespace Go.Av
open Go.Proofs
set_option maxRecDepth 100000
def fi78:Fi:=⟨9,[.tmp 4]⟩
def kp78:List (Nat × List Nat):=[(0,[0,1]),(1,[4])]
def svKo_at (h:Bool) (s:List Sb) (Q:AV -> Heap -> Prop):Prop:=Wp M1 (.run fi78 (atC (cd Try.f78) []) [(0,.vec h 2 (s.map Sb.a)),(1,.func (.func 79) [] [])] []) Q
def svKr_at (h:Bool) (s:List Sb) (m:Int) (f:Bool) (q:List Bk) (Q:AV -> Heap -> Prop):Prop:=Wp M1 (.run fi78 (atC (cd Try.f78) []) [(0,.vec h 2 (s.map Sb.a)),(1,.func (.func 80) [] [.eptr 2 [.agg [.int .i64 m,.vec f 3 (q.map Bk.a)]] 0 0])] []) Q
theorem call78 {args:List AV} {d:AV} (h:wc M1 fi78 Try.f78 args d):Ev M1 (.pure 78 args) d []:=pcl _ _ (by kernel_rfl) h
theorem svKo (h:Bool) (s:List Sb)  (dq:AV) (H :
  (s.length <= 1000000 /\ ∀ (x:Sb),x ∈ s -> Sp.okBs x.bl) /\
  vb (decide (Sp.idxP Sp.sMk s >= 0)) = dq) :
 svKo_at h s (PureQ dq):=by
 unfold svKo_at
 obtain ⟨k1,H⟩:=H
 exact path_re (G:=given kp78 [(1,2,.call (vi (Sp.idxP Sp.sMk s)) none)] []) 1000 [] (vb (decide (Sp.idxP Sp.sMk s >= 0))) (by kernel_rfl) b0 q0 (ce (@ev86_a (h) (s) k1) c0) H
theorem svKr (h:Bool) (s:List Sb) (m:Int) (f:Bool) (q:List Bk)  (dq:AV) (H :
  (s.length <= 1000000) /\
  vb (decide (Sp.idxP (Sp.sIs m) s >= 0)) = dq) :
 svKr_at h s m f q (PureQ dq):=by
 unfold svKr_at
 obtain ⟨k1,H⟩:=H
 exact path_re (G:=given kp78 [(1,2,.call (vi (Sp.idxP (Sp.sIs m) s)) none)] []) 1000 [] (vb (decide (Sp.idxP (Sp.sIs m) s >= 0))) (by kernel_rfl) b0 q0 (ce (@ev86_b (h) (s) (m) (f) (q) k1) c0) H
end Go.Av

namespace Go.Av
open Go.Proofs
theorem ev78_a (h:Bool) (s:List Sb) (hk:s.length <= 1000000 /\ ∀ x ∈ s,Sp.okBs x.bl):Ev M1 (.pure 78 [sbA h s,.func (.func 79) [] []]) (.bool (Sp.anyP Sp.sMk s)) []:=
 call78 (svKo h s _ ⟨hk,congrArg AV.bool (any_idx ..)⟩)
theorem ev78_b (h:Bool) (s:List Sb) (m:Int) (f:Bool) (q:List Bk) (hk:s.length <= 1000000):Ev M1 (.pure 78 [sbA h s,.func (.func 80) [] [.eptr 2 [.agg [.int .i64 m,.vec f 3 (q.map Bk.a)]] 0 0]]) (.bool (Sp.anyP (Sp.sIs m) s)) []:=
 call78 (svKr h s m f q _ ⟨hk,congrArg AV.bool (any_idx ..)⟩)
end Go.Av

namespace Go.Av
open Go.Proofs
set_option maxRecDepth 100000
def fi62:Fi:=⟨48,[.tmp 2]⟩
def kp62:List (Nat × List Nat):=[(0,[1]),(1,[1,3]),(2,[1,43]),(3,[2]),(4,[2])]
def fi63:Fi:=⟨18,[.tmp 2]⟩
def kp63:List (Nat × List Nat):=[(0,[0]),(1,[0,5,6,7]),(2,[0,5,6,7,8]),(3,[0,3,4,5,6,7]),(4,[0,5,6,7,16]),(5,[2]),(6,[0,5,6,7]),(7,[2])]
def svRp_at (h:Bool) (s:List Sb) (Q:AV -> Heap -> Prop):Prop:=Wp M1 (.run fi63 (atC (cd Try.f63) []) [(0,.vec h 2 (s.map Sb.a))] []) Q
def svRpa_at (h:Bool) (s:List Sb) (n i:Int) (Q:AV -> Heap -> Prop):Prop:=Wp M1 (.run fi63 (atC (cd Try.f63) [1,0,1,0,0]) [(0,.vec h 2 (s.map Sb.a)),(5,.vec h 2 (s.map Sb.a)),(6,.int .i64 n),(7,.int .i64 i)] []) Q
def svOd_at (g:Bool) (l:List Bk) (h:Bool) (s:List Sb) (Q:AV -> Heap -> Prop):Prop:=Wp M1 (.run fi62 (atC (cd Try.f62) []) [(0,.agg [.vec g 3 (l.map Bk.a),.vec h 2 (s.map Sb.a)])] []) Q
theorem call62 {args:List AV} {d:AV} (h:wc M1 fi62 Try.f62 args d):Ev M1 (.pure 62 args) d []:=pcl _ _ (by kernel_rfl) h
theorem call63 {args:List AV} {d:AV} (h:wc M1 fi63 Try.f63 args d):Ev M1 (.pure 63 args) d []:=pcl _ _ (by kernel_rfl) h
theorem svRp (h:Bool) (s:List Sb)  (dq:AV) (H :
  svRpa_at (h) (s) ((↑s.length:Int)) (0) (PureQ dq)) :
 svRp_at h s (PureQ dq):=by
 unfold svRp_at
 have w1:(List.map Sb.a s).length = s.length:=List.length_map ..
 exact path_wp (G:=given kp63 [] []) 1000 [] ⟨(atC (cd Try.f63) [1,0,1,0,0]),[(0,AV.vec h 2 (List.map Sb.a s)),(5,AV.vec h 2 (List.map Sb.a s)),(6,vi (↑(List.map Sb.a s).length:Int)),(7,vi 0)],[],_,[],_⟩ (by kernel_rfl) b0 q0 c0 (by (try rw [w1]);all_goals exact H)
noncomputable abbrev zSpT1 (s:List Sb) (i:Int):=Sp.anyP (Sp.sIs (s.getD i.toNat default).n) (List.drop 0 (List.take i.toNat s))
theorem svRpa (h:Bool) (s:List Sb) (n i:Int)  (dq:AV) (H :
  ((i < n) -> (0 <= i) /\
   (i.toNat < s.length) /\
   ((List.drop 0 (List.take i.toNat s)).length <= 1000000) /\
   (0 <= i.toNat) /\
   (i.toNat <= s.length) /\
   ((Sp.anyP (Sp.sIs (s.getD i.toNat default).n) (List.drop 0 (List.take i.toNat s)) = true) -> vb true = dq) /\
   (¬(Sp.anyP (Sp.sIs (s.getD i.toNat default).n) (List.drop 0 (List.take i.toNat s)) = true) -> (-9223372036854775808 <= i + 1 /\ i + 1 <= 9223372036854775807) /\
    svRpa_at (h) (s) (n) (i + 1) (PureQ dq))) /\
  (¬(i < n) -> vb false = dq)) :
 svRpa_at h s n i (PureQ dq):=by
 unfold svRpa_at
 rcases xm (i < n) with d2 | d2
 ·have H:=H.1 d2
  obtain ⟨k4,H⟩:=H
  have w5:(List.map Sb.a s).length = s.length:=List.length_map ..
  have i6:(decide (i.toNat < (List.map Sb.a s).length)) = true ↔ (i.toNat < s.length):=(by (try rw [w5]);all_goals exact i_dec)
  obtain ⟨k7,H⟩:=H
  have w8:List.take i.toNat (List.map Sb.a s) = List.map Sb.a (List.take i.toNat s):=(lm_take rfl)
  have w9:List.drop 0 (List.map Sb.a (List.take i.toNat s)) = List.map Sb.a (List.drop 0 (List.take i.toNat s)):=(lm_drop rfl)
  obtain ⟨k10,H⟩:=H
  obtain ⟨k13,H⟩:=H
  have i14:(decide (i.toNat <= (List.map Sb.a s).length)) = true ↔ (i.toNat <= s.length):=(by (try rw [w5]);all_goals exact i_dec)
  obtain ⟨k15,H⟩:=H
  refine path_wp (G:=given kp63 [(3,2,.elem (ag [vi (s.getD i.toNat default).n,AV.vec (s.getD i.toNat default).2 3 (List.map Bk.a (s.getD i.toNat default).3)])),(4,4,.call (vb (zSpT1 s i)) none)] []) 11 [true] ⟨(atC (cd Try.f63) [1,0,1,0,0,1,1,0,0,1,1]),[(0,AV.vec h 2 (List.map Sb.a s)),(5,AV.vec h 2 (List.map Sb.a s)),(6,vi n),(7,vi i),(16,vb (zSpT1 s i))],[⟨[ag [vi (s.getD i.toNat default).n,AV.vec (s.getD i.toNat default).2 3 (List.map Bk.a (s.getD i.toNat default).3)]],2,0,false,false⟩],_,[((List.map Sb.a s).get?Internal i.toNat = some (ag [vi (s.getD i.toNat default).n,AV.vec (s.getD i.toNat default).2 3 (List.map Bk.a (s.getD i.toNat default).3)]))],[pc 78 [AV.vec (h && false) 2 (List.drop 0 (List.take i.toNat (List.map Sb.a s))),AV.func (Fn.func 80) [] [AV.eptr 2 [ag [vi (s.getD i.toNat default).n,AV.vec (s.getD i.toNat default).2 3 (List.map Bk.a (s.getD i.toNat default).3)]] 0 0]] (vb (zSpT1 s i))]⟩ (by kernel_rfl) (bc (beq_t (i_dec.2 d2)) (bc (i_dec.2 k4) (bc (i6.2 k7) (bc rfl (bc (i_dec.2 k4) (bc (i_dec.2 k13) (bc (i14.2 k15) (bc rfl b0)))))))) (qc (el_map k7) q0) (ce (by (try rw [w8]);(try rw [w9]);all_goals exact (@ev78_b (h && false) (List.drop 0 (List.take i.toNat s)) ((s.getD i.toNat default).n) ((s.getD i.toNat default).2) ((s.getD i.toNat default).3) k10)) c0) ?_
  rcases xm (Sp.anyP (Sp.sIs (s.getD i.toNat default).n) (List.drop 0 (List.take i.toNat s)) = true) with d17 | d17
  ·have H:=H.1 d17
   exact path_re (G:=given kp63 [] []) 1000 [true] (asm:=[(zSpT1 s i) == true]) (vb true) (by kernel_rfl) (bc (beq_t ((i_var _).2 d17)) b0) q0 c0 H
  ·have H:=H.2 d17
   obtain ⟨k18,H⟩:=H
   have w19:wi (i + 1) = i + 1:=wI64 k18
   exact path_wp (G:=given kp63 [] []) 1000 [false] ⟨(atC (cd Try.f63) [1,0,1,0,0]),[(0,AV.vec h 2 (List.map Sb.a s)),(5,AV.vec h 2 (List.map Sb.a s)),(6,vi n),(7,vi (wi (i + 1)))],[⟨[ag [vi (s.getD i.toNat default).n,AV.vec (s.getD i.toNat default).2 3 (List.map Bk.a (s.getD i.toNat default).3)]],2,0,false,false⟩],[(zSpT1 s i) == false],[],_⟩ (by kernel_rfl) (bc (beq_f (fun h => d17 ((i_var _).1 h))) b0) q0 c0 (by (try rw [w19]);all_goals exact wp_narrow [] (by kernel_rfl) H)
 ·have H:=H.2 d2
  exact path_re (G:=given kp63 [] []) 1000 [false] (vb false) (by kernel_rfl) (bc (beq_f (fun h => d2 (i_dec.1 h))) b0) q0 c0 H
noncomputable abbrev zSpT2 (l:List Bk):=Sp.hasW (l.getD ((↑l.length:Int) - 1).toNat default).3 77 30000 = true
noncomputable abbrev zSpT3 (l:List Bk):=(↑(Sp.codes (l.getD ((↑l.length:Int) - 1).toNat default).3 79).length:Int) > 0
noncomputable abbrev zSpT4 (l:List Bk):=List.drop 0 (List.take ((↑l.length:Int) - 1).toNat l)
noncomputable abbrev zSpT5 (l:List Bk):=Sp.hasW (l.getD ((↑l.length:Int) - 1).toNat default).3 77 99000 = true
noncomputable abbrev zSpT6 (l:List Bk):=Sp.hasW (l.getD ((↑l.length:Int) - 1).toNat default).3 77 30000
noncomputable abbrev zSpT7 (l:List Bk):=Sp.hasW (l.getD ((↑l.length:Int) - 1).toNat default).3 77 99000
noncomputable abbrev zSpT8 (l:List Bk):=vf (List.map (vi) (Sp.codes (l.getD ((↑l.length:Int) - 1).toNat default).3 79))
theorem svOd (g:Bool) (l:List Bk) (h:Bool) (s:List Sb)  (dq:AV) (H :
  (-9223372036854775808 <= (↑l.length:Int) - 1 /\ (↑l.length:Int) - 1 <= 9223372036854775807) /\
  ((¬((↑l.length:Int) - 1 < 0)) -> (Sp.few6 (l.getD ((↑l.length:Int) - 1).toNat default).3.length)) /\
  ((¬(((↑l.length:Int) - 1 < 0) \/ (¬(Sp.hasW (l.getD ((↑l.length:Int) - 1).toNat default).3 77 30000 = true)))) -> (Sp.few6 (l.getD ((↑l.length:Int) - 1).toNat default).3.length)) /\
  ((¬((((↑l.length:Int) - 1 < 0) \/ (¬(Sp.hasW (l.getD ((↑l.length:Int) - 1).toNat default).3 77 30000 = true))) \/ ((↑(Sp.codes (l.getD ((↑l.length:Int) - 1).toNat default).3 79).length:Int) > 0))) -> (Sp.few6 (l.getD ((↑l.length:Int) - 1).toNat default).3.length)) /\
  ((¬(((((↑l.length:Int) - 1 < 0) \/ (¬(Sp.hasW (l.getD ((↑l.length:Int) - 1).toNat default).3 77 30000 = true))) \/ ((↑(Sp.codes (l.getD ((↑l.length:Int) - 1).toNat default).3 79).length:Int) > 0)) \/ (Sp.hasW (l.getD ((↑l.length:Int) - 1).toNat default).3 77 99000 = true))) -> (Sp.okBs (List.drop 0 (List.take ((↑l.length:Int) - 1).toNat l)))) /\
  ((¬((↑l.length:Int) - 1 < 0)) -> (0 <= (↑l.length:Int) - 1)) /\
  ((¬((↑l.length:Int) - 1 < 0)) -> (((↑l.length:Int) - 1).toNat < l.length)) /\
  ((¬(((↑l.length:Int) - 1 < 0) \/ (¬(Sp.hasW (l.getD ((↑l.length:Int) - 1).toNat default).3 77 30000 = true)))) -> (0 <= (↑l.length:Int) - 1)) /\
  ((¬(((↑l.length:Int) - 1 < 0) \/ (¬(Sp.hasW (l.getD ((↑l.length:Int) - 1).toNat default).3 77 30000 = true)))) -> (((↑l.length:Int) - 1).toNat < l.length)) /\
  ((¬((((↑l.length:Int) - 1 < 0) \/ (¬(Sp.hasW (l.getD ((↑l.length:Int) - 1).toNat default).3 77 30000 = true))) \/ ((↑(Sp.codes (l.getD ((↑l.length:Int) - 1).toNat default).3 79).length:Int) > 0))) -> (0 <= (↑l.length:Int) - 1)) /\
  ((¬((((↑l.length:Int) - 1 < 0) \/ (¬(Sp.hasW (l.getD ((↑l.length:Int) - 1).toNat default).3 77 30000 = true))) \/ ((↑(Sp.codes (l.getD ((↑l.length:Int) - 1).toNat default).3 79).length:Int) > 0))) -> (((↑l.length:Int) - 1).toNat < l.length)) /\
  ((¬(((((↑l.length:Int) - 1 < 0) \/ (¬(Sp.hasW (l.getD ((↑l.length:Int) - 1).toNat default).3 77 30000 = true))) \/ ((↑(Sp.codes (l.getD ((↑l.length:Int) - 1).toNat default).3 79).length:Int) > 0)) \/ (Sp.hasW (l.getD ((↑l.length:Int) - 1).toNat default).3 77 99000 = true))) -> (0 <= (↑l.length:Int) - 1)) /\
  ((¬(((((↑l.length:Int) - 1 < 0) \/ (¬(Sp.hasW (l.getD ((↑l.length:Int) - 1).toNat default).3 77 30000 = true))) \/ ((↑(Sp.codes (l.getD ((↑l.length:Int) - 1).toNat default).3 79).length:Int) > 0)) \/ (Sp.hasW (l.getD ((↑l.length:Int) - 1).toNat default).3 77 99000 = true))) -> (0 <= ((↑l.length:Int) - 1).toNat)) /\
  ((¬(((((↑l.length:Int) - 1 < 0) \/ (¬(Sp.hasW (l.getD ((↑l.length:Int) - 1).toNat default).3 77 30000 = true))) \/ ((↑(Sp.codes (l.getD ((↑l.length:Int) - 1).toNat default).3 79).length:Int) > 0)) \/ (Sp.hasW (l.getD ((↑l.length:Int) - 1).toNat default).3 77 99000 = true))) -> (((↑l.length:Int) - 1).toNat <= l.length)) /\
  (((((((↑l.length:Int) - 1 < 0) \/ (¬(Sp.hasW (l.getD ((↑l.length:Int) - 1).toNat default).3 77 30000 = true))) \/ ((↑(Sp.codes (l.getD ((↑l.length:Int) - 1).toNat default).3 79).length:Int) > 0)) \/ (Sp.hasW (l.getD ((↑l.length:Int) - 1).toNat default).3 77 99000 = true)) \/ (Sp.anyP Sp.pMk (List.drop 0 (List.take ((↑l.length:Int) - 1).toNat l)) = true)) -> vb false = dq) /\
  (¬((((((↑l.length:Int) - 1 < 0) \/ (¬(Sp.hasW (l.getD ((↑l.length:Int) - 1).toNat default).3 77 30000 = true))) \/ ((↑(Sp.codes (l.getD ((↑l.length:Int) - 1).toNat default).3 79).length:Int) > 0)) \/ (Sp.hasW (l.getD ((↑l.length:Int) - 1).toNat default).3 77 99000 = true)) \/ (Sp.anyP Sp.pMk (List.drop 0 (List.take ((↑l.length:Int) - 1).toNat l)) = true)) -> (s.length <= 1000000 /\ ∀ (x:Sb),x ∈ s -> Sp.okBs x.bl) /\
   (vb !Sp.anyP Sp.sMk s) = dq)) :
 svOd_at g l h s (PureQ dq):=by
 unfold svOd_at
 have w1:(List.map Bk.a l).length = l.length:=List.length_map ..
 obtain ⟨k2,H⟩:=H
 have w3:wi ((↑l.length:Int) - 1) = (↑l.length:Int) - 1:=wI64 k2
 have i4:(decide (wi ((↑(List.map Bk.a l).length:Int) - 1) < 0) == false && true && true) = true ↔ (¬((↑l.length:Int) - 1 < 0)):=(by (try rw [w1]);(try rw [w3]);all_goals exact (i_at (i_at (i_bf i_dec))))
 obtain ⟨k5,H⟩:=H
 have i6:((bif decide (wi ((↑(List.map Bk.a l).length:Int) - 1) < 0) then true else !Sp.hasW (l.getD ((↑l.length:Int) - 1).toNat default).3 77 30000) == false && true && true) = true ↔ (¬(((↑l.length:Int) - 1 < 0) \/ (¬(zSpT2 l)))):=(by (try rw [w1]);(try rw [w3]);all_goals exact (i_at (i_at (i_bf (i_bor i_dec (i_not (i_var _)))))))
 obtain ⟨k7,H⟩:=H
 have w8:(List.map (vi) (Sp.codes (l.getD ((↑l.length:Int) - 1).toNat default).3 79)).length = (Sp.codes (l.getD ((↑l.length:Int) - 1).toNat default).3 79).length:=List.length_map ..
 have i9:((bif bif decide (wi ((↑(List.map Bk.a l).length:Int) - 1) < 0) then true else !Sp.hasW (l.getD ((↑l.length:Int) - 1).toNat default).3 77 30000 then true else decide ((↑(List.map (vi) (Sp.codes (l.getD ((↑l.length:Int) - 1).toNat default).3 79)).length:Int) > 0)) == false && true && true) = true ↔ (¬((((↑l.length:Int) - 1 < 0) \/ (¬(zSpT2 l))) \/ (zSpT3 l))):=(by (try rw [w1]);(try rw [w3]);(try rw [w8]);all_goals exact (i_at (i_at (i_bf (i_bor (i_bor i_dec (i_not (i_var _))) i_dec)))))
 obtain ⟨k10,H⟩:=H
 have w11:List.take ((↑l.length:Int) - 1).toNat (List.map Bk.a l) = List.map Bk.a (List.take ((↑l.length:Int) - 1).toNat l):=(lm_take rfl)
 have w12:List.drop 0 (List.map Bk.a (List.take ((↑l.length:Int) - 1).toNat l)) = List.map Bk.a (zSpT4 l):=(lm_drop rfl)
 have i13:((bif bif bif decide (wi ((↑(List.map Bk.a l).length:Int) - 1) < 0) then true else !Sp.hasW (l.getD ((↑l.length:Int) - 1).toNat default).3 77 30000 then true else decide ((↑(List.map (vi) (Sp.codes (l.getD ((↑l.length:Int) - 1).toNat default).3 79)).length:Int) > 0) then true else Sp.hasW (l.getD ((↑l.length:Int) - 1).toNat default).3 77 99000) == false && true && true) = true ↔ (¬(((((↑l.length:Int) - 1 < 0) \/ (¬(zSpT2 l))) \/ (zSpT3 l)) \/ (zSpT5 l))):=(by (try rw [w1]);(try rw [w3]);(try rw [w8]);all_goals exact (i_at (i_at (i_bf (i_bor (i_bor (i_bor i_dec (i_not (i_var _))) i_dec) (i_var _))))))
 obtain ⟨k14,H⟩:=H
 have i15:(!(decide (wi ((↑(List.map Bk.a l).length:Int) - 1) < 0) == false && true) || decide (0 <= wi ((↑(List.map Bk.a l).length:Int) - 1))) = true ↔ ((¬((↑l.length:Int) - 1 < 0)) -> (0 <= (↑l.length:Int) - 1)):=(by (try rw [w1]);(try rw [w3]);all_goals exact (i_imp (i_at (i_bf i_dec)) i_dec))
 obtain ⟨k16,H⟩:=H
 have i17:(!(decide (wi ((↑(List.map Bk.a l).length:Int) - 1) < 0) == false && true) || decide ((wi ((↑(List.map Bk.a l).length:Int) - 1)).toNat < (List.map Bk.a l).length)) = true ↔ ((¬((↑l.length:Int) - 1 < 0)) -> (((↑l.length:Int) - 1).toNat < l.length)):=(by (try rw [w1]);(try rw [w3]);all_goals exact (i_imp (i_at (i_bf i_dec)) i_dec))
 obtain ⟨k18,H⟩:=H
 have i19:(!((bif decide (wi ((↑(List.map Bk.a l).length:Int) - 1) < 0) then true else !Sp.hasW (l.getD ((↑l.length:Int) - 1).toNat default).3 77 30000) == false && true) || decide (0 <= wi ((↑(List.map Bk.a l).length:Int) - 1))) = true ↔ ((¬(((↑l.length:Int) - 1 < 0) \/ (¬(zSpT2 l)))) -> (0 <= (↑l.length:Int) - 1)):=(by (try rw [w1]);(try rw [w3]);all_goals exact (i_imp (i_at (i_bf (i_bor i_dec (i_not (i_var _))))) i_dec))
 obtain ⟨k20,H⟩:=H
 have i21:(!((bif decide (wi ((↑(List.map Bk.a l).length:Int) - 1) < 0) then true else !Sp.hasW (l.getD ((↑l.length:Int) - 1).toNat default).3 77 30000) == false && true) || decide ((wi ((↑(List.map Bk.a l).length:Int) - 1)).toNat < (List.map Bk.a l).length)) = true ↔ ((¬(((↑l.length:Int) - 1 < 0) \/ (¬(zSpT2 l)))) -> (((↑l.length:Int) - 1).toNat < l.length)):=(by (try rw [w1]);(try rw [w3]);all_goals exact (i_imp (i_at (i_bf (i_bor i_dec (i_not (i_var _))))) i_dec))
 obtain ⟨k22,H⟩:=H
 have i23:(!((bif bif decide (wi ((↑(List.map Bk.a l).length:Int) - 1) < 0) then true else !Sp.hasW (l.getD ((↑l.length:Int) - 1).toNat default).3 77 30000 then true else decide ((↑(List.map (vi) (Sp.codes (l.getD ((↑l.length:Int) - 1).toNat default).3 79)).length:Int) > 0)) == false && true) || decide (0 <= wi ((↑(List.map Bk.a l).length:Int) - 1))) = true ↔ ((¬((((↑l.length:Int) - 1 < 0) \/ (¬(zSpT2 l))) \/ (zSpT3 l))) -> (0 <= (↑l.length:Int) - 1)):=(by (try rw [w1]);(try rw [w3]);(try rw [w8]);all_goals exact (i_imp (i_at (i_bf (i_bor (i_bor i_dec (i_not (i_var _))) i_dec))) i_dec))
 obtain ⟨k24,H⟩:=H
 have i25:(!((bif bif decide (wi ((↑(List.map Bk.a l).length:Int) - 1) < 0) then true else !Sp.hasW (l.getD ((↑l.length:Int) - 1).toNat default).3 77 30000 then true else decide ((↑(List.map (vi) (Sp.codes (l.getD ((↑l.length:Int) - 1).toNat default).3 79)).length:Int) > 0)) == false && true) || decide ((wi ((↑(List.map Bk.a l).length:Int) - 1)).toNat < (List.map Bk.a l).length)) = true ↔ ((¬((((↑l.length:Int) - 1 < 0) \/ (¬(zSpT2 l))) \/ (zSpT3 l))) -> (((↑l.length:Int) - 1).toNat < l.length)):=(by (try rw [w1]);(try rw [w3]);(try rw [w8]);all_goals exact (i_imp (i_at (i_bf (i_bor (i_bor i_dec (i_not (i_var _))) i_dec))) i_dec))
 obtain ⟨k26,H⟩:=H
 have i27:(!((bif bif bif decide (wi ((↑(List.map Bk.a l).length:Int) - 1) < 0) then true else !Sp.hasW (l.getD ((↑l.length:Int) - 1).toNat default).3 77 30000 then true else decide ((↑(List.map (vi) (Sp.codes (l.getD ((↑l.length:Int) - 1).toNat default).3 79)).length:Int) > 0) then true else Sp.hasW (l.getD ((↑l.length:Int) - 1).toNat default).3 77 99000) == false && true) || decide (0 <= wi ((↑(List.map Bk.a l).length:Int) - 1))) = true ↔ ((¬(((((↑l.length:Int) - 1 < 0) \/ (¬(zSpT2 l))) \/ (zSpT3 l)) \/ (zSpT5 l))) -> (0 <= (↑l.length:Int) - 1)):=(by (try rw [w1]);(try rw [w3]);(try rw [w8]);all_goals exact (i_imp (i_at (i_bf (i_bor (i_bor (i_bor i_dec (i_not (i_var _))) i_dec) (i_var _)))) i_dec))
 obtain ⟨k28,H⟩:=H
 have i29:(!((bif bif bif decide (wi ((↑(List.map Bk.a l).length:Int) - 1) < 0) then true else !Sp.hasW (l.getD ((↑l.length:Int) - 1).toNat default).3 77 30000 then true else decide ((↑(List.map (vi) (Sp.codes (l.getD ((↑l.length:Int) - 1).toNat default).3 79)).length:Int) > 0) then true else Sp.hasW (l.getD ((↑l.length:Int) - 1).toNat default).3 77 99000) == false && true) || decide (0 <= (wi ((↑(List.map Bk.a l).length:Int) - 1)).toNat)) = true ↔ ((¬(((((↑l.length:Int) - 1 < 0) \/ (¬(zSpT2 l))) \/ (zSpT3 l)) \/ (zSpT5 l))) -> (0 <= ((↑l.length:Int) - 1).toNat)):=(by (try rw [w1]);(try rw [w3]);(try rw [w8]);all_goals exact (i_imp (i_at (i_bf (i_bor (i_bor (i_bor i_dec (i_not (i_var _))) i_dec) (i_var _)))) i_dec))
 obtain ⟨k30,H⟩:=H
 have i31:(!((bif bif bif decide (wi ((↑(List.map Bk.a l).length:Int) - 1) < 0) then true else !Sp.hasW (l.getD ((↑l.length:Int) - 1).toNat default).3 77 30000 then true else decide ((↑(List.map (vi) (Sp.codes (l.getD ((↑l.length:Int) - 1).toNat default).3 79)).length:Int) > 0) then true else Sp.hasW (l.getD ((↑l.length:Int) - 1).toNat default).3 77 99000) == false && true) || decide ((wi ((↑(List.map Bk.a l).length:Int) - 1)).toNat <= (List.map Bk.a l).length)) = true ↔ ((¬(((((↑l.length:Int) - 1 < 0) \/ (¬(zSpT2 l))) \/ (zSpT3 l)) \/ (zSpT5 l))) -> (((↑l.length:Int) - 1).toNat <= l.length)):=(by (try rw [w1]);(try rw [w3]);(try rw [w8]);all_goals exact (i_imp (i_at (i_bf (i_bor (i_bor (i_bor i_dec (i_not (i_var _))) i_dec) (i_var _)))) i_dec))
 obtain ⟨k32,H⟩:=H
 have i36:(bif bif bif bif decide (wi ((↑(List.map Bk.a l).length:Int) - 1) < 0) then true else !Sp.hasW (l.getD ((↑l.length:Int) - 1).toNat default).3 77 30000 then true else decide ((↑(List.map (vi) (Sp.codes (l.getD ((↑l.length:Int) - 1).toNat default).3 79)).length:Int) > 0) then true else Sp.hasW (l.getD ((↑l.length:Int) - 1).toNat default).3 77 99000 then true else Sp.anyP Sp.pMk (zSpT4 l)) = true ↔ ((((((↑l.length:Int) - 1 < 0) \/ (¬(zSpT2 l))) \/ (zSpT3 l)) \/ (zSpT5 l)) \/ (Sp.anyP Sp.pMk (zSpT4 l) = true)):=(by (try rw [w1]);(try rw [w3]);(try rw [w8]);all_goals exact (i_bor (i_bor (i_bor (i_bor i_dec (i_not (i_var _))) i_dec) (i_var _)) (i_var _)))
 refine path_wp (G:=given kp62 [(2,7,.elem (ag [vb (l.getD ((↑l.length:Int) - 1).toNat default).1,AV.vec (l.getD ((↑l.length:Int) - 1).toNat default).2 2 (List.map Wo.a (l.getD ((↑l.length:Int) - 1).toNat default).3),AV.str (l.getD ((↑l.length:Int) - 1).toNat default).4])),(2,8,.call (vb (zSpT6 l)) none),(2,16,.elem (ag [vb (l.getD ((↑l.length:Int) - 1).toNat default).1,AV.vec (l.getD ((↑l.length:Int) - 1).toNat default).2 2 (List.map Wo.a (l.getD ((↑l.length:Int) - 1).toNat default).3),AV.str (l.getD ((↑l.length:Int) - 1).toNat default).4])),(2,17,.call (zSpT8 l) none),(2,26,.elem (ag [vb (l.getD ((↑l.length:Int) - 1).toNat default).1,AV.vec (l.getD ((↑l.length:Int) - 1).toNat default).2 2 (List.map Wo.a (l.getD ((↑l.length:Int) - 1).toNat default).3),AV.str (l.getD ((↑l.length:Int) - 1).toNat default).4])),(2,27,.call (vb (zSpT7 l)) none),(2,34,.call (vb (Sp.anyP Sp.pMk (zSpT4 l))) none)] []) 7 [] ⟨(atC (cd Try.f62) [1,1,0,1]),[(1,AV.ptr 0 0 0 0),(43,vb (bif bif bif bif decide (wi ((↑(List.map Bk.a l).length:Int) - 1) < 0) then true else !Sp.hasW (l.getD ((↑l.length:Int) - 1).toNat default).3 77 30000 then true else decide ((↑(List.map (vi) (Sp.codes (l.getD ((↑l.length:Int) - 1).toNat default).3 79)).length:Int) > 0) then true else Sp.hasW (l.getD ((↑l.length:Int) - 1).toNat default).3 77 99000 then true else Sp.anyP Sp.pMk (zSpT4 l)))],[⟨[ag [AV.vec g 3 (List.map Bk.a l),AV.vec h 2 (List.map Sb.a s)]],2,0,false,false⟩],[true,!(decide (wi ((↑(List.map Bk.a l).length:Int) - 1) < 0) == false && true) || true,!(decide (wi ((↑(List.map Bk.a l).length:Int) - 1) < 0) == false && true) || decide (0 <= wi ((↑(List.map Bk.a l).length:Int) - 1)),!(decide (wi ((↑(List.map Bk.a l).length:Int) - 1) < 0) == false && true) || decide ((wi ((↑(List.map Bk.a l).length:Int) - 1)).toNat < (List.map Bk.a l).length),!((bif decide (wi ((↑(List.map Bk.a l).length:Int) - 1) < 0) then true else !Sp.hasW (l.getD ((↑l.length:Int) - 1).toNat default).3 77 30000) == false && true) || true,!((bif decide (wi ((↑(List.map Bk.a l).length:Int) - 1) < 0) then true else !Sp.hasW (l.getD ((↑l.length:Int) - 1).toNat default).3 77 30000) == false && true) || decide (0 <= wi ((↑(List.map Bk.a l).length:Int) - 1)),!((bif decide (wi ((↑(List.map Bk.a l).length:Int) - 1) < 0) then true else !Sp.hasW (l.getD ((↑l.length:Int) - 1).toNat default).3 77 30000) == false && true) || decide ((wi ((↑(List.map Bk.a l).length:Int) - 1)).toNat < (List.map Bk.a l).length),!((bif bif decide (wi ((↑(List.map Bk.a l).length:Int) - 1) < 0) then true else !Sp.hasW (l.getD ((↑l.length:Int) - 1).toNat default).3 77 30000 then true else decide ((↑(List.map (vi) (Sp.codes (l.getD ((↑l.length:Int) - 1).toNat default).3 79)).length:Int) > 0)) == false && true) || true,!((bif bif decide (wi ((↑(List.map Bk.a l).length:Int) - 1) < 0) then true else !Sp.hasW (l.getD ((↑l.length:Int) - 1).toNat default).3 77 30000 then true else decide ((↑(List.map (vi) (Sp.codes (l.getD ((↑l.length:Int) - 1).toNat default).3 79)).length:Int) > 0)) == false && true) || decide (0 <= wi ((↑(List.map Bk.a l).length:Int) - 1)),!((bif bif decide (wi ((↑(List.map Bk.a l).length:Int) - 1) < 0) then true else !Sp.hasW (l.getD ((↑l.length:Int) - 1).toNat default).3 77 30000 then true else decide ((↑(List.map (vi) (Sp.codes (l.getD ((↑l.length:Int) - 1).toNat default).3 79)).length:Int) > 0)) == false && true) || decide ((wi ((↑(List.map Bk.a l).length:Int) - 1)).toNat < (List.map Bk.a l).length),!((bif bif bif decide (wi ((↑(List.map Bk.a l).length:Int) - 1) < 0) then true else !Sp.hasW (l.getD ((↑l.length:Int) - 1).toNat default).3 77 30000 then true else decide ((↑(List.map (vi) (Sp.codes (l.getD ((↑l.length:Int) - 1).toNat default).3 79)).length:Int) > 0) then true else Sp.hasW (l.getD ((↑l.length:Int) - 1).toNat default).3 77 99000) == false && true) || true,!((bif bif bif decide (wi ((↑(List.map Bk.a l).length:Int) - 1) < 0) then true else !Sp.hasW (l.getD ((↑l.length:Int) - 1).toNat default).3 77 30000 then true else decide ((↑(List.map (vi) (Sp.codes (l.getD ((↑l.length:Int) - 1).toNat default).3 79)).length:Int) > 0) then true else Sp.hasW (l.getD ((↑l.length:Int) - 1).toNat default).3 77 99000) == false && true) || decide (0 <= wi ((↑(List.map Bk.a l).length:Int) - 1)),!((bif bif bif decide (wi ((↑(List.map Bk.a l).length:Int) - 1) < 0) then true else !Sp.hasW (l.getD ((↑l.length:Int) - 1).toNat default).3 77 30000 then true else decide ((↑(List.map (vi) (Sp.codes (l.getD ((↑l.length:Int) - 1).toNat default).3 79)).length:Int) > 0) then true else Sp.hasW (l.getD ((↑l.length:Int) - 1).toNat default).3 77 99000) == false && true) || decide (0 <= (wi ((↑(List.map Bk.a l).length:Int) - 1)).toNat),!((bif bif bif decide (wi ((↑(List.map Bk.a l).length:Int) - 1) < 0) then true else !Sp.hasW (l.getD ((↑l.length:Int) - 1).toNat default).3 77 30000 then true else decide ((↑(List.map (vi) (Sp.codes (l.getD ((↑l.length:Int) - 1).toNat default).3 79)).length:Int) > 0) then true else Sp.hasW (l.getD ((↑l.length:Int) - 1).toNat default).3 77 99000) == false && true) || decide ((wi ((↑(List.map Bk.a l).length:Int) - 1)).toNat <= (List.map Bk.a l).length)],[((decide (wi ((↑(List.map Bk.a l).length:Int) - 1) < 0) == false && true) = true -> (List.map Bk.a l).get?Internal (wi ((↑(List.map Bk.a l).length:Int) - 1)).toNat = some (ag [vb (l.getD ((↑l.length:Int) - 1).toNat default).1,AV.vec (l.getD ((↑l.length:Int) - 1).toNat default).2 2 (List.map Wo.a (l.getD ((↑l.length:Int) - 1).toNat default).3),AV.str (l.getD ((↑l.length:Int) - 1).toNat default).4])),(((bif decide (wi ((↑(List.map Bk.a l).length:Int) - 1) < 0) then true else !Sp.hasW (l.getD ((↑l.length:Int) - 1).toNat default).3 77 30000) == false && true) = true -> (List.map Bk.a l).get?Internal (wi ((↑(List.map Bk.a l).length:Int) - 1)).toNat = some (ag [vb (l.getD ((↑l.length:Int) - 1).toNat default).1,AV.vec (l.getD ((↑l.length:Int) - 1).toNat default).2 2 (List.map Wo.a (l.getD ((↑l.length:Int) - 1).toNat default).3),AV.str (l.getD ((↑l.length:Int) - 1).toNat default).4])),(((bif bif decide (wi ((↑(List.map Bk.a l).length:Int) - 1) < 0) then true else !Sp.hasW (l.getD ((↑l.length:Int) - 1).toNat default).3 77 30000 then true else decide ((↑(List.map (vi) (Sp.codes (l.getD ((↑l.length:Int) - 1).toNat default).3 79)).length:Int) > 0)) == false && true) = true -> (List.map Bk.a l).get?Internal (wi ((↑(List.map Bk.a l).length:Int) - 1)).toNat = some (ag [vb (l.getD ((↑l.length:Int) - 1).toNat default).1,AV.vec (l.getD ((↑l.length:Int) - 1).toNat default).2 2 (List.map Wo.a (l.getD ((↑l.length:Int) - 1).toNat default).3),AV.str (l.getD ((↑l.length:Int) - 1).toNat default).4]))],[⟨decide (wi ((↑(List.map Bk.a l).length:Int) - 1) < 0) == false && true && true,false,40,[ag [vb (l.getD ((↑l.length:Int) - 1).toNat default).1,AV.vec (l.getD ((↑l.length:Int) - 1).toNat default).2 2 (List.map Wo.a (l.getD ((↑l.length:Int) - 1).toNat default).3),AV.str (l.getD ((↑l.length:Int) - 1).toNat default).4],AV.int IntKind.u8 77,vi 30000],[],vb (zSpT6 l),[]⟩,⟨(bif decide (wi ((↑(List.map Bk.a l).length:Int) - 1) < 0) then true else !Sp.hasW (l.getD ((↑l.length:Int) - 1).toNat default).3 77 30000) == false && true && true,false,70,[ag [vb (l.getD ((↑l.length:Int) - 1).toNat default).1,AV.vec (l.getD ((↑l.length:Int) - 1).toNat default).2 2 (List.map Wo.a (l.getD ((↑l.length:Int) - 1).toNat default).3),AV.str (l.getD ((↑l.length:Int) - 1).toNat default).4],AV.int IntKind.u8 79],[],vf (List.map (vi) (Sp.codes (l.getD ((↑l.length:Int) - 1).toNat default).3 79)),[]⟩,⟨(bif bif decide (wi ((↑(List.map Bk.a l).length:Int) - 1) < 0) then true else !Sp.hasW (l.getD ((↑l.length:Int) - 1).toNat default).3 77 30000 then true else decide ((↑(List.map (vi) (Sp.codes (l.getD ((↑l.length:Int) - 1).toNat default).3 79)).length:Int) > 0)) == false && true && true,false,40,[ag [vb (l.getD ((↑l.length:Int) - 1).toNat default).1,AV.vec (l.getD ((↑l.length:Int) - 1).toNat default).2 2 (List.map Wo.a (l.getD ((↑l.length:Int) - 1).toNat default).3),AV.str (l.getD ((↑l.length:Int) - 1).toNat default).4],AV.int IntKind.u8 77,vi 99000],[],vb (zSpT7 l),[]⟩,⟨(bif bif bif decide (wi ((↑(List.map Bk.a l).length:Int) - 1) < 0) then true else !Sp.hasW (l.getD ((↑l.length:Int) - 1).toNat default).3 77 30000 then true else decide ((↑(List.map (vi) (Sp.codes (l.getD ((↑l.length:Int) - 1).toNat default).3 79)).length:Int) > 0) then true else Sp.hasW (l.getD ((↑l.length:Int) - 1).toNat default).3 77 99000) == false && true && true,false,27,[AV.vec (g && false) 3 (List.drop 0 (List.take (wi ((↑(List.map Bk.a l).length:Int) - 1)).toNat (List.map Bk.a l))),AV.func (Fn.func 77) [] []],[],vb (Sp.anyP Sp.pMk (zSpT4 l)),[]⟩]⟩ (by kernel_rfl) (bc rfl (bc (Bool.or_true _) (bc (i15.2 k16) (bc (i17.2 k18) (bc (Bool.or_true _) (bc (i19.2 k20) (bc (i21.2 k22) (bc (Bool.or_true _) (bc (i23.2 k24) (bc (i25.2 k26) (bc (Bool.or_true _) (bc (i27.2 k28) (bc (i29.2 k30) (bc (i31.2 k32) b0)))))))))))))) (qc (by (try rw [w1]);(try rw [w3]);all_goals exact (fun h => el_map (k18 ((i_at (i_bf i_dec)).1 h)))) (qc (by (try rw [w1]);(try rw [w3]);all_goals exact (fun h => el_map (k22 ((i_at (i_bf (i_bor i_dec (i_not (i_var _))))).1 h)))) (qc (by (try rw [w1]);(try rw [w3]);(try rw [w8]);all_goals exact (fun h => el_map (k26 ((i_at (i_bf (i_bor (i_bor i_dec (i_not (i_var _))) i_dec))).1 h)))) q0))) (cc (fun hc => ((@ev40 ((l.getD ((↑l.length:Int) - 1).toNat default).1) ((l.getD ((↑l.length:Int) - 1).toNat default).2) ((l.getD ((↑l.length:Int) - 1).toNat default).3) ((l.getD ((↑l.length:Int) - 1).toNat default).4) (77) (30000) (k5 (i4.1 hc))):Ev M1 (Conf.pure 40 [ag [vb (l.getD ((↑l.length:Int) - 1).toNat default).1,AV.vec (l.getD ((↑l.length:Int) - 1).toNat default).2 2 (List.map Wo.a (l.getD ((↑l.length:Int) - 1).toNat default).3),AV.str (l.getD ((↑l.length:Int) - 1).toNat default).4],AV.int IntKind.u8 77,vi 30000]) (vb (zSpT6 l)) [])) (cc (fun hc => ((@ev70 ((l.getD ((↑l.length:Int) - 1).toNat default).1) ((l.getD ((↑l.length:Int) - 1).toNat default).2) ((l.getD ((↑l.length:Int) - 1).toNat default).3) ((l.getD ((↑l.length:Int) - 1).toNat default).4) (79) (k7 (i6.1 hc))):Ev M1 (Conf.pure 70 [ag [vb (l.getD ((↑l.length:Int) - 1).toNat default).1,AV.vec (l.getD ((↑l.length:Int) - 1).toNat default).2 2 (List.map Wo.a (l.getD ((↑l.length:Int) - 1).toNat default).3),AV.str (l.getD ((↑l.length:Int) - 1).toNat default).4],AV.int IntKind.u8 79]) (zSpT8 l) [])) (cc (fun hc => ((@ev40 ((l.getD ((↑l.length:Int) - 1).toNat default).1) ((l.getD ((↑l.length:Int) - 1).toNat default).2) ((l.getD ((↑l.length:Int) - 1).toNat default).3) ((l.getD ((↑l.length:Int) - 1).toNat default).4) (77) (99000) (k10 (i9.1 hc))):Ev M1 (Conf.pure 40 [ag [vb (l.getD ((↑l.length:Int) - 1).toNat default).1,AV.vec (l.getD ((↑l.length:Int) - 1).toNat default).2 2 (List.map Wo.a (l.getD ((↑l.length:Int) - 1).toNat default).3),AV.str (l.getD ((↑l.length:Int) - 1).toNat default).4],AV.int IntKind.u8 77,vi 99000]) (vb (zSpT7 l)) [])) (cc (fun hc => ((by (try rw [w1]);(try rw [w3]);(try rw [w11]);(try rw [w12]);all_goals exact (@ev27_a (g && false) (zSpT4 l) (k14 (i13.1 hc)))):Ev M1 (Conf.pure 27 [AV.vec (g && false) 3 (List.drop 0 (List.take (wi ((↑(List.map Bk.a l).length:Int) - 1)).toNat (List.map Bk.a l))),AV.func (Fn.func 77) [] []]) (vb (Sp.anyP Sp.pMk (zSpT4 l))) [])) c0)))) ?_
 rcases xm ((((((↑l.length:Int) - 1 < 0) \/ (¬(zSpT2 l))) \/ (zSpT3 l)) \/ (zSpT5 l)) \/ (Sp.anyP Sp.pMk (zSpT4 l) = true)) with d37 | d37
 ·have H:=H.1 d37
  exact path_re (G:=given kp62 [] []) 1000 [true] (vb false) (by kernel_rfl) (bc (beq_t (i36.2 d37)) b0) q0 c0 H
 ·have H:=H.2 d37
  obtain ⟨k38,H⟩:=H
  exact path_re (G:=given kp62 [(4,2,.call (vb (Sp.anyP Sp.sMk s)) none)] []) 1000 [false] (vb !Sp.anyP Sp.sMk s) (by kernel_rfl) (bc (beq_f (fun h => d37 (i36.1 h))) (bc rfl b0)) q0 (ce (@ev78_a (h) (s) k38) c0) H
end Go.Av

namespace Go.Av
open Go.Proofs
namespace Sp
def repB (s:List Sb):Bool:=(List.range' 0 s.length).any fun i => anyP (sIs (s.getD i default).n) (s.take i)
def lastB (l:List Bk):Bk:=l.getD (l.length - 1) default
def ordB (l:List Bk) (s:List Sb):Bool:=decide (0 < l.length) && (endB (lastB l).ws && (!(letB (lastB l).ws 79) && (!(backB (lastB l).ws) && (!(anyP pMk (l.take (l.length - 1))) && !(anyP sMk s)))))
def okSs (s:List Sb):Prop:=s.length <= 1000000 /\ ∀ x ∈ s,okBs x.bl
end Sp
theorem svRpa_loop {h:Bool} {s:List Sb} {dq:AV} (hl:s.length <= 1000000):∀ (c i:Nat),i + c = s.length -> AV.bool ((List.range' i c).any fun i => Sp.anyP (Sp.sIs (s.getD i default).n) (s.take i)) = dq -> svRpa_at h s s.length i (PureQ dq):=by
 intro c
 induction c with
 | zero =>
  intro i hi hq
  exact svRpa _ _ _ _ _ ⟨fun h => by omega,fun _ => hq⟩
 | succ c ih =>
  intro i hi hq
  rw [List.range'_succ,List.any_cons] at hq
  refine svRpa _ _ _ _ _ ⟨fun _ => ?_,fun h => by omega⟩
  rw [Int.toNat_natCast,List.drop_zero]
  refine ⟨by omega,by omega,by simp;omega,by omega,by omega,fun h => ?_,fun h => ⟨by omega,ih (i + 1) (by omega) ?_⟩⟩
  ·rw [h,Bool.true_or] at hq
   exact hq
  ·rw [Bool.eq_false_iff.2 h,Bool.false_or] at hq
   exact hq
theorem ev63 (h:Bool) (s:List Sb) (hl:s.length <= 1000000):Ev M1 (.pure 63 [sbA h s]) (.bool (Sp.repB s)) []:=
 call63 (svRp h s _ (svRpa_loop hl s.length 0 (by omega) rfl))
theorem ev62 (g:Bool) (l:List Bk) (h:Bool) (s:List Sb) (hk:Sp.okBs l /\ Sp.okSs s):Ev M1 (.pure 62 [pgA g h l s]) (.bool (Sp.ordB l s)) []:=by
 obtain ⟨hk,hs⟩:=hk
 have hl:=hk.1
 by_cases h0:l.length = 0
 ·refine call62 (svOd g l h s _ ?_)
  have c:(l.length:Int) - 1 < 0:=by omega
  refine ⟨by omega,fun x => absurd c x,fun x => absurd (.inl c) x,fun x => absurd (.inl (.inl c)) x,fun x => absurd (.inl (.inl (.inl c))) x,fun x => absurd c x,fun x => absurd c x,fun x => absurd (.inl c) x,fun x => absurd (.inl c) x,fun x => absurd (.inl (.inl c)) x,fun x => absurd (.inl (.inl c)) x,fun x => absurd (.inl (.inl (.inl c))) x,fun x => absurd (.inl (.inl (.inl c))) x,fun x => absurd (.inl (.inl (.inl c))) x,fun _ => ?_,fun x => absurd (.inl (.inl (.inl (.inl c)))) x⟩
  unfold Sp.ordB
  rw [decide_eq_false (by omega),Bool.false_and]
 ·have e:(l.length:Int) - 1 = ((l.length - 1:Nat):Int):=by omega
  have hm:=hk.2 _ (getD_mem (show l.length - 1 < l.length by omega))
  have hsub:Sp.okBs (List.drop 0 (List.take (l.length - 1) l)):=okBs_sub hk 0 (l.length - 1)
  refine call62 (svOd g l h s _ ?_)
  rw [e,Int.toNat_natCast]
  refine ⟨by omega,fun _ => hm.1,fun _ => hm.1,fun _ => hm.1,fun _ => hsub,fun _ => by omega,fun _ => by omega,fun _ => by omega,fun _ => by omega,fun _ => by omega,fun _ => by omega,fun _ => by omega,fun _ => by omega,fun _ => by omega,fun x => ?_,fun x => ⟨hs,?_⟩⟩
  ·congr 1
   unfold Sp.ordB Sp.endB Sp.backB Sp.lastB
   rw [List.drop_zero] at x
   rw [decide_eq_true (show 0 < l.length by omega),Bool.true_and,Eq.comm]
   rcases x with (((x | x) | x) | x) | x
   ·omega
   ·rw [Bool.eq_false_iff.2 x,Bool.false_and]
   ·rw [show Sp.letB (l.getD (l.length - 1) default).ws 79 = true from decide_eq_true (by omega),Bool.not_true,Bool.false_and,Bool.and_false]
   ·rw [x,Bool.not_true,Bool.false_and,Bool.and_false,Bool.and_false]
   ·rw [x,Bool.not_true,Bool.false_and,Bool.and_false,Bool.and_false,Bool.and_false]
  ·congr 1
   unfold Sp.ordB Sp.endB Sp.backB Sp.lastB
   rw [List.drop_zero] at x
   have x1:Sp.hasW (l.getD (l.length - 1) default).ws 77 30000 = true:=Classical.byContradiction fun y => x (.inl (.inl (.inl (.inr y))))
   have x2:Sp.letB (l.getD (l.length - 1) default).ws 79 = false:=decide_eq_false fun y => x (.inl (.inl (.inr (by omega))))
   have x3:Sp.hasW (l.getD (l.length - 1) default).ws 77 99000 = false:=Bool.eq_false_iff.2 fun y => x (.inl (.inr y))
   have x4:Sp.anyP Sp.pMk (l.take (l.length - 1)) = false:=Bool.eq_false_iff.2 fun y => x (.inr y)
   rw [decide_eq_true (show 0 < l.length by omega),x1,x2,x3,x4]
   rfl
end Go.Av

namespace Go.Av
open Go.Proofs
set_option maxRecDepth 100000
def fi83:Fi:=⟨29,[.tmp 2]⟩
def kp83:List (Nat × List Nat):=[(0,[1]),(1,[1,6,7,8]),(2,[1,6,7,8,9]),(3,[1,4,6,7,8]),(4,[1,6,7,8,19]),(5,[2]),(6,[1,6,7,8]),(7,[2])]
def svPr_at (g:Bool) (l:List Bk) (h:Bool) (s:List Sb) (Q:AV -> Heap -> Prop):Prop:=Wp M1 (.run fi83 (atC (cd Try.f83) []) [(0,.agg [.vec g 3 (l.map Bk.a),.vec h 2 (s.map Sb.a)])] []) Q
def svPra_at (g:Bool) (l:List Bk) (h:Bool) (s:List Sb) (n i:Int) (Q:AV -> Heap -> Prop):Prop:=Wp M1 (.run fi83 (atC (cd Try.f83) [1,0,1,0,0]) [(1,.ptr 0 0 0 0),(6,.vec h 2 (s.map Sb.a)),(7,.int .i64 n),(8,.int .i64 i)] [⟨[.agg [.vec g 3 (l.map Bk.a),.vec h 2 (s.map Sb.a)]],2,0,false,false⟩]) Q
theorem call83 {args:List AV} {d:AV} (h:wc M1 fi83 Try.f83 args d):Ev M1 (.pure 83 args) d []:=pcl _ _ (by kernel_rfl) h
theorem svPr (g:Bool) (l:List Bk) (h:Bool) (s:List Sb)  (dq:AV) (H :
  svPra_at (g) (l) (h) (s) ((↑s.length:Int)) (0) (PureQ dq)) :
 svPr_at g l h s (PureQ dq):=by
 unfold svPr_at
 have w1:(List.map Sb.a s).length = s.length:=List.length_map ..
 exact path_wp (G:=given kp83 [] []) 1000 [] ⟨(atC (cd Try.f83) [1,0,1,0,0]),[(1,AV.ptr 0 0 0 0),(6,AV.vec h 2 (List.map Sb.a s)),(7,vi (↑(List.map Sb.a s).length:Int)),(8,vi 0)],[⟨[ag [AV.vec g 3 (List.map Bk.a l),AV.vec h 2 (List.map Sb.a s)]],2,0,false,false⟩],_,[],_⟩ (by kernel_rfl) (bc rfl b0) q0 c0 (by (try rw [w1]);all_goals exact H)
theorem svPra (g:Bool) (l:List Bk) (h:Bool) (s:List Sb) (n i:Int)  (dq:AV) (H :
  ((i < n) -> (0 <= i) /\
   (i.toNat < s.length) /\
   ((((s.getD i.toNat default).n < 1) \/ ((s.getD i.toNat default).n > 9999)) -> vb false = dq) /\
   (¬(((s.getD i.toNat default).n < 1) \/ ((s.getD i.toNat default).n > 9999)) -> (-9223372036854775808 <= i + 1 /\ i + 1 <= 9223372036854775807) /\
    svPra_at (g) (l) (h) (s) (n) (i + 1) (PureQ dq))) /\
  (¬(i < n) -> (Sp.okBs l /\ Sp.okSs s) /\
   ((Sp.ordB l s = true) -> (s.length <= 1000000)) /\
   (vb (bif Sp.ordB l s then !Sp.repB s else false)) = dq)) :
 svPra_at g l h s n i (PureQ dq):=by
 unfold svPra_at
 rcases xm (i < n) with d2 | d2
 ·have H:=H.1 d2
  obtain ⟨k4,H⟩:=H
  have w5:(List.map Sb.a s).length = s.length:=List.length_map ..
  have i6:(decide (i.toNat < (List.map Sb.a s).length)) = true ↔ (i.toNat < s.length):=(by (try rw [w5]);all_goals exact i_dec)
  obtain ⟨k7,H⟩:=H
  refine path_wp (G:=given kp83 [(3,1,.elem (ag [vi (s.getD i.toNat default).n,AV.vec (s.getD i.toNat default).2 3 (List.map Bk.a (s.getD i.toNat default).3)]))] []) 11 [true] ⟨(atC (cd Try.f83) [1,0,1,0,0,1,1,0,0,1,1]),[(1,AV.ptr 0 0 0 0),(6,AV.vec h 2 (List.map Sb.a s)),(7,vi n),(8,vi i),(19,vb (bif decide ((s.getD i.toNat default).n < 1) then true else decide ((s.getD i.toNat default).n > 9999)))],[⟨[ag [AV.vec g 3 (List.map Bk.a l),AV.vec h 2 (List.map Sb.a s)]],2,0,false,false⟩,⟨[ag [vi (s.getD i.toNat default).n,AV.vec (s.getD i.toNat default).2 3 (List.map Bk.a (s.getD i.toNat default).3)]],2,0,false,false⟩],[(decide (i < n)) == true,decide (0 <= i),decide (i.toNat < (List.map Sb.a s).length),true,true,!(decide ((s.getD i.toNat default).n < 1) == false && true) || true],[((List.map Sb.a s).get?Internal i.toNat = some (ag [vi (s.getD i.toNat default).n,AV.vec (s.getD i.toNat default).2 3 (List.map Bk.a (s.getD i.toNat default).3)]))],_⟩ (by kernel_rfl) (bc (beq_t (i_dec.2 d2)) (bc (i_dec.2 k4) (bc (i6.2 k7) (bc rfl (bc rfl (bc (Bool.or_true _) b0)))))) (qc (el_map k7) q0) c0 ?_
  rcases xm (((s.getD i.toNat default).n < 1) \/ ((s.getD i.toNat default).n > 9999)) with d9 | d9
  ·have H:=H.1 d9
   exact path_re (G:=given kp83 [] []) 1000 [true] (vb false) (by kernel_rfl) (bc (beq_t ((i_bor i_dec i_dec).2 d9)) b0) q0 c0 H
  ·have H:=H.2 d9
   obtain ⟨k10,H⟩:=H
   have w11:wi (i + 1) = i + 1:=wI64 k10
   exact path_wp (G:=given kp83 [] []) 1000 [false] ⟨(atC (cd Try.f83) [1,0,1,0,0]),[(1,AV.ptr 0 0 0 0),(6,AV.vec h 2 (List.map Sb.a s)),(7,vi n),(8,vi (wi (i + 1)))],[⟨[ag [AV.vec g 3 (List.map Bk.a l),AV.vec h 2 (List.map Sb.a s)]],2,0,false,false⟩,⟨[ag [vi (s.getD i.toNat default).n,AV.vec (s.getD i.toNat default).2 3 (List.map Bk.a (s.getD i.toNat default).3)]],2,0,false,false⟩],_,[],_⟩ (by kernel_rfl) (bc (beq_f (fun h => d9 ((i_bor i_dec i_dec).1 h))) b0) q0 c0 (by (try rw [w11]);all_goals exact wp_narrow [0] (by kernel_rfl) H)
 ·have H:=H.2 d2
  obtain ⟨k12,H⟩:=H
  obtain ⟨k14,H⟩:=H
  exact path_re (G:=given kp83 [(7,1,.call (vb (Sp.ordB l s)) none),(7,5,.call (vb (Sp.repB s)) none)] []) 1000 [false] (asm:=[(decide (i < n)) == false,true,!(Sp.ordB l s == true && true) || true]) (calls:=[⟨true,false,62,[ag [AV.vec g 3 (List.map Bk.a l),AV.vec h 2 (List.map Sb.a s)]],[],vb (Sp.ordB l s),[]⟩,⟨Sp.ordB l s == true && true && true,false,63,[AV.vec h 2 (List.map Sb.a s)],[],vb (Sp.repB s),[]⟩]) (vb (bif Sp.ordB l s then !Sp.repB s else false)) (by kernel_rfl) (bc (beq_f (fun h => d2 (i_dec.1 h))) (bc rfl (bc (Bool.or_true _) b0))) q0 (cc (fun _ => (@ev62 (g) (l) (h) (s) k12)) (cc (fun hc => ((@ev63 (h) (s) (k14 ((i_at (i_at (i_bt (i_var _)))).1 hc))):Ev M1 (Conf.pure 63 [AV.vec h 2 (List.map Sb.a s)]) (vb (Sp.repB s)) [])) c0)) H
end Go.Av

namespace Go.Av
open Go.RowKit
end Go.Av

namespace Go.Av
open Go.Proofs
namespace Sp
def numB (s:List Sb):Bool:=s.all fun x => decide (1 <= x.n /\ x.n <= 9999)
def prpB (l:List Bk) (s:List Sb):Bool:=numB s && (ordB l s && !(repB s))
def spl (l:List Bk):Nat -> List Bk -> List Sb -> List Bk × List Sb × Int
 | 0,_,_ => ([],[],1)
 | f + 1,r,s =>
  if r.length = 0 then (if ordB l s = true then (if repB s = true then ([],[],5) else (l,s,0)) else ([],[],1))
  else if bgB (r.getD 0 default).sk (r.getD 0 default).ws (r.getD 0 default).cm = true /\ ¬idxP pStop r < 0 then
   spl l f (r.drop (idxP pStop r + 1).toNat) (s ++ [⟨bgV (r.getD 0 default).sk (r.getD 0 default).ws (r.getD 0 default).cm,false,(r.take (idxP pStop r).toNat).drop 1⟩])
  else ([],[],1)
def split (l:List Bk):List Bk × List Sb × Int:=
 if idxP pEnd l < 0 then ([],[],1) else spl (l.take (idxP pEnd l + 1).toNat) (l.length + 1) (l.drop (idxP pEnd l + 1).toNat) []
end Sp
theorem svPra_loop {g h:Bool} {l:List Bk} {s:List Sb} {dq:AV} (hk:Sp.okBs l /\ Sp.okSs s):∀ (c i:Nat),i + c = s.length -> AV.bool ((s.drop i).all (fun x => decide (1 <= x.n /\ x.n <= 9999)) && (Sp.ordB l s && !(Sp.repB s))) = dq -> svPra_at g l h s s.length i (PureQ dq):=by
 have hl:=hk.2.1
 intro c
 induction c with
 | zero =>
  intro i hi hq
  rw [List.drop_eq_nil_of_le (by omega)] at hq
  refine svPra _ _ _ _ _ _ _ ⟨fun h => by omega,fun _ => ⟨hk,fun _ => hl,?_⟩⟩
  rw [<- hq]
  cases Sp.ordB l s <;> rfl
 | succ c ih =>
  intro i hi hq
  rw [drop_getD (show i < s.length by omega),List.all_cons] at hq
  refine svPra _ _ _ _ _ _ _ ⟨fun _ => ?_,fun h => by omega⟩
  rw [Int.toNat_natCast]
  refine ⟨by omega,by omega,fun h => ?_,fun h => ⟨by omega,ih (i + 1) (by omega) ?_⟩⟩
  ·rw [decide_eq_false (by omega),Bool.false_and,Bool.false_and] at hq
   exact hq
  ·rw [decide_eq_true (by omega),Bool.true_and] at hq
   exact hq
theorem ev83 (g h:Bool) (l:List Bk) (s:List Sb) (hk:Sp.okBs l /\ Sp.okSs s):Ev M1 (.pure 83 [pgA g h l s]) (.bool (Sp.prpB l s)) []:=
 call83 (svPr g l h s _ (svPra_loop hk s.length 0 (by omega) rfl))
end Go.Av

namespace Go.Av
open Go.Proofs
set_option maxRecDepth 100000
end Go.Av

namespace Go.Av
open Go.Proofs
namespace Sp
def isN (m:Int) (x:Sb):Bool:=decide (x.n = m)
def fnd (s:List Sb) (m:Int):Int:=idxP (isN m) s
end Sp
end Go.Av

namespace Go.Av
open Go.Proofs
set_option maxRecDepth 100000
end Go.Av

namespace Go.Av
open Go.Proofs
namespace Sp
end Sp
theorem fnd_any (s:List Sb) (m:Int):decide (Sp.fnd s m >= 0) = Sp.anyP (Sp.isN m) s:=by
 unfold Sp.fnd Sp.idxP Sp.anyP
 rcases idxF_ge (Sp.isN m) s 0 (by omega) with ⟨h1,h2⟩ | ⟨h1,_,h2⟩
 ·rw [h1,h2];rfl
 ·rw [h2];exact decide_eq_true h1
end Go.Av

namespace Go.Av
open Go.RowKit
end Go.Av

namespace Go.Av
open Go.Proofs
end Go.Av

namespace Go.Av
open Go.RowKit
theorem wp_vnil {M:Mach} (hm:(M.P ()).follows .mixedOrders = true) {fi:Fi} {k:List Item} {env:Vars} {L:Heap} {Q:AV -> Heap -> Prop} {es:Nat} (h:Wp M (.run fi k env L) fun v L => Q v L \/ (v = .vnil /\ Q (.vec true es []) L)):Wp M (.run fi k env L) Q:=by
 refine .sem fun S b a cs fn h1 h2 h3 h4 h5 h6 h7 h8 => ?_
 obtain ⟨a',todo',Ds,w',β',v,L1,q1,q2,q3,q4,q5,q6,q7,q8,q9⟩:=(wp_sound hm (c:=.run fi k _ _) h:RunSnd M fi k _ _ _) S b a cs fn h1 h2 h3 h4 h5 h6 h7 h8
 rcases q1 with q1 | ⟨rfl,hQ⟩
 ·exact ⟨a',todo',Ds,w',β',v,L1,q1,q2,q3,q4,q5,q6,q7,q8,q9⟩
 ·refine ⟨a',todo',Ds,w',β',.vec true es [],L1,hQ,q2,q3,q4,q5,q6,fun w'' hn => ?_,q8,q9⟩
  obtain ⟨cv,c1,c2⟩:=q7 w'' hn
  refine ⟨cv,c1,?_⟩
  cases c2 with
  | data _ _ h => cases h;exact .data _ _ (.vecE true es none 0 fun _ => rfl)
end Go.Av

namespace Go.Av
open Go.Proofs
noncomputable def M2:Mach:=⟨fun _ => Try.prog,fun f => [22].contains f || M1.inl f⟩
theorem hm2:(M2.P ()).follows .mixedOrders = true:=by kernel_rfl
end Go.Av

namespace Go.Av
open Go.Proofs
set_option maxRecDepth 100000
end Go.Av

namespace Go.Av
open Go.Proofs
set_option maxRecDepth 100000
end Go.Av

namespace Go.Av
open Go.Proofs
namespace Sp
def oB (m:Int):Bk:=⟨false,true,[⟨79,1000 * m⟩],[]⟩
def mB:Bk:=⟨false,true,[⟨77,99000⟩],[]⟩
def one (x:Sb):List Bk:=oB x.n :: x.bl ++ [mB]
def joinS (s:List Sb):List Bk:=s.flatMap one
def own (s:List Sb):List Sb:=s.map fun x => ⟨x.n,false,x.bl⟩
end Sp
end Go.Av

namespace Go.Av
open Go.Proofs
set_option maxRecDepth 100000
end Go.Av

namespace Go.Av
open Go.Proofs
def Sb.fine (x:Sb):Prop:=Sp.okBs x.bl /\ 1 <= x.n /\ x.n <= 9999
structure Fine (m:List Bk) (N:Nat) (k:List (Bool × List Wo × List UInt8)) (z:List Bk × List Sb × Int):Prop where
 main:z.1 = [] \/ z.1 = m
 len:z.2.1.length <= N
 sub:∀ x ∈ z.2.1,x.fine
 key:z.2.2 = 0 -> z.1 = m /\ (Sp.joinS z.2.1).map Bk.key = k
end Go.Av

namespace Go.Av
open Go.Proofs
namespace Sp
end Sp
end Go.Av

namespace Go.Av
open Go.Proofs
set_option maxRecDepth 100000
end Go.Av

namespace Go.Av
open Go.Proofs
namespace Sp
def blks (l:List Bk) (s:List Sb):List Bk:=l ++ s.flatMap (·.bl)
end Sp
end Go.Av

namespace Go.Av
open Go.Proofs
set_option maxRecDepth 100000
end Go.Av

namespace Go.Av
open Go.Proofs
namespace Sp
def cap (x:Int):Int:=if x < 20001 then x else 20001
def mx (a b:Int):Int:=if a > b then a else b
def found (s:List Sb) (b:List Bk):Prop:=∀ x ∈ b,cIs x.ws = true -> 0 <= fnd s (cN x.ws)
end Sp
theorem lastD_mem:∀ (l:List Int) (d:Int),Sp.lastD l d = d \/ Sp.lastD l d ∈ l:=by
 intro l
 unfold Sp.lastD
 induction l with
 | nil => intro d;exact .inl rfl
 | cons x l ih =>
  intro d
  rw [List.foldl_cons]
  rcases ih x with h | h
  ·right;rw [h];exact List.mem_cons_self
  ·right;exact List.mem_cons_of_mem _ h
theorem whB_rng {x:Int} (h:Sp.whB x = true):1 <= Sp.whV x /\ Sp.whV x <= 9999:=by
 unfold Sp.whB at h
 exact (of_decide_eq_true h).2
theorem codes_mem {ws:List Wo} {c x:Int} (h:x ∈ Sp.codes ws c):∃ w ∈ ws,w.l = c /\ w.v = x:=by
 unfold Sp.codes at h
 obtain ⟨w,h1,h2⟩:=List.mem_map.1 h
 obtain ⟨h3,h4⟩:=List.mem_filter.1 h1
 exact ⟨w,h3,of_decide_eq_true h4,h2⟩
theorem cIs_at {ws:List Wo} (h:Sp.cIs ws = true):(1 <= Sp.cT ws /\ Sp.cT ws <= 9999) /\ (1 <= Sp.cN ws /\ Sp.cN ws <= 9999):=by
 unfold Sp.cT Sp.cN
 rw [if_pos h,if_pos h]
 unfold Sp.cIs Sp.okC at h
 simp only [Bool.and_eq_true] at h
 obtain ⟨_,h1,h2⟩:=h
 have h2:=of_decide_eq_true h2
 rw [List.all_eq_true] at h1
 have key:∀ (c d:Int),(c = 80 \/ c = 76) -> Sp.whB d = true \/ 0 < (Sp.codes ws c).length -> 1 <= Sp.whV (Sp.lastD (Sp.codes ws c) d) /\ Sp.whV (Sp.lastD (Sp.codes ws c) d) <= 9999:=by
  intro c d hc hd
  have inl:Sp.lastD (Sp.codes ws c) d ∈ Sp.codes ws c -> 1 <= Sp.whV (Sp.lastD (Sp.codes ws c) d) /\ Sp.whV (Sp.lastD (Sp.codes ws c) d) <= 9999:=fun hm => by
   obtain ⟨w,k1,k2,k3⟩:=codes_mem hm
   have:=h1 w k1
   unfold Sp.okL at this
   rw [if_pos (by rw [k2];exact hc),k3] at this
   exact whB_rng this
  rcases hd with hd | hd
  ·rcases lastD_mem (Sp.codes ws c) d with e | e
   ·rw [e];exact whB_rng hd
   ·exact inl e
  ·match hl:Sp.codes ws c,hd with
   | x :: r,_ =>
    rw [hl] at inl
    refine inl ?_
    unfold Sp.lastD
    rw [List.foldl_cons]
    rcases lastD_mem r x with e | e
    ·unfold Sp.lastD at e;rw [e];exact List.mem_cons_self
    ·unfold Sp.lastD at e;exact List.mem_cons_of_mem _ e
 refine ⟨key 76 1000 (.inr rfl) (.inl (by decide)),key 80 0 (.inl rfl) (.inr ?_)⟩
 have:=h2.2.1
 unfold Sp.cnt at this
 omega
theorem cap_le (x:Int):Sp.cap x <= 20001:=by unfold Sp.cap;split <;> omega
theorem cap_ge {x:Int} (h:0 <= x):0 <= Sp.cap x:=by unfold Sp.cap;split <;> omega
theorem mul_rng {x t:Int} (h1:0 <= x) (h2:x <= 20001) (h3:1 <= t) (h4:t <= 9999):0 <= x * t /\ x * t <= 200000000:=by
 have h5:0 <= x * t:=Int.mul_nonneg h1 (by omega)
 have h6:x * t <= 20001 * 9999:=Int.mul_le_mul h2 h4 (by omega) (by omega)
 omega
end Go.Av

namespace Go.Av
open Go.Proofs
set_option maxRecDepth 100000
end Go.Av

namespace Go.Av
open Go.RowKit
end Go.Av

namespace Go.Av
open Go.Proofs
end Go.Av

namespace Go.Av
open Go.Proofs
namespace Sp
def badB (x:Bk):Bool:=decide (¬cE x.ws = 0)
def lostB (s:List Sb) (x:Bk):Bool:=cIs x.ws && decide (fnd s (cN x.ws) < 0)
end Sp
theorem found_of {s:List Sb} {b:List Bk} (h:b.any (Sp.lostB s) = false):Sp.found s b:=fun x hx k => by
 rw [List.any_eq_false] at h
 have:=h x hx
 unfold Sp.lostB at this
 rw [k,Bool.true_and] at this
 simpa using this
theorem blks_any {l:List Bk} {s:List Sb} {p:Bk -> Bool}:(Sp.blks l s).any p = (l.any p || s.any fun x => x.bl.any p):=by
 unfold Sp.blks
 rw [List.any_append,List.any_flatMap]
def Sp.okC1 (l:List Bk) (s:List Sb):Prop:=Sp.okBs l /\ s.length <= 100 /\ l.length <= 1000 /\ ∀ x ∈ s,Sp.okBs x.bl /\ x.bl.length <= 1000
theorem blks_ok {l:List Bk} {s:List Sb} (h:Sp.okC1 l s):Sp.okBs (Sp.blks l s):=by
 obtain ⟨h1,h2,h3,h4⟩:=h
 unfold Sp.blks
 refine ⟨?_,fun b hb => ?_⟩
 ·have:∀ (s:List Sb),(∀ x ∈ s,Sp.okBs x.bl /\ x.bl.length <= 1000) -> (s.flatMap (·.bl)).length <= 1000 * s.length:=by
   intro s
   induction s with
   | nil => intro _;simp
   | cons x s ih =>
    intro h
    have:=ih fun y hy => h y (List.mem_cons_of_mem _ hy)
    have:=(h x (by simp)).2
    rw [List.flatMap_cons,List.length_append,List.length_cons]
    omega
  have:=this s h4
  rw [List.length_append]
  omega
 ·rcases List.mem_append.1 hb with hb | hb
  ·exact h1.2 b hb
  ·obtain ⟨x,hx,hb⟩:=List.mem_flatMap.1 hb
   exact (h4 x hx).1.2 b hb
end Go.Av

namespace Go.Av
open Go.Proofs
set_option maxRecDepth 100000
end Go.Av

namespace Go.Av
open Go.Proofs
end Go.Av

namespace Go.Av
open Go.Proofs
set_option maxRecDepth 100000
def fi72:Fi:=⟨56,[.tmp 4,.tmp 5]⟩
def kp72:List (Nat × List Nat):=[(0,[0,1]),(1,[0,1,6,7]),(2,[0,6,7,14,15,16]),(3,[0,6,7,14,15,16,17]),(4,[0,6,7,9,14,15,16]),(5,[0,6,7,10,11,12,14,15,16]),(6,[0,6,7,10,11,14,15,16,28]),(7,[0,6,7,14,15,16]),(8,[0,6,7,10,11,14,15,16]),(9,[0,6,7,14,15,16]),(10,[0,6,7,14,15,16]),(11,[0,6,7,14,15,16]),(12,[4,5])]
def tvSm_at (sm st dp sz dn:List AV) (g:Bool) (l:List Bk) (Q:AV -> Heap -> Prop):Prop:=Wp M1 (.run fi72 (atC (cd Try.f72) []) [(0,.ptr 0 0 0 0),(1,.vec g 3 (l.map Bk.a))] [⟨[.agg [.mapr 1,.mapr 2,.mapr 3,.mapr 4,.mapr 5]],5,0,false,false⟩,⟨sm,2,0,false,true⟩,⟨st,2,0,false,true⟩,⟨dp,2,0,false,true⟩,⟨sz,2,0,false,true⟩,⟨dn,2,0,false,true⟩]) Q
def tvSma_at (sm st dp sz dn:List AV) (g:Bool) (l:List Bk) (d z n i:Int) (Q:AV -> Heap -> Prop):Prop:=Wp M1 (.run fi72 (atC (cd Try.f72) [1,1,0,1,0,0]) [(0,.ptr 0 0 0 0),(6,.int .i64 d),(7,.int .i64 z),(14,.vec g 3 (l.map Bk.a)),(15,.int .i64 n),(16,.int .i64 i)] [⟨[.agg [.mapr 1,.mapr 2,.mapr 3,.mapr 4,.mapr 5]],5,0,false,false⟩,⟨sm,2,0,false,true⟩,⟨st,2,0,false,true⟩,⟨dp,2,0,false,true⟩,⟨sz,2,0,false,true⟩,⟨dn,2,0,false,true⟩]) Q
theorem keepcall72 {args:List AV} {L:Heap} {v:AV} {K:Heap} (hk:keepOk L.length v K = true) (h:Wp M1 (.run fi72 [.code (cd Try.f72)] (argVars 0 args) L) (KeepQ v K)):Ev M1 (.own 72 args L) v K:=
 own_keep Try.f72 fi72 (by kernel_rfl) (by kernel_rfl) (by kernel_rfl) (by kernel_rfl) hk h
theorem tvSm (sm st dp sz dn:List AV) (g:Bool) (l:List Bk)  (dv:AV) (dK:Heap) (_:keepOk 6 dv dK = true) (H :
  tvSma_at (sm) (st) (dp) (sz) (dn) (g) (l) (0) (0) ((↑l.length:Int)) (0) (KeepQ dv dK)) :
 tvSm_at sm st dp sz dn g l (KeepQ dv dK):=by
 unfold tvSm_at
 have w1:(List.map Bk.a l).length = l.length:=List.length_map ..
 exact path_wp (G:=given kp72 [] []) 1000 [] ⟨(atC (cd Try.f72) [1,1,0,1,0,0]),[(0,AV.ptr 0 0 0 0),(6,vi 0),(7,vi 0),(14,AV.vec g 3 (List.map Bk.a l)),(15,vi (↑(List.map Bk.a l).length:Int)),(16,vi 0)],[⟨[ag [AV.mapr 1,AV.mapr 2,AV.mapr 3,AV.mapr 4,AV.mapr 5]],5,0,false,false⟩,⟨sm,2,0,false,true⟩,⟨st,2,0,false,true⟩,⟨dp,2,0,false,true⟩,⟨sz,2,0,false,true⟩,⟨dn,2,0,false,true⟩],_,[],_⟩ (by kernel_rfl) b0 q0 c0 (by (try rw [w1]);all_goals exact H)
noncomputable abbrev zTpF1:=ag [AV.mapr 1,AV.mapr 2,AV.mapr 3,AV.mapr 4,AV.mapr 5]
theorem tvSma (sm st dp sz dn:List AV) (g:Bool) (l:List Bk) (d z n i:Int)  (dv:AV) (dK:Heap) (hk:keepOk 6 dv dK = true) (H :
  ((i < n) -> (0 <= i) /\
   (i.toNat < l.length) /\
   (Sp.okW (l.getD i.toNat default).3) /\
   ((¬(Sp.cIs (l.getD i.toNat default).3 = true)) -> (-9223372036854775808 <= z + 1 /\ z + 1 <= 9223372036854775807) /\
    (-9223372036854775808 <= i + 1 /\ i + 1 <= 9223372036854775807) /\
    tvSma_at (sm) (st) (dp) (sz) (dn) (g) (l) (d) (if 20001 < z + 1 then 20001 else z + 1) (n) (i + 1) (KeepQ dv dK)) /\
   (¬(¬(Sp.cIs (l.getD i.toNat default).3 = true)) -> (mapKeys IntKind.i64 dp = true) /\
    (mapIs IntKind.i64 dp = true) /\
    (-9223372036854775808 <= 1 + mapI (Sp.cN (l.getD i.toNat default).3) dp /\ 1 + mapI (Sp.cN (l.getD i.toNat default).3) dp <= 9223372036854775807) /\
    (mapKeys IntKind.i64 sz = true) /\
    (mapIs IntKind.i64 sz = true) /\
    (-9223372036854775808 <= Sp.cT (l.getD i.toNat default).3 * mapI (Sp.cN (l.getD i.toNat default).3) sz /\ Sp.cT (l.getD i.toNat default).3 * mapI (Sp.cN (l.getD i.toNat default).3) sz <= 9223372036854775807) /\
    (-9223372036854775808 <= (z + if 20001 < Sp.cT (l.getD i.toNat default).3 * mapI (Sp.cN (l.getD i.toNat default).3) sz then 20001 else Sp.cT (l.getD i.toNat default).3 * mapI (Sp.cN (l.getD i.toNat default).3) sz) /\ (z + if 20001 < Sp.cT (l.getD i.toNat default).3 * mapI (Sp.cN (l.getD i.toNat default).3) sz then 20001 else Sp.cT (l.getD i.toNat default).3 * mapI (Sp.cN (l.getD i.toNat default).3) sz) <= 9223372036854775807) /\
    (-9223372036854775808 <= i + 1 /\ i + 1 <= 9223372036854775807) /\
    tvSma_at (sm) (st) (dp) (sz) (dn) (g) (l) (if 1 + mapI (Sp.cN (l.getD i.toNat default).3) dp > d then 1 + mapI (Sp.cN (l.getD i.toNat default).3) dp else d) (if 20001 < z + if 20001 < Sp.cT (l.getD i.toNat default).3 * mapI (Sp.cN (l.getD i.toNat default).3) sz then 20001 else Sp.cT (l.getD i.toNat default).3 * mapI (Sp.cN (l.getD i.toNat default).3) sz then 20001 else z + if 20001 < Sp.cT (l.getD i.toNat default).3 * mapI (Sp.cN (l.getD i.toNat default).3) sz then 20001 else Sp.cT (l.getD i.toNat default).3 * mapI (Sp.cN (l.getD i.toNat default).3) sz) (n) (i + 1) (KeepQ dv dK))) /\
  (¬(i < n) -> (KeepQ dv dK) (tu [vi d,vi z]) [{ elems:=[ag [AV.mapr 1,AV.mapr 2,AV.mapr 3,AV.mapr 4,AV.mapr 5]],es:=5,ver:=0,frozen:=false,clean:=false },{ elems:=sm,es:=2,ver:=0,frozen:=false,clean:=true },{ elems:=st,es:=2,ver:=0,frozen:=false,clean:=true },{ elems:=dp,es:=2,ver:=0,frozen:=false,clean:=true },{ elems:=sz,es:=2,ver:=0,frozen:=false,clean:=true },{ elems:=dn,es:=2,ver:=0,frozen:=false,clean:=true }])) :
 tvSma_at sm st dp sz dn g l d z n i (KeepQ dv dK):=by
 unfold tvSma_at
 rcases xm (i < n) with d2 | d2
 ·have H:=H.1 d2
  obtain ⟨k4,H⟩:=H
  have w5:(List.map Bk.a l).length = l.length:=List.length_map ..
  have i6:(decide (i.toNat < (List.map Bk.a l).length)) = true ↔ (i.toNat < l.length):=(by (try rw [w5]);all_goals exact i_dec)
  obtain ⟨k7,H⟩:=H
  obtain ⟨k8,H⟩:=H
  refine path_wp (G:=given kp72 [(4,1,.elem (ag [vb (l.getD i.toNat default).1,AV.vec (l.getD i.toNat default).2 2 (List.map Wo.a (l.getD i.toNat default).3),AV.str (l.getD i.toNat default).4])),(5,1,.call (tu [vi (Sp.cN (l.getD i.toNat default).3),vi (Sp.cT (l.getD i.toNat default).3),vb (Sp.cIs (l.getD i.toNat default).3),vi (Sp.cE (l.getD i.toNat default).3)]) none)] []) 14 [true] ⟨(atC (cd Try.f72) [1,1,0,1,0,0,1,1,0,0,1,1,0,1]),[(0,AV.ptr 0 0 0 0),(6,vi d),(7,vi z),(10,vi (Sp.cN (l.getD i.toNat default).3)),(11,vi (Sp.cT (l.getD i.toNat default).3)),(14,AV.vec g 3 (List.map Bk.a l)),(15,vi n),(16,vi i),(28,vb !Sp.cIs (l.getD i.toNat default).3)],[⟨[zTpF1],5,0,false,false⟩,⟨sm,2,0,false,true⟩,⟨st,2,0,false,true⟩,⟨dp,2,0,false,true⟩,⟨sz,2,0,false,true⟩,⟨dn,2,0,false,true⟩,⟨[ag [vb (l.getD i.toNat default).1,AV.vec (l.getD i.toNat default).2 2 (List.map Wo.a (l.getD i.toNat default).3),AV.str (l.getD i.toNat default).4]],3,0,false,false⟩],_,[((List.map Bk.a l).get?Internal i.toNat = some (ag [vb (l.getD i.toNat default).1,AV.vec (l.getD i.toNat default).2 2 (List.map Wo.a (l.getD i.toNat default).3),AV.str (l.getD i.toNat default).4]))],_⟩ (by kernel_rfl) (bc (beq_t (i_dec.2 d2)) (bc (i_dec.2 k4) (bc (i6.2 k7) (bc rfl (bc rfl b0))))) (qc (el_map k7) q0) (ce (@ev13 ((l.getD i.toNat default).1) ((l.getD i.toNat default).2) ((l.getD i.toNat default).3) ((l.getD i.toNat default).4) k8) c0) ?_
  rcases xm (¬(Sp.cIs (l.getD i.toNat default).3 = true)) with d10 | d10
  ·have H:=H.1 d10
   obtain ⟨k11,H⟩:=H
   have w12:wi (z + 1) = z + 1:=wI64 k11
   obtain ⟨k13,H⟩:=H
   have w14:wi (i + 1) = i + 1:=wI64 k13
   exact path_wp (G:=given kp72 [] []) 1000 [true] ⟨(atC (cd Try.f72) [1,1,0,1,0,0]),[(0,AV.ptr 0 0 0 0),(6,vi d),(7,vi (if 20001 < wi (z + 1) then 20001 else wi (z + 1))),(14,AV.vec g 3 (List.map Bk.a l)),(15,vi n),(16,vi (wi (i + 1)))],[⟨[zTpF1],5,0,false,false⟩,⟨sm,2,0,false,true⟩,⟨st,2,0,false,true⟩,⟨dp,2,0,false,true⟩,⟨sz,2,0,false,true⟩,⟨dn,2,0,false,true⟩,⟨[ag [vb (l.getD i.toNat default).1,AV.vec (l.getD i.toNat default).2 2 (List.map Wo.a (l.getD i.toNat default).3),AV.str (l.getD i.toNat default).4]],3,0,false,false⟩],[(!Sp.cIs (l.getD i.toNat default).3) == true],[],_⟩ (by kernel_rfl) (bc (beq_t ((i_not (i_var _)).2 d10)) b0) q0 c0 (by (try rw [w12]);(try rw [w14]);all_goals exact wp_narrow_keep 6 hk (by kernel_rfl) H)
  ·have H:=H.2 d10
   obtain ⟨k16,H⟩:=H
   obtain ⟨k18,H⟩:=H
   obtain ⟨k19,H⟩:=H
   have w20:wi (1 + mapI (Sp.cN (l.getD i.toNat default).3) dp) = 1 + mapI (Sp.cN (l.getD i.toNat default).3) dp:=wI64 k19
   obtain ⟨k22,H⟩:=H
   obtain ⟨k24,H⟩:=H
   obtain ⟨k25,H⟩:=H
   have w26:wi (Sp.cT (l.getD i.toNat default).3 * mapI (Sp.cN (l.getD i.toNat default).3) sz) = Sp.cT (l.getD i.toNat default).3 * mapI (Sp.cN (l.getD i.toNat default).3) sz:=wI64 k25
   obtain ⟨k27,H⟩:=H
   have w28:wi (z + if 20001 < Sp.cT (l.getD i.toNat default).3 * mapI (Sp.cN (l.getD i.toNat default).3) sz then 20001 else Sp.cT (l.getD i.toNat default).3 * mapI (Sp.cN (l.getD i.toNat default).3) sz) = z + if 20001 < Sp.cT (l.getD i.toNat default).3 * mapI (Sp.cN (l.getD i.toNat default).3) sz then 20001 else Sp.cT (l.getD i.toNat default).3 * mapI (Sp.cN (l.getD i.toNat default).3) sz:=wI64 k27
   obtain ⟨k29,H⟩:=H
   have w30:wi (i + 1) = i + 1:=wI64 k29
   exact path_wp (G:=given kp72 [] []) 1000 [false] ⟨(atC (cd Try.f72) [1,1,0,1,0,0]),[(0,AV.ptr 0 0 0 0),(6,vi (if wi (1 + mapI (Sp.cN (l.getD i.toNat default).3) dp) > d then wi (1 + mapI (Sp.cN (l.getD i.toNat default).3) dp) else d)),(7,vi (if 20001 < wi (z + if 20001 < wi (Sp.cT (l.getD i.toNat default).3 * mapI (Sp.cN (l.getD i.toNat default).3) sz) then 20001 else wi (Sp.cT (l.getD i.toNat default).3 * mapI (Sp.cN (l.getD i.toNat default).3) sz)) then 20001 else wi (z + if 20001 < wi (Sp.cT (l.getD i.toNat default).3 * mapI (Sp.cN (l.getD i.toNat default).3) sz) then 20001 else wi (Sp.cT (l.getD i.toNat default).3 * mapI (Sp.cN (l.getD i.toNat default).3) sz)))),(14,AV.vec g 3 (List.map Bk.a l)),(15,vi n),(16,vi (wi (i + 1)))],[⟨[zTpF1],5,0,false,false⟩,⟨sm,2,0,false,true⟩,⟨st,2,0,false,true⟩,⟨dp,2,0,false,true⟩,⟨sz,2,0,false,true⟩,⟨dn,2,0,false,true⟩,⟨[ag [vb (l.getD i.toNat default).1,AV.vec (l.getD i.toNat default).2 2 (List.map Wo.a (l.getD i.toNat default).3),AV.str (l.getD i.toNat default).4]],3,0,false,false⟩],[(!Sp.cIs (l.getD i.toNat default).3) == false,true,mapKeys IntKind.i64 dp,mapIs IntKind.i64 dp,true,mapKeys IntKind.i64 sz,mapIs IntKind.i64 sz],[],_⟩ (by kernel_rfl) (bc (beq_f (fun h => d10 ((i_not (i_var _)).1 h))) (bc rfl (bc ((i_var _).2 k16) (bc ((i_var _).2 k18) (bc rfl (bc ((i_var _).2 k22) (bc ((i_var _).2 k24) b0))))))) q0 c0 (by (try rw [w20]);(try rw [w26]);(try rw [w28]);(try rw [w30]);all_goals exact wp_narrow_keep 6 hk (by kernel_rfl) H)
 ·have H:=H.2 d2
  exact path_ret (G:=given kp72 [] []) 1000 [false] (k:=((atC (cd Try.f72) [1,1,1,1])).tail) (env':=[(4,vi d),(5,vi z)]) (L':=[⟨[zTpF1],5,0,false,false⟩,⟨sm,2,0,false,true⟩,⟨st,2,0,false,true⟩,⟨dp,2,0,false,true⟩,⟨sz,2,0,false,true⟩,⟨dn,2,0,false,true⟩]) (asm:=[(decide (i < n)) == false]) (eqs:=[]) (calls:=[]) (tu [vi d,vi z]) (by kernel_rfl) (by kernel_rfl) (allB_cons (beq_f (fun h => d2 (i_dec.1 h))) allB_nil) allP_nil allC_nil H
end Go.Av

namespace Go.Av
open Go.Proofs
def XH (sm st dp sz dn:List AV):Heap:=[⟨[.agg [.mapr 1,.mapr 2,.mapr 3,.mapr 4,.mapr 5]],5,0,false,false⟩,⟨sm,2,0,false,true⟩,⟨st,2,0,false,true⟩,⟨dp,2,0,false,true⟩,⟨sz,2,0,false,true⟩,⟨dn,2,0,false,true⟩]
def IntM (ms:List AV):Prop:=mapKeys .i64 ms = true /\ mapIs .i64 ms = true
namespace Sp
def sumP (D Z:Int -> Int):List Bk -> Int -> Int -> Int × Int
 | [],d,z => (d,z)
 | x :: r,d,z =>
  if cIs x.ws = true then sumP D Z r (mx (1 + D (cN x.ws)) d) (cap (z + cap (cT x.ws * Z (cN x.ws))))
  else sumP D Z r d (cap (z + 1))
end Sp
theorem cap_min (x:Int):(if 20001 < x then 20001 else x) = Sp.cap x:=by unfold Sp.cap;split <;> split <;> omega
theorem tvSma_loop {sm st dp sz dn:List AV} {g:Bool} {l:List Bk} {dv:AV} (hl:Sp.okBs l) (hd:IntM dp) (hz:IntM sz) (hD:∀ n,0 <= mapI n dp /\ mapI n dp <= 1000000) (hZ:∀ n,0 <= mapI n sz /\ mapI n sz <= 20001):∀ (c i:Nat) (d z:Int),i + c = l.length -> 0 <= z -> z <= 20001 ->
  (∀ r,r = Sp.sumP (fun n => mapI n dp) (fun n => mapI n sz) (l.drop i) d z -> AV.tup [.int .i64 r.1,.int .i64 r.2] = dv) -> (keepOk 6 dv (XH sm st dp sz dn) = true) -> tvSma_at sm st dp sz dn g l d z l.length i (KeepQ dv (XH sm st dp sz dn)):=by
 have hll:=hl.1
 intro c
 induction c with
 | zero =>
  intro i d z hi _ _ hq hk
  rw [List.drop_eq_nil_of_le (by omega)] at hq
  refine tvSma _ _ _ _ _ _ _ _ _ _ _ _ _ hk ⟨fun h => by omega,fun _ => ?_⟩
  rw [<- hq _ rfl]
  exact ⟨rfl,rfl⟩
 | succ c ih =>
  intro i d z hi h1 h2 hq hk
  rw [drop_getD (show i < l.length by omega),Sp.sumP] at hq
  have hm:=hl.2 _ (getD_mem (show i < l.length by omega))
  refine tvSma _ _ _ _ _ _ _ _ _ _ _ _ _ hk ⟨fun _ => ?_,fun h => by omega⟩
  rw [Int.toNat_natCast]
  refine ⟨by omega,by omega,hm,fun k => ⟨by omega,by omega,?_⟩,fun k => ?_⟩
  ·rw [if_neg k] at hq
   rw [cap_min]
   exact ih (i + 1) _ _ (by omega) (cap_ge (by omega)) (cap_le _) hq hk
  ·have k1:=Classical.not_not.1 k
   rw [if_pos k1] at hq
   have hDn:=hD (Sp.cN (l.getD i default).ws)
   have hZn:=hZ (Sp.cN (l.getD i default).ws)
   have hct:=(cIs_at k1).1
   have hr:=mul_rng hZn.1 hZn.2 hct.1 hct.2
   rw [Int.mul_comm] at hr
   have hc0:=cap_ge hr.1
   have hc1:=cap_le (Sp.cT (l.getD i default).ws * mapI (Sp.cN (l.getD i default).ws) sz)
   rw [cap_min,cap_min]
   refine ⟨hd.1,hd.2,by omega,hz.1,hz.2,by omega,by omega,by omega,ih (i + 1) _ _ (by omega) (cap_ge (by omega)) (cap_le _) hq hk⟩
theorem evo72 (sm st dp sz dn:List AV) (g:Bool) (l:List Bk) (h:Sp.okBs l /\ IntM dp /\ IntM sz /\ (∀ n,0 <= mapI n dp /\ mapI n dp <= 1000000) /\ ∀ n,0 <= mapI n sz /\ mapI n sz <= 20001) :
  Ev M1 (.own 72 [.ptr 0 0 0 0,bsA g l] [⟨[.agg [.mapr 1,.mapr 2,.mapr 3,.mapr 4,.mapr 5]],5,0,false,false⟩,⟨sm,2,0,false,true⟩,⟨st,2,0,false,true⟩,⟨dp,2,0,false,true⟩,⟨sz,2,0,false,true⟩,⟨dn,2,0,false,true⟩])
   (.tup [.int .i64 (Sp.sumP (fun n => mapI n dp) (fun n => mapI n sz) l 0 0).1,.int .i64 (Sp.sumP (fun n => mapI n dp) (fun n => mapI n sz) l 0 0).2])
   [⟨[.agg [.mapr 1,.mapr 2,.mapr 3,.mapr 4,.mapr 5]],5,0,false,false⟩,⟨sm,2,0,false,true⟩,⟨st,2,0,false,true⟩,⟨dp,2,0,false,true⟩,⟨sz,2,0,false,true⟩,⟨dn,2,0,false,true⟩]:=by
 obtain ⟨h1,h2,h3,h4,h5⟩:=h
 refine keepcall72 rfl (tvSm _ _ _ _ _ _ _ _ _ rfl ?_)
 exact tvSma_loop h1 h2 h3 h4 h5 l.length 0 0 0 (by omega) (by omega) (by omega) (fun r hr => by rw [hr,List.drop_zero]) rfl
end Go.Av

namespace Go.Av
open Go.Proofs
set_option maxRecDepth 100000
def fi84:Fi:=⟨78,[.tmp 4]⟩
def kp84:List (Nat × List Nat):=[(0,[0,1]),(1,[0,1,16]),(2,[0,1,16,17]),(3,[4]),(4,[0,1,19]),(5,[4]),(6,[0,1]),(7,[0,1,31,32,33]),(8,[0,1,31,32,33,34]),(9,[0,1,6,31,32,33]),(10,[0,1,7,9,31,32,33]),(11,[0,1,31,32,33,50]),(12,[4]),(13,[0,1,31,32,33]),(14,[0,1]),(15,[]),(16,[4])]
def tvMs_at (sm st dp sz dn:List AV) (n:Int) (Q:AV -> Heap -> Prop):Prop:=Wp M1 (.run fi84 (atC (cd Try.f84) []) [(0,.ptr 0 0 0 0),(1,.int .i64 n)] [⟨[.agg [.mapr 1,.mapr 2,.mapr 3,.mapr 4,.mapr 5]],5,0,false,false⟩,⟨sm,2,0,false,true⟩,⟨st,2,0,false,true⟩,⟨dp,2,0,false,true⟩,⟨sz,2,0,false,true⟩,⟨dn,2,0,false,true⟩]) Q
def tvMsa_at (sm st dp sz dn:List AV) (n:Int) (bf:Bool) (b:List Bk) (m i:Int) (Q:AV -> Heap -> Prop):Prop:=Wp M1 (.run fi84 (atC (cd Try.f84) [1,1,1,0,1,0,0]) [(0,.ptr 0 0 0 0),(1,.int .i64 n),(31,.vec bf 3 (b.map Bk.a)),(32,.int .i64 m),(33,.int .i64 i)] [⟨[.agg [.mapr 1,.mapr 2,.mapr 3,.mapr 4,.mapr 5]],5,0,false,false⟩,⟨sm,2,0,false,true⟩,⟨st,2,0,false,true⟩,⟨dp,2,0,false,true⟩,⟨sz,2,0,false,true⟩,⟨dn,2,0,false,true⟩]) Q
def tvMsc_at (sm st dp sz dn:List AV) (n:Int) (bf:Bool) (b:List Bk) (m i:Int) (q:Int) (c:Bool) (Q:AV -> Heap -> Prop):Prop:=Wp M1 (.run fi84 (atC (cd Try.f84) [1,1,1,0,1,0,0,1,1,0,0,1,1,0]) [(0,.ptr 0 0 0 0),(1,.int .i64 n),(7,.int .i64 q),(9,.bool c),(31,.vec bf 3 (b.map Bk.a)),(32,.int .i64 m),(33,.int .i64 i)] [⟨[.agg [.mapr 1,.mapr 2,.mapr 3,.mapr 4,.mapr 5]],5,0,false,false⟩,⟨sm,2,0,false,true⟩,⟨st,2,0,false,true⟩,⟨dp,2,0,false,true⟩,⟨sz,2,0,false,true⟩,⟨dn,2,0,false,true⟩]) Q
def tvMscT_at (sm st dp sz dn:List AV) (n:Int) (bf:Bool) (b:List Bk) (m i:Int) (q:Int) (Q:AV -> Heap -> Prop):Prop:=Wp M1 (.run fi84 (atC (cd Try.f84) [1,1,1,0,1,0,0,1,1,0,0,1,1,0]) [(0,.ptr 0 0 0 0),(1,.int .i64 n),(7,.int .i64 q),(9,.bool true),(31,.vec bf 3 (b.map Bk.a)),(32,.int .i64 m),(33,.int .i64 i)] [⟨[.agg [.mapr 1,.mapr 2,.mapr 3,.mapr 4,.mapr 5]],5,0,false,false⟩,⟨sm,2,0,false,true⟩,⟨st,2,0,false,true⟩,⟨dp,2,0,false,true⟩,⟨sz,2,0,false,true⟩,⟨dn,2,0,false,true⟩]) Q
def tvMscF_at (sm st dp sz dn:List AV) (n:Int) (bf:Bool) (b:List Bk) (m i:Int) (q:Int) (Q:AV -> Heap -> Prop):Prop:=Wp M1 (.run fi84 (atC (cd Try.f84) [1,1,1,0,1,0,0,1,1,0,0,1,1,0]) [(0,.ptr 0 0 0 0),(1,.int .i64 n),(7,.int .i64 q),(9,.bool false),(31,.vec bf 3 (b.map Bk.a)),(32,.int .i64 m),(33,.int .i64 i)] [⟨[.agg [.mapr 1,.mapr 2,.mapr 3,.mapr 4,.mapr 5]],5,0,false,false⟩,⟨sm,2,0,false,true⟩,⟨st,2,0,false,true⟩,⟨dp,2,0,false,true⟩,⟨sz,2,0,false,true⟩,⟨dn,2,0,false,true⟩]) Q
theorem keepcall84 {args:List AV} {L:Heap} {v:AV} {K:Heap} (hk:keepOk L.length v K = true) (h:Wp M1 (.run fi84 [.code (cd Try.f84)] (argVars 0 args) L) (KeepQ v K)):Ev M1 (.own 84 args L) v K:=
 own_keep Try.f84 fi84 (by kernel_rfl) (by kernel_rfl) (by kernel_rfl) (by kernel_rfl) hk h
noncomputable abbrev zTpG1:=ag [AV.mapr 1,AV.mapr 2,AV.mapr 3,AV.mapr 4,AV.mapr 5]
theorem tvMs (sm st dp sz dn:List AV) (n:Int) (bf:Bool) (b:List Bk) (dv:AV) (dK:Heap) (_:keepOk 6 dv dK = true) (H :
  (mapKeys IntKind.i64 st = true) /\
  (mapIs IntKind.i64 st = true) /\
  ((mapI n st = 1) -> (KeepQ dv dK) (vb false) [{ elems:=[ag [AV.mapr 1,AV.mapr 2,AV.mapr 3,AV.mapr 4,AV.mapr 5]],es:=5,ver:=0,frozen:=false,clean:=false },{ elems:=sm,es:=2,ver:=0,frozen:=false,clean:=true },{ elems:=st,es:=2,ver:=0,frozen:=false,clean:=true },{ elems:=dp,es:=2,ver:=0,frozen:=false,clean:=true },{ elems:=sz,es:=2,ver:=0,frozen:=false,clean:=true },{ elems:=dn,es:=2,ver:=0,frozen:=false,clean:=true }]) /\
  (¬(mapI n st = 1) -> ((mapI n st = 2) -> (KeepQ dv dK) (vb true) [{ elems:=[ag [AV.mapr 1,AV.mapr 2,AV.mapr 3,AV.mapr 4,AV.mapr 5]],es:=5,ver:=0,frozen:=false,clean:=false },{ elems:=sm,es:=2,ver:=0,frozen:=false,clean:=true },{ elems:=st,es:=2,ver:=0,frozen:=false,clean:=true },{ elems:=dp,es:=2,ver:=0,frozen:=false,clean:=true },{ elems:=sz,es:=2,ver:=0,frozen:=false,clean:=true },{ elems:=dn,es:=2,ver:=0,frozen:=false,clean:=true }]) /\
   (¬(mapI n st = 2) -> (mapKeys IntKind.i64 sm = true) /\
    (mapVal (ofC (Value.slice none 0 0)) n sm = AV.vec bf 3 (List.map Bk.a b)) /\
    tvMsa_at (sm) (mapPut IntKind.i64 n (vi 1) st) (dp) (sz) (dn) (n) (bf) (b) ((↑b.length:Int)) (0) (KeepQ dv dK)))) :
 tvMs_at sm st dp sz dn n (KeepQ dv dK):=by
 unfold tvMs_at
 obtain ⟨k2,H⟩:=H
 obtain ⟨k4,H⟩:=H
 rcases xm (mapI n st = 1) with d6 | d6
 ·have H:=H.1 d6
  exact path_ret (G:=given kp84 [] []) 1000 [true] (k:=((atC (cd Try.f84) [1,0,1,0,1,0,1])).tail) (env':=[(4,vb false)]) (L':=[⟨[zTpG1],5,0,false,false⟩,⟨sm,2,0,false,true⟩,⟨st,2,0,false,true⟩,⟨dp,2,0,false,true⟩,⟨sz,2,0,false,true⟩,⟨dn,2,0,false,true⟩]) (asm:=[true,mapKeys IntKind.i64 st,mapIs IntKind.i64 st,(mapI n st == 1) == true]) (eqs:=[]) (calls:=[]) (vb false) (by kernel_rfl) (by kernel_rfl) (allB_cons rfl (allB_cons ((i_var _).2 k2) (allB_cons ((i_var _).2 k4) (allB_cons (beq_t (i_eq.2 d6)) allB_nil)))) allP_nil allC_nil H
 ·have H:=H.2 d6
  rcases xm (mapI n st = 2) with d8 | d8
  ·have H:=H.1 d8
   exact path_ret (G:=given kp84 [] []) 1000 [false,true] (k:=((atC (cd Try.f84) [1,0,1,0,1,1,1,0,1])).tail) (env':=[(4,vb true)]) (L':=[⟨[zTpG1],5,0,false,false⟩,⟨sm,2,0,false,true⟩,⟨st,2,0,false,true⟩,⟨dp,2,0,false,true⟩,⟨sz,2,0,false,true⟩,⟨dn,2,0,false,true⟩]) (asm:=[true,mapKeys IntKind.i64 st,mapIs IntKind.i64 st,(mapI n st == 1) == false,(mapI n st == 2) == true]) (eqs:=[]) (calls:=[]) (vb true) (by kernel_rfl) (by kernel_rfl) (allB_cons rfl (allB_cons ((i_var _).2 k2) (allB_cons ((i_var _).2 k4) (allB_cons (beq_f (fun h => d6 (i_eq.1 h))) (allB_cons (beq_t (i_eq.2 d8)) allB_nil))))) allP_nil allC_nil H
  ·have H:=H.2 d8
   obtain ⟨k11,H⟩:=H
   obtain ⟨k12,H⟩:=H
   have w13:(List.map Bk.a b).length = b.length:=List.length_map ..
   exact path_wp (G:=given kp84 [(7,5,(.elem (.vec bf 3 (b.map Bk.a)):Ans))] []) 1000 [false,false] ⟨(atC (cd Try.f84) [1,1,1,0,1,0,0]),[(0,AV.ptr 0 0 0 0),(1,vi n),(31,AV.vec bf 3 (List.map Bk.a b)),(32,vi (↑(List.map Bk.a b).length:Int)),(33,vi 0)],[⟨[zTpG1],5,0,false,false⟩,⟨sm,2,0,false,true⟩,⟨mapPut IntKind.i64 n (vi 1) st,2,0,false,true⟩,⟨dp,2,0,false,true⟩,⟨sz,2,0,false,true⟩,⟨dn,2,0,false,true⟩],[true,mapKeys IntKind.i64 st,mapIs IntKind.i64 st,(mapI n st == 1) == false,(mapI n st == 2) == false,true,mapKeys IntKind.i64 st,true,mapKeys IntKind.i64 sm],[(mapVal (ofC (Value.slice none 0 0)) n sm = AV.vec bf 3 (List.map Bk.a b))],_⟩ (by kernel_rfl) (bc rfl (bc ((i_var _).2 k2) (bc ((i_var _).2 k4) (bc (beq_f (fun h => d6 (i_eq.1 h))) (bc (beq_f (fun h => d8 (i_eq.1 h))) (bc rfl (bc ((i_var _).2 k2) (bc rfl (bc ((i_var _).2 k11) b0))))))))) (qc k12 q0) c0 (by (try rw [w13]);all_goals exact H)
noncomputable abbrev zTpG2:=ag [AV.mapr 1,AV.mapr 2,AV.mapr 3,AV.mapr 4,AV.mapr 5]
theorem tvMsa (sm st dp sz dn:List AV) (n:Int) (bf:Bool) (b:List Bk) (m i:Int)  (dv:AV) (dK:Heap) (hk:keepOk 6 dv dK = true) (H :
  ((i < m) -> (0 <= i) /\
   (i.toNat < b.length) /\
   (Sp.okW (b.getD i.toNat default).3) /\
   tvMsc_at (sm) (st) (dp) (sz) (dn) (n) (bf) (b) (m) (i) (Sp.cN (b.getD i.toNat default).3) (Sp.cIs (b.getD i.toNat default).3) (KeepQ dv dK)) /\
  (¬(i < m) -> (mapKeys IntKind.i64 st = true) /\
   (Sp.okBs b /\ IntM dp /\ IntM sz /\ (∀ (n:Int),0 <= mapI n dp /\ mapI n dp <= 1000000) /\ ∀ (n:Int),0 <= mapI n sz /\ mapI n sz <= 20001) /\
   (mapKeys IntKind.i64 sm = true) /\
   (mapKeys IntKind.i64 dp = true) /\
   (mapKeys IntKind.i64 sz = true) /\
   (mapVal (ofC (Value.slice none 0 0)) n sm = AV.vec bf 3 (List.map Bk.a b)) /\
   (KeepQ dv dK) (vb true) [{ elems:=[ag [AV.mapr 1,AV.mapr 2,AV.mapr 3,AV.mapr 4,AV.mapr 5]],es:=5,ver:=0,frozen:=false,clean:=false },{ elems:=sm,es:=2,ver:=0,frozen:=false,clean:=true },{ elems:=mapPut IntKind.i64 n (vi 2) st,es:=2,ver:=0,frozen:=false,clean:=true },{ elems:=mapPut IntKind.i64 n (vi (Sp.sumP (fun n => mapI n dp) (fun n => mapI n sz) b 0 0).fst) dp,es:=2,ver:=0,frozen:=false,clean:=true },{ elems:=mapPut IntKind.i64 n (vi (Sp.sumP (fun n => mapI n dp) (fun n => mapI n sz) b 0 0).snd) sz,es:=2,ver:=0,frozen:=false,clean:=true },{ elems:=dn,es:=2,ver:=0,frozen:=false,clean:=true }])) :
 tvMsa_at sm st dp sz dn n bf b m i (KeepQ dv dK):=by
 unfold tvMsa_at
 rcases xm (i < m) with d2 | d2
 ·have H:=H.1 d2
  obtain ⟨k4,H⟩:=H
  have w5:(List.map Bk.a b).length = b.length:=List.length_map ..
  have i6:(decide (i.toNat < (List.map Bk.a b).length)) = true ↔ (i.toNat < b.length):=(by (try rw [w5]);all_goals exact i_dec)
  obtain ⟨k7,H⟩:=H
  obtain ⟨k8,H⟩:=H
  exact path_wp (G:=given kp84 [(9,1,.elem (ag [vb (b.getD i.toNat default).1,AV.vec (b.getD i.toNat default).2 2 (List.map Wo.a (b.getD i.toNat default).3),AV.str (b.getD i.toNat default).4])),(10,1,.call (tu [vi (Sp.cN (b.getD i.toNat default).3),vi (Sp.cT (b.getD i.toNat default).3),vb (Sp.cIs (b.getD i.toNat default).3),vi (Sp.cE (b.getD i.toNat default).3)]) none)] []) 12 [true] ⟨(atC (cd Try.f84) [1,1,1,0,1,0,0,1,1,0,0,1,1,0]),[(0,AV.ptr 0 0 0 0),(1,vi n),(7,vi (Sp.cN (b.getD i.toNat default).3)),(9,vb (Sp.cIs (b.getD i.toNat default).3)),(31,AV.vec bf 3 (List.map Bk.a b)),(32,vi m),(33,vi i)],[⟨[zTpG2],5,0,false,false⟩,⟨sm,2,0,false,true⟩,⟨st,2,0,false,true⟩,⟨dp,2,0,false,true⟩,⟨sz,2,0,false,true⟩,⟨dn,2,0,false,true⟩,⟨[ag [vb (b.getD i.toNat default).1,AV.vec (b.getD i.toNat default).2 2 (List.map Wo.a (b.getD i.toNat default).3),AV.str (b.getD i.toNat default).4]],3,0,false,false⟩],_,[((List.map Bk.a b).get?Internal i.toNat = some (ag [vb (b.getD i.toNat default).1,AV.vec (b.getD i.toNat default).2 2 (List.map Wo.a (b.getD i.toNat default).3),AV.str (b.getD i.toNat default).4]))],_⟩ (by kernel_rfl) (bc (beq_t (i_dec.2 d2)) (bc (i_dec.2 k4) (bc (i6.2 k7) (bc rfl (bc rfl b0))))) (qc (el_map k7) q0) (ce (@ev13 ((b.getD i.toNat default).1) ((b.getD i.toNat default).2) ((b.getD i.toNat default).3) ((b.getD i.toNat default).4) k8) c0) (wp_narrow_keep 6 hk (by kernel_rfl) H)
 ·have H:=H.2 d2
  obtain ⟨k10,H⟩:=H
  obtain ⟨k11,H⟩:=H
  obtain ⟨k13,H⟩:=H
  obtain ⟨k15,H⟩:=H
  obtain ⟨k17,H⟩:=H
  obtain ⟨k18,H⟩:=H
  exact path_ret (G:=given kp84 [(15,16,(.elem (.vec bf 3 (b.map Bk.a)):Ans)),(15,17,.call (tu [vi (Sp.sumP (fun n => mapI n dp) (fun n => mapI n sz) b 0 0).fst,vi (Sp.sumP (fun n => mapI n dp) (fun n => mapI n sz) b 0 0).snd]) none)] [(15,[1017])]) 1000 [false] (k:=((atC (cd Try.f84) [1,1,1,1,1,1,1])).tail) (env':=[(4,vb true)]) (L':=[⟨[zTpG2],5,0,false,false⟩,⟨sm,2,0,false,true⟩,⟨mapPut IntKind.i64 n (vi 2) st,2,0,false,true⟩,⟨mapPut IntKind.i64 n (vi (Sp.sumP (fun n => mapI n dp) (fun n => mapI n sz) b 0 0).fst) dp,2,0,false,true⟩,⟨mapPut IntKind.i64 n (vi (Sp.sumP (fun n => mapI n dp) (fun n => mapI n sz) b 0 0).snd) sz,2,0,false,true⟩,⟨dn,2,0,false,true⟩]) (asm:=[(decide (i < m)) == false,true,mapKeys IntKind.i64 st,true,true,true,mapKeys IntKind.i64 sm,mapKeys IntKind.i64 dp,mapKeys IntKind.i64 sz]) (eqs:=[(mapVal (ofC (Value.slice none 0 0)) n sm = AV.vec bf 3 (List.map Bk.a b))]) (calls:=[⟨true,true,72,[AV.ptr 0 0 0 0,AV.vec bf 3 (List.map Bk.a b)],[⟨[zTpG2],5,0,false,false⟩,⟨sm,2,0,false,true⟩,⟨mapPut IntKind.i64 n (vi 2) st,2,0,false,true⟩,⟨dp,2,0,false,true⟩,⟨sz,2,0,false,true⟩,⟨dn,2,0,false,true⟩],tu [vi (Sp.sumP (fun n => mapI n dp) (fun n => mapI n sz) b 0 0).fst,vi (Sp.sumP (fun n => mapI n dp) (fun n => mapI n sz) b 0 0).snd],[⟨[zTpG2],5,0,false,false⟩,⟨sm,2,0,false,true⟩,⟨mapPut IntKind.i64 n (vi 2) st,2,0,false,true⟩,⟨dp,2,0,false,true⟩,⟨sz,2,0,false,true⟩,⟨dn,2,0,false,true⟩]⟩]) (vb true) (by kernel_rfl) (by kernel_rfl) (allB_cons (beq_f (fun h => d2 (i_dec.1 h))) (allB_cons rfl (allB_cons ((i_var _).2 k10) (allB_cons rfl (allB_cons rfl (allB_cons rfl (allB_cons ((i_var _).2 k13) (allB_cons ((i_var _).2 k15) (allB_cons ((i_var _).2 k17) allB_nil))))))))) (allP_cons k18 allP_nil) (allC_cons (fun _ => (@evo72 (sm) (mapPut IntKind.i64 n (vi 2) st) (dp) (sz) (dn) (bf) (b) k11)) allC_nil) H
noncomputable abbrev zTpG3:=ag [AV.mapr 1,AV.mapr 2,AV.mapr 3,AV.mapr 4,AV.mapr 5]
theorem tvMscT (sm st dp sz dn:List AV) (n:Int) (bf:Bool) (b:List Bk) (m i:Int) (q:Int) (r:Bool) (st1 dp1 sz1:List AV) (dv:AV) (dK:Heap) (_:keepOk 6 dv dK = true) (H :
  ((true = true) -> (Ev M1 (Conf.own 84 [AV.ptr 0 0 0 0,vi q] [{ elems:=[ag [AV.mapr 1,AV.mapr 2,AV.mapr 3,AV.mapr 4,AV.mapr 5]],es:=5,ver:=0,frozen:=false,clean:=false },{ elems:=sm,es:=2,ver:=0,frozen:=false,clean:=true },{ elems:=st,es:=2,ver:=0,frozen:=false,clean:=true },{ elems:=dp,es:=2,ver:=0,frozen:=false,clean:=true },{ elems:=sz,es:=2,ver:=0,frozen:=false,clean:=true },{ elems:=dn,es:=2,ver:=0,frozen:=false,clean:=true }]) (vb r) [{ elems:=[ag [AV.mapr 1,AV.mapr 2,AV.mapr 3,AV.mapr 4,AV.mapr 5]],es:=5,ver:=0,frozen:=false,clean:=false },{ elems:=sm,es:=2,ver:=0,frozen:=false,clean:=true },{ elems:=st1,es:=2,ver:=0,frozen:=false,clean:=true },{ elems:=dp1,es:=2,ver:=0,frozen:=false,clean:=true },{ elems:=sz1,es:=2,ver:=0,frozen:=false,clean:=true },{ elems:=dn,es:=2,ver:=0,frozen:=false,clean:=true }])) /\
  ((¬(r = true)) -> (KeepQ dv dK) (vb false) [{ elems:=[ag [AV.mapr 1,AV.mapr 2,AV.mapr 3,AV.mapr 4,AV.mapr 5]],es:=5,ver:=0,frozen:=false,clean:=false },{ elems:=sm,es:=2,ver:=0,frozen:=false,clean:=true },{ elems:=st1,es:=2,ver:=0,frozen:=false,clean:=true },{ elems:=dp1,es:=2,ver:=0,frozen:=false,clean:=true },{ elems:=sz1,es:=2,ver:=0,frozen:=false,clean:=true },{ elems:=dn,es:=2,ver:=0,frozen:=false,clean:=true }]) /\
  (¬(¬(r = true)) -> (-9223372036854775808 <= i + 1 /\ i + 1 <= 9223372036854775807) /\
   tvMsa_at (sm) (st1) (dp1) (sz1) (dn) (n) (bf) (b) (m) (i + 1) (KeepQ dv dK))) :
 tvMscT_at sm st dp sz dn n bf b m i q (KeepQ dv dK):=by
 unfold tvMscT_at
 obtain ⟨k2,H⟩:=H
 refine path_wp (G:=given kp84 [(11,4,(.call (.bool r) (some [⟨[.agg [.mapr 1,.mapr 2,.mapr 3,.mapr 4,.mapr 5]],5,0,false,false⟩,⟨sm,2,0,false,true⟩,⟨st1,2,0,false,true⟩,⟨dp1,2,0,false,true⟩,⟨sz1,2,0,false,true⟩,⟨dn,2,0,false,true⟩]):Ans))] []) 1 [] ⟨(atC (cd Try.f84) [1,1,1,0,1,0,0,1,1,0,0,1,1,1]),[(0,AV.ptr 0 0 0 0),(1,vi n),(31,AV.vec bf 3 (List.map Bk.a b)),(32,vi m),(33,vi i),(50,vb !r)],[⟨[zTpG3],5,0,false,false⟩,⟨sm,2,0,false,true⟩,⟨st1,2,0,false,true⟩,⟨dp1,2,0,false,true⟩,⟨sz1,2,0,false,true⟩,⟨dn,2,0,false,true⟩],_,[],[⟨true == true && true && true,true,84,[AV.ptr 0 0 0 0,vi q],[⟨[zTpG3],5,0,false,false⟩,⟨sm,2,0,false,true⟩,⟨st,2,0,false,true⟩,⟨dp,2,0,false,true⟩,⟨sz,2,0,false,true⟩,⟨dn,2,0,false,true⟩],vb r,[⟨[zTpG3],5,0,false,false⟩,⟨sm,2,0,false,true⟩,⟨st1,2,0,false,true⟩,⟨dp1,2,0,false,true⟩,⟨sz1,2,0,false,true⟩,⟨dn,2,0,false,true⟩]⟩]⟩ (by kernel_rfl) b0 q0 (cc (fun hc => ((k2 ((i_at (i_at (i_bt (i_var _)))).1 hc)):Ev M1 (Conf.own 84 [AV.ptr 0 0 0 0,vi q] [⟨[zTpG3],5,0,false,false⟩,⟨sm,2,0,false,true⟩,⟨st,2,0,false,true⟩,⟨dp,2,0,false,true⟩,⟨sz,2,0,false,true⟩,⟨dn,2,0,false,true⟩]) (vb r) [⟨[zTpG3],5,0,false,false⟩,⟨sm,2,0,false,true⟩,⟨st1,2,0,false,true⟩,⟨dp1,2,0,false,true⟩,⟨sz1,2,0,false,true⟩,⟨dn,2,0,false,true⟩])) c0) ?_
 rcases xm (¬(r = true)) with d4 | d4
 ·have H:=H.1 d4
  exact path_ret (G:=given kp84 [] []) 1000 [true] (k:=((atC (cd Try.f84) [1,1,1,0,1,0,0,1,1,0,0,1,1,1,0,1])).tail) (env':=[(4,vb false)]) (L':=[⟨[zTpG3],5,0,false,false⟩,⟨sm,2,0,false,true⟩,⟨st1,2,0,false,true⟩,⟨dp1,2,0,false,true⟩,⟨sz1,2,0,false,true⟩,⟨dn,2,0,false,true⟩]) (asm:=[(!r) == true]) (eqs:=[]) (calls:=[]) (vb false) (by kernel_rfl) (by kernel_rfl) (allB_cons (beq_t ((i_not (i_var _)).2 d4)) allB_nil) allP_nil allC_nil H
 ·have H:=H.2 d4
  obtain ⟨k5,H⟩:=H
  have w6:wi (i + 1) = i + 1:=wI64 k5
  exact path_wp (G:=given kp84 [] []) 1000 [false] ⟨(atC (cd Try.f84) [1,1,1,0,1,0,0]),[(0,AV.ptr 0 0 0 0),(1,vi n),(31,AV.vec bf 3 (List.map Bk.a b)),(32,vi m),(33,vi (wi (i + 1)))],[⟨[zTpG3],5,0,false,false⟩,⟨sm,2,0,false,true⟩,⟨st1,2,0,false,true⟩,⟨dp1,2,0,false,true⟩,⟨sz1,2,0,false,true⟩,⟨dn,2,0,false,true⟩],[(!r) == false],[],_⟩ (by kernel_rfl) (bc (beq_f (fun h => d4 ((i_not (i_var _)).1 h))) b0) q0 c0 (by (try rw [w6]);all_goals exact H)
noncomputable abbrev zTpG4:=ag [AV.mapr 1,AV.mapr 2,AV.mapr 3,AV.mapr 4,AV.mapr 5]
theorem tvMscF (sm st dp sz dn:List AV) (n:Int) (bf:Bool) (b:List Bk) (m i:Int) (q:Int) (r:Bool) (st1 dp1 sz1:List AV) (dv:AV) (dK:Heap) (_:keepOk 6 dv dK = true) (H :
  ((false = true) -> (Ev M1 (Conf.own 84 [AV.ptr 0 0 0 0,vi q] [{ elems:=[ag [AV.mapr 1,AV.mapr 2,AV.mapr 3,AV.mapr 4,AV.mapr 5]],es:=5,ver:=0,frozen:=false,clean:=false },{ elems:=sm,es:=2,ver:=0,frozen:=false,clean:=true },{ elems:=st,es:=2,ver:=0,frozen:=false,clean:=true },{ elems:=dp,es:=2,ver:=0,frozen:=false,clean:=true },{ elems:=sz,es:=2,ver:=0,frozen:=false,clean:=true },{ elems:=dn,es:=2,ver:=0,frozen:=false,clean:=true }]) (vb r) [{ elems:=[ag [AV.mapr 1,AV.mapr 2,AV.mapr 3,AV.mapr 4,AV.mapr 5]],es:=5,ver:=0,frozen:=false,clean:=false },{ elems:=sm,es:=2,ver:=0,frozen:=false,clean:=true },{ elems:=st1,es:=2,ver:=0,frozen:=false,clean:=true },{ elems:=dp1,es:=2,ver:=0,frozen:=false,clean:=true },{ elems:=sz1,es:=2,ver:=0,frozen:=false,clean:=true },{ elems:=dn,es:=2,ver:=0,frozen:=false,clean:=true }])) /\
  (-9223372036854775808 <= i + 1 /\ i + 1 <= 9223372036854775807) /\
  tvMsa_at (sm) (st) (dp) (sz) (dn) (n) (bf) (b) (m) (i + 1) (KeepQ dv dK)) :
 tvMscF_at sm st dp sz dn n bf b m i q (KeepQ dv dK):=by
 unfold tvMscF_at
 obtain ⟨k2,H⟩:=H
 obtain ⟨k3,H⟩:=H
 have w4:wi (i + 1) = i + 1:=wI64 k3
 exact path_wp (G:=given kp84 [(11,4,(.call (.bool r) (some [⟨[.agg [.mapr 1,.mapr 2,.mapr 3,.mapr 4,.mapr 5]],5,0,false,false⟩,⟨sm,2,0,false,true⟩,⟨st1,2,0,false,true⟩,⟨dp1,2,0,false,true⟩,⟨sz1,2,0,false,true⟩,⟨dn,2,0,false,true⟩]):Ans))] []) 1000 [false] ⟨(atC (cd Try.f84) [1,1,1,0,1,0,0]),[(0,AV.ptr 0 0 0 0),(1,vi n),(31,AV.vec bf 3 (List.map Bk.a b)),(32,vi m),(33,vi (wi (i + 1)))],[⟨[zTpG4],5,0,false,false⟩,⟨sm,2,0,false,true⟩,⟨st,2,0,false,true⟩,⟨dp,2,0,false,true⟩,⟨sz,2,0,false,true⟩,⟨dn,2,0,false,true⟩],_,[],[⟨false == true && true && true,true,84,[AV.ptr 0 0 0 0,vi q],[⟨[zTpG4],5,0,false,false⟩,⟨sm,2,0,false,true⟩,⟨st,2,0,false,true⟩,⟨dp,2,0,false,true⟩,⟨sz,2,0,false,true⟩,⟨dn,2,0,false,true⟩],vb r,[⟨[zTpG4],5,0,false,false⟩,⟨sm,2,0,false,true⟩,⟨st1,2,0,false,true⟩,⟨dp1,2,0,false,true⟩,⟨sz1,2,0,false,true⟩,⟨dn,2,0,false,true⟩]⟩]⟩ (by kernel_rfl) (bc rfl b0) q0 (cc (fun hc => ((k2 ((i_at (i_at (i_bt (i_var _)))).1 hc)):Ev M1 (Conf.own 84 [AV.ptr 0 0 0 0,vi q] [⟨[zTpG4],5,0,false,false⟩,⟨sm,2,0,false,true⟩,⟨st,2,0,false,true⟩,⟨dp,2,0,false,true⟩,⟨sz,2,0,false,true⟩,⟨dn,2,0,false,true⟩]) (vb r) [⟨[zTpG4],5,0,false,false⟩,⟨sm,2,0,false,true⟩,⟨st1,2,0,false,true⟩,⟨dp1,2,0,false,true⟩,⟨sz1,2,0,false,true⟩,⟨dn,2,0,false,true⟩])) c0) (by (try rw [w4]);all_goals exact H)
end Go.Av

namespace Go.Av
open Go.Proofs
theorem intM_put {n x:Int}:∀ {ms:List AV},IntM ms -> IntM (mapPut .i64 n (.int .i64 x) ms) /\ ∀ c,mapI c (mapPut .i64 n (.int .i64 x) ms) = if c = n then x else mapI c ms
 | [],_ => ⟨⟨by simp [mapPut,mapKeys],by simp [mapPut,mapIs]⟩,fun c => by
   simp only [mapPut,mapI]
   by_cases h:c = n
   ·subst h;simp
   ·rw [if_neg h,show (c == n) = false by simpa using h];rfl⟩
 | y :: l,h => by
  obtain ⟨h1,h2⟩:=h
  unfold mapIs at h2
  split at h2
  ·rename_i e;cases e
  ·rename_i k' m j b l' e
   simp only [List.cons.injEq] at e
   obtain ⟨rfl,rfl⟩:=e
   simp only [mapKeys,Bool.and_eq_true,decide_eq_true_eq] at h1
   obtain ⟨rfl,h1⟩:=h1
   simp only [Bool.and_eq_true,decide_eq_true_eq] at h2
   obtain ⟨rfl,h2⟩:=h2
   simp only [mapPut]
   by_cases hn:n = m
   ·subst hn
    simp only [beq_self_eq_true,cond_true]
    refine ⟨⟨by simp [mapKeys,h1],by simp [mapIs,h2]⟩,fun c => ?_⟩
    simp only [mapI]
    by_cases h:c = n
    ·subst h;simp
    ·rw [if_neg h,show (c == n) = false by simpa using h];rfl
   ·have e:(n == m) = false:=by simpa using hn
    rw [e,cond_false]
    obtain ⟨⟨q1,q2⟩,q3⟩:=intM_put (n:=n) (x:=x) ⟨h1,h2⟩
    refine ⟨⟨by simp [mapKeys,q1],by simp [mapIs,q2]⟩,fun c => ?_⟩
    simp only [mapI]
    by_cases h:c = m
    ·subst h
     have:(c == c) = true:=by simp
     rw [this,cond_true,cond_true,if_neg (fun e => hn e.symm)]
    ·have:(c == m) = false:=by simpa using h
     rw [this,cond_false,cond_false,q3]
  ·cases h2
namespace Sp
def allD (E:Int -> Option (Int × Int)) (l:List Bk):Bool:=l.all fun b => !cIs b.ws || (E (cN b.ws)).isSome
def sumE (E:Int -> Option (Int × Int)) (l:List Bk):Int × Int:=sumP (fun m => ((E m).getD (0,0)).1) (fun m => ((E m).getD (0,0)).2) l 0 0
def V (S:Int -> List Bk):Nat -> Int -> Option (Int × Int)
 | 0,_ => none
 | k + 1,n => if allD (V S k) (S n) = true then some (sumE (V S k) (S n)) else none
end Sp
theorem allD_iff {E:Int -> Option (Int × Int)} {l:List Bk}:Sp.allD E l = true ↔ ∀ x ∈ l,Sp.cIs x.ws = true -> (E (Sp.cN x.ws)).isSome = true:=by
 unfold Sp.allD
 rw [List.all_eq_true]
 refine ⟨fun h x hx k => ?_,fun h x hx => ?_⟩
 ·have:=h x hx
  rw [k,Bool.not_true,Bool.false_or] at this
  exact this
 ·cases k:Sp.cIs x.ws with
  | false => rfl
  | true => rw [h x hx k];rfl
theorem sumP_congr {D Z D' Z':Int -> Int}:∀ (l:List Bk) (d z:Int),(∀ x ∈ l,Sp.cIs x.ws = true -> D (Sp.cN x.ws) = D' (Sp.cN x.ws) /\ Z (Sp.cN x.ws) = Z' (Sp.cN x.ws)) -> Sp.sumP D Z l d z = Sp.sumP D' Z' l d z
 | [],_,_,_ => rfl
 | x :: r,d,z,h => by
  have hr:=fun y hy => h y (List.mem_cons_of_mem _ hy)
  rw [Sp.sumP,Sp.sumP]
  split
  ·rename_i k
   obtain ⟨h1,h2⟩:=h x (by simp) k
   rw [h1,h2]
   exact sumP_congr r _ _ hr
  ·exact sumP_congr r _ _ hr
theorem V_succ {S:Int -> List Bk} {k:Nat} {n:Int}:(Sp.V S (k + 1) n).isSome = true ↔ ∀ x ∈ S n,Sp.cIs x.ws = true -> (Sp.V S k (Sp.cN x.ws)).isSome = true:=by
 rw [<- allD_iff,Sp.V]
 split
 ·rename_i h;simp [h]
 ·rename_i h;simp [h]
theorem V_mono1 {S:Int -> List Bk}:∀ (k:Nat) (n:Int) (v:Int × Int),Sp.V S k n = some v -> Sp.V S (k + 1) n = some v:=by
 intro k
 induction k with
 | zero => intro n v h;simp [Sp.V] at h
 | succ k ih =>
  intro n v h
  rw [Sp.V] at h
  split at h
  ·rename_i hd
   have hd':=allD_iff.1 hd
   have hd2:Sp.allD (Sp.V S (k + 1)) (S n) = true:=allD_iff.2 fun x hx y => by
    have:=hd' x hx y
    obtain ⟨w,hw⟩:=Option.isSome_iff_exists.1 this
    rw [ih _ _ hw];rfl
   rw [Sp.V,if_pos hd2,<- h]
   congr 1
   unfold Sp.sumE
   refine sumP_congr _ _ _ fun x hx y => ?_
   obtain ⟨w,hw⟩:=Option.isSome_iff_exists.1 (hd' x hx y)
   rw [ih _ _ hw,hw];exact ⟨rfl,rfl⟩
  ·cases h
theorem V_mono {S:Int -> List Bk} {k j:Nat} {n:Int} {v:Int × Int} (h:Sp.V S k n = some v) (hk:k <= j):Sp.V S j n = some v:=by
 obtain ⟨c,rfl⟩:=Nat.exists_eq_add_of_le hk
 induction c with
 | zero => exact h
 | succ c ih => exact V_mono1 _ _ _ (ih (by omega))
theorem V_some {S:Int -> List Bk} {k j:Nat} {n:Int} (h:(Sp.V S k n).isSome = true) (hk:k <= j):(Sp.V S j n).isSome = true:=by
 obtain ⟨w,hw⟩:=Option.isSome_iff_exists.1 h
 rw [V_mono hw hk];rfl
theorem V_eq {S:Int -> List Bk} {k j:Nat} {n:Int} {v w:Int × Int} (h:Sp.V S k n = some v) (h':Sp.V S j n = some w):v = w:=by
 have h1:=V_mono h (Nat.le_max_left k j)
 rw [V_mono h' (Nat.le_max_right k j)] at h1
 exact (Option.some.inj h1).symm
theorem countP_lt {p q:Int -> Bool}:∀ {l:List Int},(∀ n ∈ l,p n = true -> q n = true) -> (∃ n ∈ l,q n = true /\ p n = false) -> l.countP p < l.countP q
 | [],_,h => by obtain ⟨n,hn,_⟩:=h;cases hn
 | x :: l,h,he => by
  have hl:=fun n hn => h n (List.mem_cons_of_mem _ hn)
  have hle:l.countP p <= l.countP q:=List.countP_mono_left hl
  have h0:=h x (by simp)
  rw [List.countP_cons,List.countP_cons]
  obtain ⟨n,hn,h1,h2⟩:=he
  rcases List.mem_cons.1 hn with rfl | hn
  ·rw [h1,h2,if_pos rfl,if_neg (by simp)];omega
  ·have:=countP_lt hl ⟨n,hn,h1,h2⟩
   cases hp:p x with
   | false => rw [if_neg (by simp)];omega
   | true => rw [h0 hp,if_pos rfl];omega
def Sp.closed (S:Int -> List Bk) (ns:List Int):Prop:=∀ n ∈ ns,∀ x ∈ S n,Sp.cIs x.ws = true -> Sp.cN x.ws ∈ ns
theorem V_pig {S:Int -> List Bk} {ns:List Int} (hc:Sp.closed S ns) {k:Nat} {n:Int} (hn:n ∈ ns) (h:(Sp.V S k n).isSome = true):(Sp.V S ns.length n).isSome = true:=by
 have hs:∃ j,j <= ns.length /\ ∀ n ∈ ns,(Sp.V S (j + 1) n).isSome = true -> (Sp.V S j n).isSome = true:=by
  refine Classical.byContradiction fun hx => ?_
  have hx':∀ j,j <= ns.length -> ∃ n ∈ ns,(Sp.V S (j + 1) n).isSome = true /\ (Sp.V S j n).isSome = false:=fun j hj => by
   refine Classical.byContradiction fun y => hx ⟨j,hj,fun n hn h1 => ?_⟩
   cases h2:(Sp.V S j n).isSome with
   | true => rfl
   | false => exact (y ⟨n,hn,h1,h2⟩).elim
  have hcnt:∀ j,j <= ns.length + 1 -> j <= ns.countP fun n => (Sp.V S j n).isSome:=by
   intro j
   induction j with
   | zero => intro _;omega
   | succ j ih =>
    intro hj
    have:=ih (by omega)
    have:=countP_lt (p:=fun n => (Sp.V S j n).isSome) (q:=fun n => (Sp.V S (j + 1) n).isSome) (fun n _ h => V_some h (by omega)) (hx' j (by omega))
    omega
  have h1:=hcnt (ns.length + 1) (by omega)
  have h2:=List.countP_le_length (p:=fun n => (Sp.V S (ns.length + 1) n).isSome) (l:=ns)
  omega
 obtain ⟨j,hj,hst⟩:=hs
 have hall:∀ i,∀ n ∈ ns,(Sp.V S (j + i) n).isSome = true -> (Sp.V S j n).isSome = true:=by
  intro i
  induction i with
  | zero => intro n _ h;exact h
  | succ i ih =>
   intro n hn h
   refine hst n hn (V_succ.2 fun x hx y => ?_)
   exact ih _ (hc n hn x hx y) (V_succ.1 h x hx y)
 exact V_some (hall k n hn (V_some h (by omega))) hj
theorem sumP_rng {D Z:Int -> Int} {t:Int}:∀ (l:List Bk) (d z:Int),(∀ x ∈ l,Sp.cIs x.ws = true -> (0 <= D (Sp.cN x.ws) /\ D (Sp.cN x.ws) <= t) /\ 0 <= Z (Sp.cN x.ws) /\ Z (Sp.cN x.ws) <= 20001) -> 0 <= d -> d <= t + 1 -> 0 <= z -> z <= 20001 ->
  (0 <= (Sp.sumP D Z l d z).1 /\ (Sp.sumP D Z l d z).1 <= t + 1) /\ 0 <= (Sp.sumP D Z l d z).2 /\ (Sp.sumP D Z l d z).2 <= 20001
 | [],_,_,_,h1,h2,h3,h4 => ⟨⟨h1,h2⟩,h3,h4⟩
 | x :: r,d,z,h,h1,h2,h3,h4 => by
  have hr:=fun y hy => h y (List.mem_cons_of_mem _ hy)
  rw [Sp.sumP]
  split
  ·rename_i k
   obtain ⟨⟨a1,a2⟩,a3,a4⟩:=h x (by simp) k
   have hct:=(cIs_at k).1
   have hr':=mul_rng a3 a4 hct.1 hct.2
   rw [Int.mul_comm] at hr'
   have hc0:=cap_ge hr'.1
   refine sumP_rng r _ _ hr ?_ ?_ (cap_ge (by omega)) (cap_le _)
   ·unfold Sp.mx;split <;> omega
   ·unfold Sp.mx;split <;> omega
  ·exact sumP_rng r _ _ hr h1 h2 (cap_ge (by omega)) (cap_le _)
theorem V_rng {S:Int -> List Bk}:∀ (k:Nat) (n:Int) (v:Int × Int),Sp.V S k n = some v -> (0 <= v.1 /\ v.1 <= k) /\ 0 <= v.2 /\ v.2 <= 20001:=by
 intro k
 induction k with
 | zero => intro n v h;simp [Sp.V] at h
 | succ k ih =>
  intro n v h
  rw [Sp.V] at h
  split at h
  ·rename_i hd
   have hd':=allD_iff.1 hd
   rw [<- Option.some.inj h]
   have:=sumP_rng (D:=fun m => ((Sp.V S k m).getD (0,0)).1) (Z:=fun m => ((Sp.V S k m).getD (0,0)).2) (t:=k) (S n) 0 0 (fun x hx y => by
    obtain ⟨w,hw⟩:=Option.isSome_iff_exists.1 (hd' x hx y)
    have:=ih _ _ hw
    simp only [hw,Option.getD_some];exact this) (by omega) (by omega) (by omega) (by omega)
   unfold Sp.sumE
   refine ⟨⟨this.1.1,by have:=this.1.2;omega⟩,this.2⟩
  ·cases h
def MInv (S:Int -> List Bk) (st dp sz:List AV):Prop:=(IntM st /\ IntM dp /\ IntM sz) /\ (∀ n,0 <= mapI n dp /\ mapI n dp <= 1000000) /\ (∀ n,0 <= mapI n sz /\ mapI n sz <= 20001) /\ ∀ n,mapI n st = 2 -> ∃ k,Sp.V S k n = some (mapI n dp,mapI n sz)
def MSub (S:Int -> List Bk) (ns:List Int) (sm:List AV):Prop:=mapKeys .i64 sm = true /\ ns.length <= 1000 /\ Sp.closed S ns /\ ∀ n ∈ ns,Sp.okBs (S n) /\ ∃ bf,mapVal (ofC (Value.slice none 0 0)) n sm = .vec bf 3 ((S n).map Bk.a)
def MRes (S:Int -> List Bk) (n:Int) (st st1:List AV) (r:Bool):Prop:=
 (r = true -> mapI n st1 = 2 /\ (∀ m,mapI m st ≠ 0 -> mapI m st1 = mapI m st) /\ ∀ m,mapI m st1 = 1 -> mapI m st = 1) /\
 (r = false -> ∀ k,(Sp.V S k n).isSome = true -> ∃ m,mapI m st = 1 /\ (Sp.V S k m).isSome = true)
theorem measure_loop {S:Int -> List Bk} {ns:List Int} {sm dn:List AV} (hs:MSub S ns sm) {F:Nat} {n:Int} {bf:Bool} (hn:n ∈ ns) (hv:mapVal (ofC (Value.slice none 0 0)) n sm = .vec bf 3 ((S n).map Bk.a))
  (ih:∀ st dp sz n,MInv S st dp sz -> (∀ m,mapI m st = 0 \/ mapI m st = 1 \/ mapI m st = 2) -> n ∈ ns -> (ns.countP fun m => mapI m st == 0) <= F -> ∃ r st1 dp1 sz1,Ev M1 (.own 84 [.ptr 0 0 0 0,.int .i64 n] (XH sm st dp sz dn)) (.bool r) (XH sm st1 dp1 sz1 dn) /\ MInv S st1 dp1 sz1 /\ (∀ m,mapI m st1 = 0 \/ mapI m st1 = 1 \/ mapI m st1 = 2) /\ MRes S n st st1 r) :
  ∀ (c i:Nat) (st dp sz:List AV),i + c = (S n).length -> MInv S st dp sz -> (∀ m,mapI m st = 0 \/ mapI m st = 1 \/ mapI m st = 2) -> mapI n st = 1 -> (ns.countP fun m => mapI m st == 0) <= F -> (∀ x ∈ (S n).take i,Sp.cIs x.ws = true -> mapI (Sp.cN x.ws) st = 2) ->
  ∃ r st1 dp1 sz1,tvMsa_at sm st dp sz dn n bf (S n) (S n).length i (KeepQ (.bool r) (XH sm st1 dp1 sz1 dn)) /\ MInv S st1 dp1 sz1 /\ (∀ m,mapI m st1 = 0 \/ mapI m st1 = 1 \/ mapI m st1 = 2) /\
   (r = true -> mapI n st1 = 2 /\ (∀ m,m ≠ n -> mapI m st ≠ 0 -> mapI m st1 = mapI m st) /\ ∀ m,mapI m st1 = 1 -> mapI m st = 1 /\ m ≠ n) /\
   (r = false -> ∃ x ∈ S n,Sp.cIs x.ws = true /\ ∀ k,(Sp.V S k (Sp.cN x.ws)).isSome = true -> ∃ m,mapI m st = 1 /\ (Sp.V S k m).isSome = true):=by
 obtain ⟨hs1,hs2,hs3,hs4⟩:=hs
 obtain ⟨hb,-⟩:=hs4 n hn
 have hbl:=hb.1
 intro c
 induction c with
 | zero =>
  intro i st dp sz hi hm h3 hg hF hp
  obtain ⟨⟨m1,m2,m3⟩,m4,m5,m6⟩:=hm
  rw [List.take_of_length_le (by omega)] at hp
  have hV:∀ x ∈ S n,Sp.cIs x.ws = true -> Sp.V S ns.length (Sp.cN x.ws) = some (mapI (Sp.cN x.ws) dp,mapI (Sp.cN x.ws) sz):=fun x hx k => by
   obtain ⟨j,hj⟩:=m6 _ (hp x hx k)
   have:=V_pig hs3 (hs3 n hn x hx k) (by rw [hj];rfl:(Sp.V S j _).isSome = true)
   obtain ⟨w,hw⟩:=Option.isSome_iff_exists.1 this
   rw [hw,V_eq hw hj]
  have hVn:Sp.V S (ns.length + 1) n = some (Sp.sumP (fun n => mapI n dp) (fun n => mapI n sz) (S n) 0 0):=by
   rw [Sp.V,if_pos (allD_iff.2 fun x hx k => by rw [hV x hx k];rfl)]
   unfold Sp.sumE
   congr 1
   exact sumP_congr _ _ _ fun x hx k => by rw [hV x hx k];exact ⟨rfl,rfl⟩
  have hr:=V_rng _ _ _ hVn
  obtain ⟨i1,i2⟩:=intM_put (n:=n) (x:=2) m1
  obtain ⟨j1,j2⟩:=intM_put (n:=n) (x:=(Sp.sumP (fun n => mapI n dp) (fun n => mapI n sz) (S n) 0 0).1) m2
  obtain ⟨l1,l2⟩:=intM_put (n:=n) (x:=(Sp.sumP (fun n => mapI n dp) (fun n => mapI n sz) (S n) 0 0).2) m3
  refine ⟨true,mapPut .i64 n (.int .i64 2) st,mapPut .i64 n (.int .i64 (Sp.sumP (fun n => mapI n dp) (fun n => mapI n sz) (S n) 0 0).1) dp,mapPut .i64 n (.int .i64 (Sp.sumP (fun n => mapI n dp) (fun n => mapI n sz) (S n) 0 0).2) sz,?_,⟨⟨i1,j1,l1⟩,fun m => ?_,fun m => ?_,fun m hm => ?_⟩,fun m => ?_,fun _ => ⟨?_,fun m hm _ => ?_,fun m hm => ?_⟩,fun h => by cases h⟩
  ·exact tvMsa _ _ _ _ _ _ _ _ _ _ _ _ rfl ⟨fun h => by omega,fun _ => ⟨m1.1,⟨hb,m2,m3,m4,m5⟩,hs1,m2.1,m3.1,hv,rfl,rfl⟩⟩
  ·rw [j2];split
   ·omega
   ·exact m4 m
  ·rw [l2];split
   ·exact hr.2
   ·exact m5 m
  ·rw [i2] at hm
   rw [j2,l2]
   split at hm
   ·rename_i e;rw [if_pos e,if_pos e,e];exact ⟨_,hVn⟩
   ·rename_i e;rw [if_neg e,if_neg e];exact m6 m hm
  ·rw [i2];split
   ·omega
   ·exact h3 m
  ·rw [i2,if_pos rfl]
  ·rw [i2,if_neg hm]
  ·rw [i2] at hm
   split at hm
   ·omega
   ·rename_i e;exact ⟨hm,e⟩
 | succ c ihc =>
  intro i st dp sz hi hm h3 hg hF hp
  have hx:(S n).getD i default ∈ S n:=getD_mem (by omega)
  have hw:=hb.2 _ hx
  have hstep:∀ {Q:AV × Heap},(tvMsc_at sm st dp sz dn n bf (S n) (S n).length i (Sp.cN ((S n).getD i default).ws) (Sp.cIs ((S n).getD i default).ws) (KeepQ Q.1 Q.2)) -> keepOk 6 Q.1 Q.2 = true -> tvMsa_at sm st dp sz dn n bf (S n) (S n).length i (KeepQ Q.1 Q.2):=fun {Q} h hk => by
   refine tvMsa _ _ _ _ _ _ _ _ _ _ _ _ hk ⟨fun _ => ?_,fun h => by omega⟩
   rw [Int.toNat_natCast]
   exact ⟨by omega,by omega,hw,h⟩
  cases k:Sp.cIs ((S n).getD i default).ws with
  | false =>
   obtain ⟨r,st1,dp1,sz1,q1,q2,q3,q4,q5⟩:=ihc (i + 1) st dp sz (by omega) hm h3 hg hF (fun x hx' kx => by
    rw [List.take_succ_eq_append_getElem (show i < (S n).length by omega)] at hx'
    rcases List.mem_append.1 hx' with hx' | hx'
    ·exact hp x hx' kx
    ·rw [List.mem_singleton] at hx'
     rw [List.getD_eq_getElem?_getD,List.getElem?_eq_getElem (show i < (S n).length by omega)] at k
     rw [hx'] at kx
     simp only [Option.getD_some] at k
     rw [k] at kx;cases kx)
   refine ⟨r,st1,dp1,sz1,hstep (Q:=(_,_)) ?_ rfl,q2,q3,q4,q5⟩
   rw [k]
   exact tvMscF _ _ _ _ _ _ _ _ _ _ _ true [] [] [] _ _ rfl ⟨fun h => (by cases h),by omega,q1⟩
  | true =>
   have hcn:=hs3 n hn _ hx k
   obtain ⟨r,sa,da,za,a1,a2,a3,a4,a5⟩:=ih st dp sz _ hm h3 hcn hF
   cases r with
   | false =>
    refine ⟨false,sa,da,za,hstep (Q:=(_,_)) ?_ rfl,a2,a3,fun h => (by cases h),fun _ => ⟨_,hx,k,a5 rfl⟩⟩
    rw [k]
    exact tvMscT _ _ _ _ _ _ _ _ _ _ _ false sa da za _ _ rfl ⟨fun _ => a1,fun _ => ⟨rfl,rfl⟩,fun h => (h (by simp)).elim⟩
   | true =>
    obtain ⟨b1,b2,b3⟩:=a4 rfl
    have hF':(ns.countP fun m => mapI m sa == 0) <= F:=by
     refine Nat.le_trans (List.countP_mono_left fun m _ h => ?_) hF
     simp only [beq_iff_eq] at h ⊢
     refine Classical.byContradiction fun y => ?_
     rw [b2 m y] at h;exact y h
    obtain ⟨r,st1,dp1,sz1,q1,q2,q3,q4,q5⟩:=ihc (i + 1) sa da za (by omega) a2 a3 (by rw [b2 n (by omega)];exact hg) hF' (fun x hx' kx => by
     rw [List.take_succ_eq_append_getElem (show i < (S n).length by omega)] at hx'
     rcases List.mem_append.1 hx' with hx' | hx'
     ·have:=hp x hx' kx
      rw [b2 _ (by omega)];exact this
     ·rw [List.mem_singleton] at hx'
      rw [List.getD_eq_getElem?_getD,List.getElem?_eq_getElem (show i < (S n).length by omega)] at b1
      rw [hx']
      exact b1)
    refine ⟨r,st1,dp1,sz1,hstep (Q:=(_,_)) ?_ rfl,q2,q3,fun hr => ?_,fun hr => ?_⟩
    ·rw [k]
     exact tvMscT _ _ _ _ _ _ _ _ _ _ _ true sa da za _ _ rfl ⟨fun _ => a1,fun h => (h rfl).elim,fun _ => ⟨by omega,q1⟩⟩
    ·obtain ⟨c1,c2,c3⟩:=q4 hr
     refine ⟨c1,fun m hm h0 => ?_,fun m hm => ?_⟩
     ·have:=b2 m h0
      rw [c2 m hm (by omega),this]
     ·have:=c3 m hm
      exact ⟨b3 m this.1,this.2⟩
    ·obtain ⟨x,d1,d2,d3⟩:=q5 hr
     exact ⟨x,d1,d2,fun k hk => by
      obtain ⟨m,e1,e2⟩:=d3 k hk
      exact ⟨m,b3 m e1,e2⟩⟩
theorem measure_ev {S:Int -> List Bk} {ns:List Int} {sm dn:List AV} (hs:MSub S ns sm):∀ (F:Nat) (st dp sz:List AV) (n:Int),MInv S st dp sz -> (∀ m,mapI m st = 0 \/ mapI m st = 1 \/ mapI m st = 2) -> n ∈ ns -> (ns.countP fun m => mapI m st == 0) <= F ->
  ∃ r st1 dp1 sz1,Ev M1 (.own 84 [.ptr 0 0 0 0,.int .i64 n] (XH sm st dp sz dn)) (.bool r) (XH sm st1 dp1 sz1 dn) /\ MInv S st1 dp1 sz1 /\ (∀ m,mapI m st1 = 0 \/ mapI m st1 = 1 \/ mapI m st1 = 2) /\ MRes S n st st1 r:=by
 intro F
 induction F with
 | zero =>
  intro st dp sz n hm h3 hn hF
  have hst:=hm.1.1
  have h0:mapI n st ≠ 0:=fun h => by
   have:=List.countP_pos_iff (p:=fun m => mapI m st == 0).2 ⟨n,hn,by simp [h]⟩
   omega
  have hvn:=hs.2.2.2 n hn
  rcases h3 n with h | h | h
  ·exact (h0 h).elim
  ·refine ⟨false,st,dp,sz,?_,hm,h3,fun h => (by cases h),fun _ k hk => ⟨n,h,hk⟩⟩
   exact keepcall84 rfl (tvMs _ _ _ _ _ _ true [] _ _ rfl ⟨hst.1,hst.2,fun _ => ⟨rfl,rfl⟩,fun y => (y h).elim⟩)
  ·refine ⟨true,st,dp,sz,?_,hm,h3,fun _ => ⟨h,fun _ _ => rfl,fun _ h => h⟩,fun h => (by cases h)⟩
   exact keepcall84 rfl (tvMs _ _ _ _ _ _ true [] _ _ rfl ⟨hst.1,hst.2,fun y => by omega,fun _ => ⟨fun _ => ⟨rfl,rfl⟩,fun y => (y h).elim⟩⟩)
 | succ F ih =>
  intro st dp sz n hm h3 hn hF
  have hst:=hm.1.1
  obtain ⟨hb,bf,hv⟩:=hs.2.2.2 n hn
  rcases h3 n with h | h | h
  ·obtain ⟨i1,i2⟩:=intM_put (n:=n) (x:=1) hst
   obtain ⟨r,st1,dp1,sz1,q1,q2,q3,q4,q5⟩:=measure_loop (dn:=dn) hs hn hv ih (S n).length 0 (mapPut .i64 n (.int .i64 1) st) dp sz (by omega) ⟨⟨i1,hm.1.2⟩,hm.2.1,hm.2.2.1,fun m hm2 => by
     rw [i2] at hm2
     split at hm2
     ·omega
     ·exact hm.2.2.2 m hm2⟩ (fun m => by
     rw [i2];split
     ·omega
     ·exact h3 m) (by rw [i2,if_pos rfl]) (by
     have:=countP_lt (p:=fun m => mapI m (mapPut .i64 n (.int .i64 1) st) == 0) (q:=fun m => mapI m st == 0) (l:=ns) (fun m _ hm0 => by
      simp only [beq_iff_eq] at hm0 ⊢
      rw [i2] at hm0
      split at hm0
      ·omega
      ·exact hm0) ⟨n,hn,by simp [h],by rw [i2,if_pos rfl];rfl⟩
     omega) (fun x hx => by simp at hx)
   refine ⟨r,st1,dp1,sz1,?_,q2,q3,fun hr => ?_,fun hr k hk => ?_⟩
   ·exact keepcall84 rfl (tvMs _ _ _ _ _ _ bf (S n) _ _ rfl ⟨hst.1,hst.2,fun y => by omega,fun _ => ⟨fun y => by omega,fun _ => ⟨hs.1,hv,q1⟩⟩⟩)
   ·obtain ⟨c1,c2,c3⟩:=q4 hr
    refine ⟨c1,fun m h0 => ?_,fun m h1 => ?_⟩
    ·have hmn:m ≠ n:=fun e => h0 (by rw [e];exact h)
     have:=c2 m hmn (by rw [i2,if_neg hmn];exact h0)
     rw [this,i2,if_neg hmn]
    ·obtain ⟨d1,d2⟩:=c3 m h1
     rw [i2,if_neg d2] at d1;exact d1
   ·obtain ⟨x,d1,d2,d3⟩:=q5 hr
    have hex:∃ j,j < k /\ (Sp.V S (j + 1) n).isSome = true /\ (Sp.V S j n).isSome = false:=by
     clear d3 q1
     induction k with
     | zero => simp [Sp.V] at hk
     | succ k ihk =>
      cases hk0:(Sp.V S k n).isSome with
      | false => exact ⟨k,by omega,hk,hk0⟩
      | true =>
       obtain ⟨j,e1,e2⟩:=ihk hk0
       exact ⟨j,by omega,e2⟩
    obtain ⟨j,e1,e2,e3⟩:=hex
    obtain ⟨m,f1,f2⟩:=d3 j (V_succ.1 e2 x d1 d2)
    have hmn:m ≠ n:=fun e => by rw [e,e3] at f2;cases f2
    rw [i2,if_neg hmn] at f1
    exact ⟨m,f1,V_some f2 (by omega)⟩
  ·refine ⟨false,st,dp,sz,?_,hm,h3,fun h => (by cases h),fun _ k hk => ⟨n,h,hk⟩⟩
   exact keepcall84 rfl (tvMs _ _ _ _ _ _ true [] _ _ rfl ⟨hst.1,hst.2,fun _ => ⟨rfl,rfl⟩,fun y => (y h).elim⟩)
  ·refine ⟨true,st,dp,sz,?_,hm,h3,fun _ => ⟨h,fun _ _ => rfl,fun _ h => h⟩,fun h => (by cases h)⟩
   exact keepcall84 rfl (tvMs _ _ _ _ _ _ true [] _ _ rfl ⟨hst.1,hst.2,fun y => by omega,fun _ => ⟨fun _ => ⟨rfl,rfl⟩,fun y => (y h).elim⟩⟩)
end Go.Av

namespace Go.Av
open Go.Proofs
structure Bl where
 f:Bool
 bl:List Bk
 deriving Inhabited
def Bl.a (x:Bl):AV:=.vec x.f 3 (x.bl.map Bk.a)
end Go.Av

namespace Go.Av
open Go.Proofs
set_option maxRecDepth 100000
def fi49:Fi:=⟨27,[.tmp 4]⟩
def kp49:List (Nat × List Nat):=[(0,[0,1]),(1,[0,1,6]),(2,[0,1]),(3,[0,1]),(4,[0,1,16]),(5,[0]),(6,[4])]
def svGw_at (n:Int) (Q:AV -> Heap -> Prop):Prop:=Wp M1 (.run fi49 (atC (cd Try.f49) []) [(0,.vnil),(1,.int .i64 n)] []) Q
theorem owncall49 {args:List AV} {L:Heap} {Q:AV -> Heap -> Prop} (h:Wp M1 (.run fi49 [.code (cd Try.f49)] (argVars 0 args) L) Q):Wp M1 (.own 49 args L) Q:=
 own_wp Try.f49 fi49 (by kernel_rfl) (by kernel_rfl) (by kernel_rfl) (by kernel_rfl) h
theorem svGw (n:Int)  (Q:AV -> Heap -> Prop) (H :
  ((n < 0) -> False) /\
  (¬(n < 0) -> (-9223372036854775808 <= n - 0 /\ n - 0 <= 9223372036854775807) /\
   ((n - 0 > 0) -> (0 < n - 0) /\
    ((n - 0).toNat * 48 <= 1099511627776) /\
    (0 <= (List.replicate (n - 0).toNat (ag [vb false,AV.vnil,AV.str []])).length) /\
    Q (AV.ref 0 0 0 0) [{ elems:=List.replicate (n - 0).toNat (ag [vb false,AV.vnil,AV.str []]),es:=3,ver:=0,frozen:=false,clean:=true }]) /\
   (¬(n - 0 > 0) -> Q (AV.vnil) []))) :
 svGw_at n Q:=by
 unfold svGw_at
 rcases xm (n < 0) with d2 | d2
 ·have H:=H.1 d2
  exact False.elim H
 ·have H:=H.2 d2
  obtain ⟨k3,H⟩:=H
  have w4:wi (n - 0) = n - 0:=wI64 k3
  have i5:(decide (wi (n - 0) > 0)) = true ↔ (n - 0 > 0):=(by (try rw [w4]);all_goals exact i_dec)
  rcases xm (n - 0 > 0) with d6 | d6
  ·have H:=H.1 d6
   have i7:(decide (0 < wi (n - 0))) = true ↔ (0 < n - 0):=(by (try rw [w4]);all_goals exact i_dec)
   obtain ⟨k8,H⟩:=H
   have i9:(decide ((wi (n - 0)).toNat * 48 <= 1099511627776)) = true ↔ ((n - 0).toNat * 48 <= 1099511627776):=(by (try rw [w4]);all_goals exact i_dec)
   obtain ⟨k10,H⟩:=H
   have i11:(decide (0 <= (List.replicate (wi (n - 0)).toNat (ag [vb false,AV.vnil,AV.str []])).length)) = true ↔ (0 <= (List.replicate (n - 0).toNat (ag [vb false,AV.vnil,AV.str []])).length):=(by (try rw [w4]);all_goals exact i_dec)
   obtain ⟨k12,H⟩:=H
   exact path_ret (G:=given kp49 [] []) 1000 [false,true] (k:=((atC (cd Try.f49) [1,1,1,1])).tail) (env':=[(4,AV.ref 0 0 0 0)]) (L':=[⟨List.replicate (wi (n - 0)).toNat (ag [vb false,AV.vnil,AV.str []]),3,0,false,true⟩]) (asm:=[(decide (n < 0)) == false,(decide (wi (n - 0) > 0)) == true,true,true,true,true,true,decide (0 < wi (n - 0)),decide ((wi (n - 0)).toNat * 48 <= 1099511627776),true,true,true,decide (0 <= (List.replicate (wi (n - 0)).toNat (ag [vb false,AV.vnil,AV.str []])).length)]) (eqs:=[]) (calls:=[]) (AV.ref 0 0 0 0) (by kernel_rfl) (by kernel_rfl) (allB_cons (beq_f (fun h => d2 (i_dec.1 h))) (allB_cons (beq_t (i5.2 d6)) (allB_cons rfl (allB_cons rfl (allB_cons rfl (allB_cons rfl (allB_cons rfl (allB_cons (i7.2 k8) (allB_cons (i9.2 k10) (allB_cons rfl (allB_cons rfl (allB_cons rfl (allB_cons (i11.2 k12) allB_nil))))))))))))) allP_nil allC_nil (by (try rw [w4]);all_goals exact H)
  ·have H:=H.2 d6
   exact path_ret (G:=given kp49 [] []) 1000 [false,false] (k:=((atC (cd Try.f49) [1,1,1,1])).tail) (env':=[(4,AV.vnil)]) (L':=[]) (asm:=[(decide (n < 0)) == false,(decide (wi (n - 0) > 0)) == false]) (eqs:=[]) (calls:=[]) (AV.vnil) (by kernel_rfl) (by kernel_rfl) (allB_cons (beq_f (fun h => d2 (i_dec.1 h))) (allB_cons (beq_f (fun h => d6 (i5.1 h))) allB_nil)) allP_nil allC_nil H
end Go.Av

namespace Go.Av
open Go.Proofs
def Sp.zbk:AV:=.agg [.bool false,.vnil,.str []]
theorem evo49_y (n:Int) (h:0 < n /\ n <= 1000000) (c:n > 0):Ev M1 (.own 49 [.vnil,.int .i64 n] []) (.ref 0 0 0 0) [⟨List.replicate n.toNat Sp.zbk,3,0,false,true⟩]:=by
 refine owncall49 (svGw n _ ⟨fun k => by omega,fun k => ⟨by omega,fun _ => ⟨by omega,by omega,by omega,?_⟩,fun k => by omega⟩⟩)
 rw [Int.sub_zero];exact ⟨rfl,rfl⟩
theorem evo49_n (n:Int) (h:0 <= n) (c:¬n > 0):Ev M1 (.own 49 [.vnil,.int .i64 n] []) .vnil []:=
 owncall49 (svGw n _ ⟨fun k => by omega,fun k => ⟨by omega,fun k => by omega,fun _ => ⟨rfl,rfl⟩⟩⟩)
end Go.Av

namespace Go.Av
open Go.Proofs
set_option maxRecDepth 100000
def fi20:Fi:=⟨36,[.tmp 2]⟩
def kp20:List (Nat × List Nat):=[(0,[0]),(1,[0,3]),(2,[0,3,9,10,11]),(3,[0,3,9,10,11,12]),(4,[0,3,5,9,10,11]),(5,[0,3,9,10,11]),(6,[0,3,9,10,11,20]),(7,[0,3,9,10,11]),(8,[0,3,9,10,11]),(9,[0,6]),(10,[6,25,26,27]),(11,[6,25,26,27,28]),(12,[6,8,25,26,27]),(13,[6,25,26,27]),(14,[6,25,26,27]),(15,[2])]
def svCo_at (fx:Bool) (X:List Bl) (Q:AV -> Heap -> Prop):Prop:=Wp M1 (.run fi20 (atC (cd Try.f20) []) [(0,.vec fx 1 (X.map Bl.a))] []) Q
def svCoa_at (fx:Bool) (X:List Bl) (s n i:Int) (Q:AV -> Heap -> Prop):Prop:=Wp M1 (.run fi20 (atC (cd Try.f20) [1,1,0,1,0,0]) [(0,.vec fx 1 (X.map Bl.a)),(3,.int .i64 s),(9,.vec fx 1 (X.map Bl.a)),(10,.int .i64 n),(11,.int .i64 i)] []) Q
def svCob_at (gs:List AV) (fx g:Bool) (y:Bk) (l:List Bk) (X:List Bl) (n:Int) (Q:AV -> Heap -> Prop):Prop:=Wp M1 (.run fi20 (atC (cd Try.f20) [1,1,1,1,0,1,0,0]) [(6,.ref 0 0 0 0),(25,.vec fx 1 (.vec g 3 ((y :: l).map Bk.a) :: X.map Bl.a)),(26,.int .i64 n),(27,.int .i64 0)] [⟨gs,3,0,false,true⟩]) Q
def svCoc_at (fx:Bool) (X:List Bl) (q:List Bk) (v:Nat) (n i:Int) (Q:AV -> Heap -> Prop):Prop:=Wp M1 (.run fi20 (atC (cd Try.f20) [1,1,1,1,0,1,0,0]) [(6,.row 0 v),(25,.vec fx 1 (X.map Bl.a)),(26,.int .i64 n),(27,.int .i64 i)] [⟨q.map Bk.a,3,v,false,true⟩]) Q
theorem call20 {args:List AV} {d:AV} (h:wc M1 fi20 Try.f20 args d):Ev M1 (.pure 20 args) d []:=pcl _ _ (by kernel_rfl) h
theorem svCo (fx:Bool) (X:List Bl)  (dq:AV) (H :
  svCoa_at (fx) (X) (0) ((↑X.length:Int)) (0) (PureQ dq)) :
 svCo_at fx X (PureQ dq):=by
 unfold svCo_at
 have w1:(List.map Bl.a X).length = X.length:=List.length_map ..
 exact path_wp (G:=given kp20 [] []) 1000 [] ⟨(atC (cd Try.f20) [1,1,0,1,0,0]),[(0,AV.vec fx 1 (List.map Bl.a X)),(3,vi 0),(9,AV.vec fx 1 (List.map Bl.a X)),(10,vi (↑(List.map Bl.a X).length:Int)),(11,vi 0)],[],_,[],_⟩ (by kernel_rfl) b0 q0 c0 (by (try rw [w1]);all_goals exact H)
theorem svCoa (fx:Bool) (X:List Bl) (s n i:Int)  (dq:AV) (H :
  ((i < n) -> (0 <= i) /\
   (i.toNat < X.length) /\
   (-9223372036854775808 <= s + (↑(X.getD i.toNat default).2.length:Int) /\ s + (↑(X.getD i.toNat default).2.length:Int) <= 9223372036854775807) /\
   ((s + (↑(X.getD i.toNat default).2.length:Int) < 0) -> False) /\
   (¬(s + (↑(X.getD i.toNat default).2.length:Int) < 0) -> (-9223372036854775808 <= i + 1 /\ i + 1 <= 9223372036854775807) /\
    svCoa_at (fx) (X) (s + (↑(X.getD i.toNat default).2.length:Int)) (n) (i + 1) (PureQ dq))) /\
  (¬(i < n) -> ((s > 0) -> (0 < s /\ s <= 1000000) /\
    Wp M1 (.run fi20 (atC (cd Try.f20) [1,1,1,1,0,1,0,0]) [(6,AV.ref 0 0 0 0),(25,AV.vec fx 1 (List.map Bl.a X)),(26,vi (↑X.length:Int)),(27,vi 0)] [{ elems:=List.replicate s.toNat Sp.zbk,es:=3,ver:=0,frozen:=false,clean:=true }]) (PureQ dq)) /\
   (¬(s > 0) -> (0 <= s) /\
    Wp M1 (.run fi20 (atC (cd Try.f20) [1,1,1,1,0,1,0,0]) [(6,AV.vnil),(25,AV.vec fx 1 (List.map Bl.a X)),(26,vi (↑X.length:Int)),(27,vi 0)] []) (PureQ dq)))) :
 svCoa_at fx X s n i (PureQ dq):=by
 unfold svCoa_at
 rcases xm (i < n) with d2 | d2
 ·have H:=H.1 d2
  obtain ⟨k4,H⟩:=H
  have w5:(List.map Bl.a X).length = X.length:=List.length_map ..
  have i6:(decide (i.toNat < (List.map Bl.a X).length)) = true ↔ (i.toNat < X.length):=(by (try rw [w5]);all_goals exact i_dec)
  obtain ⟨k7,H⟩:=H
  have w8:(List.map Bk.a (X.getD i.toNat default).2).length = (X.getD i.toNat default).2.length:=List.length_map ..
  obtain ⟨k9,H⟩:=H
  have w10:wi (s + (↑(X.getD i.toNat default).2.length:Int)) = s + (↑(X.getD i.toNat default).2.length:Int):=wI64 k9
  have i11:(decide (wi (s + (↑(List.map Bk.a (X.getD i.toNat default).2).length:Int)) < 0)) = true ↔ (s + (↑(X.getD i.toNat default).2.length:Int) < 0):=(by (try rw [w8]);(try rw [w10]);all_goals exact i_dec)
  refine path_wp (G:=given kp20 [(4,1,.elem (AV.vec (X.getD i.toNat default).1 3 (List.map Bk.a (X.getD i.toNat default).2)))] []) 13 [true] ⟨(atC (cd Try.f20) [1,1,0,1,0,0,1,1,0,0,1,1,1]),[(0,AV.vec fx 1 (List.map Bl.a X)),(3,vi (wi (s + (↑(List.map Bk.a (X.getD i.toNat default).2).length:Int)))),(9,AV.vec fx 1 (List.map Bl.a X)),(10,vi n),(11,vi i),(20,vb (decide (wi (s + (↑(List.map Bk.a (X.getD i.toNat default).2).length:Int)) < 0)))],[],_,[((List.map Bl.a X).get?Internal i.toNat = some (AV.vec (X.getD i.toNat default).1 3 (List.map Bk.a (X.getD i.toNat default).2)))],_⟩ (by kernel_rfl) (bc (beq_t (i_dec.2 d2)) (bc (i_dec.2 k4) (bc (i6.2 k7) b0))) (qc (el_map k7) q0) c0 ?_
  rcases xm (s + (↑(X.getD i.toNat default).2.length:Int) < 0) with d12 | d12
  ·have H:=H.1 d12
   exact False.elim H
  ·have H:=H.2 d12
   obtain ⟨k13,H⟩:=H
   have w14:wi (i + 1) = i + 1:=wI64 k13
   exact path_wp (G:=given kp20 [] []) 1000 [false] ⟨(atC (cd Try.f20) [1,1,0,1,0,0]),[(0,AV.vec fx 1 (List.map Bl.a X)),(3,vi (wi (s + (↑(List.map Bk.a (X.getD i.toNat default).2).length:Int)))),(9,AV.vec fx 1 (List.map Bl.a X)),(10,vi n),(11,vi (wi (i + 1)))],[],_,[],_⟩ (by kernel_rfl) (bc (beq_f (fun h => d12 (i11.1 h))) b0) q0 c0 (by (try rw [w8]);(try rw [w10]);(try rw [w14]);all_goals exact H)
 ·have H:=H.2 d2
  rcases xm (s > 0) with d15 | d15
  ·have H:=H.1 d15
   obtain ⟨k16,H⟩:=H
   have w17:(List.map Bl.a X).length = X.length:=List.length_map ..
   exact path_wp (G:=given kp20 [(9,1,.call (AV.ref 0 0 0 0) (some [⟨List.replicate s.toNat Sp.zbk,3,0,false,true⟩]))] []) 1000 [false] ⟨(atC (cd Try.f20) [1,1,1,1,0,1,0,0]),[(6,AV.ref 0 0 0 0),(25,AV.vec fx 1 (List.map Bl.a X)),(26,vi (↑(List.map Bl.a X).length:Int)),(27,vi 0)],[⟨List.replicate s.toNat Sp.zbk,3,0,false,true⟩],_,[],[⟨true,true,49,[AV.vnil,vi s],[],AV.ref 0 0 0 0,[⟨List.replicate s.toNat Sp.zbk,3,0,false,true⟩]⟩]⟩ (by kernel_rfl) (bc (beq_f (fun h => d2 (i_dec.1 h))) b0) q0 (cc (fun _ => (@evo49_y (s) k16 d15)) c0) (by (try rw [w17]);all_goals exact H)
  ·have H:=H.2 d15
   obtain ⟨k18,H⟩:=H
   have w19:(List.map Bl.a X).length = X.length:=List.length_map ..
   exact path_wp (G:=given kp20 [(9,1,.call (AV.vnil) none)] []) 1000 [false] ⟨(atC (cd Try.f20) [1,1,1,1,0,1,0,0]),[(6,AV.vnil),(25,AV.vec fx 1 (List.map Bl.a X)),(26,vi (↑(List.map Bl.a X).length:Int)),(27,vi 0)],[],_,[],[⟨true,true,49,[AV.vnil,vi s],[],AV.vnil,[]⟩]⟩ (by kernel_rfl) (bc (beq_f (fun h => d2 (i_dec.1 h))) b0) q0 (cc (fun _ => (@evo49_n (s) k18 d15)) c0) (by (try rw [w19]);all_goals exact H)
theorem svCob (gs:List AV) (fx g:Bool) (y:Bk) (l:List Bk) (X:List Bl) (n:Int)  (dq:AV) (H :
  ((0 < n) -> (0 < X.length + 1) /\
   ((0 + (l.length + 1)) * 48 <= 1099511627776) /\
   Wp M1 (.run fi20 (atC (cd Try.f20) [1,1,1,1,0,1,0,0]) [(6,AV.row 0 1),(25,AV.vec fx 1 (AV.vec g 3 (ag [vb y.1,AV.vec y.2 2 (List.map Wo.a y.3),AV.str y.4] :: List.map Bk.a l) :: List.map Bl.a X)),(26,vi n),(27,vi 1)] [{ elems:=ag [vb y.1,AV.vec y.2 2 (List.map Wo.a y.3),AV.str y.4] :: List.map Bk.a l,es:=3,ver:=1,frozen:=false,clean:=true }]) (PureQ dq)) /\
  (¬(0 < n) -> Weak (AV.vec false 3 []) dq)) :
 svCob_at gs fx g y l X n (PureQ dq):=by
 unfold svCob_at
 rcases xm (0 < n) with d2 | d2
 ·have H:=H.1 d2
  have w3:(List.map Bl.a X).length = X.length:=List.length_map ..
  have i4:(decide (0 < (List.map Bl.a X).length + 1)) = true ↔ (0 < X.length + 1):=(by (try rw [w3]);all_goals exact i_dec)
  obtain ⟨k5,H⟩:=H
  have w6:(List.map Bk.a l).length = l.length:=List.length_map ..
  have i7:(decide ((0 + ((List.map Bk.a l).length + 1)) * 48 <= 1099511627776)) = true ↔ ((0 + (l.length + 1)) * 48 <= 1099511627776):=(by (try rw [w6]);all_goals exact i_dec)
  obtain ⟨k8,H⟩:=H
  exact path_wp (G:=given kp20 [] []) 1000 [true] ⟨(atC (cd Try.f20) [1,1,1,1,0,1,0,0]),[(6,AV.row 0 1),(25,AV.vec fx 1 (AV.vec g 3 (ag [vb y.1,AV.vec y.2 2 (List.map Wo.a y.3),AV.str y.4] :: List.map Bk.a l) :: List.map Bl.a X)),(26,vi n),(27,vi 1)],[⟨ag [vb y.1,AV.vec y.2 2 (List.map Wo.a y.3),AV.str y.4] :: List.map Bk.a l,3,1,false,true⟩],_,[],_⟩ (by kernel_rfl) (bc (beq_t (i_dec.2 d2)) (bc rfl (bc (i4.2 k5) (bc rfl (bc (i7.2 k8) b0))))) q0 c0 (H)
 ·have H:=H.2 d2
  exact path_ret (G:=given kp20 [] []) 1000 [false] (k:=((atC (cd Try.f20) [1,1,1,1,1,1])).tail) (env':=[(2,AV.ref 0 0 0 0)]) (L':=[⟨gs,3,0,false,true⟩]) (asm:=[(decide (0 < n)) == false]) (eqs:=[]) (calls:=[]) (AV.ref 0 0 0 0) (by kernel_rfl) (by kernel_rfl) (allB_cons (beq_f (fun h => d2 (i_dec.1 h))) allB_nil) allP_nil allC_nil (pq_weak (d:=(AV.vec false 3 [])) (bs:=[0 == 0]) (by kernel_rfl) (by kernel_rfl) (allB_cons (beq_self_eq_true _) allB_nil) (by kernel_rfl) H)
theorem svCoc (fx:Bool) (X:List Bl) (q:List Bk) (v:Nat) (n i:Int)  (dq:AV) (H :
  ((i < n) -> (0 <= i) /\
   (i.toNat < X.length) /\
   ((q.length + (X.getD i.toNat default).2.length) * 48 <= 1099511627776) /\
   (-9223372036854775808 <= i + 1 /\ i + 1 <= 9223372036854775807) /\
   svCoc_at (fx) (X) (q ++ (X.getD i.toNat default).2) (v + 1) (n) (i + 1) (PureQ dq)) /\
  (¬(i < n) -> Weak (AV.vec false 3 (List.map Bk.a q)) dq)) :
 svCoc_at fx X q v n i (PureQ dq):=by
 unfold svCoc_at
 rcases xm (i < n) with d2 | d2
 ·have H:=H.1 d2
  obtain ⟨k4,H⟩:=H
  have w5:(List.map Bl.a X).length = X.length:=List.length_map ..
  have i6:(decide (i.toNat < (List.map Bl.a X).length)) = true ↔ (i.toNat < X.length):=(by (try rw [w5]);all_goals exact i_dec)
  obtain ⟨k7,H⟩:=H
  have w8:(List.map Bk.a q).length = q.length:=List.length_map ..
  have w9:(List.map Bk.a (X.getD i.toNat default).2).length = (X.getD i.toNat default).2.length:=List.length_map ..
  have i10:(decide (((List.map Bk.a q).length + (List.map Bk.a (X.getD i.toNat default).2).length) * 48 <= 1099511627776)) = true ↔ ((q.length + (X.getD i.toNat default).2.length) * 48 <= 1099511627776):=(by (try rw [w8]);(try rw [w9]);all_goals exact i_dec)
  obtain ⟨k11,H⟩:=H
  have w12:List.map Bk.a q ++ List.map Bk.a (X.getD i.toNat default).2 = List.map Bk.a (q ++ (X.getD i.toNat default).2):=(lm_app rfl rfl)
  obtain ⟨k13,H⟩:=H
  have w14:wi (i + 1) = i + 1:=wI64 k13
  exact path_wp (G:=given kp20 [(12,1,.elem (AV.vec (X.getD i.toNat default).1 3 (List.map Bk.a (X.getD i.toNat default).2)))] []) 1000 [true] ⟨(atC (cd Try.f20) [1,1,1,1,0,1,0,0]),[(6,AV.row 0 (v + 1)),(25,AV.vec fx 1 (List.map Bl.a X)),(26,vi n),(27,vi (wi (i + 1)))],[⟨List.map Bk.a q ++ List.map Bk.a (X.getD i.toNat default).2,3,v + 1,false,true⟩],[(decide (i < n)) == true,decide (0 <= i),decide (i.toNat < (List.map Bl.a X).length),v == v,decide (((List.map Bk.a q).length + (List.map Bk.a (X.getD i.toNat default).2).length) * 48 <= 1099511627776)],[((List.map Bl.a X).get?Internal i.toNat = some (AV.vec (X.getD i.toNat default).1 3 (List.map Bk.a (X.getD i.toNat default).2)))],_⟩ (by kernel_rfl) (bc (beq_t (i_dec.2 d2)) (bc (i_dec.2 k4) (bc (i6.2 k7) (bc (beq_self_eq_true _) (bc (i10.2 k11) b0))))) (qc (el_map k7) q0) c0 (by (try rw [w12]);(try rw [w14]);all_goals exact H)
 ·have H:=H.2 d2
  exact path_ret (G:=given kp20 [] []) 1000 [false] (k:=((atC (cd Try.f20) [1,1,1,1,1,1])).tail) (env':=[(2,AV.row 0 v)]) (L':=[⟨List.map Bk.a q,3,v,false,true⟩]) (asm:=[(decide (i < n)) == false]) (eqs:=[]) (calls:=[]) (AV.row 0 v) (by kernel_rfl) (by kernel_rfl) (allB_cons (beq_f (fun h => d2 (i_dec.1 h))) allB_nil) allP_nil allC_nil (pq_weak (d:=(AV.vec false 3 (List.map Bk.a q))) (bs:=[v == v]) (by kernel_rfl) (by kernel_rfl) (allB_cons (beq_self_eq_true _) allB_nil) (by kernel_rfl) H)
end Go.Av

namespace Go.Av
open Go.Proofs
def Sp.cat (X:List Bl):List Bk:=X.flatMap fun x => x.bl
def Sp.okCat (X:List Bl):Prop:=0 < (X.getD 0 default).bl.length /\ (Sp.cat X).length <= 1000000 /\ X.length <= 1000000
theorem cat_drop {X:List Bl} {i:Nat} (h:i < X.length):Sp.cat (X.drop i) = (X.getD i default).bl ++ Sp.cat (X.drop (i + 1)):=by
 rw [drop_getD h];rfl
theorem svCoc_loop {fx:Bool} {X:List Bl} {dq:AV} (h:Sp.okCat X) (hq:.vec false 3 ((Sp.cat X).map Bk.a) = dq):∀ (c i:Nat) (q:List Bk) (v:Nat),i + c = X.length -> q ++ Sp.cat (X.drop i) = Sp.cat X -> svCoc_at fx X q v X.length i (PureQ dq):=by
 obtain ⟨h1,h2,h3⟩:=h
 intro c
 induction c with
 | zero =>
  intro i q v hi he
  rw [List.drop_eq_nil_of_le (by omega)] at he
  rw [<- he,show Sp.cat [] = [] from rfl,List.append_nil] at hq
  exact svCoc _ _ _ _ _ _ _ ⟨fun h => by omega,fun _ => by rw [hq];exact .refl _⟩
 | succ c ih =>
  intro i q v hi he
  rw [cat_drop (by omega),<- List.append_assoc] at he
  refine svCoc _ _ _ _ _ _ _ ⟨fun _ => ?_,fun h => by omega⟩
  rw [Int.toNat_natCast]
  have hl:=congrArg List.length he
  rw [List.length_append,List.length_append] at hl
  refine ⟨by omega,by omega,?_,by omega,ih (i + 1) _ _ (by omega) he⟩
  show (q.length + (X.getD i default).bl.length) * 48 <= _
  omega
theorem ev20 (fx:Bool) (X:List Bl) (h:Sp.okCat X):Ev M1 (.pure 20 [.vec fx 1 (X.map Bl.a)]) (.vec false 3 ((Sp.cat X).map Bk.a)) []:=by
 have h':=h
 obtain ⟨h1,h2,h3⟩:=h'
 have loop:∀ (c i:Nat) (s:Int),i + c = X.length -> 0 <= s -> s + (Sp.cat (X.drop i)).length = (Sp.cat X).length -> svCoa_at fx X s X.length i (PureQ (.vec false 3 ((Sp.cat X).map Bk.a))):=by
  intro c
  induction c with
  | zero =>
   intro i s hi h0 he
   rw [List.drop_eq_nil_of_le (by omega),show Sp.cat [] = [] from rfl] at he
   have hs:0 < (Sp.cat X).length:=by
    have:=cat_drop (X:=X) (i:=0) (by cases X with | nil => simp at h1;exact (Nat.lt_irrefl 0 h1).elim | cons _ _ => simp)
    rw [List.drop_zero] at this
    rw [this,List.length_append];omega
   simp only [List.length_nil] at he
   refine svCoa _ _ _ _ _ _ ⟨fun h => by omega,fun _ => ⟨fun _ => ⟨by omega,?_⟩,fun h => by omega⟩⟩
   cases X with
   | nil => simp [Sp.cat] at hs
   | cons x X =>
    obtain ⟨g,bl⟩:=x
    cases bl with
    | nil => simp at h1
    | cons y l =>
     refine (svCob _ fx g y l X (X.length + 1:Nat) _ ⟨fun _ => ⟨by omega,?_,?_⟩,fun k => by omega⟩:svCob_at _ fx g y l X (X.length + 1:Nat) _)
     ·simp [Sp.cat] at h2;omega
     ·exact svCoc_loop (X:=⟨g,y :: l⟩ :: X) h rfl X.length 1 (y :: l) 1 (by simp;omega) (by simp [Sp.cat])
  | succ c ih =>
   intro i s hi h0 he
   rw [cat_drop (by omega),List.length_append] at he
   refine svCoa _ _ _ _ _ _ ⟨fun _ => ?_,fun h => by omega⟩
   rw [Int.toNat_natCast]
   show _ /\ _ /\ (-9223372036854775808 <= s + ((X.getD i default).bl.length:Int) /\ s + ((X.getD i default).bl.length:Int) <= 9223372036854775807) /\ ((s + ((X.getD i default).bl.length:Int) < 0) -> False) /\ (¬(s + ((X.getD i default).bl.length:Int) < 0) -> (-9223372036854775808 <= (i:Int) + 1 /\ (i:Int) + 1 <= 9223372036854775807) /\ svCoa_at fx X (s + ((X.getD i default).bl.length:Int)) X.length (i + 1) _)
   refine ⟨by omega,by omega,by omega,fun h => by omega,fun _ => ⟨by omega,ih (i + 1) _ (by omega) (by omega) (by omega)⟩⟩
 exact call20 (svCo _ _ _ (loop X.length 0 0 (by omega) (by omega) (by rw [List.drop_zero];omega)))
end Go.Av

namespace Go.Av
open Go.Proofs
set_option maxRecDepth 100000
def fi71:Fi:=⟨110,[.tmp 2,.tmp 3]⟩
def kp71:List (Nat × List Nat):=[(0,[1]),(1,[1,23]),(2,[2,3]),(3,[1,4]),(4,[1,4,5]),(5,[1,4,5,35,36,37]),(6,[1,4,5,35,36,37,38]),(7,[1,4,5,7,35,36,37]),(8,[1,4,5,7,35,36,37]),(9,[1,4,5,35,36,37]),(10,[1,4,5,35,36,37]),(11,[1,4,5,8]),(12,[1,4,8,56,57,58]),(13,[1,4,8,56,57,58,59]),(14,[1,4,8,10,56,57,58]),(15,[1,4,8,11,13,14,56,57,58]),(16,[1,4,8,11,13,14,56,57,58,70]),(17,[2,3]),(18,[1,4,8,11,56,57,58,72]),(19,[1,4,8,56,57,58]),(20,[1,4,8,56,57,58]),(21,[1,4,78,79,80]),(22,[1,4,78,79,80,81]),(23,[1,4,16,78,79,80]),(24,[1,4,18,78,79,80]),(25,[1,4,78,79,80,94]),(26,[2,3]),(27,[1,4,78,79,80]),(28,[4,97,98,99]),(29,[4,97,98,99,100]),(30,[4,20,97,98,99]),(31,[4,97,98,99,107]),(32,[2,3]),(33,[4,97,98,99]),(34,[2,3])]
def tvNx_at (g:Bool) (l:List Bk) (h:Bool) (s:List Sb) (Q:AV -> Heap -> Prop):Prop:=Wp M1 (.run fi71 (atC (cd Try.f71) []) [(0,.agg [.vec g 3 (l.map Bk.a),.vec h 2 (s.map Sb.a)])] []) Q
def tvNa_at (g:Bool) (l:List Bk) (h:Bool) (s:List Sb) (sm:List AV) (n i:Int) (Q:AV -> Heap -> Prop):Prop:=Wp M1 (.run fi71 (atC (cd Try.f71) [1,1,1,1,0,1,0,0]) [(1,.ptr 0 0 0 0),(4,.ptr 6 0 0 0),(5,.vec true 1 [.vec g 3 (l.map Bk.a)]),(35,.vec h 2 (s.map Sb.a)),(36,.int .i64 n),(37,.int .i64 i)] [⟨[.agg [.vec g 3 (l.map Bk.a),.vec h 2 (s.map Sb.a)]],2,0,false,false⟩,⟨sm,2,0,false,true⟩,⟨[],2,0,false,true⟩,⟨[],2,0,false,true⟩,⟨[],2,0,false,true⟩,⟨[],2,0,false,true⟩,⟨[.agg [.mapr 1,.mapr 2,.mapr 3,.mapr 4,.mapr 5]],5,0,false,false⟩]) Q
def tvNb_at (g:Bool) (l:List Bk) (h:Bool) (s:List Sb) (sm:List AV) (X:List Bl) (v:Nat) (n i:Int) (Q:AV -> Heap -> Prop):Prop:=Wp M1 (.run fi71 (atC (cd Try.f71) [1,1,1,1,0,1,0,0]) [(1,.ptr 0 0 0 0),(4,.ptr 6 0 0 0),(5,.row 7 v),(35,.vec h 2 (s.map Sb.a)),(36,.int .i64 n),(37,.int .i64 i)] [⟨[.agg [.vec g 3 (l.map Bk.a),.vec h 2 (s.map Sb.a)]],2,0,false,false⟩,⟨sm,2,0,false,true⟩,⟨[],2,0,false,true⟩,⟨[],2,0,false,true⟩,⟨[],2,0,false,true⟩,⟨[],2,0,false,true⟩,⟨[.agg [.mapr 1,.mapr 2,.mapr 3,.mapr 4,.mapr 5]],5,0,false,false⟩,⟨X.map Bl.a,1,v,false,true⟩]) Q
def tvNc_at (g:Bool) (l:List Bk) (h:Bool) (s:List Sb) (sm:List AV) (o:List Bk) (n i:Int) (Q:AV -> Heap -> Prop):Prop:=Wp M1 (.run fi71 (atC (cd Try.f71) [1,1,1,1,1,1,0,1,0,0]) [(1,.ptr 0 0 0 0),(4,.ptr 6 0 0 0),(8,.vnil),(56,.vec false 3 (o.map Bk.a)),(57,.int .i64 n),(58,.int .i64 i)] [⟨[.agg [.vec g 3 (l.map Bk.a),.vec h 2 (s.map Sb.a)]],2,0,false,false⟩,⟨sm,2,0,false,true⟩,⟨[],2,0,false,true⟩,⟨[],2,0,false,true⟩,⟨[],2,0,false,true⟩,⟨[],2,0,false,true⟩,⟨[.agg [.mapr 1,.mapr 2,.mapr 3,.mapr 4,.mapr 5]],5,0,false,false⟩]) Q
def tvNd_at (g:Bool) (l:List Bk) (h:Bool) (s:List Sb) (sm:List AV) (o:List Bk) (q:List Int) (v:Nat) (n i:Int) (Q:AV -> Heap -> Prop):Prop:=Wp M1 (.run fi71 (atC (cd Try.f71) [1,1,1,1,1,1,0,1,0,0]) [(1,.ptr 0 0 0 0),(4,.ptr 6 0 0 0),(8,.row 7 v),(56,.vec false 3 (o.map Bk.a)),(57,.int .i64 n),(58,.int .i64 i)] [⟨[.agg [.vec g 3 (l.map Bk.a),.vec h 2 (s.map Sb.a)]],2,0,false,false⟩,⟨sm,2,0,false,true⟩,⟨[],2,0,false,true⟩,⟨[],2,0,false,true⟩,⟨[],2,0,false,true⟩,⟨[],2,0,false,true⟩,⟨[.agg [.mapr 1,.mapr 2,.mapr 3,.mapr 4,.mapr 5]],5,0,false,false⟩,⟨q.map (.int .i64),1,v,false,true⟩]) Q
def tvNe_at (g:Bool) (l:List Bk) (h:Bool) (s:List Sb) (sm:List AV) (Q:AV -> Heap -> Prop):Prop:=Wp M1 (.run fi71 (atC (cd Try.f71) [1,1,1,1,1,1,1,0,1,0,0]) [(1,.ptr 0 0 0 0),(4,.ptr 6 0 0 0),(78,.vnil),(79,.int .i64 0),(80,.int .i64 0)] [⟨[.agg [.vec g 3 (l.map Bk.a),.vec h 2 (s.map Sb.a)]],2,0,false,false⟩,⟨sm,2,0,false,true⟩,⟨[],2,0,false,true⟩,⟨[],2,0,false,true⟩,⟨[],2,0,false,true⟩,⟨[],2,0,false,true⟩,⟨[.agg [.mapr 1,.mapr 2,.mapr 3,.mapr 4,.mapr 5]],5,0,false,false⟩]) Q
def tvNf_at (g:Bool) (l:List Bk) (h:Bool) (s:List Sb) (sm:List AV) (q:List Int) (v:Nat) (n i:Int) (Q:AV -> Heap -> Prop):Prop:=Wp M1 (.run fi71 (atC (cd Try.f71) [1,1,1,1,1,1,1,0,1,0,0]) [(1,.ptr 0 0 0 0),(4,.ptr 6 0 0 0),(78,.row 7 v),(79,.int .i64 n),(80,.int .i64 i)] [⟨[.agg [.vec g 3 (l.map Bk.a),.vec h 2 (s.map Sb.a)]],2,0,false,false⟩,⟨sm,2,0,false,true⟩,⟨[],2,0,false,true⟩,⟨[],2,0,false,true⟩,⟨[],2,0,false,true⟩,⟨[],2,0,false,true⟩,⟨[.agg [.mapr 1,.mapr 2,.mapr 3,.mapr 4,.mapr 5]],5,0,false,false⟩,⟨q.map (.int .i64),1,v,false,true⟩]) Q
def tvNg_at (h:Bool) (s:List Sb) (sm st dp sz:List AV) (n i:Int) (Q:AV -> Heap -> Prop):Prop:=Wp M1 (.run fi71 (atC (cd Try.f71) [1,1,1,1,1,1,1,1,0,1,0,0]) [(4,.ptr 5 0 0 0),(97,.vec h 2 (s.map Sb.a)),(98,.int .i64 n),(99,.int .i64 i)] [⟨sm,2,0,false,true⟩,⟨st,2,0,false,true⟩,⟨dp,2,0,false,true⟩,⟨sz,2,0,false,true⟩,⟨[],2,0,false,true⟩,⟨[.agg [.mapr 0,.mapr 1,.mapr 2,.mapr 3,.mapr 4]],5,0,false,false⟩]) Q
theorem owncall71 {args:List AV} {L:Heap} {Q:AV -> Heap -> Prop} (h:Wp M1 (.run fi71 [.code (cd Try.f71)] (argVars 0 args) L) Q):Wp M1 (.own 71 args L) Q:=
 own_wp Try.f71 fi71 (by kernel_rfl) (by kernel_rfl) (by kernel_rfl) (by kernel_rfl) h
theorem tvNx (g:Bool) (l:List Bk) (h:Bool) (s:List Sb)  (Q:AV -> Heap -> Prop) (H :
  (Sp.okBs l /\ Sp.okSs s) /\
  ((¬(Sp.prpB l s = true)) -> Q (tu [AV.nilp,vi 1]) [{ elems:=[ag [AV.vec g 3 (List.map Bk.a l),AV.vec h 2 (List.map Sb.a s)]],es:=2,ver:=0,frozen:=false,clean:=false }]) /\
  (¬(¬(Sp.prpB l s = true)) -> tvNa_at (g) (l) (h) (s) ([]) ((↑s.length:Int)) (0) Q)) :
 tvNx_at g l h s Q:=by
 unfold tvNx_at
 obtain ⟨k1,H⟩:=H
 refine path_wp (G:=given kp71 [(1,1,.call (vb (Sp.prpB l s)) none)] []) 5 [] ⟨(atC (cd Try.f71) [1,0,1]),[(1,AV.ptr 0 0 0 0),(23,vb !Sp.prpB l s)],[⟨[ag [AV.vec g 3 (List.map Bk.a l),AV.vec h 2 (List.map Sb.a s)]],2,0,false,false⟩],_,[],_⟩ (by kernel_rfl) (bc rfl b0) q0 (ce (@ev83 (g) (h) (l) (s) k1) c0) ?_
 rcases xm (¬(Sp.prpB l s = true)) with d3 | d3
 ·have H:=H.1 d3
  exact path_ret (G:=given kp71 [] []) 1000 [true] (k:=((atC (cd Try.f71) [1,0,1,0,1])).tail) (env':=[(2,AV.nilp),(3,vi 1)]) (L':=[⟨[ag [AV.vec g 3 (List.map Bk.a l),AV.vec h 2 (List.map Sb.a s)]],2,0,false,false⟩]) (asm:=[(!Sp.prpB l s) == true]) (eqs:=[]) (calls:=[]) (tu [AV.nilp,vi 1]) (by kernel_rfl) (by kernel_rfl) (allB_cons (beq_t ((i_not (i_var _)).2 d3)) allB_nil) allP_nil allC_nil H
 ·have H:=H.2 d3
  have w4:(List.map Sb.a s).length = s.length:=List.length_map ..
  exact path_wp (G:=given kp71 [] []) 1000 [false] ⟨(atC (cd Try.f71) [1,1,1,1,0,1,0,0]),[(1,AV.ptr 0 0 0 0),(4,AV.ptr 6 0 0 0),(5,AV.vec true 1 [AV.vec g 3 (List.map Bk.a l)]),(35,AV.vec h 2 (List.map Sb.a s)),(36,vi (↑(List.map Sb.a s).length:Int)),(37,vi 0)],[⟨[ag [AV.vec g 3 (List.map Bk.a l),AV.vec h 2 (List.map Sb.a s)]],2,0,false,false⟩,⟨[],2,0,false,true⟩,⟨[],2,0,false,true⟩,⟨[],2,0,false,true⟩,⟨[],2,0,false,true⟩,⟨[],2,0,false,true⟩,⟨[ag [AV.mapr 1,AV.mapr 2,AV.mapr 3,AV.mapr 4,AV.mapr 5]],5,0,false,false⟩],[(!Sp.prpB l s) == false,true,true],[],_⟩ (by kernel_rfl) (bc (beq_f (fun h => d3 ((i_not (i_var _)).1 h))) (bc rfl (bc rfl b0))) q0 c0 (by (try rw [w4]);all_goals exact H)
theorem tvNa (g:Bool) (l:List Bk) (h:Bool) (s:List Sb) (sm:List AV) (n i:Int)  (Q:AV -> Heap -> Prop) (H :
  ((i < n) -> (0 <= i) /\
   (i.toNat < s.length) /\
   (mapKeys IntKind.i64 sm = true) /\
   (-9223372036854775808 <= i + 1 /\ i + 1 <= 9223372036854775807) /\
   Wp M1 (.run fi71 (atC (cd Try.f71) [1,1,1,1,0,1,0,0]) [(1,AV.ptr 0 0 0 0),(4,AV.ptr 6 0 0 0),(5,AV.row 8 0),(35,AV.vec h 2 (List.map Sb.a s)),(36,vi n),(37,vi (i + 1))] [{ elems:=[ag [AV.vec g 3 (List.map Bk.a l),AV.vec h 2 (List.map Sb.a s)]],es:=2,ver:=0,frozen:=false,clean:=false },{ elems:=mapPut IntKind.i64 (s.getD i.toNat default).n (AV.vec (s.getD i.toNat default).2 3 (List.map Bk.a (s.getD i.toNat default).3)) sm,es:=2,ver:=0,frozen:=false,clean:=true },{ elems:=[],es:=2,ver:=0,frozen:=false,clean:=true },{ elems:=[],es:=2,ver:=0,frozen:=false,clean:=true },{ elems:=[],es:=2,ver:=0,frozen:=false,clean:=true },{ elems:=[],es:=2,ver:=0,frozen:=false,clean:=true },{ elems:=[ag [AV.mapr 1,AV.mapr 2,AV.mapr 3,AV.mapr 4,AV.mapr 5]],es:=5,ver:=0,frozen:=false,clean:=false },{ elems:=[ag [vi (s.getD i.toNat default).n,AV.vec (s.getD i.toNat default).2 3 (List.map Bk.a (s.getD i.toNat default).3)]],es:=2,ver:=0,frozen:=false,clean:=false },{ elems:=[AV.vec g 3 (List.map Bk.a l),AV.vec (s.getD i.toNat default).2 3 (List.map Bk.a (s.getD i.toNat default).3)],es:=1,ver:=0,frozen:=false,clean:=true }]) Q) /\
  (¬(i < n) -> ∃ (x1:Bl),
   (Ev M1 (Conf.pure 20 [AV.vec true 1 [AV.vec g 3 (List.map Bk.a l)]]) (AV.vec x1.1 3 (List.map Bk.a x1.2)) []) /\
   Wp M1 (.run fi71 (atC (cd Try.f71) [1,1,1,1,1,1,0,1,0,0]) [(1,AV.ptr 0 0 0 0),(4,AV.ptr 6 0 0 0),(8,AV.vnil),(56,AV.vec x1.1 3 (List.map Bk.a x1.2)),(57,vi (↑x1.2.length:Int)),(58,vi 0)] [{ elems:=[ag [AV.vec g 3 (List.map Bk.a l),AV.vec h 2 (List.map Sb.a s)]],es:=2,ver:=0,frozen:=false,clean:=false },{ elems:=sm,es:=2,ver:=0,frozen:=false,clean:=true },{ elems:=[],es:=2,ver:=0,frozen:=false,clean:=true },{ elems:=[],es:=2,ver:=0,frozen:=false,clean:=true },{ elems:=[],es:=2,ver:=0,frozen:=false,clean:=true },{ elems:=[],es:=2,ver:=0,frozen:=false,clean:=true },{ elems:=[ag [AV.mapr 1,AV.mapr 2,AV.mapr 3,AV.mapr 4,AV.mapr 5]],es:=5,ver:=0,frozen:=false,clean:=false }]) Q)) :
 tvNa_at g l h s sm n i Q:=by
 unfold tvNa_at
 rcases xm (i < n) with d2 | d2
 ·have H:=H.1 d2
  obtain ⟨k4,H⟩:=H
  have w5:(List.map Sb.a s).length = s.length:=List.length_map ..
  have i6:(decide (i.toNat < (List.map Sb.a s).length)) = true ↔ (i.toNat < s.length):=(by (try rw [w5]);all_goals exact i_dec)
  obtain ⟨k7,H⟩:=H
  obtain ⟨k9,H⟩:=H
  obtain ⟨k10,H⟩:=H
  have w11:wi (i + 1) = i + 1:=wI64 k10
  exact path_wp (G:=given kp71 [(7,1,.elem (ag [vi (s.getD i.toNat default).n,AV.vec (s.getD i.toNat default).2 3 (List.map Bk.a (s.getD i.toNat default).3)]))] []) 1000 [true] ⟨(atC (cd Try.f71) [1,1,1,1,0,1,0,0]),[(1,AV.ptr 0 0 0 0),(4,AV.ptr 6 0 0 0),(5,AV.row 8 0),(35,AV.vec h 2 (List.map Sb.a s)),(36,vi n),(37,vi (wi (i + 1)))],[⟨[ag [AV.vec g 3 (List.map Bk.a l),AV.vec h 2 (List.map Sb.a s)]],2,0,false,false⟩,⟨mapPut IntKind.i64 (s.getD i.toNat default).n (AV.vec (s.getD i.toNat default).2 3 (List.map Bk.a (s.getD i.toNat default).3)) sm,2,0,false,true⟩,⟨[],2,0,false,true⟩,⟨[],2,0,false,true⟩,⟨[],2,0,false,true⟩,⟨[],2,0,false,true⟩,⟨[ag [AV.mapr 1,AV.mapr 2,AV.mapr 3,AV.mapr 4,AV.mapr 5]],5,0,false,false⟩,⟨[ag [vi (s.getD i.toNat default).n,AV.vec (s.getD i.toNat default).2 3 (List.map Bk.a (s.getD i.toNat default).3)]],2,0,false,false⟩,⟨[AV.vec g 3 (List.map Bk.a l),AV.vec (s.getD i.toNat default).2 3 (List.map Bk.a (s.getD i.toNat default).3)],1,0,false,true⟩],[(decide (i < n)) == true,decide (0 <= i),decide (i.toNat < (List.map Sb.a s).length),true,true,true,true,mapKeys IntKind.i64 sm,true,true],[((List.map Sb.a s).get?Internal i.toNat = some (ag [vi (s.getD i.toNat default).n,AV.vec (s.getD i.toNat default).2 3 (List.map Bk.a (s.getD i.toNat default).3)]))],_⟩ (by kernel_rfl) (bc (beq_t (i_dec.2 d2)) (bc (i_dec.2 k4) (bc (i6.2 k7) (bc rfl (bc rfl (bc rfl (bc rfl (bc ((i_var _).2 k9) (bc rfl (bc rfl b0)))))))))) (qc (el_map k7) q0) c0 (by (try rw [w11]);all_goals exact H)
 ·have H:=H.2 d2
  obtain ⟨x1,H⟩:=H
  obtain ⟨k12,H⟩:=H
  have w13:(List.map Bk.a x1.2).length = x1.2.length:=List.length_map ..
  exact path_wp (G:=given kp71 [(12,1,.call (AV.vec x1.1 3 (List.map Bk.a x1.2)) none)] []) 1000 [false] ⟨(atC (cd Try.f71) [1,1,1,1,1,1,0,1,0,0]),[(1,AV.ptr 0 0 0 0),(4,AV.ptr 6 0 0 0),(8,AV.vnil),(56,AV.vec x1.1 3 (List.map Bk.a x1.2)),(57,vi (↑(List.map Bk.a x1.2).length:Int)),(58,vi 0)],[⟨[ag [AV.vec g 3 (List.map Bk.a l),AV.vec h 2 (List.map Sb.a s)]],2,0,false,false⟩,⟨sm,2,0,false,true⟩,⟨[],2,0,false,true⟩,⟨[],2,0,false,true⟩,⟨[],2,0,false,true⟩,⟨[],2,0,false,true⟩,⟨[ag [AV.mapr 1,AV.mapr 2,AV.mapr 3,AV.mapr 4,AV.mapr 5]],5,0,false,false⟩],_,[],_⟩ (by kernel_rfl) (bc (beq_f (fun h => d2 (i_dec.1 h))) b0) q0 (ce k12 c0) (by (try rw [w13]);all_goals exact H)
theorem tvNb (g:Bool) (l:List Bk) (h:Bool) (s:List Sb) (sm:List AV) (X:List Bl) (v:Nat) (n i:Int)  (Q:AV -> Heap -> Prop) (H :
  ((i < n) -> (0 <= i) /\
   (i.toNat < s.length) /\
   (mapKeys IntKind.i64 sm = true) /\
   ((X.length + 1) * 24 <= 1099511627776) /\
   (-9223372036854775808 <= i + 1 /\ i + 1 <= 9223372036854775807) /\
   Wp M1 (.run fi71 (atC (cd Try.f71) [1,1,1,1,0,1,0,0]) [(1,AV.ptr 0 0 0 0),(4,AV.ptr 6 0 0 0),(5,AV.row 7 (v + 1)),(35,AV.vec h 2 (List.map Sb.a s)),(36,vi n),(37,vi (i + 1))] [{ elems:=[ag [AV.vec g 3 (List.map Bk.a l),AV.vec h 2 (List.map Sb.a s)]],es:=2,ver:=0,frozen:=false,clean:=false },{ elems:=mapPut IntKind.i64 (s.getD i.toNat default).n (AV.vec (s.getD i.toNat default).2 3 (List.map Bk.a (s.getD i.toNat default).3)) sm,es:=2,ver:=0,frozen:=false,clean:=true },{ elems:=[],es:=2,ver:=0,frozen:=false,clean:=true },{ elems:=[],es:=2,ver:=0,frozen:=false,clean:=true },{ elems:=[],es:=2,ver:=0,frozen:=false,clean:=true },{ elems:=[],es:=2,ver:=0,frozen:=false,clean:=true },{ elems:=[ag [AV.mapr 1,AV.mapr 2,AV.mapr 3,AV.mapr 4,AV.mapr 5]],es:=5,ver:=0,frozen:=false,clean:=false },{ elems:=List.map Bl.a (X ++ [{ f:=(s.getD i.toNat default).2,bl:=(s.getD i.toNat default).3 }]),es:=1,ver:=v + 1,frozen:=false,clean:=true },{ elems:=[ag [vi (s.getD i.toNat default).n,AV.vec (s.getD i.toNat default).2 3 (List.map Bk.a (s.getD i.toNat default).3)]],es:=2,ver:=0,frozen:=false,clean:=false }]) Q) /\
  (¬(i < n) -> (Sp.okCat X) /\
   Wp M1 (.run fi71 (atC (cd Try.f71) [1,1,1,1,1,1,0,1,0,0]) [(1,AV.ptr 0 0 0 0),(4,AV.ptr 6 0 0 0),(8,AV.vnil),(56,AV.vec false 3 (List.map Bk.a (Sp.cat X))),(57,vi (↑(Sp.cat X).length:Int)),(58,vi 0)] [{ elems:=[ag [AV.vec g 3 (List.map Bk.a l),AV.vec h 2 (List.map Sb.a s)]],es:=2,ver:=0,frozen:=false,clean:=false },{ elems:=sm,es:=2,ver:=0,frozen:=false,clean:=true },{ elems:=[],es:=2,ver:=0,frozen:=false,clean:=true },{ elems:=[],es:=2,ver:=0,frozen:=false,clean:=true },{ elems:=[],es:=2,ver:=0,frozen:=false,clean:=true },{ elems:=[],es:=2,ver:=0,frozen:=false,clean:=true },{ elems:=[ag [AV.mapr 1,AV.mapr 2,AV.mapr 3,AV.mapr 4,AV.mapr 5]],es:=5,ver:=0,frozen:=false,clean:=false },{ elems:=List.map Bl.a X,es:=1,ver:=v,frozen:=true,clean:=true }]) Q)) :
 tvNb_at g l h s sm X v n i Q:=by
 unfold tvNb_at
 rcases xm (i < n) with d2 | d2
 ·have H:=H.1 d2
  obtain ⟨k4,H⟩:=H
  have w5:(List.map Sb.a s).length = s.length:=List.length_map ..
  have i6:(decide (i.toNat < (List.map Sb.a s).length)) = true ↔ (i.toNat < s.length):=(by (try rw [w5]);all_goals exact i_dec)
  obtain ⟨k7,H⟩:=H
  obtain ⟨k9,H⟩:=H
  have w10:(List.map Bl.a X).length = X.length:=List.length_map ..
  have i11:(decide (((List.map Bl.a X).length + 1) * 24 <= 1099511627776)) = true ↔ ((X.length + 1) * 24 <= 1099511627776):=(by (try rw [w10]);all_goals exact i_dec)
  obtain ⟨k12,H⟩:=H
  have w13:List.map Bl.a X ++ [AV.vec (s.getD i.toNat default).2 3 (List.map Bk.a (s.getD i.toNat default).3)] = List.map Bl.a (X ++ [{ f:=(s.getD i.toNat default).2,bl:=(s.getD i.toNat default).3 }]):=(lm_app rfl rfl)
  obtain ⟨k14,H⟩:=H
  have w15:wi (i + 1) = i + 1:=wI64 k14
  exact path_wp (G:=given kp71 [(7,1,.elem (ag [vi (s.getD i.toNat default).n,AV.vec (s.getD i.toNat default).2 3 (List.map Bk.a (s.getD i.toNat default).3)]))] []) 1000 [true] ⟨(atC (cd Try.f71) [1,1,1,1,0,1,0,0]),[(1,AV.ptr 0 0 0 0),(4,AV.ptr 6 0 0 0),(5,AV.row 7 (v + 1)),(35,AV.vec h 2 (List.map Sb.a s)),(36,vi n),(37,vi (wi (i + 1)))],[⟨[ag [AV.vec g 3 (List.map Bk.a l),AV.vec h 2 (List.map Sb.a s)]],2,0,false,false⟩,⟨mapPut IntKind.i64 (s.getD i.toNat default).n (AV.vec (s.getD i.toNat default).2 3 (List.map Bk.a (s.getD i.toNat default).3)) sm,2,0,false,true⟩,⟨[],2,0,false,true⟩,⟨[],2,0,false,true⟩,⟨[],2,0,false,true⟩,⟨[],2,0,false,true⟩,⟨[ag [AV.mapr 1,AV.mapr 2,AV.mapr 3,AV.mapr 4,AV.mapr 5]],5,0,false,false⟩,⟨List.map Bl.a X ++ [AV.vec (s.getD i.toNat default).2 3 (List.map Bk.a (s.getD i.toNat default).3)],1,v + 1,false,true⟩,⟨[ag [vi (s.getD i.toNat default).n,AV.vec (s.getD i.toNat default).2 3 (List.map Bk.a (s.getD i.toNat default).3)]],2,0,false,false⟩],[(decide (i < n)) == true,decide (0 <= i),decide (i.toNat < (List.map Sb.a s).length),true,true,true,true,mapKeys IntKind.i64 sm,true,v == v,decide (((List.map Bl.a X).length + 1) * 24 <= 1099511627776)],[((List.map Sb.a s).get?Internal i.toNat = some (ag [vi (s.getD i.toNat default).n,AV.vec (s.getD i.toNat default).2 3 (List.map Bk.a (s.getD i.toNat default).3)]))],_⟩ (by kernel_rfl) (bc (beq_t (i_dec.2 d2)) (bc (i_dec.2 k4) (bc (i6.2 k7) (bc rfl (bc rfl (bc rfl (bc rfl (bc ((i_var _).2 k9) (bc rfl (bc (beq_self_eq_true _) (bc (i11.2 k12) b0))))))))))) (qc (el_map k7) q0) c0 (by (try rw [w13]);(try rw [w15]);all_goals exact H)
 ·have H:=H.2 d2
  obtain ⟨k16,H⟩:=H
  have w17:(List.map Bk.a (Sp.cat X)).length = (Sp.cat X).length:=List.length_map ..
  exact path_wp (G:=given kp71 [(12,1,.call (AV.vec false 3 (List.map Bk.a (Sp.cat X))) none)] []) 1000 [false] ⟨(atC (cd Try.f71) [1,1,1,1,1,1,0,1,0,0]),[(1,AV.ptr 0 0 0 0),(4,AV.ptr 6 0 0 0),(8,AV.vnil),(56,AV.vec false 3 (List.map Bk.a (Sp.cat X))),(57,vi (↑(List.map Bk.a (Sp.cat X)).length:Int)),(58,vi 0)],[⟨[ag [AV.vec g 3 (List.map Bk.a l),AV.vec h 2 (List.map Sb.a s)]],2,0,false,false⟩,⟨sm,2,0,false,true⟩,⟨[],2,0,false,true⟩,⟨[],2,0,false,true⟩,⟨[],2,0,false,true⟩,⟨[],2,0,false,true⟩,⟨[ag [AV.mapr 1,AV.mapr 2,AV.mapr 3,AV.mapr 4,AV.mapr 5]],5,0,false,false⟩,⟨List.map Bl.a X,1,v,true,true⟩],[(decide (i < n)) == false,v == v],[],_⟩ (by kernel_rfl) (bc (beq_f (fun h => d2 (i_dec.1 h))) (bc (beq_self_eq_true _) b0)) q0 (ce (@ev20 (false) (X) k16) c0) (by (try rw [w17]);all_goals exact H)
noncomputable abbrev zTpJ1:=ag [AV.mapr 1,AV.mapr 2,AV.mapr 3,AV.mapr 4,AV.mapr 5]
theorem tvNc (g:Bool) (l:List Bk) (h:Bool) (s:List Sb) (sm:List AV) (o:List Bk) (n i:Int)  (Q:AV -> Heap -> Prop) (H :
  ((i < n) -> (0 <= i) /\
   (i.toNat < o.length) /\
   (Sp.okW (o.getD i.toNat default).3) /\
   ((¬Sp.cE (o.getD i.toNat default).3 = 0) -> Q (tu [AV.nilp,vi (Sp.cE (o.getD i.toNat default).3)]) [{ elems:=[ag [AV.vec g 3 (List.map Bk.a l),AV.vec h 2 (List.map Sb.a s)]],es:=2,ver:=0,frozen:=false,clean:=false },{ elems:=sm,es:=2,ver:=0,frozen:=false,clean:=true },{ elems:=[],es:=2,ver:=0,frozen:=false,clean:=true },{ elems:=[],es:=2,ver:=0,frozen:=false,clean:=true },{ elems:=[],es:=2,ver:=0,frozen:=false,clean:=true },{ elems:=[],es:=2,ver:=0,frozen:=false,clean:=true },{ elems:=[ag [AV.mapr 1,AV.mapr 2,AV.mapr 3,AV.mapr 4,AV.mapr 5]],es:=5,ver:=0,frozen:=false,clean:=false },{ elems:=[ag [vb (o.getD i.toNat default).1,AV.vec (o.getD i.toNat default).2 2 (List.map Wo.a (o.getD i.toNat default).3),AV.str (o.getD i.toNat default).4]],es:=3,ver:=0,frozen:=false,clean:=false }]) /\
   (¬(¬Sp.cE (o.getD i.toNat default).3 = 0) -> ((Sp.cIs (o.getD i.toNat default).3 = true) -> (-9223372036854775808 <= i + 1 /\ i + 1 <= 9223372036854775807) /\
     Wp M1 (.run fi71 (atC (cd Try.f71) [1,1,1,1,1,1,0,1,0,0]) [(1,AV.ptr 0 0 0 0),(4,AV.ptr 6 0 0 0),(8,AV.row 8 0),(56,AV.vec false 3 (List.map Bk.a o)),(57,vi n),(58,vi (i + 1))] [{ elems:=[ag [AV.vec g 3 (List.map Bk.a l),AV.vec h 2 (List.map Sb.a s)]],es:=2,ver:=0,frozen:=false,clean:=false },{ elems:=sm,es:=2,ver:=0,frozen:=false,clean:=true },{ elems:=[],es:=2,ver:=0,frozen:=false,clean:=true },{ elems:=[],es:=2,ver:=0,frozen:=false,clean:=true },{ elems:=[],es:=2,ver:=0,frozen:=false,clean:=true },{ elems:=[],es:=2,ver:=0,frozen:=false,clean:=true },{ elems:=[ag [AV.mapr 1,AV.mapr 2,AV.mapr 3,AV.mapr 4,AV.mapr 5]],es:=5,ver:=0,frozen:=false,clean:=false },{ elems:=[ag [vb (o.getD i.toNat default).1,AV.vec (o.getD i.toNat default).2 2 (List.map Wo.a (o.getD i.toNat default).3),AV.str (o.getD i.toNat default).4]],es:=3,ver:=0,frozen:=false,clean:=false },{ elems:=[vi (Sp.cN (o.getD i.toNat default).3)],es:=1,ver:=0,frozen:=false,clean:=true }]) Q) /\
    (¬(Sp.cIs (o.getD i.toNat default).3 = true) -> (-9223372036854775808 <= i + 1 /\ i + 1 <= 9223372036854775807) /\
     Wp M1 (.run fi71 (atC (cd Try.f71) [1,1,1,1,1,1,0,1,0,0]) [(1,AV.ptr 0 0 0 0),(4,AV.ptr 6 0 0 0),(8,AV.vnil),(56,AV.vec false 3 (List.map Bk.a o)),(57,vi n),(58,vi (i + 1))] [{ elems:=[ag [AV.vec g 3 (List.map Bk.a l),AV.vec h 2 (List.map Sb.a s)]],es:=2,ver:=0,frozen:=false,clean:=false },{ elems:=sm,es:=2,ver:=0,frozen:=false,clean:=true },{ elems:=[],es:=2,ver:=0,frozen:=false,clean:=true },{ elems:=[],es:=2,ver:=0,frozen:=false,clean:=true },{ elems:=[],es:=2,ver:=0,frozen:=false,clean:=true },{ elems:=[],es:=2,ver:=0,frozen:=false,clean:=true },{ elems:=[ag [AV.mapr 1,AV.mapr 2,AV.mapr 3,AV.mapr 4,AV.mapr 5]],es:=5,ver:=0,frozen:=false,clean:=false },{ elems:=[ag [vb (o.getD i.toNat default).1,AV.vec (o.getD i.toNat default).2 2 (List.map Wo.a (o.getD i.toNat default).3),AV.str (o.getD i.toNat default).4]],es:=3,ver:=0,frozen:=false,clean:=false }]) Q))) /\
  (¬(i < n) -> tvNe_at (g) (l) (h) (s) (sm) Q)) :
 tvNc_at g l h s sm o n i Q:=by
 unfold tvNc_at
 rcases xm (i < n) with d2 | d2
 ·have H:=H.1 d2
  obtain ⟨k4,H⟩:=H
  have w5:(List.map Bk.a o).length = o.length:=List.length_map ..
  have i6:(decide (i.toNat < (List.map Bk.a o).length)) = true ↔ (i.toNat < o.length):=(by (try rw [w5]);all_goals exact i_dec)
  obtain ⟨k7,H⟩:=H
  obtain ⟨k8,H⟩:=H
  refine path_wp (G:=given kp71 [(14,1,.elem (ag [vb (o.getD i.toNat default).1,AV.vec (o.getD i.toNat default).2 2 (List.map Wo.a (o.getD i.toNat default).3),AV.str (o.getD i.toNat default).4])),(15,1,.call (tu [vi (Sp.cN (o.getD i.toNat default).3),vi (Sp.cT (o.getD i.toNat default).3),vb (Sp.cIs (o.getD i.toNat default).3),vi (Sp.cE (o.getD i.toNat default).3)]) none)] []) 14 [true] ⟨(atC (cd Try.f71) [1,1,1,1,1,1,0,1,0,0,1,1,0,0,1,1,0,1]),[(1,AV.ptr 0 0 0 0),(4,AV.ptr 6 0 0 0),(8,AV.vnil),(11,vi (Sp.cN (o.getD i.toNat default).3)),(13,vb (Sp.cIs (o.getD i.toNat default).3)),(14,vi (Sp.cE (o.getD i.toNat default).3)),(56,AV.vec false 3 (List.map Bk.a o)),(57,vi n),(58,vi i),(70,vb (Sp.cE (o.getD i.toNat default).3 != 0))],[⟨[ag [AV.vec g 3 (List.map Bk.a l),AV.vec h 2 (List.map Sb.a s)]],2,0,false,false⟩,⟨sm,2,0,false,true⟩,⟨[],2,0,false,true⟩,⟨[],2,0,false,true⟩,⟨[],2,0,false,true⟩,⟨[],2,0,false,true⟩,⟨[zTpJ1],5,0,false,false⟩,⟨[ag [vb (o.getD i.toNat default).1,AV.vec (o.getD i.toNat default).2 2 (List.map Wo.a (o.getD i.toNat default).3),AV.str (o.getD i.toNat default).4]],3,0,false,false⟩],_,[((List.map Bk.a o).get?Internal i.toNat = some (ag [vb (o.getD i.toNat default).1,AV.vec (o.getD i.toNat default).2 2 (List.map Wo.a (o.getD i.toNat default).3),AV.str (o.getD i.toNat default).4]))],_⟩ (by kernel_rfl) (bc (beq_t (i_dec.2 d2)) (bc (i_dec.2 k4) (bc (i6.2 k7) (bc rfl (bc rfl b0))))) (qc (el_map k7) q0) (ce (@ev13 ((o.getD i.toNat default).1) ((o.getD i.toNat default).2) ((o.getD i.toNat default).3) ((o.getD i.toNat default).4) k8) c0) ?_
  rcases xm (¬Sp.cE (o.getD i.toNat default).3 = 0) with d10 | d10
  ·have H:=H.1 d10
   exact path_ret (G:=given kp71 [] []) 1000 [true] (k:=((atC (cd Try.f71) [1,1,1,1,1,1,0,1,0,0,1,1,0,0,1,1,0,1,0,1])).tail) (env':=[(2,AV.nilp),(3,vi (Sp.cE (o.getD i.toNat default).3))]) (L':=[⟨[ag [AV.vec g 3 (List.map Bk.a l),AV.vec h 2 (List.map Sb.a s)]],2,0,false,false⟩,⟨sm,2,0,false,true⟩,⟨[],2,0,false,true⟩,⟨[],2,0,false,true⟩,⟨[],2,0,false,true⟩,⟨[],2,0,false,true⟩,⟨[zTpJ1],5,0,false,false⟩,⟨[ag [vb (o.getD i.toNat default).1,AV.vec (o.getD i.toNat default).2 2 (List.map Wo.a (o.getD i.toNat default).3),AV.str (o.getD i.toNat default).4]],3,0,false,false⟩]) (asm:=[(Sp.cE (o.getD i.toNat default).3 != 0) == true]) (eqs:=[]) (calls:=[]) (tu [AV.nilp,vi (Sp.cE (o.getD i.toNat default).3)]) (by kernel_rfl) (by kernel_rfl) (allB_cons (beq_t (i_ne.2 d10)) allB_nil) allP_nil allC_nil H
  ·have H:=H.2 d10
   rcases xm (Sp.cIs (o.getD i.toNat default).3 = true) with d12 | d12
   ·have H:=H.1 d12
    obtain ⟨k13,H⟩:=H
    have w14:wi (i + 1) = i + 1:=wI64 k13
    exact path_wp (G:=given kp71 [] []) 1000 [false,true] ⟨(atC (cd Try.f71) [1,1,1,1,1,1,0,1,0,0]),[(1,AV.ptr 0 0 0 0),(4,AV.ptr 6 0 0 0),(8,AV.row 8 0),(56,AV.vec false 3 (List.map Bk.a o)),(57,vi n),(58,vi (wi (i + 1)))],[⟨[ag [AV.vec g 3 (List.map Bk.a l),AV.vec h 2 (List.map Sb.a s)]],2,0,false,false⟩,⟨sm,2,0,false,true⟩,⟨[],2,0,false,true⟩,⟨[],2,0,false,true⟩,⟨[],2,0,false,true⟩,⟨[],2,0,false,true⟩,⟨[zTpJ1],5,0,false,false⟩,⟨[ag [vb (o.getD i.toNat default).1,AV.vec (o.getD i.toNat default).2 2 (List.map Wo.a (o.getD i.toNat default).3),AV.str (o.getD i.toNat default).4]],3,0,false,false⟩,⟨[vi (Sp.cN (o.getD i.toNat default).3)],1,0,false,true⟩],[(Sp.cE (o.getD i.toNat default).3 != 0) == false,(Sp.cIs (o.getD i.toNat default).3) == true,true],[],_⟩ (by kernel_rfl) (bc (beq_f (fun h => d10 (i_ne.1 h))) (bc (beq_t ((i_var _).2 d12)) (bc rfl b0))) q0 c0 (by (try rw [w14]);all_goals exact H)
   ·have H:=H.2 d12
    obtain ⟨k15,H⟩:=H
    have w16:wi (i + 1) = i + 1:=wI64 k15
    exact path_wp (G:=given kp71 [] []) 1000 [false,false] ⟨(atC (cd Try.f71) [1,1,1,1,1,1,0,1,0,0]),[(1,AV.ptr 0 0 0 0),(4,AV.ptr 6 0 0 0),(8,AV.vnil),(56,AV.vec false 3 (List.map Bk.a o)),(57,vi n),(58,vi (wi (i + 1)))],[⟨[ag [AV.vec g 3 (List.map Bk.a l),AV.vec h 2 (List.map Sb.a s)]],2,0,false,false⟩,⟨sm,2,0,false,true⟩,⟨[],2,0,false,true⟩,⟨[],2,0,false,true⟩,⟨[],2,0,false,true⟩,⟨[],2,0,false,true⟩,⟨[zTpJ1],5,0,false,false⟩,⟨[ag [vb (o.getD i.toNat default).1,AV.vec (o.getD i.toNat default).2 2 (List.map Wo.a (o.getD i.toNat default).3),AV.str (o.getD i.toNat default).4]],3,0,false,false⟩],[(Sp.cE (o.getD i.toNat default).3 != 0) == false,(Sp.cIs (o.getD i.toNat default).3) == false],[],_⟩ (by kernel_rfl) (bc (beq_f (fun h => d10 (i_ne.1 h))) (bc (beq_f (fun h => d12 ((i_var _).1 h))) b0)) q0 c0 (by (try rw [w16]);all_goals exact H)
 ·have H:=H.2 d2
  exact path_wp (G:=given kp71 [] []) 1000 [false] ⟨(atC (cd Try.f71) [1,1,1,1,1,1,1,0,1,0,0]),[(1,AV.ptr 0 0 0 0),(4,AV.ptr 6 0 0 0),(78,AV.vnil),(79,vi 0),(80,vi 0)],[⟨[ag [AV.vec g 3 (List.map Bk.a l),AV.vec h 2 (List.map Sb.a s)]],2,0,false,false⟩,⟨sm,2,0,false,true⟩,⟨[],2,0,false,true⟩,⟨[],2,0,false,true⟩,⟨[],2,0,false,true⟩,⟨[],2,0,false,true⟩,⟨[zTpJ1],5,0,false,false⟩],_,[],_⟩ (by kernel_rfl) (bc (beq_f (fun h => d2 (i_dec.1 h))) b0) q0 c0 (H)
noncomputable abbrev zTpJ2:=ag [AV.mapr 1,AV.mapr 2,AV.mapr 3,AV.mapr 4,AV.mapr 5]
theorem tvNd (g:Bool) (l:List Bk) (h:Bool) (s:List Sb) (sm:List AV) (o:List Bk) (q:List Int) (v:Nat) (n i:Int)  (Q:AV -> Heap -> Prop) (H :
  ((i < n) -> (0 <= i) /\
   (i.toNat < o.length) /\
   (Sp.okW (o.getD i.toNat default).3) /\
   ((¬Sp.cE (o.getD i.toNat default).3 = 0) -> Q (tu [AV.nilp,vi (Sp.cE (o.getD i.toNat default).3)]) [{ elems:=[ag [AV.vec g 3 (List.map Bk.a l),AV.vec h 2 (List.map Sb.a s)]],es:=2,ver:=0,frozen:=false,clean:=false },{ elems:=sm,es:=2,ver:=0,frozen:=false,clean:=true },{ elems:=[],es:=2,ver:=0,frozen:=false,clean:=true },{ elems:=[],es:=2,ver:=0,frozen:=false,clean:=true },{ elems:=[],es:=2,ver:=0,frozen:=false,clean:=true },{ elems:=[],es:=2,ver:=0,frozen:=false,clean:=true },{ elems:=[ag [AV.mapr 1,AV.mapr 2,AV.mapr 3,AV.mapr 4,AV.mapr 5]],es:=5,ver:=0,frozen:=false,clean:=false },{ elems:=List.map (vi) q,es:=1,ver:=v,frozen:=false,clean:=true },{ elems:=[ag [vb (o.getD i.toNat default).1,AV.vec (o.getD i.toNat default).2 2 (List.map Wo.a (o.getD i.toNat default).3),AV.str (o.getD i.toNat default).4]],es:=3,ver:=0,frozen:=false,clean:=false }]) /\
   (¬(¬Sp.cE (o.getD i.toNat default).3 = 0) -> ((Sp.cIs (o.getD i.toNat default).3 = true) -> ((q.length + 1) * 8 <= 1099511627776) /\
     (-9223372036854775808 <= i + 1 /\ i + 1 <= 9223372036854775807) /\
     Wp M1 (.run fi71 (atC (cd Try.f71) [1,1,1,1,1,1,0,1,0,0]) [(1,AV.ptr 0 0 0 0),(4,AV.ptr 6 0 0 0),(8,AV.row 7 (v + 1)),(56,AV.vec false 3 (List.map Bk.a o)),(57,vi n),(58,vi (i + 1))] [{ elems:=[ag [AV.vec g 3 (List.map Bk.a l),AV.vec h 2 (List.map Sb.a s)]],es:=2,ver:=0,frozen:=false,clean:=false },{ elems:=sm,es:=2,ver:=0,frozen:=false,clean:=true },{ elems:=[],es:=2,ver:=0,frozen:=false,clean:=true },{ elems:=[],es:=2,ver:=0,frozen:=false,clean:=true },{ elems:=[],es:=2,ver:=0,frozen:=false,clean:=true },{ elems:=[],es:=2,ver:=0,frozen:=false,clean:=true },{ elems:=[ag [AV.mapr 1,AV.mapr 2,AV.mapr 3,AV.mapr 4,AV.mapr 5]],es:=5,ver:=0,frozen:=false,clean:=false },{ elems:=List.map (vi) (q ++ [Sp.cN (o.getD i.toNat default).3]),es:=1,ver:=v + 1,frozen:=false,clean:=true },{ elems:=[ag [vb (o.getD i.toNat default).1,AV.vec (o.getD i.toNat default).2 2 (List.map Wo.a (o.getD i.toNat default).3),AV.str (o.getD i.toNat default).4]],es:=3,ver:=0,frozen:=false,clean:=false }]) Q) /\
    (¬(Sp.cIs (o.getD i.toNat default).3 = true) -> (-9223372036854775808 <= i + 1 /\ i + 1 <= 9223372036854775807) /\
     Wp M1 (.run fi71 (atC (cd Try.f71) [1,1,1,1,1,1,0,1,0,0]) [(1,AV.ptr 0 0 0 0),(4,AV.ptr 6 0 0 0),(8,AV.row 7 v),(56,AV.vec false 3 (List.map Bk.a o)),(57,vi n),(58,vi (i + 1))] [{ elems:=[ag [AV.vec g 3 (List.map Bk.a l),AV.vec h 2 (List.map Sb.a s)]],es:=2,ver:=0,frozen:=false,clean:=false },{ elems:=sm,es:=2,ver:=0,frozen:=false,clean:=true },{ elems:=[],es:=2,ver:=0,frozen:=false,clean:=true },{ elems:=[],es:=2,ver:=0,frozen:=false,clean:=true },{ elems:=[],es:=2,ver:=0,frozen:=false,clean:=true },{ elems:=[],es:=2,ver:=0,frozen:=false,clean:=true },{ elems:=[ag [AV.mapr 1,AV.mapr 2,AV.mapr 3,AV.mapr 4,AV.mapr 5]],es:=5,ver:=0,frozen:=false,clean:=false },{ elems:=List.map (vi) q,es:=1,ver:=v,frozen:=false,clean:=true },{ elems:=[ag [vb (o.getD i.toNat default).1,AV.vec (o.getD i.toNat default).2 2 (List.map Wo.a (o.getD i.toNat default).3),AV.str (o.getD i.toNat default).4]],es:=3,ver:=0,frozen:=false,clean:=false }]) Q))) /\
  (¬(i < n) -> tvNf_at (g) (l) (h) (s) (sm) (q) (v) ((↑q.length:Int)) (0) Q)) :
 tvNd_at g l h s sm o q v n i Q:=by
 unfold tvNd_at
 rcases xm (i < n) with d2 | d2
 ·have H:=H.1 d2
  obtain ⟨k4,H⟩:=H
  have w5:(List.map Bk.a o).length = o.length:=List.length_map ..
  have i6:(decide (i.toNat < (List.map Bk.a o).length)) = true ↔ (i.toNat < o.length):=(by (try rw [w5]);all_goals exact i_dec)
  obtain ⟨k7,H⟩:=H
  obtain ⟨k8,H⟩:=H
  refine path_wp (G:=given kp71 [(14,1,.elem (ag [vb (o.getD i.toNat default).1,AV.vec (o.getD i.toNat default).2 2 (List.map Wo.a (o.getD i.toNat default).3),AV.str (o.getD i.toNat default).4])),(15,1,.call (tu [vi (Sp.cN (o.getD i.toNat default).3),vi (Sp.cT (o.getD i.toNat default).3),vb (Sp.cIs (o.getD i.toNat default).3),vi (Sp.cE (o.getD i.toNat default).3)]) none)] []) 14 [true] ⟨(atC (cd Try.f71) [1,1,1,1,1,1,0,1,0,0,1,1,0,0,1,1,0,1]),[(1,AV.ptr 0 0 0 0),(4,AV.ptr 6 0 0 0),(8,AV.row 7 v),(11,vi (Sp.cN (o.getD i.toNat default).3)),(13,vb (Sp.cIs (o.getD i.toNat default).3)),(14,vi (Sp.cE (o.getD i.toNat default).3)),(56,AV.vec false 3 (List.map Bk.a o)),(57,vi n),(58,vi i),(70,vb (Sp.cE (o.getD i.toNat default).3 != 0))],[⟨[ag [AV.vec g 3 (List.map Bk.a l),AV.vec h 2 (List.map Sb.a s)]],2,0,false,false⟩,⟨sm,2,0,false,true⟩,⟨[],2,0,false,true⟩,⟨[],2,0,false,true⟩,⟨[],2,0,false,true⟩,⟨[],2,0,false,true⟩,⟨[zTpJ2],5,0,false,false⟩,⟨List.map (vi) q,1,v,false,true⟩,⟨[ag [vb (o.getD i.toNat default).1,AV.vec (o.getD i.toNat default).2 2 (List.map Wo.a (o.getD i.toNat default).3),AV.str (o.getD i.toNat default).4]],3,0,false,false⟩],_,[((List.map Bk.a o).get?Internal i.toNat = some (ag [vb (o.getD i.toNat default).1,AV.vec (o.getD i.toNat default).2 2 (List.map Wo.a (o.getD i.toNat default).3),AV.str (o.getD i.toNat default).4]))],_⟩ (by kernel_rfl) (bc (beq_t (i_dec.2 d2)) (bc (i_dec.2 k4) (bc (i6.2 k7) (bc rfl (bc rfl b0))))) (qc (el_map k7) q0) (ce (@ev13 ((o.getD i.toNat default).1) ((o.getD i.toNat default).2) ((o.getD i.toNat default).3) ((o.getD i.toNat default).4) k8) c0) ?_
  rcases xm (¬Sp.cE (o.getD i.toNat default).3 = 0) with d10 | d10
  ·have H:=H.1 d10
   exact path_ret (G:=given kp71 [] []) 1000 [true] (k:=((atC (cd Try.f71) [1,1,1,1,1,1,0,1,0,0,1,1,0,0,1,1,0,1,0,1])).tail) (env':=[(2,AV.nilp),(3,vi (Sp.cE (o.getD i.toNat default).3))]) (L':=[⟨[ag [AV.vec g 3 (List.map Bk.a l),AV.vec h 2 (List.map Sb.a s)]],2,0,false,false⟩,⟨sm,2,0,false,true⟩,⟨[],2,0,false,true⟩,⟨[],2,0,false,true⟩,⟨[],2,0,false,true⟩,⟨[],2,0,false,true⟩,⟨[zTpJ2],5,0,false,false⟩,⟨List.map (vi) q,1,v,false,true⟩,⟨[ag [vb (o.getD i.toNat default).1,AV.vec (o.getD i.toNat default).2 2 (List.map Wo.a (o.getD i.toNat default).3),AV.str (o.getD i.toNat default).4]],3,0,false,false⟩]) (asm:=[(Sp.cE (o.getD i.toNat default).3 != 0) == true]) (eqs:=[]) (calls:=[]) (tu [AV.nilp,vi (Sp.cE (o.getD i.toNat default).3)]) (by kernel_rfl) (by kernel_rfl) (allB_cons (beq_t (i_ne.2 d10)) allB_nil) allP_nil allC_nil H
  ·have H:=H.2 d10
   rcases xm (Sp.cIs (o.getD i.toNat default).3 = true) with d12 | d12
   ·have H:=H.1 d12
    have w13:(List.map (vi) q).length = q.length:=List.length_map ..
    have i14:(decide (((List.map (vi) q).length + 1) * 8 <= 1099511627776)) = true ↔ ((q.length + 1) * 8 <= 1099511627776):=(by (try rw [w13]);all_goals exact i_dec)
    obtain ⟨k15,H⟩:=H
    have w16:List.map (vi) q ++ [vi (Sp.cN (o.getD i.toNat default).3)] = List.map (vi) (q ++ [Sp.cN (o.getD i.toNat default).3]):=(lm_app rfl rfl)
    obtain ⟨k17,H⟩:=H
    have w18:wi (i + 1) = i + 1:=wI64 k17
    exact path_wp (G:=given kp71 [] []) 1000 [false,true] ⟨(atC (cd Try.f71) [1,1,1,1,1,1,0,1,0,0]),[(1,AV.ptr 0 0 0 0),(4,AV.ptr 6 0 0 0),(8,AV.row 7 (v + 1)),(56,AV.vec false 3 (List.map Bk.a o)),(57,vi n),(58,vi (wi (i + 1)))],[⟨[ag [AV.vec g 3 (List.map Bk.a l),AV.vec h 2 (List.map Sb.a s)]],2,0,false,false⟩,⟨sm,2,0,false,true⟩,⟨[],2,0,false,true⟩,⟨[],2,0,false,true⟩,⟨[],2,0,false,true⟩,⟨[],2,0,false,true⟩,⟨[zTpJ2],5,0,false,false⟩,⟨List.map (vi) q ++ [vi (Sp.cN (o.getD i.toNat default).3)],1,v + 1,false,true⟩,⟨[ag [vb (o.getD i.toNat default).1,AV.vec (o.getD i.toNat default).2 2 (List.map Wo.a (o.getD i.toNat default).3),AV.str (o.getD i.toNat default).4]],3,0,false,false⟩],[(Sp.cE (o.getD i.toNat default).3 != 0) == false,(Sp.cIs (o.getD i.toNat default).3) == true,v == v,decide (((List.map (vi) q).length + 1) * 8 <= 1099511627776)],[],_⟩ (by kernel_rfl) (bc (beq_f (fun h => d10 (i_ne.1 h))) (bc (beq_t ((i_var _).2 d12)) (bc (beq_self_eq_true _) (bc (i14.2 k15) b0)))) q0 c0 (by (try rw [w16]);(try rw [w18]);all_goals exact H)
   ·have H:=H.2 d12
    obtain ⟨k19,H⟩:=H
    have w20:wi (i + 1) = i + 1:=wI64 k19
    exact path_wp (G:=given kp71 [] []) 1000 [false,false] ⟨(atC (cd Try.f71) [1,1,1,1,1,1,0,1,0,0]),[(1,AV.ptr 0 0 0 0),(4,AV.ptr 6 0 0 0),(8,AV.row 7 v),(56,AV.vec false 3 (List.map Bk.a o)),(57,vi n),(58,vi (wi (i + 1)))],[⟨[ag [AV.vec g 3 (List.map Bk.a l),AV.vec h 2 (List.map Sb.a s)]],2,0,false,false⟩,⟨sm,2,0,false,true⟩,⟨[],2,0,false,true⟩,⟨[],2,0,false,true⟩,⟨[],2,0,false,true⟩,⟨[],2,0,false,true⟩,⟨[zTpJ2],5,0,false,false⟩,⟨List.map (vi) q,1,v,false,true⟩,⟨[ag [vb (o.getD i.toNat default).1,AV.vec (o.getD i.toNat default).2 2 (List.map Wo.a (o.getD i.toNat default).3),AV.str (o.getD i.toNat default).4]],3,0,false,false⟩],[(Sp.cE (o.getD i.toNat default).3 != 0) == false,(Sp.cIs (o.getD i.toNat default).3) == false],[],_⟩ (by kernel_rfl) (bc (beq_f (fun h => d10 (i_ne.1 h))) (bc (beq_f (fun h => d12 ((i_var _).1 h))) b0)) q0 c0 (by (try rw [w20]);all_goals exact H)
 ·have H:=H.2 d2
  have w21:(List.map (vi) q).length = q.length:=List.length_map ..
  exact path_wp (G:=given kp71 [] []) 1000 [false] ⟨(atC (cd Try.f71) [1,1,1,1,1,1,1,0,1,0,0]),[(1,AV.ptr 0 0 0 0),(4,AV.ptr 6 0 0 0),(78,AV.row 7 v),(79,vi (↑(List.map (vi) q).length:Int)),(80,vi 0)],[⟨[ag [AV.vec g 3 (List.map Bk.a l),AV.vec h 2 (List.map Sb.a s)]],2,0,false,false⟩,⟨sm,2,0,false,true⟩,⟨[],2,0,false,true⟩,⟨[],2,0,false,true⟩,⟨[],2,0,false,true⟩,⟨[],2,0,false,true⟩,⟨[zTpJ2],5,0,false,false⟩,⟨List.map (vi) q,1,v,false,true⟩],[(decide (i < n)) == false,v == v],[],_⟩ (by kernel_rfl) (bc (beq_f (fun h => d2 (i_dec.1 h))) (bc (beq_self_eq_true _) b0)) q0 c0 (by (try rw [w21]);all_goals exact H)
theorem tvNe (g:Bool) (l:List Bk) (h:Bool) (s:List Sb) (sm:List AV)  (Q:AV -> Heap -> Prop) (H :
  Wp M1 (.run fi71 (atC (cd Try.f71) [1,1,1,1,1,1,1,1,0,1,0,0]) [(4,AV.ptr 6 0 0 0),(97,AV.vec h 2 (List.map Sb.a s)),(98,vi (↑s.length:Int)),(99,vi 0)] [{ elems:=[ag [AV.vec g 3 (List.map Bk.a l),AV.vec h 2 (List.map Sb.a s)]],es:=2,ver:=0,frozen:=false,clean:=false },{ elems:=sm,es:=2,ver:=0,frozen:=false,clean:=true },{ elems:=[],es:=2,ver:=0,frozen:=false,clean:=true },{ elems:=[],es:=2,ver:=0,frozen:=false,clean:=true },{ elems:=[],es:=2,ver:=0,frozen:=false,clean:=true },{ elems:=[],es:=2,ver:=0,frozen:=false,clean:=true },{ elems:=[ag [AV.mapr 1,AV.mapr 2,AV.mapr 3,AV.mapr 4,AV.mapr 5]],es:=5,ver:=0,frozen:=false,clean:=false }]) Q) :
 tvNe_at g l h s sm Q:=by
 unfold tvNe_at
 have w1:(List.map Sb.a s).length = s.length:=List.length_map ..
 exact path_wp (G:=given kp71 [] []) 1000 [false] ⟨(atC (cd Try.f71) [1,1,1,1,1,1,1,1,0,1,0,0]),[(4,AV.ptr 6 0 0 0),(97,AV.vec h 2 (List.map Sb.a s)),(98,vi (↑(List.map Sb.a s).length:Int)),(99,vi 0)],[⟨[ag [AV.vec g 3 (List.map Bk.a l),AV.vec h 2 (List.map Sb.a s)]],2,0,false,false⟩,⟨sm,2,0,false,true⟩,⟨[],2,0,false,true⟩,⟨[],2,0,false,true⟩,⟨[],2,0,false,true⟩,⟨[],2,0,false,true⟩,⟨[ag [AV.mapr 1,AV.mapr 2,AV.mapr 3,AV.mapr 4,AV.mapr 5]],5,0,false,false⟩],_,[],_⟩ (by kernel_rfl) (bc rfl (bc rfl b0)) q0 c0 (by (try rw [w1]);all_goals exact H)
noncomputable abbrev zTpJ3:=ag [AV.mapr 1,AV.mapr 2,AV.mapr 3,AV.mapr 4,AV.mapr 5]
theorem tvNf (g:Bool) (l:List Bk) (h:Bool) (s:List Sb) (sm:List AV) (q:List Int) (v:Nat) (n i:Int)  (Q:AV -> Heap -> Prop) (H :
  ((i < n) -> (0 <= i) /\
   (i.toNat < q.length) /\
   (mapKeys IntKind.i64 sm = true) /\
   ((¬(mapHas (q.getD i.toNat default) sm = true)) -> Q (tu [AV.nilp,vi 4]) [{ elems:=[ag [AV.vec g 3 (List.map Bk.a l),AV.vec h 2 (List.map Sb.a s)]],es:=2,ver:=0,frozen:=false,clean:=false },{ elems:=sm,es:=2,ver:=0,frozen:=false,clean:=true },{ elems:=[],es:=2,ver:=0,frozen:=false,clean:=true },{ elems:=[],es:=2,ver:=0,frozen:=false,clean:=true },{ elems:=[],es:=2,ver:=0,frozen:=false,clean:=true },{ elems:=[],es:=2,ver:=0,frozen:=false,clean:=true },{ elems:=[ag [AV.mapr 1,AV.mapr 2,AV.mapr 3,AV.mapr 4,AV.mapr 5]],es:=5,ver:=0,frozen:=false,clean:=false },{ elems:=List.map (vi) q,es:=1,ver:=v,frozen:=false,clean:=true }]) /\
   (¬(¬(mapHas (q.getD i.toNat default) sm = true)) -> (-9223372036854775808 <= i + 1 /\ i + 1 <= 9223372036854775807) /\
    tvNf_at (g) (l) (h) (s) (sm) (q) (v) (n) (i + 1) Q)) /\
  (¬(i < n) -> Wp M1 (.run fi71 (atC (cd Try.f71) [1,1,1,1,1,1,1,1,0,1,0,0]) [(4,AV.ptr 6 0 0 0),(97,AV.vec h 2 (List.map Sb.a s)),(98,vi (↑s.length:Int)),(99,vi 0)] [{ elems:=[ag [AV.vec g 3 (List.map Bk.a l),AV.vec h 2 (List.map Sb.a s)]],es:=2,ver:=0,frozen:=false,clean:=false },{ elems:=sm,es:=2,ver:=0,frozen:=false,clean:=true },{ elems:=[],es:=2,ver:=0,frozen:=false,clean:=true },{ elems:=[],es:=2,ver:=0,frozen:=false,clean:=true },{ elems:=[],es:=2,ver:=0,frozen:=false,clean:=true },{ elems:=[],es:=2,ver:=0,frozen:=false,clean:=true },{ elems:=[ag [AV.mapr 1,AV.mapr 2,AV.mapr 3,AV.mapr 4,AV.mapr 5]],es:=5,ver:=0,frozen:=false,clean:=false },{ elems:=List.map (vi) q,es:=1,ver:=v,frozen:=false,clean:=true }]) Q)) :
 tvNf_at g l h s sm q v n i Q:=by
 unfold tvNf_at
 rcases xm (i < n) with d2 | d2
 ·have H:=H.1 d2
  obtain ⟨k4,H⟩:=H
  have w5:(List.map (vi) q).length = q.length:=List.length_map ..
  have i6:(decide (i.toNat < (List.map (vi) q).length)) = true ↔ (i.toNat < q.length):=(by (try rw [w5]);all_goals exact i_dec)
  obtain ⟨k7,H⟩:=H
  obtain ⟨k9,H⟩:=H
  refine path_wp (G:=given kp71 [(23,1,.elem (vi (q.getD i.toNat default)))] []) 13 [true] ⟨(atC (cd Try.f71) [1,1,1,1,1,1,1,0,1,0,0,1,1,0,0,1,1,1]),[(1,AV.ptr 0 0 0 0),(4,AV.ptr 6 0 0 0),(78,AV.row 7 v),(79,vi n),(80,vi i),(94,vb !mapHas (q.getD i.toNat default) sm)],[⟨[ag [AV.vec g 3 (List.map Bk.a l),AV.vec h 2 (List.map Sb.a s)]],2,0,false,false⟩,⟨sm,2,0,false,true⟩,⟨[],2,0,false,true⟩,⟨[],2,0,false,true⟩,⟨[],2,0,false,true⟩,⟨[],2,0,false,true⟩,⟨[zTpJ3],5,0,false,false⟩,⟨List.map (vi) q,1,v,false,true⟩],[(decide (i < n)) == true,v == v,decide (0 <= i),decide (i.toNat < (List.map (vi) q).length),v == v,true,mapKeys IntKind.i64 sm],[((List.map (vi) q).get?Internal i.toNat = some (vi (q.getD i.toNat default)))],_⟩ (by kernel_rfl) (bc (beq_t (i_dec.2 d2)) (bc (beq_self_eq_true _) (bc (i_dec.2 k4) (bc (i6.2 k7) (bc (beq_self_eq_true _) (bc rfl (bc ((i_var _).2 k9) b0))))))) (qc (el_map k7) q0) c0 ?_
  rcases xm (¬(mapHas (q.getD i.toNat default) sm = true)) with d11 | d11
  ·have H:=H.1 d11
   exact path_ret (G:=given kp71 [] []) 1000 [true] (k:=((atC (cd Try.f71) [1,1,1,1,1,1,1,0,1,0,0,1,1,0,0,1,1,1,0,1])).tail) (env':=[(2,AV.nilp),(3,vi 4)]) (L':=[⟨[ag [AV.vec g 3 (List.map Bk.a l),AV.vec h 2 (List.map Sb.a s)]],2,0,false,false⟩,⟨sm,2,0,false,true⟩,⟨[],2,0,false,true⟩,⟨[],2,0,false,true⟩,⟨[],2,0,false,true⟩,⟨[],2,0,false,true⟩,⟨[zTpJ3],5,0,false,false⟩,⟨List.map (vi) q,1,v,false,true⟩]) (asm:=[(!mapHas (q.getD i.toNat default) sm) == true]) (eqs:=[]) (calls:=[]) (tu [AV.nilp,vi 4]) (by kernel_rfl) (by kernel_rfl) (allB_cons (beq_t ((i_not (i_var _)).2 d11)) allB_nil) allP_nil allC_nil H
  ·have H:=H.2 d11
   obtain ⟨k12,H⟩:=H
   have w13:wi (i + 1) = i + 1:=wI64 k12
   exact path_wp (G:=given kp71 [] []) 1000 [false] ⟨(atC (cd Try.f71) [1,1,1,1,1,1,1,0,1,0,0]),[(1,AV.ptr 0 0 0 0),(4,AV.ptr 6 0 0 0),(78,AV.row 7 v),(79,vi n),(80,vi (wi (i + 1)))],[⟨[ag [AV.vec g 3 (List.map Bk.a l),AV.vec h 2 (List.map Sb.a s)]],2,0,false,false⟩,⟨sm,2,0,false,true⟩,⟨[],2,0,false,true⟩,⟨[],2,0,false,true⟩,⟨[],2,0,false,true⟩,⟨[],2,0,false,true⟩,⟨[zTpJ3],5,0,false,false⟩,⟨List.map (vi) q,1,v,false,true⟩],[(!mapHas (q.getD i.toNat default) sm) == false],[],_⟩ (by kernel_rfl) (bc (beq_f (fun h => d11 ((i_not (i_var _)).1 h))) b0) q0 c0 (by (try rw [w13]);all_goals exact H)
 ·have H:=H.2 d2
  have w14:(List.map Sb.a s).length = s.length:=List.length_map ..
  exact path_wp (G:=given kp71 [] []) 1000 [false] ⟨(atC (cd Try.f71) [1,1,1,1,1,1,1,1,0,1,0,0]),[(4,AV.ptr 6 0 0 0),(97,AV.vec h 2 (List.map Sb.a s)),(98,vi (↑(List.map Sb.a s).length:Int)),(99,vi 0)],[⟨[ag [AV.vec g 3 (List.map Bk.a l),AV.vec h 2 (List.map Sb.a s)]],2,0,false,false⟩,⟨sm,2,0,false,true⟩,⟨[],2,0,false,true⟩,⟨[],2,0,false,true⟩,⟨[],2,0,false,true⟩,⟨[],2,0,false,true⟩,⟨[zTpJ3],5,0,false,false⟩,⟨List.map (vi) q,1,v,false,true⟩],_,[],_⟩ (by kernel_rfl) (bc (beq_f (fun h => d2 (i_dec.1 h))) (bc rfl b0)) q0 c0 (by (try rw [w14]);all_goals exact H)
noncomputable abbrev zTpJ4:=ag [AV.mapr 0,AV.mapr 1,AV.mapr 2,AV.mapr 3,AV.mapr 4]
theorem tvNg (h:Bool) (s:List Sb) (sm st dp sz:List AV) (n i:Int) (r:Bool) (st1 dp1 sz1:List AV) (Q:AV -> Heap -> Prop) (H :
  ((i < n) -> (0 <= i) /\
   (i.toNat < s.length) /\
   (Ev M1 (Conf.own 84 [AV.ptr 0 0 0 0,vi (s.getD i.toNat default).n] [{ elems:=[ag [AV.mapr 1,AV.mapr 2,AV.mapr 3,AV.mapr 4,AV.mapr 5]],es:=5,ver:=0,frozen:=false,clean:=false },{ elems:=sm,es:=2,ver:=0,frozen:=false,clean:=true },{ elems:=st,es:=2,ver:=0,frozen:=false,clean:=true },{ elems:=dp,es:=2,ver:=0,frozen:=false,clean:=true },{ elems:=sz,es:=2,ver:=0,frozen:=false,clean:=true },{ elems:=[],es:=2,ver:=0,frozen:=false,clean:=true }]) (vb r) [{ elems:=[ag [AV.mapr 1,AV.mapr 2,AV.mapr 3,AV.mapr 4,AV.mapr 5]],es:=5,ver:=0,frozen:=false,clean:=false },{ elems:=sm,es:=2,ver:=0,frozen:=false,clean:=true },{ elems:=st1,es:=2,ver:=0,frozen:=false,clean:=true },{ elems:=dp1,es:=2,ver:=0,frozen:=false,clean:=true },{ elems:=sz1,es:=2,ver:=0,frozen:=false,clean:=true },{ elems:=[],es:=2,ver:=0,frozen:=false,clean:=true }]) /\
   ((¬(r = true)) -> Q (tu [AV.nilp,vi 12]) [{ elems:=sm,es:=2,ver:=0,frozen:=false,clean:=true },{ elems:=st1,es:=2,ver:=0,frozen:=false,clean:=true },{ elems:=dp1,es:=2,ver:=0,frozen:=false,clean:=true },{ elems:=sz1,es:=2,ver:=0,frozen:=false,clean:=true },{ elems:=[],es:=2,ver:=0,frozen:=false,clean:=true },{ elems:=[ag [AV.mapr 0,AV.mapr 1,AV.mapr 2,AV.mapr 3,AV.mapr 4]],es:=5,ver:=0,frozen:=false,clean:=false },{ elems:=[ag [vi (s.getD i.toNat default).n,AV.vec (s.getD i.toNat default).2 3 (List.map Bk.a (s.getD i.toNat default).3)]],es:=2,ver:=0,frozen:=false,clean:=false }]) /\
   (¬(¬(r = true)) -> (-9223372036854775808 <= i + 1 /\ i + 1 <= 9223372036854775807) /\
    Wp M1 (.run fi71 (atC (cd Try.f71) [1,1,1,1,1,1,1,1,0,1,0,0]) [(4,AV.ptr 5 0 0 0),(97,AV.vec h 2 (List.map Sb.a s)),(98,vi n),(99,vi (i + 1))] [{ elems:=sm,es:=2,ver:=0,frozen:=false,clean:=true },{ elems:=st1,es:=2,ver:=0,frozen:=false,clean:=true },{ elems:=dp1,es:=2,ver:=0,frozen:=false,clean:=true },{ elems:=sz1,es:=2,ver:=0,frozen:=false,clean:=true },{ elems:=[],es:=2,ver:=0,frozen:=false,clean:=true },{ elems:=[ag [AV.mapr 0,AV.mapr 1,AV.mapr 2,AV.mapr 3,AV.mapr 4]],es:=5,ver:=0,frozen:=false,clean:=false },{ elems:=[ag [vi (s.getD i.toNat default).n,AV.vec (s.getD i.toNat default).2 3 (List.map Bk.a (s.getD i.toNat default).3)]],es:=2,ver:=0,frozen:=false,clean:=false }]) Q)) /\
  (¬(i < n) -> Q (tu [AV.ptr 5 0 0 0,vi 0]) [{ elems:=sm,es:=2,ver:=0,frozen:=false,clean:=true },{ elems:=st,es:=2,ver:=0,frozen:=false,clean:=true },{ elems:=dp,es:=2,ver:=0,frozen:=false,clean:=true },{ elems:=sz,es:=2,ver:=0,frozen:=false,clean:=true },{ elems:=[],es:=2,ver:=0,frozen:=false,clean:=true },{ elems:=[ag [AV.mapr 0,AV.mapr 1,AV.mapr 2,AV.mapr 3,AV.mapr 4]],es:=5,ver:=0,frozen:=false,clean:=false }])) :
 tvNg_at h s sm st dp sz n i Q:=by
 unfold tvNg_at
 rcases xm (i < n) with d2 | d2
 ·have H:=H.1 d2
  obtain ⟨k4,H⟩:=H
  have w5:(List.map Sb.a s).length = s.length:=List.length_map ..
  have i6:(decide (i.toNat < (List.map Sb.a s).length)) = true ↔ (i.toNat < s.length):=(by (try rw [w5]);all_goals exact i_dec)
  obtain ⟨k7,H⟩:=H
  obtain ⟨k8,H⟩:=H
  refine path_wp (G:=given kp71 [(30,1,.elem (ag [vi (s.getD i.toNat default).n,AV.vec (s.getD i.toNat default).2 3 (List.map Bk.a (s.getD i.toNat default).3)])),(31,3,(.call (.bool r) (some [⟨[.agg [.mapr 1,.mapr 2,.mapr 3,.mapr 4,.mapr 5]],5,0,false,false⟩,⟨sm,2,0,false,true⟩,⟨st1,2,0,false,true⟩,⟨dp1,2,0,false,true⟩,⟨sz1,2,0,false,true⟩,⟨[],2,0,false,true⟩]):Ans))] []) 11 [true] ⟨(atC (cd Try.f71) [1,1,1,1,1,1,1,1,0,1,0,0,1,1,0,0,1,1]),[(4,AV.ptr 5 0 0 0),(97,AV.vec h 2 (List.map Sb.a s)),(98,vi n),(99,vi i),(107,vb !r)],[⟨sm,2,0,false,true⟩,⟨st1,2,0,false,true⟩,⟨dp1,2,0,false,true⟩,⟨sz1,2,0,false,true⟩,⟨[],2,0,false,true⟩,⟨[zTpJ4],5,0,false,false⟩,⟨[ag [vi (s.getD i.toNat default).n,AV.vec (s.getD i.toNat default).2 3 (List.map Bk.a (s.getD i.toNat default).3)]],2,0,false,false⟩],_,[((List.map Sb.a s).get?Internal i.toNat = some (ag [vi (s.getD i.toNat default).n,AV.vec (s.getD i.toNat default).2 3 (List.map Bk.a (s.getD i.toNat default).3)]))],[⟨true,true,84,[AV.ptr 0 0 0 0,vi (s.getD i.toNat default).n],[⟨[ag [AV.mapr 1,AV.mapr 2,AV.mapr 3,AV.mapr 4,AV.mapr 5]],5,0,false,false⟩,⟨sm,2,0,false,true⟩,⟨st,2,0,false,true⟩,⟨dp,2,0,false,true⟩,⟨sz,2,0,false,true⟩,⟨[],2,0,false,true⟩],vb r,[⟨[ag [AV.mapr 1,AV.mapr 2,AV.mapr 3,AV.mapr 4,AV.mapr 5]],5,0,false,false⟩,⟨sm,2,0,false,true⟩,⟨st1,2,0,false,true⟩,⟨dp1,2,0,false,true⟩,⟨sz1,2,0,false,true⟩,⟨[],2,0,false,true⟩]⟩]⟩ (by kernel_rfl) (bc (beq_t (i_dec.2 d2)) (bc (i_dec.2 k4) (bc (i6.2 k7) (bc rfl (bc rfl b0))))) (qc (el_map k7) q0) (cc (fun _ => k8) c0) ?_
  rcases xm (¬(r = true)) with d10 | d10
  ·have H:=H.1 d10
   exact path_ret (G:=given kp71 [] []) 1000 [true] (k:=((atC (cd Try.f71) [1,1,1,1,1,1,1,1,0,1,0,0,1,1,0,0,1,1,0,1])).tail) (env':=[(2,AV.nilp),(3,vi 12)]) (L':=[⟨sm,2,0,false,true⟩,⟨st1,2,0,false,true⟩,⟨dp1,2,0,false,true⟩,⟨sz1,2,0,false,true⟩,⟨[],2,0,false,true⟩,⟨[zTpJ4],5,0,false,false⟩,⟨[ag [vi (s.getD i.toNat default).n,AV.vec (s.getD i.toNat default).2 3 (List.map Bk.a (s.getD i.toNat default).3)]],2,0,false,false⟩]) (asm:=[(!r) == true]) (eqs:=[]) (calls:=[]) (tu [AV.nilp,vi 12]) (by kernel_rfl) (by kernel_rfl) (allB_cons (beq_t ((i_not (i_var _)).2 d10)) allB_nil) allP_nil allC_nil H
  ·have H:=H.2 d10
   obtain ⟨k11,H⟩:=H
   have w12:wi (i + 1) = i + 1:=wI64 k11
   exact path_wp (G:=given kp71 [] []) 1000 [false] ⟨(atC (cd Try.f71) [1,1,1,1,1,1,1,1,0,1,0,0]),[(4,AV.ptr 5 0 0 0),(97,AV.vec h 2 (List.map Sb.a s)),(98,vi n),(99,vi (wi (i + 1)))],[⟨sm,2,0,false,true⟩,⟨st1,2,0,false,true⟩,⟨dp1,2,0,false,true⟩,⟨sz1,2,0,false,true⟩,⟨[],2,0,false,true⟩,⟨[zTpJ4],5,0,false,false⟩,⟨[ag [vi (s.getD i.toNat default).n,AV.vec (s.getD i.toNat default).2 3 (List.map Bk.a (s.getD i.toNat default).3)]],2,0,false,false⟩],[(!r) == false],[],_⟩ (by kernel_rfl) (bc (beq_f (fun h => d10 ((i_not (i_var _)).1 h))) b0) q0 c0 (by (try rw [w12]);all_goals exact H)
 ·have H:=H.2 d2
  exact path_ret (G:=given kp71 [] []) 1000 [false] (k:=((atC (cd Try.f71) [1,1,1,1,1,1,1,1,1,1])).tail) (env':=[(2,AV.ptr 5 0 0 0),(3,vi 0)]) (L':=[⟨sm,2,0,false,true⟩,⟨st,2,0,false,true⟩,⟨dp,2,0,false,true⟩,⟨sz,2,0,false,true⟩,⟨[],2,0,false,true⟩,⟨[zTpJ4],5,0,false,false⟩]) (asm:=[(decide (i < n)) == false]) (eqs:=[]) (calls:=[]) (tu [AV.ptr 5 0 0 0,vi 0]) (by kernel_rfl) (by kernel_rfl) (allB_cons (beq_f (fun h => d2 (i_dec.1 h))) allB_nil) allP_nil allC_nil H
end Go.Av

namespace Go.Av
open Go.RowKit
def FrsQ (d:AV) (K:Heap):AV -> Heap -> Prop:=fun v L => ∃ ns rows,getRows L ns = some rows /\ ns.Nodup /\ (∀ r ∈ rowsA v,r ∈ ns) /\ (∀ row ∈ rows,∀ r ∈ rowRefs row,r ∈ ns) /\ renA (posOf ns) v = d /\ rows.map (renRow (posOf ns)) = K
theorem frs_sound {M:Mach} {f:FuncId} {args:List AV} {d:AV} {K:Heap} (ih:OwnQ M f args [] (FrsQ d K)):OwnQ M f args [] (isR d K):=by
 intro S cargs h1 h2 h3
 have hrows:getRows S.L [] = some []:=rfl
 have hcl:∀ row ∈ ([]:List Row),∀ r ∈ rowRefs row,r ∈ ([]:List Nat):=fun row hr => by cases hr
 obtain ⟨hSc,_,hrelc⟩:=sub_ok h1 hrows List.nodup_nil hcl
 have hno:∀ {a v},Rel S a v -> rowsA a = []:=fun {a v} h => by
  cases hr:rowsA a with
  | nil => rfl
  | cons r l => have:=rel_in h r (by rw [hr];exact List.mem_cons_self ..);rw [h2] at this;simp at this
 have hrel':RelL ⟨S.base,accOf S [],[],subβ S.β [],S.w⟩ args cargs:=by
  refine ⟨h3.1,fun i c cv hc hcv => ?_⟩
  have hri:=hno (h3.2 i c cv hc hcv)
  have:=hrelc c cv (h3.2 i c cv hc hcv) fun r hr => by rw [hri] at hr;cases hr
  rwa [renA_self fun r hr => by rw [hri] at hr;cases hr] at this
 obtain ⟨m1,m2⟩:=ih ⟨S.base,accOf S [],[],subβ S.β [],S.w⟩ cargs hSc rfl hrel'
 refine ⟨m1,Calls.mono m2 fun e w' he => ?_⟩
 cases e with
 | panicked c => exact he.elim
 | outgrown => exact he.elim
 | returned cv =>
  obtain ⟨v',L1,β1,⟨ns,rows,hn,hnd,hv,hr,hd,hK⟩,n1,n2,n3⟩:=he
  obtain ⟨k1,k2,k3⟩:=back_ok (S1:=⟨S.base,accOf S [],L1,β1,w'⟩) (ns:=ns) (new:=rows) (old:=[]) h1 hrows List.nodup_nil hcl n1 n2 hnd (by simp) rfl hn
   (fun r hr1 q hq => by simp only [List.nil_append] at hr1;exact .inr (hr r hr1 q hq))
  have hb:∀ r,backOf S.L.length [] ns r = posOf ns r:=fun r => by rw [back_ge (by simp),h2];simp
  have hLL:backL S.L [] ns [] rows = K:=by
   rw [<- hK]
   unfold backL
   rw [h2]
   simp only [List.map_nil,putAt,List.nil_append]
   refine List.map_congr_left fun row _ => ?_
   unfold renRow
   cases row.clean with
   | true => rfl
   | false => simp only [cond_false];rw [renL_ext (g:=posOf ns) row.elems fun r _ => by have:=hb r;rw [h2] at this;exact this]
  have k3':=k3 v' cv n3 fun r hr1 => .inr (hv r hr1)
  rw [renA_ext (g:=posOf ns) v' fun r _ => hb r,hd] at k3'
  rw [hLL] at k1 k2 k3'
  exact ⟨d,K,_,⟨rfl,rfl⟩,k1,k2,k3'⟩
theorem own_frs {M:Mach} (hm:(M.P ()).follows .mixedOrders = true) {f:FuncId} {args:List AV} {d:AV} {K:Heap} (h:Wp M (.own f args []) (FrsQ d K)):Ev M (.own f args []) d K:=
 .sem (frs_sound (wp_sound hm (c:=.own f args []) h))
theorem getRows_map {L K:Heap} {f:Nat -> Nat} (hb:∀ (r:Nat) row,L[r]? = some row -> K[f r]? = some (renRow f row)):∀ {ns:List Nat} {rows:List Row},getRows L ns = some rows -> getRows K (ns.map f) = some (rows.map (renRow f))
 | [],rows,h => by simp only [getRows,Option.some.injEq] at h;subst h;rfl
 | r :: ns,rows,h => by
  simp only [getRows] at h
  split at h
  ·rename_i row l h1 h2
   simp only [Option.some.injEq] at h;subst h
   rw [List.map_cons,getRows,hb _ _ h1,getRows_map hb h2];rfl
  ·simp at h
theorem posOf_map {f:Nat -> Nat}:∀ {ns:List Nat} {r:Nat},(∀ a ∈ ns,f a = f r -> a = r) -> posOf (ns.map f) (f r) = posOf ns r
 | [],_,_ => rfl
 | x :: l,r,h => by
  rw [List.map_cons]
  simp only [posOf]
  by_cases e:x = r
  ·subst e;simp
  ·have e1:(x == r) = false:=by simpa using e
   have e2:(f x == f r) = false:=by
    have:f x ≠ f r:=fun y => e (h x (by simp) y)
    simpa using this
   rw [e1,e2,cond_false,cond_false,posOf_map fun a ha => h a (List.mem_cons_of_mem _ ha)]
theorem renRow_renRow (f g:Nat -> Nat) (row:Row):renRow g (renRow f row) = renRow (fun r => g (f r)) row:=by
 unfold renRow
 cases h:row.clean with
 | true => simp [h]
 | false => simp only [cond_false];rw [renL_renL]
theorem renRow_ext' {f g:Nat -> Nat} {row:Row} (h:∀ r ∈ rowRefs row,f r = g r):renRow f row = renRow g row:=by
 unfold renRow rowRefs at *
 cases hc:row.clean with
 | true => rfl
 | false => rw [hc,cond_false] at h;simp only [cond_false];rw [renL_ext row.elems h]
theorem wp_narrowF {M:Mach} {fi:Fi} {k:List Item} {env env':Vars} {L Lc:Heap} {d:AV} {K:Heap} (rs:List Nat) (hn:narrowIn L rs env = some (env',Lc)) (h:Wp M (.run fi k env' Lc) (FrsQ d K)):Wp M (.run fi k env L) (FrsQ d K):=by
 refine .narrow rs env' Lc hn (.mono h fun v L1 ⟨ns,rows,q1,q2,q3,q4,q5,q6⟩ => ?_)
 unfold narrowIn at hn
 split at hn
 ·rename_i rows0 hrows
  split at hn
  ·rename_i hc
   simp only [Bool.and_eq_true] at hc
   have hnd:=(noDup_iff rs).1 hc.1
   obtain ⟨g1,g2⟩:=getRows_spec hrows
   have hlt:∀ (j:Nat) r,rs[j]? = some r -> r < L.length:=fun j r hj => by
    obtain ⟨row,k1,_⟩:=g2 j r hj
    exact (List.getElem?_eq_some_iff.1 k1).1
   have hinj:∀ a b,backAt L.length rs a = backAt L.length rs b -> a = b:=fun a b hab => by
    have e1:∀ r,r < rs.length -> backAt L.length rs r = rs.getD r 0 /\ rs[r]? = some (rs.getD r 0):=fun r hr => by
     refine ⟨?_,by rw [List.getD_eq_getElem?_getD,List.getElem?_eq_getElem hr];rfl⟩
     unfold backAt;rw [Nat.blt_eq.mpr hr];rfl
    have e2:∀ r,¬r < rs.length -> backAt L.length rs r = L.length + (r - rs.length):=fun r hr => by
     have:Nat.blt r rs.length = false:=by
      cases hb:Nat.blt r rs.length with
      | false => rfl
      | true => exact (hr (Nat.blt_eq.mp hb)).elim
     unfold backAt;rw [this];rfl
    by_cases ha:a < rs.length <;> by_cases hb:b < rs.length
    ·obtain ⟨a1,a2⟩:=e1 a ha
     obtain ⟨b1,b2⟩:=e1 b hb
     rw [a1,b1] at hab
     rw [<- posOf_at hnd a2,<- posOf_at hnd b2,hab]
    ·obtain ⟨a1,a2⟩:=e1 a ha
     have:=hlt _ _ a2
     rw [a1,e2 b hb] at hab;omega
    ·obtain ⟨b1,b2⟩:=e1 b hb
     have:=hlt _ _ b2
     rw [b1,e2 a ha] at hab;omega
    ·rw [e2 a ha,e2 b hb] at hab;omega
   have hpos:∀ r,posOf (ns.map (backAt L.length rs)) (backAt L.length rs r) = posOf ns r:=fun r => posOf_map fun a _ h => hinj _ _ h
   refine ⟨ns.map (backAt L.length rs),rows.map (renRow (backAt L.length rs)),getRows_map (fun r row h => back_at hrows hnd r row h) q1,?_,fun r hr => ?_,fun row hr r hrr => ?_,?_,?_⟩
   ·refine (List.pairwise_map).2 (q2.imp fun hab h => hab (hinj _ _ h))
   ·rw [rowsA_ren] at hr
    obtain ⟨a,ha,rfl⟩:=List.mem_map.1 hr
    exact List.mem_map_of_mem (q3 a ha)
   ·obtain ⟨row0,h0,rfl⟩:=List.mem_map.1 hr
    rw [refs_ren] at hrr
    obtain ⟨a,ha,rfl⟩:=List.mem_map.1 hrr
    exact List.mem_map_of_mem (q4 row0 h0 a ha)
   ·rw [renA_renA,<- q5]
    exact renA_ext v fun r _ => hpos r
   ·rw [List.map_map,<- q6]
    refine List.map_congr_left fun row _ => ?_
    rw [Function.comp,renRow_renRow]
    exact renRow_ext' fun r _ => hpos r
  ·simp at hn
 ·simp at hn
theorem frs_end {v:AV} {L:Heap} {d:AV} {K:Heap} (ns:List Nat) (h:(match getRows L ns with
  | some rows => noDup ns && ((rowsA v).all ns.contains && rows.all fun row => (rowRefs row).all ns.contains)
  | none => false) = true) (hd:renA (posOf ns) v = d) (hK:(match getRows L ns with
  | some rows => rows.map (renRow (posOf ns))
  | none => []) = K):FrsQ d K v L:=by
 split at h
 ·rename_i rows hr
  simp only [Bool.and_eq_true,List.all_eq_true,List.contains_iff_mem] at h
  rw [hr] at hK
  exact ⟨ns,rows,hr,(noDup_iff ns).1 h.1,h.2.1,h.2.2,hd,hK⟩
 ·cases h
end Go.Av

namespace Go.Av
open Go.Proofs
theorem valM_put {n:Int} {v:AV}:∀ {ms:List AV},mapKeys .i64 ms = true -> mapKeys .i64 (mapPut .i64 n v ms) = true /\ (∀ c,mapHas c (mapPut .i64 n v ms) = (decide (c = n) || mapHas c ms)) /\ ∀ z c,mapVal z c (mapPut .i64 n v ms) = if c = n then v else mapVal z c ms
 | [],_ => ⟨by simp [mapPut,mapKeys],fun c => by
   simp only [mapPut,mapHas]
   by_cases h:c = n
   ·subst h;simp
   ·rw [show (c == n) = false by simpa using h,decide_eq_false h];rfl,fun z c => by
   simp only [mapPut,mapVal]
   by_cases h:c = n
   ·subst h;simp
   ·rw [if_neg h,show (c == n) = false by simpa using h];rfl⟩
 | y :: l,h1 => by
  unfold mapKeys at h1
  split at h1
  ·rename_i e;cases e
  ·rename_i j m u l' e
   simp only [List.cons.injEq] at e
   obtain ⟨rfl,rfl⟩:=e
   simp only [Bool.and_eq_true,decide_eq_true_eq] at h1
   obtain ⟨rfl,h1⟩:=h1
   simp only [mapPut]
   by_cases hn:n = m
   ·subst hn
    simp only [beq_self_eq_true,cond_true]
    refine ⟨by simp [mapKeys,h1],fun c => ?_,fun z c => ?_⟩
    ·simp only [mapHas]
     by_cases h:c = n
     ·subst h;simp
     ·rw [show (c == n) = false by simpa using h,decide_eq_false h];rfl
    ·simp only [mapVal]
     by_cases h:c = n
     ·subst h;simp
     ·rw [if_neg h,show (c == n) = false by simpa using h];rfl
   ·have e:(n == m) = false:=by simpa using hn
    rw [e,cond_false]
    obtain ⟨q1,q2,q3⟩:=valM_put (n:=n) (v:=v) h1
    refine ⟨by simp [mapKeys,q1],fun c => ?_,fun z c => ?_⟩
    ·simp only [mapHas]
     by_cases h:c = m
     ·subst h
      have:(c == c) = true:=by simp
      rw [this,cond_true,cond_true,Bool.or_true]
     ·have:(c == m) = false:=by simpa using h
      rw [this,cond_false,cond_false,q2]
    ·simp only [mapVal]
     by_cases h:c = m
     ·subst h
      have:(c == c) = true:=by simp
      rw [this,cond_true,cond_true,if_neg (fun e => hn e.symm)]
     ·have:(c == m) = false:=by simpa using h
      rw [this,cond_false,cond_false,q3]
  ·cases h1
namespace Sp
def putS (m:List AV) (x:Sb):List AV:=mapPut .i64 x.n (.vec x.f 3 (x.bl.map Bk.a)) m
def smOf (s:List Sb):List AV:=s.foldl putS []
def bodS (n:Int) (a:List Bk) (x:Sb):List Bk:=if x.n = n then x.bl else a
def bod (s:List Sb) (n:Int):List Bk:=s.foldl (bodS n) []
def nums (s:List Sb):List Int:=s.map fun x => x.n
def xe (l:List Bk) (s:List Sb):Int:=
 if ¬prpB l s = true then 1 else if (blks l s).any badB = true then 1 else if (blks l s).any (lostB s) = true then 4 else if (s.all fun x => (V (bod s) s.length x.n).isSome) = true then 0 else 12
end Sp
theorem pair_of {s:List Sb} (h:Sp.repB s = false):s.Pairwise fun x y => x.n ≠ y.n:=by
 rw [List.pairwise_iff_getElem]
 intro i j hi hj hij e
 unfold Sp.repB at h
 rw [List.any_eq_false] at h
 refine h j (by rw [List.mem_range'_1];omega) ?_
 unfold Sp.anyP
 rw [List.any_eq_true]
 refine ⟨s[i],?_,?_⟩
 ·rw [List.mem_take_iff_getElem]
  exact ⟨i,by omega,rfl⟩
 ·unfold Sp.sIs
  rw [List.getD_eq_getElem?_getD,List.getElem?_eq_getElem hj]
  exact decide_eq_true e.symm
theorem smOf_spec:∀ (s:List Sb) (ms:List AV),mapKeys .i64 ms = true -> mapKeys .i64 (s.foldl Sp.putS ms) = true /\ (∀ c,mapHas c (s.foldl Sp.putS ms) = (Sp.anyP (Sp.isN c) s || mapHas c ms)) /\
  (∀ z c,(∀ x ∈ s,x.n ≠ c) -> mapVal z c (s.foldl Sp.putS ms) = mapVal z c ms) /\ ((s.Pairwise fun x y => x.n ≠ y.n) -> ∀ z,∀ x ∈ s,mapVal z x.n (s.foldl Sp.putS ms) = .vec x.f 3 (x.bl.map Bk.a))
 | [],ms,h => ⟨h,fun _ => rfl,fun _ _ _ => rfl,fun _ _ x hx => by cases hx⟩
 | y :: s,ms,h => by
  obtain ⟨a1,a2,a3⟩:=valM_put (n:=y.n) (v:=.vec y.f 3 (y.bl.map Bk.a)) h
  obtain ⟨b1,b2,b3,b4⟩:=smOf_spec s (Sp.putS ms y) a1
  rw [List.foldl_cons]
  refine ⟨b1,fun c => ?_,fun z c hc => ?_,fun hp z x hx => ?_⟩
  ·rw [b2,Sp.putS,a2]
   unfold Sp.anyP
   rw [List.any_cons,<- Bool.or_assoc,Bool.or_comm (s.any _)]
   unfold Sp.isN
   rw [show decide (c = y.n) = decide (y.n = c) from by rw [Bool.eq_iff_iff];simp [eq_comm]]
  ·rw [b3 z c fun x hx => hc x (List.mem_cons_of_mem _ hx),Sp.putS,a3,if_neg fun e => hc y (by simp) e.symm]
  ·rw [List.pairwise_cons] at hp
   rcases List.mem_cons.1 hx with rfl | hx
   ·rw [b3 z x.n fun w hw e => hp.1 w hw e.symm,Sp.putS,a3,if_pos rfl]
   ·exact b4 hp.2 z x hx
theorem bod_spec:∀ (s:List Sb) (n:Int) (a:List Bk),((∀ x ∈ s,x.n ≠ n) -> s.foldl (Sp.bodS n) a = a) /\ ((s.Pairwise fun x y => x.n ≠ y.n) -> ∀ x ∈ s,x.n = n -> s.foldl (Sp.bodS n) a = x.bl)
 | [],_,_ => ⟨fun _ => rfl,fun _ x hx => by cases hx⟩
 | y :: s,n,a => by
  obtain ⟨b1,b2⟩:=bod_spec s n (Sp.bodS n a y)
  rw [List.foldl_cons]
  refine ⟨fun h => ?_,fun hp x hx e => ?_⟩
  ·rw [b1 fun x hx => h x (List.mem_cons_of_mem _ hx),Sp.bodS,if_neg (h y (by simp))]
  ·rw [List.pairwise_cons] at hp
   rcases List.mem_cons.1 hx with rfl | hx
   ·rw [b1 fun w hw e2 => hp.1 w hw (e.trans e2.symm),Sp.bodS,if_pos e]
   ·exact b2 hp.2 x hx e
theorem bod_at {s:List Sb} (h:Sp.repB s = false) {x:Sb} (hx:x ∈ s):Sp.bod s x.n = x.bl:=(bod_spec s x.n []).2 (pair_of h) x hx rfl
theorem nums_of {s:List Sb} {n:Int}:0 <= Sp.fnd s n ↔ n ∈ Sp.nums s:=by
 have:=fnd_any s n
 unfold Sp.nums
 rw [List.mem_map]
 constructor
 ·intro h
  rw [decide_eq_true h] at this
  unfold Sp.anyP at this
  obtain ⟨x,hx,e⟩:=List.any_eq_true.1 this.symm
  exact ⟨x,hx,of_decide_eq_true e⟩
 ·rintro ⟨x,hx,e⟩
  have h:Sp.anyP (Sp.isN n) s = true:=List.any_eq_true.2 ⟨x,hx,decide_eq_true e⟩
  rw [h] at this
  exact of_decide_eq_true this
theorem sub_all {l:List Bk} {s:List Sb} (hs:s.length <= 1000) (ho:Sp.okSs s) (hr:Sp.repB s = false) (hl:(Sp.blks l s).any (Sp.lostB s) = false):MSub (Sp.bod s) (Sp.nums s) (Sp.smOf s):=by
 rw [blks_any,Bool.or_eq_false_iff] at hl
 obtain ⟨c1,c2,c3,c4⟩:=smOf_spec s [] rfl
 refine ⟨c1,by unfold Sp.nums;rw [List.length_map];omega,fun n hn b hb k => ?_,fun n hn => ?_⟩
 ·obtain ⟨x,hx,rfl⟩:=List.mem_map.1 hn
  rw [bod_at hr hx] at hb
  have:=hl.2
  rw [List.any_eq_false] at this
  exact nums_of.1 (found_of (Bool.eq_false_iff.2 (this x hx)) b hb k)
 ·obtain ⟨x,hx,rfl⟩:=List.mem_map.1 hn
  rw [bod_at hr hx]
  exact ⟨ho.2 x hx,x.f,c4 (pair_of hr) _ x hx⟩
theorem newx_D {h:Bool} {s:List Sb} (hm:MSub (Sp.bod s) (Sp.nums s) (Sp.smOf s)) (hs:s.length <= 1000):∀ (c i:Nat) (st dp sz:List AV),i + c = s.length -> MInv (Sp.bod s) st dp sz -> (∀ m,mapI m st = 0 \/ mapI m st = 1 \/ mapI m st = 2) -> (∀ m,mapI m st ≠ 1) -> (∀ x ∈ s.take i,mapI x.n st = 2) ->
  (((∃ x ∈ s,∀ k,(Sp.V (Sp.bod s) k x.n).isSome = false) /\ tvNg_at h s (Sp.smOf s) st dp sz s.length i (FrsQ (.tup [.nilp,.int .i64 12]) [])) \/
   ∃ st' dp' sz',tvNg_at h s (Sp.smOf s) st dp sz s.length i (FrsQ (.tup [.ptr 0 0 0 0,.int .i64 0]) (XH (Sp.smOf s) st' dp' sz' [])) /\ MInv (Sp.bod s) st' dp' sz' /\ ∀ x ∈ s,mapI x.n st' = 2):=by
 intro c
 induction c with
 | zero =>
  intro i st dp sz hi hI h3 hg hp
  rw [List.take_of_length_le (by omega)] at hp
  refine .inr ⟨st,dp,sz,?_,hI,hp⟩
  exact tvNg _ _ _ _ _ _ _ _ true [] [] [] _ ⟨fun h => by omega,fun _ => frs_end [5,0,1,2,3,4] (by kernel_rfl) rfl rfl⟩
 | succ c ih =>
  intro i st dp sz hi hI h3 hg hp
  have hx:s.getD i default ∈ s:=getD_mem (by omega)
  have hn:(s.getD i default).n ∈ Sp.nums s:=List.mem_map_of_mem hx
  obtain ⟨r,st1,dp1,sz1,a1,a2,a3,a4,a5⟩:=measure_ev (dn:=[]) hm (Sp.nums s).length st dp sz _ hI h3 hn List.countP_le_length
  cases r with
  | false =>
   refine .inl ⟨⟨_,hx,fun k => ?_⟩,?_⟩
   ·cases e:(Sp.V (Sp.bod s) k (s.getD i default).n).isSome with
    | false => rfl
    | true => obtain ⟨m,m1,_⟩:=a5 rfl k e;exact (hg m m1).elim
   ·refine tvNg _ _ _ _ _ _ _ _ false st1 dp1 sz1 _ ⟨fun _ => ?_,fun h => by omega⟩
    rw [Int.toNat_natCast]
    exact ⟨by omega,by omega,a1,fun _ => frs_end [] (by kernel_rfl) rfl rfl,fun y => (y (by simp)).elim⟩
  | true =>
   obtain ⟨b1,b2,b3⟩:=a4 rfl
   have hI':=ih (i + 1) st1 dp1 sz1 (by omega) a2 a3 (fun m e => hg m (b3 m e)) (fun x hx' => by
    rw [List.take_succ_eq_append_getElem (show i < s.length by omega)] at hx'
    rcases List.mem_append.1 hx' with hx' | hx'
    ·have:=hp x hx'
     rw [b2 _ (by omega)];exact this
    ·rw [List.mem_singleton] at hx'
     rw [List.getD_eq_getElem?_getD,List.getElem?_eq_getElem (show i < s.length by omega)] at b1
     rw [hx'];exact b1)
   have step:∀ {d K},tvNg_at h s (Sp.smOf s) st1 dp1 sz1 s.length ((i + 1:Nat):Int) (FrsQ d K) -> tvNg_at h s (Sp.smOf s) st dp sz s.length i (FrsQ d K):=fun {d K} H => by
    refine tvNg _ _ _ _ _ _ _ _ true st1 dp1 sz1 _ ⟨fun _ => ?_,fun h => by omega⟩
    rw [Int.toNat_natCast]
    exact ⟨by omega,by omega,a1,fun y => (y rfl).elim,fun _ => ⟨by omega,wp_narrowF [0,1,2,3,4,5] (by kernel_rfl) H⟩⟩
   rcases hI' with ⟨e1,e2⟩ | ⟨st',dp',sz',e1,e2⟩
   ·exact .inl ⟨e1,step e2⟩
   ·exact .inr ⟨st',dp',sz',step e1,e2⟩
end Go.Av

namespace Go.Av
open Go.Proofs
namespace Sp
def calls (o:List Bk):List Int:=(o.filter fun b => cIs b.ws).map fun b => cN b.ws
def noHas (sm:List AV) (n:Int):Bool:=!mapHas n sm
end Sp
def AftC (h:Bool) (s:List Sb) (sm:List AV) (d:AV) (K:Heap) (q:List Int):Prop:=
 (q.any (Sp.noHas sm) = true -> d = .tup [.nilp,.int .i64 4] /\ K = []) /\ (q.any (Sp.noHas sm) = false -> tvNg_at h s sm [] [] [] s.length 0 (FrsQ d K))
def AftB (h:Bool) (s:List Sb) (sm:List AV) (d:AV) (K:Heap) (o:List Bk) (q:List Int):Prop:=
 (o.any Sp.badB = true -> d = .tup [.nilp,.int .i64 1] /\ K = []) /\ (o.any Sp.badB = false -> AftC h s sm d K (q ++ Sp.calls o))
theorem tvNf_loop {g h:Bool} {l:List Bk} {s:List Sb} {sm:List AV} {d:AV} {K:Heap} {q:List Int} {v:Nat} (hk:mapKeys .i64 sm = true) (hql:q.length <= 1000000):∀ (c i:Nat),i + c = q.length -> AftC h s sm d K (q.drop i) -> tvNf_at g l h s sm q v q.length i (FrsQ d K):=by
 intro c
 induction c with
 | zero =>
  intro i hi hq
  rw [List.drop_eq_nil_of_le (by omega)] at hq
  exact tvNf _ _ _ _ _ _ _ _ _ _ ⟨fun h => by omega,fun _ => wp_narrowF [1,2,3,4,5,6] (by kernel_rfl) (hq.2 rfl)⟩
 | succ c ih =>
  intro i hi hq
  rw [drop_getD (show i < q.length by omega)] at hq
  refine tvNf _ _ _ _ _ _ _ _ _ _ ⟨fun _ => ?_,fun h => by omega⟩
  rw [Int.toNat_natCast]
  refine ⟨by omega,by omega,hk,fun y => ?_,fun y => ⟨by omega,ih (i + 1) (by omega) ⟨fun k => hq.1 ?_,fun k => hq.2 ?_⟩⟩⟩
  ·obtain ⟨e1,e2⟩:=hq.1 (by rw [List.any_cons,Sp.noHas,Bool.eq_false_iff.2 y];rfl)
   subst e1;subst e2
   exact frs_end [] (by kernel_rfl) rfl rfl
  ·rw [List.any_cons,k,Bool.or_true]
  ·rw [List.any_cons,k,Sp.noHas,Classical.not_not.1 y];rfl
theorem cE_01 (ws:List Wo):Sp.cE ws = 0 \/ Sp.cE ws = 1:=by unfold Sp.cE;split <;> simp
theorem aftB_step {h:Bool} {s:List Sb} {sm:List AV} {d:AV} {K:Heap} {x:Bk} {o:List Bk} {q:List Int} (hB:AftB h s sm d K (x :: o) q) :
  (¬Sp.cE x.ws = 0 -> d = .tup [.nilp,.int .i64 (Sp.cE x.ws)] /\ K = []) /\ (Sp.cE x.ws = 0 -> (Sp.cIs x.ws = true -> AftB h s sm d K o (q ++ [Sp.cN x.ws])) /\ (¬Sp.cIs x.ws = true -> AftB h s sm d K o q)):=by
 obtain ⟨h1,h2⟩:=hB
 rw [List.any_cons] at h1 h2
 refine ⟨fun y => ?_,fun y => ?_⟩
 ·have:=h1 (by unfold Sp.badB;rw [decide_eq_true y];rfl)
  rcases cE_01 x.ws with e | e
  ·exact (y e).elim
  ·rw [e];exact this
 ·have hb:Sp.badB x = false:=by unfold Sp.badB;rw [y];rfl
  rw [hb,Bool.false_or] at h1 h2
  refine ⟨fun k => ⟨h1,fun z => ?_⟩,fun k => ⟨h1,fun z => ?_⟩⟩
  ·have:=h2 z
   unfold Sp.calls at this ⊢
   rw [List.filter_cons_of_pos (by simpa using k),List.map_cons] at this
   rw [List.append_assoc];exact this
  ·have:=h2 z
   unfold Sp.calls at this ⊢
   rw [List.filter_cons_of_neg (by simpa using k)] at this
   exact this
theorem tvNd_loop {g h:Bool} {l:List Bk} {s:List Sb} {sm:List AV} {d:AV} {K:Heap} {o:List Bk} (hk:mapKeys .i64 sm = true) (ho:Sp.okBs o):∀ (c i:Nat) (q:List Int) (v:Nat),i + c = o.length -> q.length <= i -> AftB h s sm d K (o.drop i) q -> tvNd_at g l h s sm o q v o.length i (FrsQ d K):=by
 have hol:=ho.1
 intro c
 induction c with
 | zero =>
  intro i q v hi hql hq
  rw [List.drop_eq_nil_of_le (by omega)] at hq
  have:=hq.2 rfl
  rw [show Sp.calls [] = [] from rfl,List.append_nil] at this
  exact tvNd _ _ _ _ _ _ _ _ _ _ _ ⟨fun h => by omega,fun _ => tvNf_loop hk (by omega) q.length 0 (by omega) (by rw [List.drop_zero];exact this)⟩
 | succ c ih =>
  intro i q v hi hql hq
  have hw:=ho.2 _ (getD_mem (show i < o.length by omega))
  rw [drop_getD (show i < o.length by omega)] at hq
  obtain ⟨s1,s2⟩:=aftB_step hq
  refine tvNd _ _ _ _ _ _ _ _ _ _ _ ⟨fun _ => ?_,fun h => by omega⟩
  rw [Int.toNat_natCast]
  refine ⟨by omega,by omega,hw,fun y => ?_,fun y => ?_⟩
  ·obtain ⟨e1,e2⟩:=s1 y
   subst e1;subst e2
   exact frs_end [] (by kernel_rfl) rfl rfl
  ·obtain ⟨t1,t2⟩:=s2 (Classical.not_not.1 y)
   refine ⟨fun k => ⟨by omega,by omega,?_⟩,fun k => ⟨by omega,?_⟩⟩
   ·exact wp_narrowF [0,1,2,3,4,5,6,7] (by kernel_rfl) (ih (i + 1) _ (v + 1) (by omega) (by simp;omega) (t1 k))
   ·exact wp_narrowF [0,1,2,3,4,5,6,7] (by kernel_rfl) (ih (i + 1) _ v (by omega) (by omega) (t2 k))
theorem tvNc_loop {g h:Bool} {l:List Bk} {s:List Sb} {sm:List AV} {d:AV} {K:Heap} {o:List Bk} (hk:mapKeys .i64 sm = true) (ho:Sp.okBs o):∀ (c i:Nat),i + c = o.length -> AftB h s sm d K (o.drop i) [] -> tvNc_at g l h s sm o o.length i (FrsQ d K):=by
 have hol:=ho.1
 intro c
 induction c with
 | zero =>
  intro i hi hq
  rw [List.drop_eq_nil_of_le (by omega)] at hq
  have:=(hq.2 rfl).2 rfl
  exact tvNc _ _ _ _ _ _ _ _ _ ⟨fun h => by omega,fun _ => tvNe _ _ _ _ _ _ (wp_narrowF [1,2,3,4,5,6] (by kernel_rfl) this)⟩
 | succ c ih =>
  intro i hi hq
  have hw:=ho.2 _ (getD_mem (show i < o.length by omega))
  rw [drop_getD (show i < o.length by omega)] at hq
  obtain ⟨s1,s2⟩:=aftB_step hq
  refine tvNc _ _ _ _ _ _ _ _ _ ⟨fun _ => ?_,fun h => by omega⟩
  rw [Int.toNat_natCast]
  refine ⟨by omega,by omega,hw,fun y => ?_,fun y => ?_⟩
  ·obtain ⟨e1,e2⟩:=s1 y
   subst e1;subst e2
   exact frs_end [] (by kernel_rfl) rfl rfl
  ·obtain ⟨t1,t2⟩:=s2 (Classical.not_not.1 y)
   refine ⟨fun k => ⟨by omega,?_⟩,fun k => ⟨by omega,?_⟩⟩
   ·exact wp_narrowF [0,1,2,3,4,5,6,8] (by kernel_rfl) (tvNd_loop (g:=g) (l:=l) hk ho c (i + 1) [Sp.cN (o.getD i default).ws] 0 (by omega) (by simp) (t1 k))
   ·exact wp_narrowF [0,1,2,3,4,5,6] (by kernel_rfl) (ih (i + 1) (by omega) (t2 k))
def Sp.blS (s:List Sb):List Bl:=s.map fun x => ⟨x.f,x.bl⟩
theorem cat_blks (g:Bool) (l:List Bk) (s:List Sb):Sp.cat (⟨g,l⟩ :: Sp.blS s) = Sp.blks l s:=by
 unfold Sp.cat Sp.blS Sp.blks
 rw [List.flatMap_cons,List.flatMap_map]
theorem tvNb_loop {g h:Bool} {l:List Bk} {s:List Sb} {d:AV} {K:Heap} (hs:s.length <= 1000) (h0:0 < l.length) (ho:Sp.okBs (Sp.blks l s)) (hq:AftB h s (Sp.smOf s) d K (Sp.blks l s) []):∀ (c i:Nat) (v:Nat),i + c = s.length ->
  tvNb_at g l h s (Sp.smOf (s.take i)) (⟨g,l⟩ :: Sp.blS (s.take i)) v s.length i (FrsQ d K):=by
 intro c
 induction c with
 | zero =>
  intro i v hi
  rw [List.take_of_length_le (by omega)]
  refine tvNb _ _ _ _ _ _ _ _ _ _ ⟨fun h => by omega,fun _ => ⟨⟨h0,?_,?_⟩,?_⟩⟩
  ·rw [cat_blks];exact ho.1
  ·unfold Sp.blS;simp;omega
  ·rw [cat_blks]
   exact wp_narrowF [0,1,2,3,4,5,6] (by kernel_rfl) (tvNc_loop (g:=g) (l:=l) (smOf_spec s [] rfl).1 ho (Sp.blks l s).length 0 (by omega) (by rw [List.drop_zero];exact hq))
 | succ c ih =>
  intro i v hi
  have e:s.take (i + 1) = s.take i ++ [s.getD i default]:=by
   rw [List.take_succ_eq_append_getElem (show i < s.length by omega),List.getD_eq_getElem?_getD,List.getElem?_eq_getElem (show i < s.length by omega)];rfl
  have e1:Sp.smOf (s.take (i + 1)) = Sp.putS (Sp.smOf (s.take i)) (s.getD i default):=by
   rw [e];unfold Sp.smOf;rw [List.foldl_append];rfl
  have e2:(⟨g,l⟩ :: Sp.blS (s.take (i + 1)):List Bl) = (⟨g,l⟩ :: Sp.blS (s.take i)) ++ [⟨(s.getD i default).f,(s.getD i default).bl⟩]:=by
   rw [e];unfold Sp.blS;rw [List.map_append];rfl
  have hl:=ih (i + 1) (v + 1) (by omega)
  rw [e1,e2] at hl
  refine tvNb _ _ _ _ _ _ _ _ _ _ ⟨fun _ => ?_,fun h => by omega⟩
  rw [Int.toNat_natCast]
  refine ⟨by omega,by omega,(smOf_spec (s.take i) [] rfl).1,?_,by omega,?_⟩
  ·unfold Sp.blS;simp;omega
  ·exact wp_narrowF [0,1,2,3,4,5,6,7] (by kernel_rfl) hl
theorem tvNx_all {g h:Bool} {l:List Bk} {s:List Sb} {d:AV} {K:Heap} (hl:Sp.okBs l) (hss:Sp.okSs s) (hs:s.length <= 1000) (ho:Sp.okBs (Sp.blks l s)) (hp:¬Sp.prpB l s = true -> d = .tup [.nilp,.int .i64 1] /\ K = []) (hq:Sp.prpB l s = true -> AftB h s (Sp.smOf s) d K (Sp.blks l s) []):tvNx_at g l h s (FrsQ d K):=by
 refine tvNx _ _ _ _ _ ⟨⟨hl,hss⟩,fun y => ?_,fun y => ?_⟩
 ·obtain ⟨e1,e2⟩:=hp y
  subst e1;subst e2
  exact frs_end [] (by kernel_rfl) rfl rfl
 ·have y':=Classical.not_not.1 y
  have hq:=hq y'
  have h0:0 < l.length:=by
   refine Classical.byContradiction fun z => ?_
   unfold Sp.prpB Sp.ordB at y'
   rw [decide_eq_false z,Bool.false_and,Bool.false_and,Bool.and_false] at y'
   cases y'
  cases s with
  | nil =>
   refine tvNa _ _ _ _ _ _ _ _ ⟨fun z => by simp at z,fun _ => ⟨⟨false,Sp.blks l []⟩,?_,?_⟩⟩
   ·have:=ev20 true [⟨g,l⟩] ⟨h0,by
     have e:=cat_blks g l []
     rw [show Sp.blS [] = [] from rfl] at e
     rw [e];exact ho.1,by simp⟩
    have e:=cat_blks g l []
    rw [show Sp.blS [] = [] from rfl] at e
    rw [e] at this
    exact this
   ·exact wp_narrowF [0,1,2,3,4,5,6] (by kernel_rfl) (tvNc_loop (g:=g) (l:=l) (sm:=[]) rfl ho (Sp.blks l []).length 0 (by omega) (by rw [List.drop_zero];exact hq))
  | cons x s =>
   refine tvNa _ _ _ _ _ _ _ _ ⟨fun _ => ?_,fun z => by simp at z⟩
   refine ⟨by omega,by simp,rfl,by omega,?_⟩
   have:=tvNb_loop (g:=g) hs h0 ho hq s.length 1 0 (by simp;omega)
   exact wp_narrowF [0,1,2,3,4,5,6,8] (by kernel_rfl) this
end Go.Av

namespace Go.Av
open Go.Proofs
def Sp.okN (l:List Bk) (s:List Sb):Prop:=Sp.okBs l /\ Sp.okSs s /\ s.length <= 1000 /\ Sp.okBs (Sp.blks l s)
theorem newx_aft {h:Bool} {l:List Bk} {s:List Sb} {d:AV} {K:Heap} (hp:Sp.prpB l s = true)
  (h1:(Sp.blks l s).any Sp.badB = true -> d = .tup [.nilp,.int .i64 1] /\ K = [])
  (h2:(Sp.blks l s).any Sp.badB = false -> (Sp.blks l s).any (Sp.lostB s) = true -> d = .tup [.nilp,.int .i64 4] /\ K = [])
  (h3:(Sp.blks l s).any Sp.badB = false -> (Sp.blks l s).any (Sp.lostB s) = false -> tvNg_at h s (Sp.smOf s) [] [] [] s.length 0 (FrsQ d K)):AftB h s (Sp.smOf s) d K (Sp.blks l s) []:=by
 have e:(Sp.calls (Sp.blks l s)).any (Sp.noHas (Sp.smOf s)) = (Sp.blks l s).any (Sp.lostB s):=by
  unfold Sp.calls
  rw [List.any_map,List.any_filter]
  congr 1
  funext x
  unfold Sp.lostB Sp.noHas
  show (Sp.cIs x.ws && !mapHas (Sp.cN x.ws) (Sp.smOf s)) = _
  unfold Sp.smOf
  rw [(smOf_spec s [] rfl).2.1]
  rw [show mapHas (Sp.cN x.ws) [] = false from rfl,Bool.or_false,<- fnd_any]
  cases Sp.cIs x.ws with
  | false => rfl
  | true =>
   rw [Bool.true_and,Bool.true_and,<- decide_not]
   exact decide_eq_decide.2 (by omega)
 refine ⟨h1,fun y => ?_⟩
 rw [List.nil_append]
 unfold AftC
 rw [e]
 exact ⟨h2 y,h3 y⟩
theorem xe_ok {l:List Bk} {s:List Sb} (h:Sp.xe l s = 0):Sp.prpB l s = true /\ (Sp.blks l s).any Sp.badB = false /\ (Sp.blks l s).any (Sp.lostB s) = false /\ ∀ x ∈ s,(Sp.V (Sp.bod s) s.length x.n).isSome = true:=by
 unfold Sp.xe at h
 split at h
 ·omega
 rename_i a1
 split at h
 ·omega
 rename_i a2
 split at h
 ·omega
 rename_i a3
 split at h
 ·rename_i a4
  exact ⟨Classical.not_not.1 a1,Bool.eq_false_iff.2 a2,Bool.eq_false_iff.2 a3,fun x hx => List.all_eq_true.1 a4 x hx⟩
 ·omega
theorem prpB_rep {l:List Bk} {s:List Sb} (h:Sp.prpB l s = true):Sp.repB s = false:=by
 unfold Sp.prpB at h
 simp only [Bool.and_eq_true,Bool.not_eq_true'] at h
 exact h.2.2
theorem minv0 (S:Int -> List Bk):MInv S [] [] []:=⟨⟨⟨rfl,rfl⟩,⟨rfl,rfl⟩,⟨rfl,rfl⟩⟩,fun _ => ⟨Int.le_refl 0,by show (0:Int) <= 1000000;omega⟩,fun _ => ⟨Int.le_refl 0,by show (0:Int) <= 20001;omega⟩,fun n h => by cases h⟩
theorem newx_err {g h:Bool} {l:List Bk} {s:List Sb} (hok:Sp.okN l s) (he:Sp.xe l s ≠ 0):Ev M1 (.own 71 [.agg [bsA g l,.vec h 2 (s.map Sb.a)]] []) (.tup [.nilp,.int .i64 (Sp.xe l s)]) []:=by
 obtain ⟨hl,hss,hs,ho⟩:=hok
 refine own_frs hm1 (owncall71 (tvNx_all hl hss hs ho (fun y => ?_) fun y => newx_aft y (fun z => ?_) (fun z w => ?_) fun z w => ?_))
 ·unfold Sp.xe;rw [if_pos y];exact ⟨rfl,rfl⟩
 ·unfold Sp.xe;rw [if_neg (by simp [y]),if_pos z];exact ⟨rfl,rfl⟩
 ·unfold Sp.xe;rw [if_neg (by simp [y]),if_neg (by simp [z]),if_pos w];exact ⟨rfl,rfl⟩
 ·have e:Sp.xe l s = 12:=by
   unfold Sp.xe at he ⊢
   rw [if_neg (by simp [y]),if_neg (by simp [z]),if_neg (by simp [w])] at he ⊢
   split
   ·rename_i k;rw [if_pos k] at he;exact (he rfl).elim
   ·rfl
  have hm:=sub_all hs hss (prpB_rep y) w
  rcases newx_D (h:=h) hm hs s.length 0 [] [] [] (by omega) (minv0 _) (fun _ => .inl rfl) (fun _ h => by cases h) (fun x hx => by simp at hx) with ⟨_,e2⟩ | ⟨st,dp,sz,_,e2,e3⟩
  ·rw [e];exact e2
  ·unfold Sp.xe at e
   rw [if_neg (by simp [y]),if_neg (by simp [z]),if_neg (by simp [w])] at e
   split at e
   ·cases e
   ·rename_i k
    refine (k (List.all_eq_true.2 fun x hx => ?_)).elim
    obtain ⟨j,hj⟩:=e2.2.2.2 x.n (e3 x hx)
    have:=V_pig hm.2.2.1 (List.mem_map_of_mem hx) (by rw [hj];rfl:(Sp.V (Sp.bod s) j x.n).isSome = true)
    rw [Sp.nums,List.length_map] at this
    exact this
theorem newx_ok {g h:Bool} {l:List Bk} {s:List Sb} (hok:Sp.okN l s) (he:Sp.xe l s = 0):∃ st dp sz,Ev M1 (.own 71 [.agg [bsA g l,.vec h 2 (s.map Sb.a)]] []) (.tup [.ptr 0 0 0 0,.int .i64 0]) (XH (Sp.smOf s) st dp sz []) /\ MInv (Sp.bod s) st dp sz /\ ∀ x ∈ s,mapI x.n st = 2:=by
 obtain ⟨hl,hss,hs,ho⟩:=hok
 obtain ⟨a1,a2,a3,a4⟩:=xe_ok he
 have hm:=sub_all hs hss (prpB_rep a1) a3
 rcases newx_D (h:=h) hm hs s.length 0 [] [] [] (by omega) (minv0 _) (fun _ => .inl rfl) (fun _ h => by cases h) (fun x hx => by simp at hx) with ⟨⟨x,hx,e1⟩,_⟩ | ⟨st,dp,sz,e1,e2,e3⟩
 ·have:=a4 x hx
  rw [e1] at this;cases this
 ·refine ⟨st,dp,sz,?_,e2,e3⟩
  exact own_frs hm1 (owncall71 (tvNx_all hl hss hs ho (fun y => (y a1).elim) fun y => newx_aft y (fun z => by rw [a2] at z;cases z) (fun z w => by rw [a3] at w;cases w) fun z w => e1))
end Go.Av

namespace Go.Av
open Go.Proofs
set_option maxRecDepth 100000
def fi45:Fi:=⟨32,[.tmp 2,.tmp 3,.tmp 4]⟩
def kp45:List (Nat × List Nat):=[(0,[1]),(1,[1,5,6]),(2,[1,5,6,15]),(3,[2,3,4]),(4,[5,7,8]),(5,[5,8,29]),(6,[2,3,4]),(7,[2,3,4])]
def tvCdT_at (g:Bool) (l:List Bk) (h:Bool) (s:List Sb) (Q:AV -> Heap -> Prop):Prop:=Wp M1 (.run fi45 (atC (cd Try.f45) []) [(0,.agg [.vec g 3 (l.map Bk.a),.vec h 2 (s.map Sb.a)])] []) Q
def tvCdE_at (g:Bool) (l:List Bk) (h:Bool) (s:List Sb) (Q:AV -> Heap -> Prop):Prop:=Wp M1 (.run fi45 (atC (cd Try.f45) []) [(0,.agg [.vec g 3 (l.map Bk.a),.vec h 2 (s.map Sb.a)])] []) Q
theorem owncall45 {args:List AV} {L:Heap} {Q:AV -> Heap -> Prop} (h:Wp M1 (.run fi45 [.code (cd Try.f45)] (argVars 0 args) L) Q):Wp M1 (.own 45 args L) Q:=
 own_wp Try.f45 fi45 (by kernel_rfl) (by kernel_rfl) (by kernel_rfl) (by kernel_rfl) h
noncomputable abbrev zTpK1:=ag [AV.mapr 2,AV.mapr 3,AV.mapr 4,AV.mapr 5,AV.mapr 6]
noncomputable abbrev zTpK2:=ag [AV.mapr 1,AV.mapr 2,AV.mapr 3,AV.mapr 4,AV.mapr 5]
theorem tvCdT (g:Bool) (l:List Bk) (h:Bool) (s:List Sb) (sm st dp sz:List AV) (Q:AV -> Heap -> Prop) (H :
  (Ev M1 (Conf.own 71 [ag [AV.vec g 3 (List.map Bk.a l),AV.vec h 2 (List.map Sb.a s)]] []) (tu [AV.ptr 0 0 0 0,vi 0]) [{ elems:=[ag [AV.mapr 1,AV.mapr 2,AV.mapr 3,AV.mapr 4,AV.mapr 5]],es:=5,ver:=0,frozen:=false,clean:=false },{ elems:=sm,es:=2,ver:=0,frozen:=false,clean:=true },{ elems:=st,es:=2,ver:=0,frozen:=false,clean:=true },{ elems:=dp,es:=2,ver:=0,frozen:=false,clean:=true },{ elems:=sz,es:=2,ver:=0,frozen:=false,clean:=true },{ elems:=[],es:=2,ver:=0,frozen:=false,clean:=true }]) /\
  (Sp.okBs l /\ IntM dp /\ IntM sz /\ (∀ (n:Int),0 <= mapI n dp /\ mapI n dp <= 1000000) /\ ∀ (n:Int),0 <= mapI n sz /\ mapI n sz <= 20001) /\
  ((((Sp.sumP (fun n => mapI n dp) (fun n => mapI n sz) l 0 0).fst > 8) \/ ((Sp.sumP (fun n => mapI n dp) (fun n => mapI n sz) l 0 0).snd > 20000)) -> Q (tu [AV.nilp,vi 0,vi 3]) [{ elems:=[ag [AV.vec g 3 (List.map Bk.a l),AV.vec h 2 (List.map Sb.a s)]],es:=2,ver:=0,frozen:=false,clean:=false },{ elems:=[ag [AV.mapr 2,AV.mapr 3,AV.mapr 4,AV.mapr 5,AV.mapr 6]],es:=5,ver:=0,frozen:=false,clean:=false },{ elems:=sm,es:=2,ver:=0,frozen:=false,clean:=true },{ elems:=st,es:=2,ver:=0,frozen:=false,clean:=true },{ elems:=dp,es:=2,ver:=0,frozen:=false,clean:=true },{ elems:=sz,es:=2,ver:=0,frozen:=false,clean:=true },{ elems:=[],es:=2,ver:=0,frozen:=false,clean:=true }]) /\
  (¬(((Sp.sumP (fun n => mapI n dp) (fun n => mapI n sz) l 0 0).fst > 8) \/ ((Sp.sumP (fun n => mapI n dp) (fun n => mapI n sz) l 0 0).snd > 20000)) -> Q (tu [AV.ptr 1 0 0 0,vi (Sp.sumP (fun n => mapI n dp) (fun n => mapI n sz) l 0 0).snd,vi 0]) [{ elems:=[ag [AV.vec g 3 (List.map Bk.a l),AV.vec h 2 (List.map Sb.a s)]],es:=2,ver:=0,frozen:=false,clean:=false },{ elems:=[ag [AV.mapr 2,AV.mapr 3,AV.mapr 4,AV.mapr 5,AV.mapr 6]],es:=5,ver:=0,frozen:=false,clean:=false },{ elems:=sm,es:=2,ver:=0,frozen:=false,clean:=true },{ elems:=st,es:=2,ver:=0,frozen:=false,clean:=true },{ elems:=dp,es:=2,ver:=0,frozen:=false,clean:=true },{ elems:=sz,es:=2,ver:=0,frozen:=false,clean:=true },{ elems:=[],es:=2,ver:=0,frozen:=false,clean:=true }])) :
 tvCdT_at g l h s Q:=by
 unfold tvCdT_at
 obtain ⟨k1,H⟩:=H
 obtain ⟨k2,H⟩:=H
 refine path_wp (G:=given kp45 [(1,1,(.call (.tup [.ptr 0 0 0 0,.int .i64 0]) (some [⟨[.agg [.mapr 1,.mapr 2,.mapr 3,.mapr 4,.mapr 5]],5,0,false,false⟩,⟨sm,2,0,false,true⟩,⟨st,2,0,false,true⟩,⟨dp,2,0,false,true⟩,⟨sz,2,0,false,true⟩,⟨[],2,0,false,true⟩]):Ans)),(4,3,.call (tu [vi (Sp.sumP (fun n => mapI n dp) (fun n => mapI n sz) l 0 0).fst,vi (Sp.sumP (fun n => mapI n dp) (fun n => mapI n sz) l 0 0).snd]) none)] []) 14 [false] ⟨(atC (cd Try.f45) [1,1,1,1,0,1]),[(5,AV.ptr 1 0 0 0),(8,vi (Sp.sumP (fun n => mapI n dp) (fun n => mapI n sz) l 0 0).snd),(29,vb (bif decide ((Sp.sumP (fun n => mapI n dp) (fun n => mapI n sz) l 0 0).fst > 8) then true else decide ((Sp.sumP (fun n => mapI n dp) (fun n => mapI n sz) l 0 0).snd > 20000)))],[⟨[ag [AV.vec g 3 (List.map Bk.a l),AV.vec h 2 (List.map Sb.a s)]],2,0,false,false⟩,⟨[zTpK1],5,0,false,false⟩,⟨sm,2,0,false,true⟩,⟨st,2,0,false,true⟩,⟨dp,2,0,false,true⟩,⟨sz,2,0,false,true⟩,⟨[],2,0,false,true⟩],_,[],[⟨true,true,71,[ag [AV.vec g 3 (List.map Bk.a l),AV.vec h 2 (List.map Sb.a s)]],[],tu [AV.ptr 0 0 0 0,vi 0],[⟨[zTpK2],5,0,false,false⟩,⟨sm,2,0,false,true⟩,⟨st,2,0,false,true⟩,⟨dp,2,0,false,true⟩,⟨sz,2,0,false,true⟩,⟨[],2,0,false,true⟩]⟩,⟨true,true,72,[AV.ptr 0 0 0 0,AV.vec g 3 (List.map Bk.a l)],[⟨[zTpK2],5,0,false,false⟩,⟨sm,2,0,false,true⟩,⟨st,2,0,false,true⟩,⟨dp,2,0,false,true⟩,⟨sz,2,0,false,true⟩,⟨[],2,0,false,true⟩],tu [vi (Sp.sumP (fun n => mapI n dp) (fun n => mapI n sz) l 0 0).fst,vi (Sp.sumP (fun n => mapI n dp) (fun n => mapI n sz) l 0 0).snd],[⟨[zTpK2],5,0,false,false⟩,⟨sm,2,0,false,true⟩,⟨st,2,0,false,true⟩,⟨dp,2,0,false,true⟩,⟨sz,2,0,false,true⟩,⟨[],2,0,false,true⟩]⟩]⟩ (by kernel_rfl) (bc rfl (bc rfl (bc rfl b0))) q0 (cc (fun _ => k1) (cc (fun _ => (@evo72 (sm) (st) (dp) (sz) ([]) (g) (l) k2)) c0)) ?_
 rcases xm (((Sp.sumP (fun n => mapI n dp) (fun n => mapI n sz) l 0 0).fst > 8) \/ ((Sp.sumP (fun n => mapI n dp) (fun n => mapI n sz) l 0 0).snd > 20000)) with d4 | d4
 ·have H:=H.1 d4
  exact path_ret (G:=given kp45 [] []) 1000 [true] (k:=((atC (cd Try.f45) [1,1,1,1,0,1,0,1])).tail) (env':=[(2,AV.nilp),(3,vi 0),(4,vi 3)]) (L':=[⟨[ag [AV.vec g 3 (List.map Bk.a l),AV.vec h 2 (List.map Sb.a s)]],2,0,false,false⟩,⟨[zTpK1],5,0,false,false⟩,⟨sm,2,0,false,true⟩,⟨st,2,0,false,true⟩,⟨dp,2,0,false,true⟩,⟨sz,2,0,false,true⟩,⟨[],2,0,false,true⟩]) (asm:=[(bif decide ((Sp.sumP (fun n => mapI n dp) (fun n => mapI n sz) l 0 0).fst > 8) then true else decide ((Sp.sumP (fun n => mapI n dp) (fun n => mapI n sz) l 0 0).snd > 20000)) == true]) (eqs:=[]) (calls:=[]) (tu [AV.nilp,vi 0,vi 3]) (by kernel_rfl) (by kernel_rfl) (allB_cons (beq_t ((i_bor i_dec i_dec).2 d4)) allB_nil) allP_nil allC_nil H
 ·have H:=H.2 d4
  exact path_ret (G:=given kp45 [] []) 1000 [false] (k:=((atC (cd Try.f45) [1,1,1,1,1,1])).tail) (env':=[(2,AV.ptr 1 0 0 0),(3,vi (Sp.sumP (fun n => mapI n dp) (fun n => mapI n sz) l 0 0).snd),(4,vi 0)]) (L':=[⟨[ag [AV.vec g 3 (List.map Bk.a l),AV.vec h 2 (List.map Sb.a s)]],2,0,false,false⟩,⟨[zTpK1],5,0,false,false⟩,⟨sm,2,0,false,true⟩,⟨st,2,0,false,true⟩,⟨dp,2,0,false,true⟩,⟨sz,2,0,false,true⟩,⟨[],2,0,false,true⟩]) (asm:=[(bif decide ((Sp.sumP (fun n => mapI n dp) (fun n => mapI n sz) l 0 0).fst > 8) then true else decide ((Sp.sumP (fun n => mapI n dp) (fun n => mapI n sz) l 0 0).snd > 20000)) == false]) (eqs:=[]) (calls:=[]) (tu [AV.ptr 1 0 0 0,vi (Sp.sumP (fun n => mapI n dp) (fun n => mapI n sz) l 0 0).snd,vi 0]) (by kernel_rfl) (by kernel_rfl) (allB_cons (beq_f (fun h => d4 ((i_bor i_dec i_dec).1 h))) allB_nil) allP_nil allC_nil H
theorem tvCdE (g:Bool) (l:List Bk) (h:Bool) (s:List Sb) (e:Int) (Q:AV -> Heap -> Prop) (H :
  (Ev M1 (Conf.own 71 [ag [AV.vec g 3 (List.map Bk.a l),AV.vec h 2 (List.map Sb.a s)]] []) (tu [AV.nilp,vi e]) []) /\
  ((¬e = 0) -> Q (tu [AV.nilp,vi 0,vi e]) [{ elems:=[ag [AV.vec g 3 (List.map Bk.a l),AV.vec h 2 (List.map Sb.a s)]],es:=2,ver:=0,frozen:=false,clean:=false }]) /\
  (¬(¬e = 0) -> False)) :
 tvCdE_at g l h s Q:=by
 unfold tvCdE_at
 obtain ⟨k1,H⟩:=H
 refine path_wp (G:=given kp45 [(1,1,(.call (.tup [.nilp,.int .i64 e]) none:Ans))] []) 7 [] ⟨(atC (cd Try.f45) [1,1,0,1]),[(1,AV.ptr 0 0 0 0),(5,AV.nilp),(6,vi e),(15,vb (e != 0))],[⟨[ag [AV.vec g 3 (List.map Bk.a l),AV.vec h 2 (List.map Sb.a s)]],2,0,false,false⟩],_,[],[⟨true,true,71,[ag [AV.vec g 3 (List.map Bk.a l),AV.vec h 2 (List.map Sb.a s)]],[],tu [AV.nilp,vi e],[]⟩]⟩ (by kernel_rfl) (bc rfl b0) q0 (cc (fun _ => k1) c0) ?_
 rcases xm (¬e = 0) with d3 | d3
 ·have H:=H.1 d3
  exact path_ret (G:=given kp45 [] []) 1000 [true] (k:=((atC (cd Try.f45) [1,1,0,1,0,1])).tail) (env':=[(2,AV.nilp),(3,vi 0),(4,vi e)]) (L':=[⟨[ag [AV.vec g 3 (List.map Bk.a l),AV.vec h 2 (List.map Sb.a s)]],2,0,false,false⟩]) (asm:=[(e != 0) == true]) (eqs:=[]) (calls:=[]) (tu [AV.nilp,vi 0,vi e]) (by kernel_rfl) (by kernel_rfl) (allB_cons (beq_t (i_ne.2 d3)) allB_nil) allP_nil allC_nil H
 ·have H:=H.2 d3
  exact False.elim H
end Go.Av

namespace Go.Av
open Go.Proofs
namespace Sp
def VN (s:List Sb):Int -> Option (Int × Int):=V (bod s) s.length
def siz (l:List Bk) (s:List Sb):Int × Int:=
 if ¬xe l s = 0 then (0,xe l s) else if (sumE (VN s) l).1 > 8 \/ (sumE (VN s) l).2 > 20000 then (0,3) else ((sumE (VN s) l).2,0)
end Sp
theorem main_V {l:List Bk} {s:List Sb} (he:Sp.xe l s = 0):∀ x ∈ l,Sp.cIs x.ws = true -> Sp.cN x.ws ∈ Sp.nums s /\ (Sp.VN s (Sp.cN x.ws)).isSome = true:=by
 obtain ⟨a1,a2,a3,a4⟩:=xe_ok he
 rw [blks_any,Bool.or_eq_false_iff] at a3
 intro x hx k
 have hn:=nums_of.1 (found_of a3.1 x hx k)
 obtain ⟨y,hy,e⟩:=List.mem_map.1 hn
 have:=a4 y hy
 rw [e] at this
 exact ⟨hn,this⟩
theorem sum_maps {l:List Bk} {s:List Sb} {st dp sz:List AV} (hs:s.length <= 1000) (ho:Sp.okSs s) (he:Sp.xe l s = 0) (hI:MInv (Sp.bod s) st dp sz) (h2:∀ x ∈ s,mapI x.n st = 2) :
  Sp.sumP (fun n => mapI n dp) (fun n => mapI n sz) l 0 0 = Sp.sumE (Sp.VN s) l:=by
 obtain ⟨a1,a2,a3,a4⟩:=xe_ok he
 unfold Sp.sumE
 refine sumP_congr _ _ _ fun x hx k => ?_
 obtain ⟨hn,hv⟩:=main_V he x hx k
 obtain ⟨y,hy,e⟩:=List.mem_map.1 hn
 obtain ⟨j,hj⟩:=hI.2.2.2 _ (h2 y hy)
 rw [e] at hj
 obtain ⟨w,hw⟩:=Option.isSome_iff_exists.1 hv
 rw [hw,Option.getD_some]
 unfold Sp.VN at hw
 rw [V_eq hw hj];exact ⟨rfl,rfl⟩
theorem chkd_err {g h:Bool} {l:List Bk} {s:List Sb} (hok:Sp.okN l s) (he:Sp.siz l s ≠ ((Sp.siz l s).1,0)):Ev M1 (.own 45 [.agg [bsA g l,.vec h 2 (s.map Sb.a)]] []) (.tup [.nilp,.int .i64 (Sp.siz l s).1,.int .i64 (Sp.siz l s).2]) []:=by
 by_cases h0:Sp.xe l s = 0
 ·obtain ⟨st,dp,sz,e1,e2,e3⟩:=newx_ok (g:=g) (h:=h) hok h0
  have hsum:=sum_maps hok.2.2.1 hok.2.1 h0 e2 e3
  refine own_frs hm1 (owncall45 (tvCdT _ _ _ _ _ st dp sz _ ⟨e1,⟨hok.1,e2.1.2.1,e2.1.2.2,e2.2.1,e2.2.2.1⟩,?_⟩))
  rw [hsum]
  have hz:Sp.siz l s = if (Sp.sumE (Sp.VN s) l).1 > 8 \/ (Sp.sumE (Sp.VN s) l).2 > 20000 then (0,3) else ((Sp.sumE (Sp.VN s) l).2,0):=by
   unfold Sp.siz;rw [if_neg (by simp [h0])]
  refine ⟨fun k => ?_,fun k => ?_⟩
  ·rw [hz,if_pos k];exact frs_end [] (by kernel_rfl) rfl rfl
  ·rw [hz,if_neg k] at he;exact (he rfl).elim
 ·have hz:Sp.siz l s = (0,Sp.xe l s):=by unfold Sp.siz;rw [if_pos h0]
  rw [hz]
  refine own_frs hm1 (owncall45 (tvCdE _ _ _ _ (Sp.xe l s) _ ⟨newx_err hok h0,fun k => frs_end [] (by kernel_rfl) rfl rfl,fun k => (k h0).elim⟩))
theorem siz_ok {l:List Bk} {s:List Sb} (h:(Sp.siz l s).2 = 0):Sp.xe l s = 0 /\ (Sp.sumE (Sp.VN s) l).1 <= 8 /\ (Sp.sumE (Sp.VN s) l).2 <= 20000 /\ Sp.siz l s = ((Sp.sumE (Sp.VN s) l).2,0):=by
 unfold Sp.siz at h ⊢
 split at h
 ·rename_i k;exact (k h).elim
 ·rename_i k
  split at h
  ·cases h
  ·rename_i k2
   rw [if_neg k,if_neg k2]
   exact ⟨Classical.not_not.1 k,by omega,by omega,rfl⟩
theorem chkd_ok {g h:Bool} {l:List Bk} {s:List Sb} (hok:Sp.okN l s) (he:(Sp.siz l s).2 = 0):∃ st dp sz,Ev M1 (.own 45 [.agg [bsA g l,.vec h 2 (s.map Sb.a)]] []) (.tup [.ptr 0 0 0 0,.int .i64 (Sp.siz l s).1,.int .i64 0]) (XH (Sp.smOf s) st dp sz []):=by
 obtain ⟨h0,z1,z2,hz⟩:=siz_ok he
 obtain ⟨st,dp,sz,e1,e2,e3⟩:=newx_ok (g:=g) (h:=h) hok h0
 have hsum:=sum_maps hok.2.2.1 hok.2.1 h0 e2 e3
 refine ⟨st,dp,sz,own_frs hm1 (owncall45 (tvCdT _ _ _ _ _ st dp sz _ ⟨e1,⟨hok.1,e2.1.2.1,e2.1.2.2,e2.2.1,e2.2.2.1⟩,?_⟩))⟩
 rw [hsum,hz]
 exact ⟨fun k => by omega,fun k => frs_end [1,2,3,4,5,6] (by kernel_rfl) rfl rfl⟩
end Go.Av

namespace Go.Av
open Go.Proofs
set_option maxRecDepth 100000
def fi29:Fi:=⟨15,[.tmp 2,.tmp 3]⟩
def kp29:List (Nat × List Nat):=[(0,[1]),(1,[5,6]),(2,[2,3])]
def tvSzT_at (g:Bool) (l:List Bk) (h:Bool) (s:List Sb) (Q:AV -> Heap -> Prop):Prop:=Wp M1 (.run fi29 (atC (cd Try.f29) []) [(0,.agg [.vec g 3 (l.map Bk.a),.vec h 2 (s.map Sb.a)])] []) Q
def tvSzE_at (g:Bool) (l:List Bk) (h:Bool) (s:List Sb) (Q:AV -> Heap -> Prop):Prop:=Wp M1 (.run fi29 (atC (cd Try.f29) []) [(0,.agg [.vec g 3 (l.map Bk.a),.vec h 2 (s.map Sb.a)])] []) Q
theorem call29 {args:List AV} {d:AV} (h:wc M1 fi29 Try.f29 args d):Ev M1 (.pure 29 args) d []:=pcl _ _ (by kernel_rfl) h
theorem tvSzT (g:Bool) (l:List Bk) (h:Bool) (s:List Sb) (sm st dp sz:List AV) (z:Int) (dq:AV) (H :
  (Ev M1 (Conf.own 45 [ag [AV.vec g 3 (List.map Bk.a l),AV.vec h 2 (List.map Sb.a s)]] []) (tu [AV.ptr 0 0 0 0,vi z,vi 0]) [{ elems:=[ag [AV.mapr 1,AV.mapr 2,AV.mapr 3,AV.mapr 4,AV.mapr 5]],es:=5,ver:=0,frozen:=false,clean:=false },{ elems:=sm,es:=2,ver:=0,frozen:=false,clean:=true },{ elems:=st,es:=2,ver:=0,frozen:=false,clean:=true },{ elems:=dp,es:=2,ver:=0,frozen:=false,clean:=true },{ elems:=sz,es:=2,ver:=0,frozen:=false,clean:=true },{ elems:=[],es:=2,ver:=0,frozen:=false,clean:=true }]) /\
  tu [vi z,vi 0] = dq) :
 tvSzT_at g l h s (PureQ dq):=by
 unfold tvSzT_at
 obtain ⟨k1,H⟩:=H
 exact path_re (G:=given kp29 [(1,1,(.call (.tup [.ptr 0 0 0 0,.int .i64 z,.int .i64 0]) (some [⟨[.agg [.mapr 1,.mapr 2,.mapr 3,.mapr 4,.mapr 5]],5,0,false,false⟩,⟨sm,2,0,false,true⟩,⟨st,2,0,false,true⟩,⟨dp,2,0,false,true⟩,⟨sz,2,0,false,true⟩,⟨[],2,0,false,true⟩]):Ans))] []) 1000 [] (calls:=[⟨true,true,45,[ag [AV.vec g 3 (List.map Bk.a l),AV.vec h 2 (List.map Sb.a s)]],[],tu [AV.ptr 0 0 0 0,vi z,vi 0],[⟨[ag [AV.mapr 1,AV.mapr 2,AV.mapr 3,AV.mapr 4,AV.mapr 5]],5,0,false,false⟩,⟨sm,2,0,false,true⟩,⟨st,2,0,false,true⟩,⟨dp,2,0,false,true⟩,⟨sz,2,0,false,true⟩,⟨[],2,0,false,true⟩]⟩]) (tu [vi z,vi 0]) (by kernel_rfl) (bc rfl b0) q0 (cc (fun _ => k1) c0) H
theorem tvSzE (g:Bool) (l:List Bk) (h:Bool) (s:List Sb) (z e:Int) (dq:AV) (H :
  (Ev M1 (Conf.own 45 [ag [AV.vec g 3 (List.map Bk.a l),AV.vec h 2 (List.map Sb.a s)]] []) (tu [AV.nilp,vi z,vi e]) []) /\
  tu [vi z,vi e] = dq) :
 tvSzE_at g l h s (PureQ dq):=by
 unfold tvSzE_at
 obtain ⟨k1,H⟩:=H
 exact path_re (G:=given kp29 [(1,1,(.call (.tup [.nilp,.int .i64 z,.int .i64 e]) none:Ans))] []) 1000 [] (calls:=[⟨true,true,45,[ag [AV.vec g 3 (List.map Bk.a l),AV.vec h 2 (List.map Sb.a s)]],[],tu [AV.nilp,vi z,vi e],[]⟩]) (tu [vi z,vi e]) (by kernel_rfl) (bc rfl b0) q0 (cc (fun _ => k1) c0) H
end Go.Av

namespace Go.Av
open Go.Proofs
theorem ev29 (g:Bool) (l:List Bk) (h:Bool) (s:List Sb) (hok:Sp.okN l s):Ev M1 (.pure 29 [.agg [bsA g l,.vec h 2 (s.map Sb.a)]]) (.tup [.int .i64 (Sp.siz l s).1,.int .i64 (Sp.siz l s).2]) []:=by
 by_cases he:(Sp.siz l s).2 = 0
 ·obtain ⟨st,dp,sz,e⟩:=chkd_ok (g:=g) (h:=h) hok he
  exact call29 (tvSzT _ _ _ _ _ st dp sz _ _ ⟨e,by rw [he]⟩)
 ·exact call29 (tvSzE _ _ _ _ _ _ _ ⟨chkd_err hok fun e => he (by rw [e]),rfl⟩)
namespace Sp
def rep (t:Nat) (Y:List Bk):List Bk:=(List.replicate t Y).flatten
def xpd (E:Int -> List Bk) (l:List Bk):List Bk:=l.flatMap fun b => if cIs b.ws = true then rep (cT b.ws).toNat (E (cN b.ws)) else [b]
def X (S:Int -> List Bk):Nat -> Int -> List Bk
 | 0,_ => []
 | k + 1,n => xpd (X S k) (S n)
def XN (s:List Sb):Int -> List Bk:=X (bod s) s.length
def XM (l:List Bk) (s:List Sb):List Bk:=xpd (XN s) l
end Sp
theorem xpd_cons (E:Int -> List Bk) (x:Bk) (l:List Bk):Sp.xpd E (x :: l) = (if Sp.cIs x.ws = true then Sp.rep (Sp.cT x.ws).toNat (E (Sp.cN x.ws)) else [x]) ++ Sp.xpd E l:=by
 unfold Sp.xpd;rw [List.flatMap_cons]
theorem xpd_congr {E E':Int -> List Bk}:∀ {l:List Bk},(∀ x ∈ l,Sp.cIs x.ws = true -> E (Sp.cN x.ws) = E' (Sp.cN x.ws)) -> Sp.xpd E l = Sp.xpd E' l
 | [],_ => rfl
 | x :: l,h => by
  rw [xpd_cons,xpd_cons,xpd_congr fun y hy => h y (List.mem_cons_of_mem _ hy)]
  split
  ·rename_i k;rw [h x (by simp) k]
  ·rfl
theorem X_mono1 {S:Int -> List Bk}:∀ (k:Nat) (n:Int),(Sp.V S k n).isSome = true -> Sp.X S (k + 1) n = Sp.X S k n:=by
 intro k
 induction k with
 | zero => intro n h;simp [Sp.V] at h
 | succ k ih =>
  intro n h
  rw [Sp.X,Sp.X]
  exact xpd_congr fun x hx y => ih _ (V_succ.1 h x hx y)
theorem rep_zero (Y:List Bk):Sp.rep 0 Y = []:=rfl
theorem rep_succ (t:Nat) (Y:List Bk):Sp.rep (t + 1) Y = Y ++ Sp.rep t Y:=by unfold Sp.rep;rw [List.replicate_succ,List.flatten_cons]
theorem rep_len (t:Nat) (Y:List Bk):(Sp.rep t Y).length = t * Y.length:=by
 induction t with
 | zero => rw [rep_zero];simp
 | succ t ih => rw [rep_succ,List.length_append,ih,Nat.succ_mul];omega
theorem rep_nil (t:Nat):Sp.rep t [] = []:=by
 have:=rep_len t []
 rw [List.length_nil,Nat.mul_zero] at this
 exact List.eq_nil_of_length_eq_zero this
theorem cap_cap (a b:Int):Sp.cap (a + Sp.cap b) = Sp.cap (a + b) \/ a < 0:=by
 unfold Sp.cap
 by_cases h:a < 0
 ·exact .inr h
 ·left
  by_cases h1:b < 20001
  ·rw [if_pos h1]
  ·rw [if_neg h1,if_neg (by omega),if_neg (by omega)]
theorem cap_mul {t x:Int} (ht:1 <= t) (hx:0 <= x):Sp.cap (t * Sp.cap x) = Sp.cap (t * x):=by
 unfold Sp.cap
 by_cases h1:x < 20001
 ·rw [if_pos h1]
 ·rw [if_neg h1]
  have a1:20001 <= t * 20001:=by omega
  have a2:t * 20001 <= t * x:=Int.mul_le_mul_of_nonneg_left (by omega) (by omega)
  rw [if_neg (by omega),if_neg (by omega)]
theorem sumP_len {D:Int -> Int} {E:Int -> List Bk} {Z:Int -> Int}:∀ (l:List Bk) (d z a:Int),(∀ x ∈ l,Sp.cIs x.ws = true -> Z (Sp.cN x.ws) = Sp.cap (E (Sp.cN x.ws)).length) -> 0 <= a -> z = Sp.cap a -> (Sp.sumP D Z l d z).2 = Sp.cap (a + (Sp.xpd E l).length)
 | [],d,z,a,_,_,hz => by rw [Sp.sumP,hz];show _ = Sp.cap (a + ((0:Nat):Int));rw [Int.ofNat_zero,Int.add_zero]
 | x :: r,d,z,a,h,ha,hz => by
  have hr:=fun y hy => h y (List.mem_cons_of_mem _ hy)
  rw [Sp.sumP,xpd_cons]
  have hca:∀ b:Int,0 <= b -> Sp.cap (z + Sp.cap b) = Sp.cap (a + b):=fun b hb => by
   rw [hz]
   rcases cap_cap (Sp.cap a) b with e | e
   ·rw [e,Int.add_comm (Sp.cap a),Int.add_comm a]
    rcases cap_cap b a with e | e
    ·exact e
    ·omega
   ·have:=cap_ge ha;omega
  by_cases k:Sp.cIs x.ws = true
  ·rw [if_pos k,if_pos k]
   have hct:=(cIs_at k).1
   rw [h x (by simp) k,cap_mul (by omega) (by omega)]
   have hnn:0 <= Sp.cT x.ws * ((E (Sp.cN x.ws)).length:Int):=Int.mul_nonneg (by omega) (by omega)
   rw [sumP_len r _ _ (a + Sp.cT x.ws * (E (Sp.cN x.ws)).length) hr (by omega) (hca _ hnn)]
   congr 1
   rw [List.length_append,rep_len,Int.natCast_add,Int.natCast_mul,Int.toNat_of_nonneg (by omega)]
   omega
  ·rw [if_neg k,if_neg k]
   have e1:Sp.cap (z + 1) = Sp.cap (a + 1):=hca 1 (by omega)
   rw [e1,sumP_len r _ _ (a + 1) hr (by omega) rfl]
   congr 1
   simp only [List.length_append,List.length_singleton]
   omega
theorem V_len {S:Int -> List Bk}:∀ (k:Nat) (n:Int) (v:Int × Int),Sp.V S k n = some v -> v.2 = Sp.cap (Sp.X S k n).length:=by
 intro k
 induction k with
 | zero => intro n v h;simp [Sp.V] at h
 | succ k ih =>
  intro n v h
  rw [Sp.V] at h
  split at h
  ·rename_i hd
   have hd':=allD_iff.1 hd
   rw [<- Option.some.inj h]
   unfold Sp.sumE
   rw [sumP_len (E:=Sp.X S k) (S n) 0 0 0 (fun x hx y => by
    obtain ⟨w,hw⟩:=Option.isSome_iff_exists.1 (hd' x hx y)
    rw [hw,Option.getD_some]
    exact ih _ _ hw) (by omega) rfl,Int.zero_add]
   rfl
  ·cases h
theorem siz_len {l:List Bk} {s:List Sb} (h:(Sp.siz l s).2 = 0):((Sp.XM l s).length:Int) = (Sp.siz l s).1 /\ (Sp.XM l s).length <= 20000:=by
 obtain ⟨h0,h1,h2,h3⟩:=siz_ok h
 have e:(Sp.sumE (Sp.VN s) l).2 = Sp.cap (Sp.XM l s).length:=by
  unfold Sp.sumE Sp.XM
  rw [sumP_len (E:=Sp.XN s) l 0 0 0 (fun x hx y => by
   obtain ⟨w,hw⟩:=Option.isSome_iff_exists.1 (main_V h0 x hx y).2
   rw [hw,Option.getD_some]
   exact V_len _ _ _ hw) (by omega) rfl,Int.zero_add]
 rw [h3]
 unfold Sp.cap at e
 split at e <;> omega
end Go.Av
