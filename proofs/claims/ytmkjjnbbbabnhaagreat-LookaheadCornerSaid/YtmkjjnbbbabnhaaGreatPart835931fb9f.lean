/- PART 6 of the texts of a claim, joined by a program: what each part shows stands at its head. -/
import Derived.Test.YtmkjjnbbbabnhaaGreatPart290b62813c

namespace Go.Av
open Go.Proofs
set_option maxRecDepth 100000
def fi28:Fi:=⟨26,[.tmp 4]⟩
def kp28:List (Nat × List Nat):=[(0,[0,1]),(1,[1,5,6]),(2,[1,5,6,11]),(3,[1,5,6,7]),(4,[1,5,6,7,21]),(5,[1,5,6]),(6,[1,5,6]),(7,[4])]
def kSeC_at (ax ay az bx by_ bz m n c:Int) (Q:AV -> Heap -> Prop):Prop:=Wp M1 (.run fi28 (atC (cd Tryz.f28) []) [(0,.int .i64 1000000),(1,.func (.func 29) [] [.eptr 3 [.agg [.int .i64 ax,.int .i64 ay,.int .i64 az]] 0 0,.eptr 3 [.agg [.int .i64 bx,.int .i64 by_,.int .i64 bz]] 0 0,.eptr 1 [.int .i64 m] 0 0,.eptr 1 [.int .i64 n] 0 0,.eptr 1 [.int .i64 c] 0 0])] []) Q
def kSeCH_at (ax ay az bx by_ bz m n c:Int) (i j:Int) (Q:AV -> Heap -> Prop):Prop:=Wp M1 (.run fi28 (atC (cd Tryz.f28) [1,1,0,0,0]) [(1,.func (.func 29) [] [.eptr 3 [.agg [.int .i64 ax,.int .i64 ay,.int .i64 az]] 0 0,.eptr 3 [.agg [.int .i64 bx,.int .i64 by_,.int .i64 bz]] 0 0,.eptr 1 [.int .i64 m] 0 0,.eptr 1 [.int .i64 n] 0 0,.eptr 1 [.int .i64 c] 0 0]),(5,.int .i64 i),(6,.int .i64 j)] []) Q
def kSeS_at (f g:Bool) (v a:Int) (r:Rat) (Q:AV -> Heap -> Prop):Prop:=Wp M1 (.run fi28 (atC (cd Tryz.f28) []) [(0,.int .i64 1000000000000),(1,.func (.func 49) [] [.eptr 1 [.int .i64 v] 0 0,.eptr 1 [.int .i64 a] 0 0,.eptr 4 [ratA f g r] 0 0])] []) Q
def kSeSH_at (f g:Bool) (v a:Int) (r:Rat) (i j:Int) (Q:AV -> Heap -> Prop):Prop:=Wp M1 (.run fi28 (atC (cd Tryz.f28) [1,1,0,0,0]) [(1,.func (.func 49) [] [.eptr 1 [.int .i64 v] 0 0,.eptr 1 [.int .i64 a] 0 0,.eptr 4 [ratA f g r] 0 0]),(5,.int .i64 i),(6,.int .i64 j)] []) Q
theorem call28 {args:List AV} {d:AV} (h:wc M1 fi28 Tryz.f28 args d):Ev M1 (.pure 28 args) d []:=pcl _ _ (by kernel_rfl) h
theorem kSeC (ax ay az bx by_ bz m n c:Int)  (dq:AV) (H :
  kSeCH_at (ax) (ay) (az) (bx) (by_) (bz) (m) (n) (c) (0) (1000000) (PureQ dq)) :
 kSeC_at ax ay az bx by_ bz m n c (PureQ dq):=by
 unfold kSeC_at
 exact path_wp (G:=given kp28 [] []) 1000 [] ⟨(atC (cd Tryz.f28) [1,1,0,0,0]),[(1,AV.func (Fn.func 29) [] [AV.eptr 3 [ag [vi ax,vi ay,vi az]] 0 0,AV.eptr 3 [ag [vi bx,vi by_,vi bz]] 0 0,AV.eptr 1 [vi m] 0 0,AV.eptr 1 [vi n] 0 0,AV.eptr 1 [vi c] 0 0]),(5,vi 0),(6,vi 1000000)],[],_,[],_⟩ (by kernel_rfl) b0 q0 c0 (H)
noncomputable abbrev zNzF1 (ax:Int) (ay:Int) (az:Int):=ag [vi ax,vi ay,vi az]
noncomputable abbrev zNzF2 (bx:Int) (by_:Int) (bz:Int):=ag [vi bx,vi by_,vi bz]
theorem kSeCH (ax ay az bx by_ bz m n c:Int) (i j:Int)  (dq:AV) (H :
  ((i < j) -> (-9223372036854775808 <= i + j /\ i + j <= 9223372036854775807) /\
   (0 <= i + j /\ i + j <= 18446744073709551615) /\
   (-9223372036854775808 <= (i + j).fdiv (2 ^ min (Int.toNat 1) IntKind.u64.bits) /\ (i + j).fdiv (2 ^ min (Int.toNat 1) IntKind.u64.bits) <= 9223372036854775807) /\
   (Sp.okCr ax ay az bx by_ bz m n c /\ Sp.inS 1000000 ((i + j).fdiv (2 ^ min (Int.toNat 1) IntKind.u64.bits))) /\
   ((¬(Sp.corP ax ay az bx by_ bz m n c ((i + j).fdiv (2 ^ min (Int.toNat 1) IntKind.u64.bits)) = true)) -> (-9223372036854775808 <= (i + j).fdiv (2 ^ min (Int.toNat 1) IntKind.u64.bits) + 1 /\ (i + j).fdiv (2 ^ min (Int.toNat 1) IntKind.u64.bits) + 1 <= 9223372036854775807) /\
    kSeCH_at (ax) (ay) (az) (bx) (by_) (bz) (m) (n) (c) ((i + j).fdiv (2 ^ min (Int.toNat 1) IntKind.u64.bits) + 1) (j) (PureQ dq)) /\
   (¬(¬(Sp.corP ax ay az bx by_ bz m n c ((i + j).fdiv (2 ^ min (Int.toNat 1) IntKind.u64.bits)) = true)) -> kSeCH_at (ax) (ay) (az) (bx) (by_) (bz) (m) (n) (c) (i) ((i + j).fdiv (2 ^ min (Int.toNat 1) IntKind.u64.bits)) (PureQ dq))) /\
  (¬(i < j) -> vi i = dq)) :
 kSeCH_at ax ay az bx by_ bz m n c i j (PureQ dq):=by
 unfold kSeCH_at
 rcases xm (i < j) with d2 | d2
 ·have H:=H.1 d2
  obtain ⟨k3,H⟩:=H
  have w4:wi (i + j) = i + j:=wI64 k3
  obtain ⟨k5,H⟩:=H
  have w6:wu (i + j) = i + j:=wU64 k5
  obtain ⟨k7,H⟩:=H
  have w8:wi ((i + j).fdiv (2 ^ min (Int.toNat 1) IntKind.u64.bits)) = (i + j).fdiv (2 ^ min (Int.toNat 1) IntKind.u64.bits):=wI64 k7
  obtain ⟨k9,H⟩:=H
  refine path_wp (G:=given kp28 [(4,2,.call (vb (Sp.corP ax ay az bx by_ bz m n c ((i + j).fdiv (2 ^ min (Int.toNat 1) IntKind.u64.bits)))) none)] []) 10 [true] ⟨(atC (cd Tryz.f28) [1,1,0,0,0,1,0,1,1]),[(1,AV.func (Fn.func 29) [] [AV.eptr 3 [(zNzF1 ax ay az)] 0 0,AV.eptr 3 [(zNzF2 bx by_ bz)] 0 0,AV.eptr 1 [vi m] 0 0,AV.eptr 1 [vi n] 0 0,AV.eptr 1 [vi c] 0 0]),(5,vi i),(6,vi j),(7,vi (wi ((wu (wi (i + j))).fdiv (2 ^ min (Int.toNat 1) IntKind.u64.bits)))),(21,vb !Sp.corP ax ay az bx by_ bz m n c ((i + j).fdiv (2 ^ min (Int.toNat 1) IntKind.u64.bits)))],[],_,[],[pc 29 [vi (wi ((wu (wi (i + j))).fdiv (2 ^ min (Int.toNat 1) IntKind.u64.bits))),AV.eptr 3 [(zNzF1 ax ay az)] 0 0,AV.eptr 3 [(zNzF2 bx by_ bz)] 0 0,AV.eptr 1 [vi m] 0 0,AV.eptr 1 [vi n] 0 0,AV.eptr 1 [vi c] 0 0] (vb (Sp.corP ax ay az bx by_ bz m n c ((i + j).fdiv (2 ^ min (Int.toNat 1) IntKind.u64.bits))))]⟩ (by kernel_rfl) (bc (beq_t (i_dec.2 d2)) (bc rfl b0)) q0 (ce (by (try rw [w4]);(try rw [w6]);(try rw [w8]);all_goals exact (@ev29 (ax) (ay) (az) (bx) (by_) (bz) (m) (n) (c) ((i + j).fdiv (2 ^ min (Int.toNat 1) IntKind.u64.bits)) k9)) c0) ?_
  rcases xm (¬(Sp.corP ax ay az bx by_ bz m n c ((i + j).fdiv (2 ^ min (Int.toNat 1) IntKind.u64.bits)) = true)) with d11 | d11
  ·have H:=H.1 d11
   obtain ⟨k12,H⟩:=H
   have w13:wi ((i + j).fdiv (2 ^ min (Int.toNat 1) IntKind.u64.bits) + 1) = (i + j).fdiv (2 ^ min (Int.toNat 1) IntKind.u64.bits) + 1:=wI64 k12
   exact path_wp (G:=given kp28 [] []) 1000 [true] ⟨(atC (cd Tryz.f28) [1,1,0,0,0]),[(1,AV.func (Fn.func 29) [] [AV.eptr 3 [(zNzF1 ax ay az)] 0 0,AV.eptr 3 [(zNzF2 bx by_ bz)] 0 0,AV.eptr 1 [vi m] 0 0,AV.eptr 1 [vi n] 0 0,AV.eptr 1 [vi c] 0 0]),(5,vi (wi (wi ((wu (wi (i + j))).fdiv (2 ^ min (Int.toNat 1) IntKind.u64.bits)) + 1))),(6,vi j)],[],[(!Sp.corP ax ay az bx by_ bz m n c ((i + j).fdiv (2 ^ min (Int.toNat 1) IntKind.u64.bits))) == true],[],_⟩ (by kernel_rfl) (bc (beq_t ((i_not (i_var _)).2 d11)) b0) q0 c0 (by (try rw [w4]);(try rw [w6]);(try rw [w8]);(try rw [w13]);all_goals exact H)
  ·have H:=H.2 d11
   exact path_wp (G:=given kp28 [] []) 1000 [false] ⟨(atC (cd Tryz.f28) [1,1,0,0,0]),[(1,AV.func (Fn.func 29) [] [AV.eptr 3 [(zNzF1 ax ay az)] 0 0,AV.eptr 3 [(zNzF2 bx by_ bz)] 0 0,AV.eptr 1 [vi m] 0 0,AV.eptr 1 [vi n] 0 0,AV.eptr 1 [vi c] 0 0]),(5,vi i),(6,vi (wi ((wu (wi (i + j))).fdiv (2 ^ min (Int.toNat 1) IntKind.u64.bits))))],[],[(!Sp.corP ax ay az bx by_ bz m n c ((i + j).fdiv (2 ^ min (Int.toNat 1) IntKind.u64.bits))) == false],[],_⟩ (by kernel_rfl) (bc (beq_f (fun h => d11 ((i_not (i_var _)).1 h))) b0) q0 c0 (by (try rw [w4]);(try rw [w6]);(try rw [w8]);all_goals exact H)
 ·have H:=H.2 d2
  exact path_re (G:=given kp28 [] []) 1000 [false] (vi i) (by kernel_rfl) (bc (beq_f (fun h => d2 (i_dec.1 h))) b0) q0 c0 H
theorem kSeS (f g:Bool) (v a:Int) (r:Rat)  (dq:AV) (H :
  kSeSH_at (f) (g) (v) (a) (r) (0) (1000000000000) (PureQ dq)) :
 kSeS_at f g v a r (PureQ dq):=by
 unfold kSeS_at
 exact path_wp (G:=given kp28 [] []) 1000 [] ⟨(atC (cd Tryz.f28) [1,1,0,0,0]),[(1,AV.func (Fn.func 49) [] [AV.eptr 1 [vi v] 0 0,AV.eptr 1 [vi a] 0 0,AV.eptr 4 [ratA f g r] 0 0]),(5,vi 0),(6,vi 1000000000000)],[],_,[],_⟩ (by kernel_rfl) b0 q0 c0 (H)
theorem kSeSH (f g:Bool) (v a:Int) (r:Rat) (i j:Int)  (dq:AV) (H :
  ((i < j) -> (-9223372036854775808 <= i + j /\ i + j <= 9223372036854775807) /\
   (0 <= i + j /\ i + j <= 18446744073709551615) /\
   (-9223372036854775808 <= (i + j).fdiv (2 ^ min (Int.toNat 1) IntKind.u64.bits) /\ (i + j).fdiv (2 ^ min (Int.toNat 1) IntKind.u64.bits) <= 9223372036854775807) /\
   (Sp.okSt v a r /\ Sp.inS 1000000000000 ((i + j).fdiv (2 ^ min (Int.toNat 1) IntKind.u64.bits))) /\
   ((¬(Sp.strP v a r ((i + j).fdiv (2 ^ min (Int.toNat 1) IntKind.u64.bits)) = true)) -> (-9223372036854775808 <= (i + j).fdiv (2 ^ min (Int.toNat 1) IntKind.u64.bits) + 1 /\ (i + j).fdiv (2 ^ min (Int.toNat 1) IntKind.u64.bits) + 1 <= 9223372036854775807) /\
    kSeSH_at (f) (g) (v) (a) (r) ((i + j).fdiv (2 ^ min (Int.toNat 1) IntKind.u64.bits) + 1) (j) (PureQ dq)) /\
   (¬(¬(Sp.strP v a r ((i + j).fdiv (2 ^ min (Int.toNat 1) IntKind.u64.bits)) = true)) -> kSeSH_at (f) (g) (v) (a) (r) (i) ((i + j).fdiv (2 ^ min (Int.toNat 1) IntKind.u64.bits)) (PureQ dq))) /\
  (¬(i < j) -> vi i = dq)) :
 kSeSH_at f g v a r i j (PureQ dq):=by
 unfold kSeSH_at
 rcases xm (i < j) with d2 | d2
 ·have H:=H.1 d2
  obtain ⟨k3,H⟩:=H
  have w4:wi (i + j) = i + j:=wI64 k3
  obtain ⟨k5,H⟩:=H
  have w6:wu (i + j) = i + j:=wU64 k5
  obtain ⟨k7,H⟩:=H
  have w8:wi ((i + j).fdiv (2 ^ min (Int.toNat 1) IntKind.u64.bits)) = (i + j).fdiv (2 ^ min (Int.toNat 1) IntKind.u64.bits):=wI64 k7
  obtain ⟨k9,H⟩:=H
  refine path_wp (G:=given kp28 [(4,2,.call (vb (Sp.strP v a r ((i + j).fdiv (2 ^ min (Int.toNat 1) IntKind.u64.bits)))) none)] []) 10 [true] ⟨(atC (cd Tryz.f28) [1,1,0,0,0,1,0,1,1]),[(1,AV.func (Fn.func 49) [] [AV.eptr 1 [vi v] 0 0,AV.eptr 1 [vi a] 0 0,AV.eptr 4 [ratA f g r] 0 0]),(5,vi i),(6,vi j),(7,vi (wi ((wu (wi (i + j))).fdiv (2 ^ min (Int.toNat 1) IntKind.u64.bits)))),(21,vb !Sp.strP v a r ((i + j).fdiv (2 ^ min (Int.toNat 1) IntKind.u64.bits)))],[],_,[],[pc 49 [vi (wi ((wu (wi (i + j))).fdiv (2 ^ min (Int.toNat 1) IntKind.u64.bits))),AV.eptr 1 [vi v] 0 0,AV.eptr 1 [vi a] 0 0,AV.eptr 4 [ratA f g r] 0 0] (vb (Sp.strP v a r ((i + j).fdiv (2 ^ min (Int.toNat 1) IntKind.u64.bits))))]⟩ (by kernel_rfl) (bc (beq_t (i_dec.2 d2)) (bc rfl b0)) q0 (ce (by (try rw [w4]);(try rw [w6]);(try rw [w8]);all_goals exact (@ev49 (f) (g) (v) (a) ((i + j).fdiv (2 ^ min (Int.toNat 1) IntKind.u64.bits)) (r) k9)) c0) ?_
  rcases xm (¬(Sp.strP v a r ((i + j).fdiv (2 ^ min (Int.toNat 1) IntKind.u64.bits)) = true)) with d11 | d11
  ·have H:=H.1 d11
   obtain ⟨k12,H⟩:=H
   have w13:wi ((i + j).fdiv (2 ^ min (Int.toNat 1) IntKind.u64.bits) + 1) = (i + j).fdiv (2 ^ min (Int.toNat 1) IntKind.u64.bits) + 1:=wI64 k12
   exact path_wp (G:=given kp28 [] []) 1000 [true] ⟨(atC (cd Tryz.f28) [1,1,0,0,0]),[(1,AV.func (Fn.func 49) [] [AV.eptr 1 [vi v] 0 0,AV.eptr 1 [vi a] 0 0,AV.eptr 4 [ratA f g r] 0 0]),(5,vi (wi (wi ((wu (wi (i + j))).fdiv (2 ^ min (Int.toNat 1) IntKind.u64.bits)) + 1))),(6,vi j)],[],[(!Sp.strP v a r ((i + j).fdiv (2 ^ min (Int.toNat 1) IntKind.u64.bits))) == true],[],_⟩ (by kernel_rfl) (bc (beq_t ((i_not (i_var _)).2 d11)) b0) q0 c0 (by (try rw [w4]);(try rw [w6]);(try rw [w8]);(try rw [w13]);all_goals exact H)
  ·have H:=H.2 d11
   exact path_wp (G:=given kp28 [] []) 1000 [false] ⟨(atC (cd Tryz.f28) [1,1,0,0,0]),[(1,AV.func (Fn.func 49) [] [AV.eptr 1 [vi v] 0 0,AV.eptr 1 [vi a] 0 0,AV.eptr 4 [ratA f g r] 0 0]),(5,vi i),(6,vi (wi ((wu (wi (i + j))).fdiv (2 ^ min (Int.toNat 1) IntKind.u64.bits))))],[],[(!Sp.strP v a r ((i + j).fdiv (2 ^ min (Int.toNat 1) IntKind.u64.bits))) == false],[],_⟩ (by kernel_rfl) (bc (beq_f (fun h => d11 ((i_not (i_var _)).1 h))) b0) q0 c0 (by (try rw [w4]);(try rw [w6]);(try rw [w8]);all_goals exact H)
 ·have H:=H.2 d2
  exact path_re (G:=given kp28 [] []) 1000 [false] (vi i) (by kernel_rfl) (bc (beq_f (fun h => d2 (i_dec.1 h))) b0) q0 c0 H
end Go.Av

namespace Go.Av
open Go.Proofs
theorem half_fdiv {x:Int} (h:0 <= x):x.fdiv (2 ^ min (Int.toNat 1) IntKind.u64.bits) = x / 2:=by
 have e:(2:Int) ^ min (Int.toNat 1) IntKind.u64.bits = 2:=rfl
 rw [e,Int.fdiv_eq_ediv_of_nonneg x (by omega)]
theorem seC_loop {ax ay az bx by_ bz m n c:Int} {dq:AV} (h:Sp.okCr ax ay az bx by_ bz m n c):∀ (k:Nat) (i j:Int),j - i < 2 ^ k -> 0 <= i -> i <= j -> j <= 1000000 -> AV.int .i64 (Sp.bs (Sp.corP ax ay az bx by_ bz m n c) k i j) = dq -> kSeCH_at ax ay az bx by_ bz m n c i j (PureQ dq)
 | 0,i,j,hk,h0,h1,h2,hq => by
  refine kSeCH _ _ _ _ _ _ _ _ _ _ _ _ ⟨fun x => by omega,fun x => hq⟩
 | k + 1,i,j,hk,h0,h1,h2,hq => by
  by_cases x:i < j
  ·rw [Int.pow_succ] at hk
   refine kSeCH _ _ _ _ _ _ _ _ _ _ _ _ ⟨fun _ => ?_,fun y => absurd x y⟩
   rw [half_fdiv (by omega)]
   rw [bs_step x] at hq
   refine ⟨by omega,by omega,by omega,⟨h,by unfold Sp.inS;omega⟩,fun y => ⟨by omega,?_⟩,fun y => ?_⟩
   ·rw [(Bool.not_eq_true _).mp y,cond_false] at hq
    exact seC_loop h k _ _ (by omega) (by omega) (by omega) (by omega) hq
   ·rw [Classical.not_not.1 y,cond_true] at hq
    exact seC_loop h k _ _ (by omega) (by omega) (by omega) (by omega) hq
  ·rw [bs_done x] at hq
   exact kSeCH _ _ _ _ _ _ _ _ _ _ _ _ ⟨fun y => absurd y x,fun _ => hq⟩
theorem seS_loop {f g:Bool} {v a:Int} {r:Rat} {dq:AV} (h:Sp.okSt v a r):∀ (k:Nat) (i j:Int),j - i < 2 ^ k -> 0 <= i -> i <= j -> j <= 1000000000000 -> AV.int .i64 (Sp.bs (Sp.strP v a r) k i j) = dq -> kSeSH_at f g v a r i j (PureQ dq)
 | 0,i,j,hk,h0,h1,h2,hq => by
  refine kSeSH _ _ _ _ _ _ _ _ ⟨fun x => by omega,fun x => hq⟩
 | k + 1,i,j,hk,h0,h1,h2,hq => by
  by_cases x:i < j
  ·rw [Int.pow_succ] at hk
   refine kSeSH _ _ _ _ _ _ _ _ ⟨fun _ => ?_,fun y => absurd x y⟩
   rw [half_fdiv (by omega)]
   rw [bs_step x] at hq
   refine ⟨by omega,by omega,by omega,⟨h,by unfold Sp.inS;omega⟩,fun y => ⟨by omega,?_⟩,fun y => ?_⟩
   ·rw [(Bool.not_eq_true _).mp y,cond_false] at hq
    exact seS_loop h k _ _ (by omega) (by omega) (by omega) (by omega) hq
   ·rw [Classical.not_not.1 y,cond_true] at hq
    exact seS_loop h k _ _ (by omega) (by omega) (by omega) (by omega) hq
  ·rw [bs_done x] at hq
   exact kSeSH _ _ _ _ _ _ _ _ ⟨fun y => absurd y x,fun _ => hq⟩
namespace Sp
noncomputable def corV (ax ay az bx by_ bz m n c:Int):Int:=bs (corP ax ay az bx by_ bz m n c) 40 0 1000000
noncomputable def strV (v a:Int) (r:Rat):Int:=bs (strP v a r) 40 0 1000000000000
end Sp
theorem ev28_c (ax ay az bx by_ bz m n c:Int) (h:Sp.okCr ax ay az bx by_ bz m n c):Ev M1 (.pure 28 [.int .i64 1000000,.func (.func 29) [] [.eptr 3 [.agg [.int .i64 ax,.int .i64 ay,.int .i64 az]] 0 0,.eptr 3 [.agg [.int .i64 bx,.int .i64 by_,.int .i64 bz]] 0 0,.eptr 1 [.int .i64 m] 0 0,.eptr 1 [.int .i64 n] 0 0,.eptr 1 [.int .i64 c] 0 0]]) (.int .i64 (Sp.corV ax ay az bx by_ bz m n c)) []:=
 call28 (kSeC _ _ _ _ _ _ _ _ _ _ (seC_loop h 40 0 1000000 (by decide) (by decide) (by decide) (by decide) rfl))
theorem ev28_s (f g:Bool) (v a:Int) (r:Rat) (h:Sp.okSt v a r):Ev M1 (.pure 28 [.int .i64 1000000000000,.func (.func 49) [] [.eptr 1 [.int .i64 v] 0 0,.eptr 1 [.int .i64 a] 0 0,.eptr 4 [ratA f g r] 0 0]]) (.int .i64 (Sp.strV v a r)) []:=
 call28 (kSeS _ _ _ _ _ _ (seS_loop h 40 0 1000000000000 (by decide) (by decide) (by decide) (by decide) rfl))
end Go.Av

namespace Go.Av
open Go.Proofs
set_option maxRecDepth 100000
def fi8:Fi:=⟨35,[.tmp 6,.tmp 7]⟩
def kp8:List (Nat × List Nat):=[(0,[3,4,5]),(1,[3,4,5,11]),(2,[6,7]),(3,[3,4,5,15]),(4,[6,7]),(5,[3,4,5,8,9]),(6,[3,4,5,8,9,31]),(7,[6,7]),(8,[10]),(9,[6,7])]
def fi17:Fi:=⟨28,[.tmp 6,.tmp 7]⟩
def kp17:List (Nat × List Nat):=[(0,[0,4,5]),(1,[0,4,5,22]),(2,[6,7]),(3,[4,5,8]),(4,[9]),(5,[6,7])]
def kCorner_at (ax ay az bx by_ bz c:Int) (Q:AV -> Heap -> Prop):Prop:=Wp M1 (.run fi8 (atC (cd Tryz.f8) []) [(0,.agg [.int .i64 ax,.int .i64 ay,.int .i64 az]),(1,.agg [.int .i64 bx,.int .i64 by_,.int .i64 bz]),(2,.int .i64 c)] []) Q
def kStraight_at (n u v:Int) (Q:AV -> Heap -> Prop):Prop:=Wp M1 (.run fi17 (atC (cd Tryz.f17) []) [(0,.int .i64 n),(1,.int .i64 u),(2,.int .i64 v)] []) Q
theorem call8 {args:List AV} {d:AV} (h:wc M1 fi8 Tryz.f8 args d):Ev M1 (.pure 8 args) d []:=pcl _ _ (by kernel_rfl) h
theorem call17 {args:List AV} {d:AV} (h:wc M1 fi17 Tryz.f17 args d):Ev M1 (.pure 17 args) d []:=pcl _ _ (by kernel_rfl) h
noncomputable abbrev zNzG1 (bx:Int) (by_:Int) (bz:Int):=ag [vi bx,vi by_,vi bz]
noncomputable abbrev zNzG2 (ax:Int) (ay:Int) (az:Int):=ag [vi ax,vi ay,vi az]
theorem kCorner (ax ay az bx by_ bz c:Int)  (dq:AV) (H :
  ((¬(0 <= c /\ c <= 1000000)) -> tu [vi 0,vi 1] = dq) /\
  (¬(¬(0 <= c /\ c <= 1000000)) -> (((¬Sp.inP ax ay az) \/ (¬Sp.inP bx by_ bz)) -> tu [vi 0,vi 11] = dq) /\
   (¬((¬Sp.inP ax ay az) \/ (¬Sp.inP bx by_ bz)) -> (Sp.inQ ax /\ Sp.inQ ay /\ Sp.inQ az) /\
    (Sp.inQ bx /\ Sp.inQ by_ /\ Sp.inQ bz) /\
    (((Sp.sqr ax ay az = 0) \/ (Sp.sqr bx by_ bz = 0)) -> tu [vi 0,vi 6] = dq) /\
    (¬((Sp.sqr ax ay az = 0) \/ (Sp.sqr bx by_ bz = 0)) -> (Sp.okCr ax ay az bx by_ bz (Sp.sqr ax ay az) (Sp.sqr bx by_ bz) c) /\
     tu [vi (Sp.corV ax ay az bx by_ bz (Sp.sqr ax ay az) (Sp.sqr bx by_ bz) c),vi 0] = dq)))) :
 kCorner_at ax ay az bx by_ bz c (PureQ dq):=by
 unfold kCorner_at
 refine path_wp (G:=given kp8 [(1,1,.call (vb (decide (0 <= c /\ c <= 1000000))) none)] []) 6 [] ⟨(atC (cd Tryz.f8) [1,0,0,1]),[(3,AV.ptr 0 0 0 0),(4,AV.ptr 1 0 0 0),(5,AV.ptr 2 0 0 0),(11,vb !decide (0 <= c /\ c <= 1000000))],[⟨[(zNzG2 ax ay az)],3,0,false,false⟩,⟨[(zNzG1 bx by_ bz)],3,0,false,false⟩,⟨[vi c],1,0,false,false⟩],_,[],_⟩ (by kernel_rfl) (bc rfl b0) q0 (ce (@ev25 (c) (0) (1000000)) c0) ?_
 rcases xm (¬(0 <= c /\ c <= 1000000)) with d2 | d2
 ·have H:=H.1 d2
  exact path_re (G:=given kp8 [] []) 1000 [true] (tu [vi 0,vi 1]) (by kernel_rfl) (bc (beq_t ((i_not i_dec).2 d2)) b0) q0 c0 H
 ·have H:=H.2 d2
  refine path_wp (G:=given kp8 [(3,1,.call (vb (decide ¬Sp.inP ax ay az)) none),(3,4,.call (vb (decide ¬Sp.inP bx by_ bz)) none)] []) 3 [false] ⟨(atC (cd Tryz.f8) [1,0,0,1,1,1]),[(3,AV.ptr 0 0 0 0),(4,AV.ptr 1 0 0 0),(5,AV.ptr 2 0 0 0),(15,vb (bif decide ¬Sp.inP ax ay az then true else decide ¬Sp.inP bx by_ bz))],[⟨[(zNzG2 ax ay az)],3,0,false,false⟩,⟨[(zNzG1 bx by_ bz)],3,0,false,false⟩,⟨[vi c],1,0,false,false⟩],[(!decide (0 <= c /\ c <= 1000000)) == false,true,!((decide ¬Sp.inP ax ay az) == false && true) || true],[],[⟨true,false,26,[(zNzG2 ax ay az)],[],vb (decide ¬Sp.inP ax ay az),[]⟩,⟨(decide ¬Sp.inP ax ay az) == false && true && true,false,26,[(zNzG1 bx by_ bz)],[],vb (decide ¬Sp.inP bx by_ bz),[]⟩]⟩ (by kernel_rfl) (bc (beq_f (fun h => d2 ((i_not i_dec).1 h))) (bc rfl (bc (Bool.or_true _) b0))) q0 (cc (fun _ => (@ev26 (ax) (ay) (az))) (cc (fun hc => ((@ev26 (bx) (by_) (bz)):Ev M1 (Conf.pure 26 [(zNzG1 bx by_ bz)]) (vb (decide ¬Sp.inP bx by_ bz)) [])) c0)) ?_
  rcases xm ((¬Sp.inP ax ay az) \/ (¬Sp.inP bx by_ bz)) with d5 | d5
  ·have H:=H.1 d5
   exact path_re (G:=given kp8 [] []) 1000 [true] (tu [vi 0,vi 11]) (by kernel_rfl) (bc (beq_t ((i_bor i_dec i_dec).2 d5)) b0) q0 c0 H
  ·have H:=H.2 d5
   obtain ⟨k6,H⟩:=H
   obtain ⟨k7,H⟩:=H
   refine path_wp (G:=given kp8 [(5,1,.call (vi (Sp.sqr ax ay az)) none),(5,3,.call (vi (Sp.sqr bx by_ bz)) none)] []) 4 [false] ⟨(atC (cd Tryz.f8) [1,1,0]),[(3,AV.ptr 0 0 0 0),(4,AV.ptr 1 0 0 0),(5,AV.ptr 2 0 0 0),(15,vb (bif decide ¬Sp.inP ax ay az then true else decide ¬Sp.inP bx by_ bz))],[⟨[(zNzG2 ax ay az)],3,0,false,false⟩,⟨[(zNzG1 bx by_ bz)],3,0,false,false⟩,⟨[vi c],1,0,false,false⟩],_,[],_⟩ (by kernel_rfl) (bc (beq_f (fun h => d5 ((i_bor i_dec i_dec).1 h))) b0) q0 c0 (wp_both (G:=given kp8 [(5,1,.call (vi (Sp.sqr ax ay az)) none),(5,3,.call (vi (Sp.sqr bx by_ bz)) none)] []) [0,1,2,4,3] 4 (e1:=[(3,AV.ptr 0 0 0 0),(4,AV.ptr 1 0 0 0),(5,AV.ptr 2 0 0 0),(8,AV.ptr 3 0 0 0),(9,AV.ptr 4 0 0 0)]) (L1:=[⟨[(zNzG2 ax ay az)],3,0,false,false⟩,⟨[(zNzG1 bx by_ bz)],3,0,false,false⟩,⟨[vi c],1,0,false,false⟩,⟨[vi (Sp.sqr ax ay az)],1,0,false,false⟩,⟨[vi (Sp.sqr bx by_ bz)],1,0,false,false⟩]) (a:=[true,true,true,true]) (q:=[]) (cs:=[⟨true,false,27,[(zNzG2 ax ay az)],[],vi (Sp.sqr ax ay az),[]⟩,⟨true,false,27,[(zNzG1 bx by_ bz)],[],vi (Sp.sqr bx by_ bz),[]⟩]) (by kernel_rfl) (by kernel_rfl) (allB_cons rfl (allB_cons rfl (allB_cons rfl (allB_cons rfl allB_nil)))) allP_nil (allC_cons (fun _ => (@ev27 (ax) (ay) (az) k6)) (allC_cons (fun _ => (@ev27 (bx) (by_) (bz) k7)) allC_nil)) ?_)
   rcases xm ((Sp.sqr ax ay az = 0) \/ (Sp.sqr bx by_ bz = 0)) with d9 | d9
   ·have H:=H.1 d9
    exact path_re (G:=given kp8 [] []) 1000 [true] (asm:=[true,!((Sp.sqr ax ay az == 0) == false && true) || true,(bif Sp.sqr ax ay az == 0 then true else Sp.sqr bx by_ bz == 0) == true]) (tu [vi 0,vi 6]) (by kernel_rfl) (bc rfl (bc (Bool.or_true _) (bc (beq_t ((i_bor i_eq i_eq).2 d9)) b0))) q0 c0 H
   ·have H:=H.2 d9
    obtain ⟨k10,H⟩:=H
    exact path_re (G:=given kp8 [(8,1,.call (vi (Sp.corV ax ay az bx by_ bz (Sp.sqr ax ay az) (Sp.sqr bx by_ bz) c)) none)] []) 1000 [false] (asm:=[true,!((Sp.sqr ax ay az == 0) == false && true) || true,(bif Sp.sqr ax ay az == 0 then true else Sp.sqr bx by_ bz == 0) == false,true,true,true,true,true]) (tu [vi (Sp.corV ax ay az bx by_ bz (Sp.sqr ax ay az) (Sp.sqr bx by_ bz) c),vi 0]) (by kernel_rfl) (bc rfl (bc (Bool.or_true _) (bc (beq_f (fun h => d9 ((i_bor i_eq i_eq).1 h))) (bc rfl (bc rfl (bc rfl (bc rfl (bc rfl b0)))))))) q0 (ce (@ev28_c (ax) (ay) (az) (bx) (by_) (bz) (Sp.sqr ax ay az) (Sp.sqr bx by_ bz) (c) k10) c0) H
theorem kStraight (n u v:Int)  (dq:AV) (H :
  ((((¬(0 <= n /\ n <= 100000000)) \/ (¬(1 <= u /\ u <= 1000000))) \/ (¬(1 <= v /\ v <= 100000000))) -> tu [vi 0,vi 1] = dq) /\
  (¬(((¬(0 <= n /\ n <= 100000000)) \/ (¬(1 <= u /\ u <= 1000000))) \/ (¬(1 <= v /\ v <= 100000000))) -> (Sp.inI n) /\
   (Sp.okSt u v (Sp.qi n)) /\
   tu [vi (Sp.strV u v (Sp.qi n)),vi 0] = dq)) :
 kStraight_at n u v (PureQ dq):=by
 unfold kStraight_at
 refine path_wp (G:=given kp17 [(1,1,.call (vb (decide (0 <= n /\ n <= 100000000))) none),(1,5,.call (vb (decide (1 <= u /\ u <= 1000000))) none),(1,10,.call (vb (decide (1 <= v /\ v <= 100000000))) none)] []) 5 [] ⟨(atC (cd Tryz.f17) [1,0,1]),[(0,vi n),(4,AV.ptr 0 0 0 0),(5,AV.ptr 1 0 0 0),(22,vb (bif bif !decide (0 <= n /\ n <= 100000000) then true else !decide (1 <= u /\ u <= 1000000) then true else !decide (1 <= v /\ v <= 100000000)))],[⟨[vi u],1,0,false,false⟩,⟨[vi v],1,0,false,false⟩],[!((!decide (0 <= n /\ n <= 100000000)) == false && true) || true,!((bif !decide (0 <= n /\ n <= 100000000) then true else !decide (1 <= u /\ u <= 1000000)) == false && true) || true],[],[⟨true,false,25,[vi n,vi 0,vi 100000000],[],vb (decide (0 <= n /\ n <= 100000000)),[]⟩,⟨(!decide (0 <= n /\ n <= 100000000)) == false && true && true,false,25,[vi u,vi 1,vi 1000000],[],vb (decide (1 <= u /\ u <= 1000000)),[]⟩,⟨(bif !decide (0 <= n /\ n <= 100000000) then true else !decide (1 <= u /\ u <= 1000000)) == false && true && true,false,25,[vi v,vi 1,vi 100000000],[],vb (decide (1 <= v /\ v <= 100000000)),[]⟩]⟩ (by kernel_rfl) (bc (Bool.or_true _) (bc (Bool.or_true _) b0)) q0 (cc (fun _ => (@ev25 (n) (0) (100000000))) (cc (fun hc => ((@ev25 (u) (1) (1000000)):Ev M1 (Conf.pure 25 [vi u,vi 1,vi 1000000]) (vb (decide (1 <= u /\ u <= 1000000))) [])) (cc (fun hc => ((@ev25 (v) (1) (100000000)):Ev M1 (Conf.pure 25 [vi v,vi 1,vi 100000000]) (vb (decide (1 <= v /\ v <= 100000000))) [])) c0))) ?_
 rcases xm (((¬(0 <= n /\ n <= 100000000)) \/ (¬(1 <= u /\ u <= 1000000))) \/ (¬(1 <= v /\ v <= 100000000))) with d4 | d4
 ·have H:=H.1 d4
  exact path_re (G:=given kp17 [] []) 1000 [true] (tu [vi 0,vi 1]) (by kernel_rfl) (bc (beq_t ((i_bor (i_bor (i_not i_dec) (i_not i_dec)) (i_not i_dec)).2 d4)) b0) q0 c0 H
 ·have H:=H.2 d4
  obtain ⟨k5,H⟩:=H
  obtain ⟨k6,H⟩:=H
  exact path_re (G:=given kp17 [(3,1,.call (ratA false false (Sp.qi n)) none),(4,1,.call (vi (Sp.strV u v (Sp.qi n))) none)] []) 1000 [false] (tu [vi (Sp.strV u v (Sp.qi n)),vi 0]) (by kernel_rfl) (bc (beq_f (fun h => d4 ((i_bor (i_bor (i_not i_dec) (i_not i_dec)) (i_not i_dec)).1 h))) (bc rfl (bc rfl (bc rfl (bc rfl b0))))) q0 (ce (@ev35 (n) k5) (ce (@ev28_s (false) (false) (u) (v) (Sp.qi n) k6) c0)) H
end Go.Av

namespace Go.Av
open Go.Proofs
namespace Sp
def corE (ax ay az bx by_ bz c:Int):Int:=if isV c then (if inP ax ay az /\ inP bx by_ bz then (if sqr ax ay az = 0 \/ sqr bx by_ bz = 0 then 6 else 0) else 11) else 1
noncomputable def cor (ax ay az bx by_ bz c:Int):Int:=if corE ax ay az bx by_ bz c = 0 then corV ax ay az bx by_ bz (sqr ax ay az) (sqr bx by_ bz) c else 0
def isSt (n u v:Int):Prop:=isLen n /\ (1 <= u /\ u <= 1000000) /\ isAcc v
end Sp
instance (n u v:Int):Decidable (Sp.isSt n u v):=by unfold Sp.isSt;infer_instance
namespace Sp
def strE (n u v:Int):Int:=if isSt n u v then 0 else 1
noncomputable def str (n u v:Int):Int:=if isSt n u v then strV u v (qi n) else 0
end Sp
theorem okCr_of {ax ay az bx by_ bz c:Int} (h1:Sp.isV c) (h2:Sp.inP ax ay az /\ Sp.inP bx by_ bz) (h3:¬(Sp.sqr ax ay az = 0 \/ Sp.sqr bx by_ bz = 0)):Sp.okCr ax ay az bx by_ bz (Sp.sqr ax ay az) (Sp.sqr bx by_ bz) c /\ (Sp.inQ ax /\ Sp.inQ ay /\ Sp.inQ az) /\ Sp.inQ bx /\ Sp.inQ by_ /\ Sp.inQ bz:=by
 have q:=h2
 unfold Sp.inP Sp.inM at q
 have qa:Sp.inQ ax /\ Sp.inQ ay /\ Sp.inQ az:=by unfold Sp.inQ;omega
 have qb:Sp.inQ bx /\ Sp.inQ by_ /\ Sp.inQ bz:=by unfold Sp.inQ;omega
 have a:=sqr_bound qa.1 qa.2.1 qa.2.2
 have b:=sqr_bound qb.1 qb.2.1 qb.2.2
 exact ⟨⟨h2.1,h2.2,by unfold Sp.okQ;omega,by unfold Sp.okQ;omega,h1⟩,qa,qb⟩
theorem ev8 (ax ay az bx by_ bz c:Int):Ev M1 (.pure 8 [.agg [.int .i64 ax,.int .i64 ay,.int .i64 az],.agg [.int .i64 bx,.int .i64 by_,.int .i64 bz],.int .i64 c]) (.tup [.int .i64 (Sp.cor ax ay az bx by_ bz c),.int .i64 (Sp.corE ax ay az bx by_ bz c)]) []:=by
 refine call8 (kCorner _ _ _ _ _ _ _ _ ⟨fun x => ?_,fun x => ⟨fun y => ?_,fun y => ?_⟩⟩)
 ·have e:Sp.corE ax ay az bx by_ bz c = 1:=if_neg x
  unfold Sp.cor;rw [e];rfl
 ·have x:Sp.isV c:=Classical.not_not.1 x
  have e:Sp.corE ax ay az bx by_ bz c = 11:=by unfold Sp.corE;rw [if_pos x,if_neg fun z => y.elim (fun w => w z.1) fun w => w z.2]
  unfold Sp.cor;rw [e];rfl
 ·have x:Sp.isV c:=Classical.not_not.1 x
  have y:Sp.inP ax ay az /\ Sp.inP bx by_ bz:=⟨Classical.not_not.1 fun z => y (.inl z),Classical.not_not.1 fun z => y (.inr z)⟩
  have q:=y
  unfold Sp.inP Sp.inM at q
  refine ⟨by unfold Sp.inQ;omega,by unfold Sp.inQ;omega,fun z => ?_,fun z => ?_⟩
  ·have e:Sp.corE ax ay az bx by_ bz c = 6:=by unfold Sp.corE;rw [if_pos x,if_pos y,if_pos z]
   unfold Sp.cor;rw [e];rfl
  ·have e:Sp.corE ax ay az bx by_ bz c = 0:=by unfold Sp.corE;rw [if_pos x,if_pos y,if_neg z]
   unfold Sp.cor;rw [e,if_pos rfl]
   exact ⟨(okCr_of x y z).1,rfl⟩
theorem ev17 (n u v:Int):Ev M1 (.pure 17 [.int .i64 n,.int .i64 u,.int .i64 v]) (.tup [.int .i64 (Sp.str n u v),.int .i64 (Sp.strE n u v)]) []:=by
 have e:(((¬(0 <= n /\ n <= 100000000)) \/ (¬(1 <= u /\ u <= 1000000))) \/ (¬(1 <= v /\ v <= 100000000))) ↔ ¬Sp.isSt n u v:=by unfold Sp.isSt Sp.isLen Sp.isAcc;omega
 refine call17 (kStraight _ _ _ _ ⟨fun x => ?_,fun x => ?_⟩)
 ·unfold Sp.str Sp.strE
  rw [if_neg (e.1 x),if_neg (e.1 x)]
 ·have y:=Classical.not_not.1 (mt e.2 x)
  unfold Sp.str Sp.strE
  rw [if_pos y,if_pos y]
  have z:=y.1
  unfold Sp.isLen at z
  have i:Sp.inI n:=by unfold Sp.inI;omega
  exact ⟨i,⟨y.2.1,y.2.2,okT_R (okT_int i) (by omega)⟩,rfl⟩
end Go.Av

namespace Go.Av
open Go.Proofs
set_option maxRecDepth 100000
def fi24:Fi:=⟨6,[.cell 2 36]⟩
def kp24:List (Nat × List Nat):=[(0,[0,2]),(1,[2])]
def kWhole_at (n:Int) (Q:AV -> Heap -> Prop):Prop:=Wp M1 (.run fi24 (atC (cd Tryz.f24) []) [(0,.int .i64 n)] []) Q
theorem call24 {args:List AV} {d:AV} (h:wc M1 fi24 Tryz.f24 args d):Ev M1 (.pure 24 args) d []:=pcl _ _ (by kernel_rfl) h
theorem kWhole (n:Int)  (dq:AV) (H :
  (Sp.inI n) /\
  Weak (ratA false false (Sp.qi n)) dq) :
 kWhole_at n (PureQ dq):=by
 unfold kWhole_at
 obtain ⟨k1,H⟩:=H
 exact path_rq (G:=given kp24 [(1,1,.call (bigA false n) none),(1,2,.call (ratA false false (Sp.qi n)) none)] []) 1000 [] (ratA false false (Sp.qi n)) (by kernel_rfl) (bc rfl b0) q0 (ce (@ev57 (n) k1) (ce (@ev56 (false) (n)) c0)) H
end Go.Av

namespace Go.Av
open Go.Proofs
theorem ev24 (n:Int) (h:Sp.inI n):Ev M1 (.pure 24 [.int .i64 n]) (ratA false false (Sp.qi n)) []:=
 call24 (kWhole _ _ ⟨h,.refl _⟩)
theorem qf_lt {i j d:Int} (hd:0 < d) (h:i < j):Sp.qf i d < Sp.qf j d:=by
 rw [qf_div _ hd,qf_div _ hd,Rat.div_def,Rat.div_def]
 have p:0 < Sp.qi d:=qi_pos (by omega)
 have e:Sp.qi d * (Sp.qi d)⁻¹ = 1:=Rat.mul_inv_cancel _ (by grind)
 have k:Sp.qi i < Sp.qi j:=by rw [qi_eq,qi_eq];exact Rat.intCast_lt_intCast.2 h
 have q:0 < (Sp.qi d)⁻¹:=by
  rcases tri ((Sp.qi d)⁻¹) with t | t | t
  ·have:=mul_pp p (show 0 < -(Sp.qi d)⁻¹ by grind);grind
  ·rw [t] at e;grind
  ·exact t
 have:=mul_pp (show 0 < Sp.qi j - Sp.qi i by grind) q
 grind
theorem qf_zero (d:Int):Sp.qf 0 d = 0:=by rw [qf_eq];exact Rat.zero_divInt d
theorem qf_nn {i d:Int} (hd:0 < d) (h:0 <= i):0 <= Sp.qf i d:=by
 rcases Int.lt_or_eq_of_le h with k | k
 ·have:=qf_lt hd k;rw [qf_zero] at this;grind
 ·rw [<- k,qf_zero];grind
theorem reR_lt {i j v a:Int} (hv:1 <= v) (ha:1 <= a) (h0:0 <= i) (h:i < j):Sp.reR i v a < Sp.reR j v a:=
 rch_lt (qi_pos ha) (qi_pos hv) (qf_nn (by omega) h0) (qf_lt (by omega) h)
theorem reR_le {i j v a:Int} (hv:1 <= v) (ha:1 <= a) (h0:0 <= i) (h:i <= j):Sp.reR i v a <= Sp.reR j v a:=by
 rcases Int.lt_or_eq_of_le h with k | k
 ·have:=reR_lt hv ha h0 k;grind
 ·rw [k];grind
theorem ex_fast:Sp.fastV 0 500 1000 = 1000 /\ Sp.fastE 0 500 1000 = 0:=by
 have h:Sp.isV 0 /\ Sp.isLen 500 /\ Sp.isAcc 1000:=by unfold Sp.isV Sp.isLen Sp.isAcc;omega
 unfold Sp.fastV Sp.fastE
 rw [if_pos h,if_pos h]
 exact ⟨(sq_unique (by decide) (by decide) (by decide)).symm,rfl⟩
def exL:List Pt:=[⟨500,2000,600⟩,⟨500,2000,2000⟩]
theorem ex_valid:Sp.validE exL 1000 = 0:=by
 have h:Sp.okPts exL 1000:=⟨by unfold Sp.isAcc;omega,fun p hp => by
  simp only [exL,List.mem_cons,List.not_mem_nil,or_false] at hp
  rcases hp with rfl | rfl <;> (unfold Sp.okPt Sp.isLen Sp.isV;decide)⟩
 unfold Sp.validE
 rw [if_neg (by decide),if_pos h]
theorem ex_spds:Sp.spdV exL 1000 = [0,600,0]:=by
 rw [show Sp.spdV exL 1000 = Sp.spds exL 1000 from if_pos ex_valid]
 have e:Sp.sq (0 * 0 + 2 * 1000 * 500) = 1000:=(sq_unique (by decide) (by decide) (by decide)).symm
 have f1:Sp.spF exL 1000 1 = 600:=by
  show min (min (min (2000:Int) 600) 2000) (Sp.sq (0 * 0 + 2 * 1000 * 500)) = 600
  rw [e];decide
 have g1:Sp.spAt exL 1000 1 = 600:=by
  show min (Sp.spF exL 1000 1) (Sp.sq (0 * 0 + 2 * 1000 * 500)) = 600
  rw [e,f1];decide
 show [Sp.spAt exL 1000 0,Sp.spAt exL 1000 1,Sp.spAt exL 1000 exL.length] = _
 rw [spAt_zero,g1,spAt_end]
theorem qi1:Sp.qi 1 = 1:=by rw [qi_eq];rfl
theorem sgR_le {a:Rat}:Sp.sgR a <= 0 ↔ a <= 0:=by
 rcases tri a with k | k | k
 ·rw [sgR_neg k];constructor
  ·intro _;grind
  ·intro _;omega
 ·subst k;rw [sgR_zero];constructor
  ·intro _;grind
  ·intro _;omega
 ·rw [sgR_pos k];constructor
  ·intro h;omega
  ·intro h;grind
theorem alw_ex {v x y:Int} (h:x * y = 0) (k:Sp.alwA x y 1 1 = Sp.qi (x * x + y * y)):Sp.alw v x y 1 1 500 = decide ((x * x + y * y) * (v * v) <= 250000):=by
 have t:Sp.alwT x y * (Sp.qi v * Sp.qi v) = Sp.qi 0:=by
  unfold Sp.alwT
  rw [qi_mul x y,h,qi_0];grind
 unfold Sp.alw
 rw [t,sgO_b0,k,qi_mul,qi_mul,qi_mul]
 refine dec_iff ?_
 rw [sgR_le]
 have e:Sp.qi ((x * x + y * y) * (v * v)) + -Sp.qi (500 * 500) <= 0 ↔ Sp.qi ((x * x + y * y) * (v * v)) <= Sp.qi (500 * 500):=by constructor <;> intro _ <;> grind
 rw [e,qi_eq,qi_eq,Rat.intCast_le_intCast]
 exact Iff.rfl
theorem qf1 (n:Int):Sp.qf n 1 = Sp.qi n:=by rw [qf_div n (by omega),qi1,Rat.div_def];grind
theorem ex_cor:Sp.cor 1 0 0 0 1 0 500 = 500 /\ Sp.corE 1 0 0 0 1 0 500 = 0:=by
 have e:Sp.corE 1 0 0 0 1 0 500 = 0:=by
  unfold Sp.corE
  rw [if_pos (by unfold Sp.isV;omega),if_pos (by unfold Sp.inP Sp.inM;omega),if_neg (by decide)]
 refine ⟨?_,e⟩
 unfold Sp.cor
 rw [if_pos e]
 show Sp.corV 1 0 0 0 1 0 1 1 500 = 500
 have p:∀ i:Int,0 <= i -> Sp.corP 1 0 0 0 1 0 1 1 500 i = decide (500 <= i):=by
  intro i hi
  have a1:Sp.alwA 1 0 1 1 = Sp.qi (1 * 1 + 0 * 0):=by unfold Sp.alwA;rw [qf1,qf1];show Sp.qi 1 + Sp.qi 0 = Sp.qi 1;rw [qi_0];grind
  have a2:Sp.alwA 0 1 1 1 = Sp.qi (0 * 0 + 1 * 1):=by unfold Sp.alwA;rw [qf1,qf1];show Sp.qi 0 + Sp.qi 1 = Sp.qi 1;rw [qi_0];grind
  have a3:Sp.alwA 0 0 1 1 = Sp.qi (0 * 0 + 0 * 0):=by unfold Sp.alwA;rw [qf1];show Sp.qi 0 + Sp.qi 0 = Sp.qi 0;rw [qi_0];grind
  have s1:(1 * 1 + 0 * 0:Int) * ((i + 1) * (i + 1)) <= 250000 ↔ ¬500 <= i:=by
   have m1:500 <= i -> 501 * 501 <= (i + 1) * (i + 1):=fun k => sq_le_sq (by omega) (by omega)
   have m2:¬500 <= i -> (i + 1) * (i + 1) <= 500 * 500:=fun k => sq_le_sq (by omega) (by omega)
   omega
  have s2:(0 * 0 + 1 * 1:Int) * ((i + 1) * (i + 1)) <= 250000 ↔ ¬500 <= i:=s1
  have s3:(0 * 0 + 0 * 0:Int) * ((i + 1) * (i + 1)) <= 250000 ↔ True:=by
   rw [show (0 * 0 + 0 * 0:Int) = 0 from rfl,Int.zero_mul];decide
  unfold Sp.corP
  rw [alw_ex (by decide) a1,alw_ex (by decide) a2,alw_ex (by decide) a3,dec_iff s1,dec_iff s2,dec_iff s3]
  by_cases k:500 <= i <;> simp [k]
 obtain ⟨r0,r1,r2,r3⟩:=bs_all (p:=Sp.corP 1 0 0 0 1 0 1 1 500) (h:=1000000) (by decide) (by decide)
 unfold Sp.corV
 generalize Sp.bs (Sp.corP 1 0 0 0 1 0 1 1 500) 40 0 1000000 = r at *
 rw [p r r0] at r3
 have r2':r = 0 \/ ¬500 <= r - 1:=by
  rcases r2 with k | k
  ·exact .inl k
  ·by_cases z:r = 0
   ·exact .inl z
   ·rw [p (r - 1) (by omega)] at k
    exact .inr (of_decide_eq_false k)
 have r3':r = 1000000 \/ 500 <= r:=r3.imp id of_decide_eq_true
 omega
theorem ex_re:Sp.reR 2000 1000 1000 = Sp.qi 1000:=by
 have t:Sp.qf 2000 1000 = 2:=by rw [qf_eq];decide +kernel
 have e:Sp.qi 1000 = 1000:=by rw [qi_eq];rfl
 have i:(1000:Rat) * 1000⁻¹ = 1:=Rat.mul_inv_cancel _ (by decide +kernel)
 unfold Sp.reR Sp.rch
 rw [t,e,if_pos (by decide +kernel),Rat.div_def]
 grind
theorem ex_okRe:Sp.okRe 2000 1000 1000:=by unfold Sp.okRe Sp.isAcc;omega
theorem ex_str:Sp.str 1000 1000 1000 = 2000 /\ Sp.strE 1000 1000 1000 = 0:=by
 have h:Sp.isSt 1000 1000 1000:=by unfold Sp.isSt Sp.isLen Sp.isAcc;omega
 unfold Sp.str Sp.strE
 rw [if_pos h,if_pos h]
 refine ⟨?_,rfl⟩
 obtain ⟨r0,r1,r2,r3⟩:=bs_all (p:=Sp.strP 1000 1000 (Sp.qi 1000)) (h:=1000000000000) (by decide) (by decide)
 unfold Sp.strV
 generalize Sp.bs (Sp.strP 1000 1000 (Sp.qi 1000)) 40 0 1000000000000 = r at *
 unfold Sp.strP at r2 r3
 have a:¬r < 2000:=fun k => by
  rcases r3 with z | z
  ·omega
  ·have:=of_decide_eq_true z
   have:=reR_lt (v:=1000) (a:=1000) (by omega) (by omega) r0 k
   rw [ex_re] at this
   grind
 have b:¬2000 < r:=fun k => by
  rcases r2 with z | z
  ·omega
  ·have:=of_decide_eq_false z
   have:=reR_le (v:=1000) (a:=1000) (i:=2000) (j:=r - 1) (by omega) (by omega) (by omega) (by omega)
   rw [ex_re] at this
   grind
 omega
end Go.Av

namespace Go.Av
open Go.Proofs
set_option maxRecDepth 100000
def fi7:Fi:=⟨76,[.tmp 0]⟩
def kp7:List (Nat × List Nat):=[(0,[]),(1,[1,2]),(2,[1,2,3,4]),(3,[1,2,3,4,5,6]),(4,[1,2,3,4,5,6,7,8]),(5,[1,2,3,4,5,6,7,8,9,10]),(6,[0])]
def kAwake_at  (Q:AV -> Heap -> Prop):Prop:=Wp M1 (.run fi7 (atC (cd Tryz.f7) []) [] []) Q
theorem call7 {args:List AV} {d:AV} (h:wc M1 fi7 Tryz.f7 args d):Ev M1 (.pure 7 args) d []:=pcl _ _ (by kernel_rfl) h
noncomputable abbrev zNzJ1:=ag [vb (Sp.isNeg (Sp.reR 2000 1000 1000).num),vf (us (Sp.limI (Sp.reR 2000 1000 1000).num)),vb false,vf (us (Sp.limI (↑(Sp.reR 2000 1000 1000).den:Int)))]
noncomputable abbrev zNzJ2 (n1:Int) (b3:Bool):=bif bif bif bif bif bif n1 == 0 then true else false then false else false then true else false then Sp.fastV 0 500 1000 == 1000 else false then b3 else false then Sp.cor 1 0 0 0 1 0 500 == 500 else false
noncomputable abbrev zNzJ3 (n1:Int) (b1:Bool):=bif bif bif bif bif bif n1 == 0 then true else false then true else false then true else false then Sp.fastV 0 500 1000 == 1000 else false then b1 else false then Sp.cor 1 0 0 0 1 0 500 == 500 else false
noncomputable abbrev zNzJ4:=ag [vb false,vf [],vb false,vf []]
noncomputable abbrev zNzJ5:=tu [vi (Sp.cor 1 0 0 0 1 0 500),vi 0]
noncomputable abbrev zNzJ6:=tu [vi (Sp.str 1000 1000 1000),vi 0]
noncomputable abbrev zNzJ7:=tu [vi (Sp.fastV 0 500 1000),vi 0]
noncomputable abbrev zNzJ8 (l1:List (Int)) (n1:Int):=tu [vf (List.map (vi) l1),vi n1]
theorem kAwake   (dq:AV) (H :
  ∃ (l1:List (Int)) (n1:Int),
  (Ev M1 (Conf.pure 22 [AV.vec true 3 [ag [vi 500,vi 2000,vi 600],ag [vi 500,vi 2000,vi 2000]],vi 1000]) (tu [vf (List.map (vi) l1),vi n1]) []) /\
  ((Sp.okRe 2000 1000 1000) -> ∃ (b1:Bool),
   ((((((n1 = 0) \/ (false = true)) \/ (false = true)) \/ (false = true)) /\ (Sp.fastV 0 500 1000 = 1000)) -> (Ev M1 (Conf.pure 23 [vf (List.map (vi) l1),AV.vec true 1 [vi 0,vi 600,vi 0]]) (vb b1) [])) /\
   ((((((((n1 = 0) \/ (false = true)) \/ (false = true)) \/ (false = true)) /\ (Sp.fastV 0 500 1000 = 1000)) /\ (b1 = true)) /\ (Sp.cor 1 0 0 0 1 0 500 = 500)) -> (Sp.inI 1000)) /\
   ∃ (b2:Bool),
   ((((((((n1 = 0) \/ (false = true)) \/ (false = true)) \/ (false = true)) /\ (Sp.fastV 0 500 1000 = 1000)) /\ (b1 = true)) /\ (Sp.cor 1 0 0 0 1 0 500 = 500)) -> (Ev M1 (Conf.pure 15 [ag [vb (Sp.isNeg (Sp.reR 2000 1000 1000).num),vf (us (Sp.limI (Sp.reR 2000 1000 1000).num)),vb false,vf (us (Sp.limI (↑(Sp.reR 2000 1000 1000).den:Int)))],ratA false false (Sp.qi 1000)]) (vb b2) [])) /\
   vb (bif bif bif bif bif bif bif bif n1 == 0 then true else false then true else false then true else false then Sp.fastV 0 500 1000 == 1000 else false then b1 else false then Sp.cor 1 0 0 0 1 0 500 == 500 else false then b2 else false then Sp.str 1000 1000 1000 == 2000 else false) = dq) /\
  (¬(Sp.okRe 2000 1000 1000) -> ∃ (b3:Bool),
   ((((((n1 = 0) \/ (false = true)) /\ (false = true)) \/ (false = true)) /\ (Sp.fastV 0 500 1000 = 1000)) -> (Ev M1 (Conf.pure 23 [vf (List.map (vi) l1),AV.vec true 1 [vi 0,vi 600,vi 0]]) (vb b3) [])) /\
   ((((((((n1 = 0) \/ (false = true)) /\ (false = true)) \/ (false = true)) /\ (Sp.fastV 0 500 1000 = 1000)) /\ (b3 = true)) /\ (Sp.cor 1 0 0 0 1 0 500 = 500)) -> (Sp.inI 1000)) /\
   ∃ (b4:Bool),
   ((((((((n1 = 0) \/ (false = true)) /\ (false = true)) \/ (false = true)) /\ (Sp.fastV 0 500 1000 = 1000)) /\ (b3 = true)) /\ (Sp.cor 1 0 0 0 1 0 500 = 500)) -> (Ev M1 (Conf.pure 15 [ag [vb false,vf [],vb false,vf []],ratA false false (Sp.qi 1000)]) (vb b4) [])) /\
   vb (bif bif bif bif bif bif bif bif n1 == 0 then true else false then false else false then true else false then Sp.fastV 0 500 1000 == 1000 else false then b3 else false then Sp.cor 1 0 0 0 1 0 500 == 500 else false then b4 else false then Sp.str 1000 1000 1000 == 2000 else false) = dq)) :
 kAwake_at  (PureQ dq):=by
 unfold kAwake_at
 obtain ⟨l1,n1,H⟩:=H
 obtain ⟨k1,H⟩:=H
 rcases xm (Sp.okRe 2000 1000 1000) with d2 | d2
 ·have H:=H.1 d2
  obtain ⟨b1,H⟩:=H
  obtain ⟨k4,H⟩:=H
  obtain ⟨k6,H⟩:=H
  obtain ⟨b2,H⟩:=H
  obtain ⟨k8,H⟩:=H
  exact path_re (G:=given kp7 [(1,0,.call (zNzJ7) none),(2,3,.call ((zNzJ8 l1 n1)) none),(3,2,.call (zNzJ5) none),(4,0,.call (tu [zNzJ1,vi 0]) none),(5,0,.call (zNzJ6) none),(6,25,.call (vb b1) none),(6,33,.call (ratA false false (Sp.qi 1000)) none),(6,34,.call (vb b2) none)] []) 1000 [] (asm:=[true,!((zNzJ3 n1 b1) == true && true) || true]) (calls:=[⟨true,false,21,[vi 0,vi 500,vi 1000],[],zNzJ7,[]⟩,⟨true,false,22,[AV.vec true 3 [ag [vi 500,vi 2000,vi 600],ag [vi 500,vi 2000,vi 2000]],vi 1000],[],(zNzJ8 l1 n1),[]⟩,⟨true,false,8,[ag [vi 1,vi 0,vi 0],ag [vi 0,vi 1,vi 0],vi 500],[],zNzJ5,[]⟩,⟨true,false,12,[vi 2000,vi 1000,vi 1000],[],tu [zNzJ1,vi 0],[]⟩,⟨true,false,17,[vi 1000,vi 1000,vi 1000],[],zNzJ6,[]⟩,⟨(bif bif bif bif n1 == 0 then true else false then true else false then true else false then Sp.fastV 0 500 1000 == 1000 else false) == true && true && true,false,23,[vf (List.map (vi) l1),AV.vec true 1 [vi 0,vi 600,vi 0]],[],vb b1,[]⟩,⟨(zNzJ3 n1 b1) == true && true && true,false,24,[vi 1000],[],ratA false false (Sp.qi 1000),[]⟩,⟨(zNzJ3 n1 b1) == true && true && true,false,15,[zNzJ1,ratA false false (Sp.qi 1000)],[],vb b2,[]⟩]) (vb (bif bif bif bif bif bif bif bif n1 == 0 then true else false then true else false then true else false then Sp.fastV 0 500 1000 == 1000 else false then b1 else false then Sp.cor 1 0 0 0 1 0 500 == 500 else false then b2 else false then Sp.str 1000 1000 1000 == 2000 else false)) (by kernel_rfl) (bc rfl (bc (Bool.or_true _) b0)) q0 (cc (fun _ => (@ev21 (0) (500) (1000))) (cc (fun _ => k1) (cc (fun _ => (@ev8 (1) (0) (0) (0) (1) (0) (500))) (cc (fun _ => (@ev12_y (2000) (1000) (1000) d2)) (cc (fun _ => (@ev17 (1000) (1000) (1000))) (cc (fun hc => ((k4 ((i_at (i_at (i_bt (i_band (i_bor (i_bor (i_bor i_eq (i_var _)) (i_var _)) (i_var _)) i_eq)))).1 hc)):Ev M1 (Conf.pure 23 [vf (List.map (vi) l1),AV.vec true 1 [vi 0,vi 600,vi 0]]) (vb b1) [])) (cc (fun hc => ((@ev24 (1000) (k6 ((i_at (i_at (i_bt (i_band (i_band (i_band (i_bor (i_bor (i_bor i_eq (i_var _)) (i_var _)) (i_var _)) i_eq) (i_var _)) i_eq)))).1 hc))):Ev M1 (Conf.pure 24 [vi 1000]) (ratA false false (Sp.qi 1000)) [])) (cc (fun hc => ((k8 ((i_at (i_at (i_bt (i_band (i_band (i_band (i_bor (i_bor (i_bor i_eq (i_var _)) (i_var _)) (i_var _)) i_eq) (i_var _)) i_eq)))).1 hc)):Ev M1 (Conf.pure 15 [zNzJ1,ratA false false (Sp.qi 1000)]) (vb b2) [])) c0)))))))) H
 ·have H:=H.2 d2
  obtain ⟨b3,H⟩:=H
  obtain ⟨k10,H⟩:=H
  obtain ⟨k12,H⟩:=H
  obtain ⟨b4,H⟩:=H
  obtain ⟨k14,H⟩:=H
  exact path_re (G:=given kp7 [(1,0,.call (zNzJ7) none),(2,3,.call ((zNzJ8 l1 n1)) none),(3,2,.call (zNzJ5) none),(4,0,.call (tu [zNzJ4,vi 1]) none),(5,0,.call (zNzJ6) none),(6,25,.call (vb b3) none),(6,33,.call (ratA false false (Sp.qi 1000)) none),(6,34,.call (vb b4) none)] []) 1000 [] (asm:=[true,!((zNzJ2 n1 b3) == true && true) || true]) (calls:=[⟨true,false,21,[vi 0,vi 500,vi 1000],[],zNzJ7,[]⟩,⟨true,false,22,[AV.vec true 3 [ag [vi 500,vi 2000,vi 600],ag [vi 500,vi 2000,vi 2000]],vi 1000],[],(zNzJ8 l1 n1),[]⟩,⟨true,false,8,[ag [vi 1,vi 0,vi 0],ag [vi 0,vi 1,vi 0],vi 500],[],zNzJ5,[]⟩,⟨true,false,12,[vi 2000,vi 1000,vi 1000],[],tu [zNzJ4,vi 1],[]⟩,⟨true,false,17,[vi 1000,vi 1000,vi 1000],[],zNzJ6,[]⟩,⟨(bif bif bif bif n1 == 0 then true else false then false else false then true else false then Sp.fastV 0 500 1000 == 1000 else false) == true && true && true,false,23,[vf (List.map (vi) l1),AV.vec true 1 [vi 0,vi 600,vi 0]],[],vb b3,[]⟩,⟨(zNzJ2 n1 b3) == true && true && true,false,24,[vi 1000],[],ratA false false (Sp.qi 1000),[]⟩,⟨(zNzJ2 n1 b3) == true && true && true,false,15,[zNzJ4,ratA false false (Sp.qi 1000)],[],vb b4,[]⟩]) (vb (bif bif bif bif bif bif bif bif n1 == 0 then true else false then false else false then true else false then Sp.fastV 0 500 1000 == 1000 else false then b3 else false then Sp.cor 1 0 0 0 1 0 500 == 500 else false then b4 else false then Sp.str 1000 1000 1000 == 2000 else false)) (by kernel_rfl) (bc rfl (bc (Bool.or_true _) b0)) q0 (cc (fun _ => (@ev21 (0) (500) (1000))) (cc (fun _ => k1) (cc (fun _ => (@ev8 (1) (0) (0) (0) (1) (0) (500))) (cc (fun _ => (@ev12_n (2000) (1000) (1000) d2)) (cc (fun _ => (@ev17 (1000) (1000) (1000))) (cc (fun hc => ((k10 ((i_at (i_at (i_bt (i_band (i_bor (i_band (i_bor i_eq (i_var _)) (i_var _)) (i_var _)) i_eq)))).1 hc)):Ev M1 (Conf.pure 23 [vf (List.map (vi) l1),AV.vec true 1 [vi 0,vi 600,vi 0]]) (vb b3) [])) (cc (fun hc => ((@ev24 (1000) (k12 ((i_at (i_at (i_bt (i_band (i_band (i_band (i_bor (i_band (i_bor i_eq (i_var _)) (i_var _)) (i_var _)) i_eq) (i_var _)) i_eq)))).1 hc))):Ev M1 (Conf.pure 24 [vi 1000]) (ratA false false (Sp.qi 1000)) [])) (cc (fun hc => ((k14 ((i_at (i_at (i_bt (i_band (i_band (i_band (i_bor (i_band (i_bor i_eq (i_var _)) (i_var _)) (i_var _)) i_eq) (i_var _)) i_eq)))).1 hc)):Ev M1 (Conf.pure 15 [zNzJ4,ratA false false (Sp.qi 1000)]) (vb b4) [])) c0)))))))) H
end Go.Av

namespace Go.Av
open Go.Proofs
theorem ev7:Ev M1 (.pure 7 []) (.bool true) []:=by
 have s:=ev22 true exL 1000
 rw [ex_valid,ex_spds] at s
 have q:=ev23 false true [0,600,0] [0,600,0] (by decide)
 rw [decide_eq_true rfl] at q
 have k:=ev15 false false false false (Sp.reR 2000 1000 1000) (Sp.qi 1000) ⟨okT_R (okT_re ex_okRe) (by omega),okT_R (okT_int (by unfold Sp.inI;omega)) (by omega)⟩
 rw [decide_eq_true ex_re] at k
 refine call7 (kAwake _ ⟨[0,600,0],0,s,fun _ => ⟨true,fun _ => q,fun _ => by unfold Sp.inI;omega,true,fun _ => k,?_⟩,fun x => absurd ex_okRe x⟩)
 rw [ex_fast.1,ex_cor.1,ex_str.1]
 rfl
end Go.Av

namespace Go.Av
open Go.Proofs
set_option maxRecDepth 100000
def fi70:Fi:=⟨28,[.tmp 2]⟩
def kp70:List (Nat × List Nat):=[(0,[1]),(1,[1,3,4]),(2,[1,3,4,17]),(3,[2]),(4,[1,3,4,20]),(5,[2]),(6,[3,4,25]),(7,[2]),(8,[2])]
def pSign_at (f1 f2 f3 f4 f5 f6:Bool) (a b c:Rat) (Q:AV -> Heap -> Prop):Prop:=Wp M1 (.run fi70 (atC (cd Tryz.f70) []) [(0,rootA f1 f2 f3 f4 f5 f6 a b c)] []) Q
theorem call70 {args:List AV} {d:AV} (h:wc M1 fi70 Tryz.f70 args d):Ev M1 (.pure 70 args) d []:=pcl _ _ (by kernel_rfl) h
theorem pSign (f1 f2 f3 f4 f5 f6:Bool) (a b c:Rat)  (dq:AV) (H :
  (((Sp.sgnI a.num = Sp.sgnI b.num) \/ (Sp.sgnI b.num = 0)) -> vi (Sp.sgnI a.num) = dq) /\
  (¬((Sp.sgnI a.num = Sp.sgnI b.num) \/ (Sp.sgnI b.num = 0)) -> ((Sp.sgnI a.num = 0) -> vi (Sp.sgnI b.num) = dq) /\
   (¬(Sp.sgnI a.num = 0) -> (Sp.okO a b c) /\
    ((Sp.sgnI (a * a - b * b * c).num > 0) -> vi (Sp.sgnI a.num) = dq) /\
    (¬(Sp.sgnI (a * a - b * b * c).num > 0) -> vi (Sp.sgnI b.num) = dq)))) :
 pSign_at f1 f2 f3 f4 f5 f6 a b c (PureQ dq):=by
 unfold pSign_at
 refine path_wp (G:=given kp70 [(1,2,.call (vi (Sp.sgnI a.num)) none),(1,5,.call (vi (Sp.sgnI b.num)) none)] []) 7 [] ⟨(atC (cd Tryz.f70) [1,1,0,1]),[(1,AV.ptr 0 0 0 0),(3,vi (Sp.sgnI a.num)),(4,vi (Sp.sgnI b.num)),(17,vb (bif Sp.sgnI a.num == Sp.sgnI b.num then true else Sp.sgnI b.num == 0))],[⟨[rootA f1 f2 f3 f4 f5 f6 a b c],12,0,false,false⟩],_,[],_⟩ (by kernel_rfl) (bc rfl (bc rfl b0)) q0 (ce (@ev99 (f1) (f2) (a.num) ((↑a.den:Int))) (ce (@ev99 (f3) (f4) (b.num) ((↑b.den:Int))) c0)) ?_
 rcases xm ((Sp.sgnI a.num = Sp.sgnI b.num) \/ (Sp.sgnI b.num = 0)) with d2 | d2
 ·have H:=H.1 d2
  exact path_re (G:=given kp70 [] []) 1000 [true] (vi (Sp.sgnI a.num)) (by kernel_rfl) (bc (beq_t ((i_bor i_eq i_eq).2 d2)) b0) q0 c0 H
 ·have H:=H.2 d2
  rcases xm (Sp.sgnI a.num = 0) with d4 | d4
  ·have H:=H.1 d4
   exact path_re (G:=given kp70 [] []) 1000 [false,true] (vi (Sp.sgnI b.num)) (by kernel_rfl) (bc (beq_f (fun h => d2 ((i_bor i_eq i_eq).1 h))) (bc (beq_t (i_eq.2 d4)) b0)) q0 c0 H
  ·have H:=H.2 d4
   obtain ⟨k5,H⟩:=H
   refine path_wp (G:=given kp70 [(6,1,.call (ratA false false (a * a - b * b * c)) none),(6,2,.call (vi (Sp.sgnI (a * a - b * b * c).num)) none)] []) 10 [false,false] ⟨(atC (cd Tryz.f70) [1,1,1,1,0,1]),[(3,vi (Sp.sgnI a.num)),(4,vi (Sp.sgnI b.num)),(25,vb (decide (Sp.sgnI (a * a - b * b * c).num > 0)))],[⟨[rootA f1 f2 f3 f4 f5 f6 a b c],12,0,false,false⟩],_,[],_⟩ (by kernel_rfl) (bc (beq_f (fun h => d2 ((i_bor i_eq i_eq).1 h))) (bc (beq_f (fun h => d4 (i_eq.1 h))) (bc rfl b0))) q0 (ce (@ev103 (f1) (f2) (f3) (f4) (f5) (f6) (a) (b) (c) k5) (ce (@ev99 (false) (false) ((a * a - b * b * c).num) ((↑(a * a - b * b * c).den:Int))) c0)) ?_
   rcases xm (Sp.sgnI (a * a - b * b * c).num > 0) with d7 | d7
   ·have H:=H.1 d7
    exact path_re (G:=given kp70 [] []) 1000 [true] (vi (Sp.sgnI a.num)) (by kernel_rfl) (bc (beq_t (i_dec.2 d7)) b0) q0 c0 H
   ·have H:=H.2 d7
    exact path_re (G:=given kp70 [] []) 1000 [false] (vi (Sp.sgnI b.num)) (by kernel_rfl) (bc (beq_f (fun h => d7 (i_dec.1 h))) b0) q0 c0 H
end Go.Av

namespace Go.Av
open Go.Proofs
noncomputable def Sp.sgP (a b c:Rat):Int:=if Sp.sgR a = Sp.sgR b \/ Sp.sgR b = 0 then Sp.sgR a else if Sp.sgR a = 0 then Sp.sgR b else if Sp.sgR (a * a - b * b * c) > 0 then Sp.sgR a else Sp.sgR b
theorem ev70 (f1 f2 f3 f4 f5 f6:Bool) (a b c:Rat) (h:Sp.okO a b c):Ev M1 (.pure 70 [rootA f1 f2 f3 f4 f5 f6 a b c]) (.int .i64 (Sp.sgP a b c)) []:=by
 refine call70 (pSign _ _ _ _ _ _ _ _ _ _ ⟨fun k => ?_,fun k => ⟨fun k2 => ?_,fun k2 => ⟨h,fun k3 => ?_,fun k3 => ?_⟩⟩⟩)
 ·unfold Sp.sgP Sp.sgR;rw [if_pos k]
 ·unfold Sp.sgP Sp.sgR;rw [if_neg k,if_pos k2]
 ·unfold Sp.sgP Sp.sgR;rw [if_neg k,if_neg k2,if_pos k3]
 ·unfold Sp.sgP Sp.sgR;rw [if_neg k,if_neg k2,if_neg k3]
end Go.Av

namespace Go.Av
open Go.Proofs
set_option maxRecDepth 100000
def fi9:Fi:=⟨26,[.tmp 6]⟩
def kp9:List (Nat × List Nat):=[(0,[2,3,4]),(1,[3,4,9]),(2,[6]),(3,[3,4,17]),(4,[6]),(5,[25]),(6,[6]),(7,[6])]
def fi33:Fi:=⟨73,[.tmp 12]⟩
def kp33:List (Nat × List Nat):=[(0,[0,1,2,3,4,5]),(1,[0,1,2,3,5,13]),(2,[0,1,2,3,5,13,14]),(3,[0,1,2,3,13,15]),(4,[2,3,15,16]),(5,[15,16,17]),(6,[18]),(7,[12])]
def kCornerE_at (ax ay az bx by_ bz c:Int) (Q:AV -> Heap -> Prop):Prop:=Wp M1 (.run fi9 (atC (cd Tryz.f9) []) [(0,.agg [.int .i64 ax,.int .i64 ay,.int .i64 az]),(1,.agg [.int .i64 bx,.int .i64 by_,.int .i64 bz]),(2,.int .i64 c)] []) Q
def kAllowR_at (x y n m v c:Int) (Q:AV -> Heap -> Prop):Prop:=Wp M1 (.run fi33 (atC (cd Tryz.f33) []) [(0,.int .i64 x),(1,.int .i64 y),(2,.int .i64 n),(3,.int .i64 m),(4,.int .i64 v),(5,.int .i64 c)] []) Q
theorem call9 {args:List AV} {d:AV} (h:wc M1 fi9 Tryz.f9 args d):Ev M1 (.pure 9 args) d []:=pcl _ _ (by kernel_rfl) h
theorem call33 {args:List AV} {d:AV} (h:wc M1 fi33 Tryz.f33 args d):Ev M1 (.pure 33 args) d []:=pcl _ _ (by kernel_rfl) h
noncomputable abbrev zNzH1 (bx:Int) (by_:Int) (bz:Int):=ag [vi bx,vi by_,vi bz]
noncomputable abbrev zNzH2 (ax:Int) (ay:Int) (az:Int):=ag [vi ax,vi ay,vi az]
theorem kCornerE (ax ay az bx by_ bz c:Int)  (dq:AV) (H :
  ((¬(Sp.isV c)) -> vi 1 = dq) /\
  (¬(¬(Sp.isV c)) -> (((¬(Sp.inP ax ay az)) \/ (¬(Sp.inP bx by_ bz))) -> vi 11 = dq) /\
   (¬((¬(Sp.inP ax ay az)) \/ (¬(Sp.inP bx by_ bz))) -> (Sp.inQ ax /\ Sp.inQ ay /\ Sp.inQ az) /\
    ((¬(Sp.sqr ax ay az = 0)) -> (Sp.inQ bx /\ Sp.inQ by_ /\ Sp.inQ bz)) /\
    (((Sp.sqr ax ay az = 0) \/ (Sp.sqr bx by_ bz = 0)) -> vi 6 = dq) /\
    (¬((Sp.sqr ax ay az = 0) \/ (Sp.sqr bx by_ bz = 0)) -> vi 0 = dq)))) :
 kCornerE_at ax ay az bx by_ bz c (PureQ dq):=by
 unfold kCornerE_at
 refine path_wp (G:=given kp9 [(1,1,.call (vb (decide (Sp.isV c))) none)] []) 5 [] ⟨(atC (cd Tryz.f9) [1,0,1]),[(3,AV.ptr 0 0 0 0),(4,AV.ptr 1 0 0 0),(9,vb !decide (Sp.isV c))],[⟨[(zNzH2 ax ay az)],3,0,false,false⟩,⟨[(zNzH1 bx by_ bz)],3,0,false,false⟩],_,[],_⟩ (by kernel_rfl) b0 q0 (ce (@ev10 (c)) c0) ?_
 rcases xm (¬(Sp.isV c)) with d2 | d2
 ·have H:=H.1 d2
  exact path_re (G:=given kp9 [] []) 1000 [true] (vi 1) (by kernel_rfl) (bc (beq_t ((i_not i_dec).2 d2)) b0) q0 c0 H
 ·have H:=H.2 d2
  refine path_wp (G:=given kp9 [(3,1,.call (vb (decide (Sp.inP ax ay az))) none),(3,5,.call (vb (decide (Sp.inP bx by_ bz))) none)] []) 5 [false] ⟨(atC (cd Tryz.f9) [1,1,0,1]),[(3,AV.ptr 0 0 0 0),(4,AV.ptr 1 0 0 0),(17,vb (bif !decide (Sp.inP ax ay az) then true else !decide (Sp.inP bx by_ bz)))],[⟨[(zNzH2 ax ay az)],3,0,false,false⟩,⟨[(zNzH1 bx by_ bz)],3,0,false,false⟩],[(!decide (Sp.isV c)) == false,true,!((!decide (Sp.inP ax ay az)) == false && true) || true],[],[⟨true,false,31,[(zNzH2 ax ay az)],[],vb (decide (Sp.inP ax ay az)),[]⟩,⟨(!decide (Sp.inP ax ay az)) == false && true && true,false,31,[(zNzH1 bx by_ bz)],[],vb (decide (Sp.inP bx by_ bz)),[]⟩]⟩ (by kernel_rfl) (bc (beq_f (fun h => d2 ((i_not i_dec).1 h))) (bc rfl (bc (Bool.or_true _) b0))) q0 (cc (fun _ => (@ev31 (ax) (ay) (az))) (cc (fun hc => ((@ev31 (bx) (by_) (bz)):Ev M1 (Conf.pure 31 [(zNzH1 bx by_ bz)]) (vb (decide (Sp.inP bx by_ bz))) [])) c0)) ?_
  rcases xm ((¬(Sp.inP ax ay az)) \/ (¬(Sp.inP bx by_ bz))) with d5 | d5
  ·have H:=H.1 d5
   exact path_re (G:=given kp9 [] []) 1000 [true] (vi 11) (by kernel_rfl) (bc (beq_t ((i_bor (i_not i_dec) (i_not i_dec)).2 d5)) b0) q0 c0 H
  ·have H:=H.2 d5
   obtain ⟨k6,H⟩:=H
   obtain ⟨k8,H⟩:=H
   refine path_wp (G:=given kp9 [(5,1,.call (vi (Sp.sqr ax ay az)) none),(5,5,.call (vi (Sp.sqr bx by_ bz)) none)] []) 5 [false] ⟨(atC (cd Tryz.f9) [1,1,1,0,1]),[(25,vb (bif Sp.sqr ax ay az == 0 then true else Sp.sqr bx by_ bz == 0))],[⟨[(zNzH2 ax ay az)],3,0,false,false⟩,⟨[(zNzH1 bx by_ bz)],3,0,false,false⟩],[(bif !decide (Sp.inP ax ay az) then true else !decide (Sp.inP bx by_ bz)) == false,true,!((Sp.sqr ax ay az == 0) == false && true) || true],[],[⟨true,false,32,[(zNzH2 ax ay az)],[],vi (Sp.sqr ax ay az),[]⟩,⟨(Sp.sqr ax ay az == 0) == false && true && true,false,32,[(zNzH1 bx by_ bz)],[],vi (Sp.sqr bx by_ bz),[]⟩]⟩ (by kernel_rfl) (bc (beq_f (fun h => d5 ((i_bor (i_not i_dec) (i_not i_dec)).1 h))) (bc rfl (bc (Bool.or_true _) b0))) q0 (cc (fun _ => (@ev32 (ax) (ay) (az) k6)) (cc (fun hc => ((@ev32 (bx) (by_) (bz) (k8 ((i_at (i_at (i_bf i_eq))).1 hc))):Ev M1 (Conf.pure 32 [(zNzH1 bx by_ bz)]) (vi (Sp.sqr bx by_ bz)) [])) c0)) ?_
   rcases xm ((Sp.sqr ax ay az = 0) \/ (Sp.sqr bx by_ bz = 0)) with d10 | d10
   ·have H:=H.1 d10
    exact path_re (G:=given kp9 [] []) 1000 [true] (vi 6) (by kernel_rfl) (bc (beq_t ((i_bor i_eq i_eq).2 d10)) b0) q0 c0 H
   ·have H:=H.2 d10
    exact path_re (G:=given kp9 [] []) 1000 [false] (vi 0) (by kernel_rfl) (bc (beq_f (fun h => d10 ((i_bor i_eq i_eq).1 h))) b0) q0 c0 H
noncomputable abbrev zNzH4 (v:Int) (x:Int) (y:Int):=Sp.qi (-2) * (Sp.qi (v * v) * (Sp.qi x * Sp.qi y))
noncomputable abbrev zNzH6 (x:Int) (n:Int) (y:Int) (m:Int):=Sp.qi (x * x) / Sp.qi n + Sp.qi (y * y) / Sp.qi m
noncomputable abbrev zNzH5 (v:Int) (x:Int) (n:Int) (y:Int) (m:Int) (c:Int):=Sp.mkA (Sp.qi (v * v) * (zNzH6 x n y m) - Sp.qi (c * c)) (zNzH4 v x y) (Sp.qi 1 / (Sp.qi n * Sp.qi m))
noncomputable abbrev zNzH7 (v:Int) (x:Int) (y:Int) (n:Int) (m:Int):=Sp.mkB (zNzH4 v x y) (Sp.qi 1 / (Sp.qi n * Sp.qi m))
noncomputable abbrev zNzH8 (v:Int) (x:Int) (y:Int) (n:Int) (m:Int):=Sp.mkC (zNzH4 v x y) (Sp.qi 1 / (Sp.qi n * Sp.qi m))
theorem kAllowR (x y n m v c:Int)  (dq:AV) (H :
  (-9223372036854775808 <= v * v /\ v * v <= 9223372036854775807) /\
  (Sp.inI (v * v)) /\
  (-9223372036854775808 <= x * x /\ x * x <= 9223372036854775807) /\
  (Sp.inI (x * x)) /\
  (Sp.inI n) /\
  (Sp.okR (Sp.qi (x * x)) /\ Sp.okR (Sp.qi n) /\ (Sp.qi n).num ≠ 0) /\
  (-9223372036854775808 <= y * y /\ y * y <= 9223372036854775807) /\
  (Sp.inI (y * y)) /\
  (Sp.inI m) /\
  (Sp.okR (Sp.qi (y * y)) /\ Sp.okR (Sp.qi m) /\ (Sp.qi m).num ≠ 0) /\
  (Sp.okR (Sp.qi (x * x) / Sp.qi n) /\ Sp.okR (Sp.qi (y * y) / Sp.qi m)) /\
  (Sp.okR (Sp.qi (v * v)) /\ Sp.okR (Sp.qi (x * x) / Sp.qi n + Sp.qi (y * y) / Sp.qi m)) /\
  (-9223372036854775808 <= c * c /\ c * c <= 9223372036854775807) /\
  (Sp.inI (c * c)) /\
  (Sp.okR (Sp.qi (v * v) * (Sp.qi (x * x) / Sp.qi n + Sp.qi (y * y) / Sp.qi m)) /\ Sp.okR (Sp.qi (c * c))) /\
  (Sp.inI (-2)) /\
  (Sp.inI x) /\
  (Sp.inI y) /\
  (Sp.okR (Sp.qi x) /\ Sp.okR (Sp.qi y)) /\
  (Sp.okR (Sp.qi (v * v)) /\ Sp.okR (Sp.qi x * Sp.qi y)) /\
  (Sp.okR (Sp.qi (-2)) /\ Sp.okR (Sp.qi (v * v) * (Sp.qi x * Sp.qi y))) /\
  (Sp.inI 1) /\
  (Sp.okR (Sp.qi n) /\ Sp.okR (Sp.qi m)) /\
  (Sp.okR (Sp.qi 1) /\ Sp.okR (Sp.qi n * Sp.qi m) /\ (Sp.qi n * Sp.qi m).num ≠ 0) /\
  ((Sp.isNN (Sp.qi 1 / (Sp.qi n * Sp.qi m))) -> (Sp.okO (Sp.qi (v * v) * (Sp.qi (x * x) / Sp.qi n + Sp.qi (y * y) / Sp.qi m) - Sp.qi (c * c)) (Sp.qi (-2) * (Sp.qi (v * v) * (Sp.qi x * Sp.qi y))) (Sp.qi 1 / (Sp.qi n * Sp.qi m))) /\
   (Sp.okO (Sp.mkA (Sp.qi (v * v) * (Sp.qi (x * x) / Sp.qi n + Sp.qi (y * y) / Sp.qi m) - Sp.qi (c * c)) (Sp.qi (-2) * (Sp.qi (v * v) * (Sp.qi x * Sp.qi y))) (Sp.qi 1 / (Sp.qi n * Sp.qi m))) (Sp.mkB (Sp.qi (-2) * (Sp.qi (v * v) * (Sp.qi x * Sp.qi y))) (Sp.qi 1 / (Sp.qi n * Sp.qi m))) (Sp.mkC (Sp.qi (-2) * (Sp.qi (v * v) * (Sp.qi x * Sp.qi y))) (Sp.qi 1 / (Sp.qi n * Sp.qi m)))) /\
   vb (decide (Sp.sgP (Sp.mkA (Sp.qi (v * v) * (Sp.qi (x * x) / Sp.qi n + Sp.qi (y * y) / Sp.qi m) - Sp.qi (c * c)) (Sp.qi (-2) * (Sp.qi (v * v) * (Sp.qi x * Sp.qi y))) (Sp.qi 1 / (Sp.qi n * Sp.qi m))) (Sp.mkB (Sp.qi (-2) * (Sp.qi (v * v) * (Sp.qi x * Sp.qi y))) (Sp.qi 1 / (Sp.qi n * Sp.qi m))) (Sp.mkC (Sp.qi (-2) * (Sp.qi (v * v) * (Sp.qi x * Sp.qi y))) (Sp.qi 1 / (Sp.qi n * Sp.qi m))) <= 0)) = dq) /\
  (¬(Sp.isNN (Sp.qi 1 / (Sp.qi n * Sp.qi m))) -> False)) :
 kAllowR_at x y n m v c (PureQ dq):=by
 unfold kAllowR_at
 obtain ⟨k1,H⟩:=H
 have w2:wi (v * v) = v * v:=wI64 k1
 obtain ⟨k3,H⟩:=H
 obtain ⟨k4,H⟩:=H
 have w5:wi (x * x) = x * x:=wI64 k4
 obtain ⟨k6,H⟩:=H
 obtain ⟨k7,H⟩:=H
 obtain ⟨k8,H⟩:=H
 obtain ⟨k9,H⟩:=H
 have w10:wi (y * y) = y * y:=wI64 k9
 obtain ⟨k11,H⟩:=H
 obtain ⟨k12,H⟩:=H
 obtain ⟨k13,H⟩:=H
 obtain ⟨k14,H⟩:=H
 obtain ⟨k15,H⟩:=H
 obtain ⟨k16,H⟩:=H
 have w17:wi (c * c) = c * c:=wI64 k16
 obtain ⟨k18,H⟩:=H
 obtain ⟨k19,H⟩:=H
 obtain ⟨k20,H⟩:=H
 obtain ⟨k21,H⟩:=H
 obtain ⟨k22,H⟩:=H
 obtain ⟨k23,H⟩:=H
 obtain ⟨k24,H⟩:=H
 obtain ⟨k25,H⟩:=H
 obtain ⟨k26,H⟩:=H
 obtain ⟨k27,H⟩:=H
 obtain ⟨k28,H⟩:=H
 rcases xm (Sp.isNN (Sp.qi 1 / (Sp.qi n * Sp.qi m))) with d29 | d29
 ·have H:=H.1 d29
  obtain ⟨k30,H⟩:=H
  obtain ⟨k31,H⟩:=H
  exact path_re (G:=given kp33 [(1,3,.call (ratA false false (Sp.qi (v * v))) none),(2,3,.call (ratA false false (Sp.qi (x * x))) none),(2,5,.call (ratA false false (Sp.qi n)) none),(2,6,.call (ratA false false (Sp.qi (x * x) / Sp.qi n)) none),(2,10,.call (ratA false false (Sp.qi (y * y))) none),(2,12,.call (ratA false false (Sp.qi m)) none),(2,13,.call (ratA false false (Sp.qi (y * y) / Sp.qi m)) none),(2,14,.call (ratA false false (zNzH6 x n y m)) none),(3,2,.call (ratA false false (Sp.qi (v * v) * (zNzH6 x n y m))) none),(3,6,.call (ratA false false (Sp.qi (c * c))) none),(3,7,.call (ratA false false (Sp.qi (v * v) * (zNzH6 x n y m) - Sp.qi (c * c))) none),(4,0,.call (ratA false false (Sp.qi (-2))) none),(4,3,.call (ratA false false (Sp.qi x)) none),(4,5,.call (ratA false false (Sp.qi y)) none),(4,6,.call (ratA false false (Sp.qi x * Sp.qi y)) none),(4,7,.call (ratA false false (Sp.qi (v * v) * (Sp.qi x * Sp.qi y))) none),(4,8,.call (ratA false false (zNzH4 v x y)) none),(5,0,.call (ratA false false (Sp.qi 1)) none),(5,2,.call (ratA false false (Sp.qi n)) none),(5,4,.call (ratA false false (Sp.qi m)) none),(5,5,.call (ratA false false (Sp.qi n * Sp.qi m)) none),(5,6,.call (ratA false false (Sp.qi 1 / (Sp.qi n * Sp.qi m))) none),(6,3,.call (tu [rootF (zNzH5 v x n y m c) (zNzH7 v x y n m) (zNzH8 v x y n m),vi 0]) none),(7,1,.call (vi (Sp.sgP (zNzH5 v x n y m c) (zNzH7 v x y n m) (zNzH8 v x y n m))) none)] []) 1000 [] (calls:=[pc 51 [vi (wi (v * v))] (ratA false false (Sp.qi (v * v))),pc 51 [vi (wi (x * x))] (ratA false false (Sp.qi (x * x))),pc 51 [vi n] (ratA false false (Sp.qi n)),pc 66 [ratA false false (Sp.qi (x * x)),ratA false false (Sp.qi n)] (ratA false false (Sp.qi (x * x) / Sp.qi n)),pc 51 [vi (wi (y * y))] (ratA false false (Sp.qi (y * y))),pc 51 [vi m] (ratA false false (Sp.qi m)),pc 66 [ratA false false (Sp.qi (y * y)),ratA false false (Sp.qi m)] (ratA false false (Sp.qi (y * y) / Sp.qi m)),pc 65 [ratA false false (Sp.qi (x * x) / Sp.qi n),ratA false false (Sp.qi (y * y) / Sp.qi m)] (ratA false false (zNzH6 x n y m)),pc 68 [ratA false false (Sp.qi (v * v)),ratA false false (zNzH6 x n y m)] (ratA false false (Sp.qi (v * v) * (zNzH6 x n y m))),pc 51 [vi (wi (c * c))] (ratA false false (Sp.qi (c * c))),pc 67 [ratA false false (Sp.qi (v * v) * (zNzH6 x n y m)),ratA false false (Sp.qi (c * c))] (ratA false false (Sp.qi (v * v) * (zNzH6 x n y m) - Sp.qi (c * c))),pc 51 [vi (-2)] (ratA false false (Sp.qi (-2))),pc 51 [vi x] (ratA false false (Sp.qi x)),pc 51 [vi y] (ratA false false (Sp.qi y)),pc 68 [ratA false false (Sp.qi x),ratA false false (Sp.qi y)] (ratA false false (Sp.qi x * Sp.qi y)),pc 68 [ratA false false (Sp.qi (v * v)),ratA false false (Sp.qi x * Sp.qi y)] (ratA false false (Sp.qi (v * v) * (Sp.qi x * Sp.qi y))),pc 68 [ratA false false (Sp.qi (-2)),ratA false false (Sp.qi (v * v) * (Sp.qi x * Sp.qi y))] (ratA false false (zNzH4 v x y)),pc 51 [vi 1] (ratA false false (Sp.qi 1)),pc 51 [vi n] (ratA false false (Sp.qi n)),pc 51 [vi m] (ratA false false (Sp.qi m)),pc 68 [ratA false false (Sp.qi n),ratA false false (Sp.qi m)] (ratA false false (Sp.qi n * Sp.qi m)),pc 66 [ratA false false (Sp.qi 1),ratA false false (Sp.qi n * Sp.qi m)] (ratA false false (Sp.qi 1 / (Sp.qi n * Sp.qi m))),pc 69 [ratA false false (Sp.qi (v * v) * (zNzH6 x n y m) - Sp.qi (c * c)),ratA false false (zNzH4 v x y),ratA false false (Sp.qi 1 / (Sp.qi n * Sp.qi m))] (tu [rootF (zNzH5 v x n y m c) (zNzH7 v x y n m) (zNzH8 v x y n m),vi 0]),pc 70 [rootF (zNzH5 v x n y m c) (zNzH7 v x y n m) (zNzH8 v x y n m)] (vi (Sp.sgP (zNzH5 v x n y m c) (zNzH7 v x y n m) (zNzH8 v x y n m)))]) (vb (decide (Sp.sgP (zNzH5 v x n y m c) (zNzH7 v x y n m) (zNzH8 v x y n m) <= 0))) (by kernel_rfl) (bc rfl (bc rfl (bc rfl (bc rfl (bc rfl (bc rfl (bc rfl (bc rfl (bc rfl (bc rfl (bc rfl (bc rfl (bc rfl b0))))))))))))) q0 (ce (by (try rw [w2]);all_goals exact (@ev51 (v * v) k3)) (ce (by (try rw [w5]);all_goals exact (@ev51 (x * x) k6)) (ce (@ev51 (n) k7) (ce (@ev66 (false) (false) (false) (false) (Sp.qi (x * x)) (Sp.qi n) k8) (ce (by (try rw [w10]);all_goals exact (@ev51 (y * y) k11)) (ce (@ev51 (m) k12) (ce (@ev66 (false) (false) (false) (false) (Sp.qi (y * y)) (Sp.qi m) k13) (ce (@ev65 (false) (false) (false) (false) (Sp.qi (x * x) / Sp.qi n) (Sp.qi (y * y) / Sp.qi m) k14) (ce (@ev68 (false) (false) (false) (false) (Sp.qi (v * v)) (zNzH6 x n y m) k15) (ce (by (try rw [w17]);all_goals exact (@ev51 (c * c) k18)) (ce (@ev67 (false) (false) (false) (false) (Sp.qi (v * v) * (zNzH6 x n y m)) (Sp.qi (c * c)) k19) (ce (@ev51 (-2) k20) (ce (@ev51 (x) k21) (ce (@ev51 (y) k22) (ce (@ev68 (false) (false) (false) (false) (Sp.qi x) (Sp.qi y) k23) (ce (@ev68 (false) (false) (false) (false) (Sp.qi (v * v)) (Sp.qi x * Sp.qi y) k24) (ce (@ev68 (false) (false) (false) (false) (Sp.qi (-2)) (Sp.qi (v * v) * (Sp.qi x * Sp.qi y)) k25) (ce (@ev51 (1) k26) (ce (@ev51 (n) k7) (ce (@ev51 (m) k12) (ce (@ev68 (false) (false) (false) (false) (Sp.qi n) (Sp.qi m) k27) (ce (@ev66 (false) (false) (false) (false) (Sp.qi 1) (Sp.qi n * Sp.qi m) k28) (ce (@ev69_y (false) (false) (false) (false) (false) (false) (Sp.qi (v * v) * (zNzH6 x n y m) - Sp.qi (c * c)) (zNzH4 v x y) (Sp.qi 1 / (Sp.qi n * Sp.qi m)) k30 d29) (ce (@ev70 (false) (false) (false) (false) (false) (false) (zNzH5 v x n y m c) (zNzH7 v x y n m) (zNzH8 v x y n m) k31) c0)))))))))))))))))))))))) H
 ·have H:=H.2 d29
  exact False.elim H
end Go.Av

namespace Go.Av
open Go.Proofs
theorem alw_ref {v x y n m c:Int} (hn:1 <= n) (hm:1 <= m):decide (Sp.sgP0 (Sp.mkA (Sp.qi (v * v) * (Sp.qi (x * x) / Sp.qi n + Sp.qi (y * y) / Sp.qi m) - Sp.qi (c * c)) (Sp.qi (-2) * (Sp.qi (v * v) * (Sp.qi x * Sp.qi y))) (Sp.qi 1 / (Sp.qi n * Sp.qi m))) (Sp.mkB (Sp.qi (-2) * (Sp.qi (v * v) * (Sp.qi x * Sp.qi y))) (Sp.qi 1 / (Sp.qi n * Sp.qi m))) (Sp.mkC (Sp.qi (-2) * (Sp.qi (v * v) * (Sp.qi x * Sp.qi y))) (Sp.qi 1 / (Sp.qi n * Sp.qi m))) <= 0) = Sp.alw v x y n m c:=by
 have pn:=qi_pos hn
 have pm:=qi_pos hm
 have pk:0 < Sp.qi 1 / (Sp.qi n * Sp.qi m):=by
  have p:=mul_pp pn pm
  have e:(Sp.qi n * Sp.qi m) * (Sp.qi n * Sp.qi m)⁻¹ = 1:=Rat.mul_inv_cancel _ (by grind)
  rw [qi1,Rat.div_def,Rat.one_mul]
  rcases tri ((Sp.qi n * Sp.qi m)⁻¹) with t | t | t
  ·have:=mul_pp p (show 0 < -(Sp.qi n * Sp.qi m)⁻¹ by grind);grind
  ·rw [t] at e;grind
  ·exact t
 rw [sgP_mk pk]
 unfold Sp.alw Sp.alwA Sp.alwT
 rw [qf_div _ (by omega),qf_div _ (by omega),<- qi_mul v v,<- qi_mul c c,qi1]
 have e1:Sp.qi v * Sp.qi v * (Sp.qi (x * x) / Sp.qi n + Sp.qi (y * y) / Sp.qi m) - Sp.qi c * Sp.qi c = (Sp.qi (x * x) / Sp.qi n + Sp.qi (y * y) / Sp.qi m) * (Sp.qi v * Sp.qi v) + -(Sp.qi c * Sp.qi c):=by grind
 have e2:Sp.qi (-2) * (Sp.qi v * Sp.qi v * (Sp.qi x * Sp.qi y)) = Sp.qi (-2) * (Sp.qi x * Sp.qi y) * (Sp.qi v * Sp.qi v):=by grind
 rw [e1,e2]
theorem ev33 (x y n m v c:Int) (h:Sp.okAl v x y n m c):Ev M1 (.pure 33 [.int .i64 x,.int .i64 y,.int .i64 n,.int .i64 m,.int .i64 v,.int .i64 c]) (.bool (Sp.alw v x y n m c)) []:=by
 obtain ⟨hv,⟨hx,hy⟩,⟨hn,hm⟩,hc⟩:=h
 unfold Sp.okQ at hm hn
 have bx:=sq_bound (x:=x) (by unfold Sp.inM at hx;unfold Sp.inQ;omega)
 have by_:=sq_bound (x:=y) (by unfold Sp.inM at hy;unfold Sp.inQ;omega)
 have bv:=nn_sq v
 have bv2:v * v <= 1000001 * 1000001:=sq_le_sq hv.1 hv.2
 unfold Sp.isV at hc
 have bc:=nn_sq c
 have bc2:c * c <= 1000000 * 1000000:=sq_le_sq hc.1 hc.2
 unfold Sp.inM at hx hy
 have im:Sp.inI m:=by unfold Sp.inI;omega
 have iN:Sp.inI n:=by unfold Sp.inI;omega
 have ix:Sp.inI x:=by unfold Sp.inI;omega
 have iy:Sp.inI y:=by unfold Sp.inI;omega
 have iv:Sp.inI (v * v):=by unfold Sp.inI;omega
 have ic:Sp.inI (c * c):=by unfold Sp.inI;omega
 have ixx:Sp.inI (x * x):=by unfold Sp.inI;omega
 have iyy:Sp.inI (y * y):=by unfold Sp.inI;omega
 have i2:Sp.inI (-2):=by unfold Sp.inI;omega
 have i1:Sp.inI 1:=by unfold Sp.inI;omega
 have pn:=qi_pos hn.1
 have pm:=qi_pos hm.1
 have nn:(Sp.qi n).num ≠ 0:=fun e => by rw [Rat.num_eq_zero] at e;grind
 have nm:(Sp.qi m).num ≠ 0:=fun e => by rw [Rat.num_eq_zero] at e;grind
 have pk:=mul_pp pn pm
 have nk:(Sp.qi n * Sp.qi m).num ≠ 0:=fun e => by rw [Rat.num_eq_zero] at e;grind
 have t1:=okT_div (okT_int ixx) (okT_int iN) nn
 have t2:=okT_div (okT_int iyy) (okT_int im) nm
 have t3:=okT_add t1 t2
 have t4:=okT_mul (okT_int iv) t3
 have t5:=okT_sub t4 (okT_int ic)
 have u1:=okT_mul (okT_int ix) (okT_int iy)
 have u2:=okT_mul (okT_int iv) u1
 have u3:=okT_mul (okT_int i2) u2
 have w1:=okT_mul (okT_int iN) (okT_int im)
 have w2:=okT_div (okT_int i1) w1 nk
 have tA:=okT_mkA (okT_le t5 (show 20 <= 30 by omega)) (okT_le u3 (show 12 <= 30 by omega)) (okT_le w2 (show 9 <= 30 by omega))
 have tB:=okT_mkB (c:=Sp.qi 1 / (Sp.qi n * Sp.qi m)) (okT_le u3 (show 12 <= 30 by omega))
 have tC:=okT_mkC (b:=Sp.qi (-2) * (Sp.qi (v * v) * (Sp.qi x * Sp.qi y))) (okT_le w2 (show 9 <= 30 by omega))
 have ew:=alw_ref (v:=v) (x:=x) (y:=y) (c:=c) hn.1 hm.1
 refine call33 (kAllowR _ _ _ _ _ _ _ ⟨by omega,iv,by omega,ixx,iN,⟨okT_R (okT_int ixx) (by omega),okT_R (okT_int iN) (by omega),nn⟩,by omega,iyy,im,⟨okT_R (okT_int iyy) (by omega),okT_R (okT_int im) (by omega),nm⟩,⟨okT_R t1 (by omega),okT_R t2 (by omega)⟩,⟨okT_R (okT_int iv) (by omega),okT_R t3 (by omega)⟩,by omega,ic,⟨okT_R t4 (by omega),okT_R (okT_int ic) (by omega)⟩,i2,ix,iy,⟨okT_R (okT_int ix) (by omega),okT_R (okT_int iy) (by omega)⟩,⟨okT_R (okT_int iv) (by omega),okT_R u1 (by omega)⟩,⟨okT_R (okT_int i2) (by omega),okT_R u2 (by omega)⟩,i1,⟨okT_R (okT_int iN) (by omega),okT_R (okT_int im) (by omega)⟩,⟨okT_R (okT_int i1) (by omega),okT_R w1 (by omega),nk⟩,fun _ => ⟨okT_O (okT_le t5 (show 20 <= 30 by omega)) (okT_le u3 (show 12 <= 30 by omega)) (okT_le w2 (show 9 <= 30 by omega)) (by omega),okT_O (k:=91) tA (okT_le tB (by omega)) (okT_le tC (by omega)) (by omega),congrArg AV.bool ew⟩,fun k => k (nn_pos ?_)⟩)
 have e:(Sp.qi n * Sp.qi m) * (Sp.qi n * Sp.qi m)⁻¹ = 1:=Rat.mul_inv_cancel _ (by grind)
 rw [qi1,Rat.div_def,Rat.one_mul]
 rcases tri ((Sp.qi n * Sp.qi m)⁻¹) with t | t | t
 ·have:=mul_pp pk (show 0 < -(Sp.qi n * Sp.qi m)⁻¹ by grind);grind
 ·rw [t] at e;grind
 ·exact t
theorem ev9 (ax ay az bx by_ bz c:Int):Ev M1 (.pure 9 [.agg [.int .i64 ax,.int .i64 ay,.int .i64 az],.agg [.int .i64 bx,.int .i64 by_,.int .i64 bz],.int .i64 c]) (.int .i64 (Sp.corE ax ay az bx by_ bz c)) []:=by
 refine call9 (kCornerE _ _ _ _ _ _ _ _ ⟨fun x => ?_,fun x => ⟨fun y => ?_,fun y => ?_⟩⟩)
 ·unfold Sp.corE;rw [if_neg x]
 ·have x:Sp.isV c:=Classical.not_not.1 x
  unfold Sp.corE;rw [if_pos x,if_neg fun z => y.elim (fun w => w z.1) fun w => w z.2]
 ·have x:Sp.isV c:=Classical.not_not.1 x
  have y:Sp.inP ax ay az /\ Sp.inP bx by_ bz:=⟨Classical.not_not.1 fun z => y (.inl z),Classical.not_not.1 fun z => y (.inr z)⟩
  have q:=y
  unfold Sp.inP Sp.inM at q
  refine ⟨by unfold Sp.inQ;omega,fun _ => by unfold Sp.inQ;omega,fun z => ?_,fun z => ?_⟩
  ·unfold Sp.corE;rw [if_pos x,if_pos y,if_pos z]
  ·unfold Sp.corE;rw [if_pos x,if_pos y,if_neg z]
end Go.Av

namespace Go.Av
open Go.Proofs
set_option maxRecDepth 100000
def fi11:Fi:=⟨46,[.tmp 8]⟩
def kp11:List (Nat × List Nat):=[(0,[2,3,4,5]),(1,[2,3,4,5,9,10]),(2,[8])]
def kTurns_at (ax ay az bx by_ bz v c:Int) (Q:AV -> Heap -> Prop):Prop:=Wp M1 (.run fi11 (atC (cd Tryz.f11) []) [(0,.agg [.int .i64 ax,.int .i64 ay,.int .i64 az]),(1,.agg [.int .i64 bx,.int .i64 by_,.int .i64 bz]),(2,.int .i64 v),(3,.int .i64 c)] []) Q
theorem call11 {args:List AV} {d:AV} (h:wc M1 fi11 Tryz.f11 args d):Ev M1 (.pure 11 args) d []:=pcl _ _ (by kernel_rfl) h
noncomputable abbrev zNzL1 (v:Int) (ax:Int) (bx:Int) (ay:Int) (az:Int) (by_:Int) (bz:Int) (c:Int):=bif Sp.alw v ax bx (Sp.sqr ax ay az) (Sp.sqr bx by_ bz) c then Sp.alw v ay by_ (Sp.sqr ax ay az) (Sp.sqr bx by_ bz) c else false
theorem kTurns (ax ay az bx by_ bz v c:Int)  (dq:AV) (H :
  (Sp.inQ ax /\ Sp.inQ ay /\ Sp.inQ az) /\
  (Sp.inQ bx /\ Sp.inQ by_ /\ Sp.inQ bz) /\
  (Sp.okAl v ax bx (Sp.sqr ax ay az) (Sp.sqr bx by_ bz) c) /\
  ((Sp.alw v ax bx (Sp.sqr ax ay az) (Sp.sqr bx by_ bz) c = true) -> (Sp.okAl v ay by_ (Sp.sqr ax ay az) (Sp.sqr bx by_ bz) c)) /\
  (((Sp.alw v ax bx (Sp.sqr ax ay az) (Sp.sqr bx by_ bz) c = true) /\ (Sp.alw v ay by_ (Sp.sqr ax ay az) (Sp.sqr bx by_ bz) c = true)) -> (Sp.okAl v az bz (Sp.sqr ax ay az) (Sp.sqr bx by_ bz) c)) /\
  vb (bif bif Sp.alw v ax bx (Sp.sqr ax ay az) (Sp.sqr bx by_ bz) c then Sp.alw v ay by_ (Sp.sqr ax ay az) (Sp.sqr bx by_ bz) c else false then Sp.alw v az bz (Sp.sqr ax ay az) (Sp.sqr bx by_ bz) c else false) = dq) :
 kTurns_at ax ay az bx by_ bz v c (PureQ dq):=by
 unfold kTurns_at
 obtain ⟨k1,H⟩:=H
 obtain ⟨k2,H⟩:=H
 obtain ⟨k3,H⟩:=H
 obtain ⟨k5,H⟩:=H
 obtain ⟨k7,H⟩:=H
 exact path_re (G:=given kp11 [(1,1,.call (vi (Sp.sqr ax ay az)) none),(1,3,.call (vi (Sp.sqr bx by_ bz)) none),(2,8,.call (vb (Sp.alw v ax bx (Sp.sqr ax ay az) (Sp.sqr bx by_ bz) c)) none),(2,18,.call (vb (Sp.alw v ay by_ (Sp.sqr ax ay az) (Sp.sqr bx by_ bz) c)) none),(2,29,.call (vb (Sp.alw v az bz (Sp.sqr ax ay az) (Sp.sqr bx by_ bz) c)) none)] []) 1000 [] (asm:=[true,true,true,true,!(Sp.alw v ax bx (Sp.sqr ax ay az) (Sp.sqr bx by_ bz) c == true && true) || true,!(Sp.alw v ax bx (Sp.sqr ax ay az) (Sp.sqr bx by_ bz) c == true && true) || true,!((zNzL1 v ax bx ay az by_ bz c) == true && true) || true,!((zNzL1 v ax bx ay az by_ bz c) == true && true) || true]) (calls:=[⟨true,false,32,[ag [vi ax,vi ay,vi az]],[],vi (Sp.sqr ax ay az),[]⟩,⟨true,false,32,[ag [vi bx,vi by_,vi bz]],[],vi (Sp.sqr bx by_ bz),[]⟩,⟨true,false,33,[vi ax,vi bx,vi (Sp.sqr ax ay az),vi (Sp.sqr bx by_ bz),vi v,vi c],[],vb (Sp.alw v ax bx (Sp.sqr ax ay az) (Sp.sqr bx by_ bz) c),[]⟩,⟨Sp.alw v ax bx (Sp.sqr ax ay az) (Sp.sqr bx by_ bz) c == true && true && true,false,33,[vi ay,vi by_,vi (Sp.sqr ax ay az),vi (Sp.sqr bx by_ bz),vi v,vi c],[],vb (Sp.alw v ay by_ (Sp.sqr ax ay az) (Sp.sqr bx by_ bz) c),[]⟩,⟨(zNzL1 v ax bx ay az by_ bz c) == true && true && true,false,33,[vi az,vi bz,vi (Sp.sqr ax ay az),vi (Sp.sqr bx by_ bz),vi v,vi c],[],vb (Sp.alw v az bz (Sp.sqr ax ay az) (Sp.sqr bx by_ bz) c),[]⟩]) (vb (bif bif Sp.alw v ax bx (Sp.sqr ax ay az) (Sp.sqr bx by_ bz) c then Sp.alw v ay by_ (Sp.sqr ax ay az) (Sp.sqr bx by_ bz) c else false then Sp.alw v az bz (Sp.sqr ax ay az) (Sp.sqr bx by_ bz) c else false)) (by kernel_rfl) (bc rfl (bc rfl (bc rfl (bc rfl (bc (Bool.or_true _) (bc (Bool.or_true _) (bc (Bool.or_true _) (bc (Bool.or_true _) b0)))))))) q0 (cc (fun _ => (@ev32 (ax) (ay) (az) k1)) (cc (fun _ => (@ev32 (bx) (by_) (bz) k2)) (cc (fun _ => (@ev33 (ax) (bx) (Sp.sqr ax ay az) (Sp.sqr bx by_ bz) (v) (c) k3)) (cc (fun hc => ((@ev33 (ay) (by_) (Sp.sqr ax ay az) (Sp.sqr bx by_ bz) (v) (c) (k5 ((i_at (i_at (i_bt (i_var _)))).1 hc))):Ev M1 (Conf.pure 33 [vi ay,vi by_,vi (Sp.sqr ax ay az),vi (Sp.sqr bx by_ bz),vi v,vi c]) (vb (Sp.alw v ay by_ (Sp.sqr ax ay az) (Sp.sqr bx by_ bz) c)) [])) (cc (fun hc => ((@ev33 (az) (bz) (Sp.sqr ax ay az) (Sp.sqr bx by_ bz) (v) (c) (k7 ((i_at (i_at (i_bt (i_band (i_var _) (i_var _))))).1 hc))):Ev M1 (Conf.pure 33 [vi az,vi bz,vi (Sp.sqr ax ay az),vi (Sp.sqr bx by_ bz),vi v,vi c]) (vb (Sp.alw v az bz (Sp.sqr ax ay az) (Sp.sqr bx by_ bz) c)) [])) c0))))) H
end Go.Av

namespace Go.Av
open Go.Proofs
namespace Sp
noncomputable def trn (ax ay az bx by_ bz v c:Int):Bool:=bif bif alw v ax bx (sqr ax ay az) (sqr bx by_ bz) c then alw v ay by_ (sqr ax ay az) (sqr bx by_ bz) c else false then alw v az bz (sqr ax ay az) (sqr bx by_ bz) c else false
def okTr (ax ay az bx by_ bz v c:Int):Prop:=corE ax ay az bx by_ bz c = 0 /\ 0 <= v /\ v <= 1000001
end Sp
theorem corE_ok {ax ay az bx by_ bz c:Int} (h:Sp.corE ax ay az bx by_ bz c = 0):Sp.okCr ax ay az bx by_ bz (Sp.sqr ax ay az) (Sp.sqr bx by_ bz) c /\ (Sp.inQ ax /\ Sp.inQ ay /\ Sp.inQ az) /\ Sp.inQ bx /\ Sp.inQ by_ /\ Sp.inQ bz:=by
 unfold Sp.corE at h
 by_cases x:Sp.isV c
 ·rw [if_pos x] at h
  by_cases y:Sp.inP ax ay az /\ Sp.inP bx by_ bz
  ·rw [if_pos y] at h
   by_cases z:Sp.sqr ax ay az = 0 \/ Sp.sqr bx by_ bz = 0
   ·rw [if_pos z] at h;omega
   ·exact okCr_of x y z
  ·rw [if_neg y] at h;omega
 ·rw [if_neg x] at h;omega
theorem ev11 (ax ay az bx by_ bz v c:Int) (h:Sp.okTr ax ay az bx by_ bz v c):Ev M1 (.pure 11 [.agg [.int .i64 ax,.int .i64 ay,.int .i64 az],.agg [.int .i64 bx,.int .i64 by_,.int .i64 bz],.int .i64 v,.int .i64 c]) (.bool (Sp.trn ax ay az bx by_ bz v c)) []:=by
 obtain ⟨e,hv⟩:=h
 obtain ⟨⟨⟨a1,a2,a3⟩,⟨b1,b2,b3⟩,hm,hn,hc⟩,qa,qb⟩:=corE_ok e
 exact call11 (kTurns _ _ _ _ _ _ _ _ _ ⟨qa,qb,⟨hv,⟨a1,b1⟩,⟨hm,hn⟩,hc⟩,fun _ => ⟨hv,⟨a2,b2⟩,⟨hm,hn⟩,hc⟩,fun _ => ⟨hv,⟨a3,b3⟩,⟨hm,hn⟩,hc⟩,rfl⟩)
theorem corP_trn {ax ay az bx by_ bz c i:Int}:Sp.corP ax ay az bx by_ bz (Sp.sqr ax ay az) (Sp.sqr bx by_ bz) c i = !Sp.trn ax ay az bx by_ bz (i + 1) c:=by
 unfold Sp.corP Sp.trn
 cases Sp.alw (i + 1) ax bx (Sp.sqr ax ay az) (Sp.sqr bx by_ bz) c <;> cases Sp.alw (i + 1) ay by_ (Sp.sqr ax ay az) (Sp.sqr bx by_ bz) c <;> rfl
theorem alw_zero {x y m n c:Int}:Sp.alw 0 x y m n c = true:=by
 unfold Sp.alw
 rw [qi_0,show (0:Rat) * 0 = 0 by grind,show Sp.alwT x y * 0 = Sp.qi 0 by rw [qi_0];grind,sgO_b0]
 refine decide_eq_true (sgR_le.2 ?_)
 have:=sq_nn (Sp.qi c)
 grind
theorem cor_spec {ax ay az bx by_ bz c:Int} (h:Sp.corE ax ay az bx by_ bz c = 0):(0 <= Sp.cor ax ay az bx by_ bz c /\ Sp.cor ax ay az bx by_ bz c <= 1000000) /\ Sp.trn ax ay az bx by_ bz (Sp.cor ax ay az bx by_ bz c) c = true /\ (Sp.cor ax ay az bx by_ bz c = 1000000 \/ Sp.trn ax ay az bx by_ bz (Sp.cor ax ay az bx by_ bz c + 1) c = false):=by
 unfold Sp.cor
 rw [if_pos h]
 obtain ⟨r0,r1,r2,r3⟩:=bs_all (p:=Sp.corP ax ay az bx by_ bz (Sp.sqr ax ay az) (Sp.sqr bx by_ bz) c) (h:=1000000) (by decide) (by decide)
 unfold Sp.corV
 generalize Sp.bs (Sp.corP ax ay az bx by_ bz (Sp.sqr ax ay az) (Sp.sqr bx by_ bz) c) 40 0 1000000 = r at *
 refine ⟨⟨r0,r1⟩,?_,?_⟩
 ·rcases r2 with k | k
  ·subst k
   unfold Sp.trn;rw [alw_zero,alw_zero,alw_zero];rfl
  ·rw [corP_trn,Int.sub_add_cancel] at k
   simpa using k
 ·rcases r3 with k | k
  ·exact .inl k
  ·rw [corP_trn] at k
   exact .inr (by simpa using k)
end Go.Av

namespace Go.Av
open Go.Proofs
structure Mo where
 ax:Int
 ay:Int
 az:Int
 bx:Int
 by_:Int
 bz:Int
 rate:Int
 tool:Int
 blk:Int
 deriving Inhabited
def Mo.a (p:Mo):AV:=.agg [.int .i64 p.ax,.int .i64 p.ay,.int .i64 p.az,.int .i64 p.bx,.int .i64 p.by_,.int .i64 p.bz,.int .i64 p.rate,.int .i64 p.tool,.int .i64 p.blk]
end Go.Av

namespace Go.Av
open Go.Proofs
set_option maxRecDepth 100000
def fi3:Fi:=⟨58,[.tmp 6]⟩
def kp3:List (Nat × List Nat):=[(0,[2,3,4]),(1,[2,3,4,11]),(2,[6]),(3,[2,3,4,7,8]),(4,[2,3,4,7,8,9]),(5,[2,3,4,7,8,9,24]),(6,[6]),(7,[2,3,4,7,46]),(8,[6]),(9,[6])]
def lCor_at (ax ay az bx by_ bz c:Int) (Q:AV -> Heap -> Prop):Prop:=Wp M1 (.run fi3 (atC (cd Tryz.f3) []) [(0,.agg [.int .i64 ax,.int .i64 ay,.int .i64 az]),(1,.agg [.int .i64 bx,.int .i64 by_,.int .i64 bz]),(2,.int .i64 c)] []) Q
theorem call3 {args:List AV} {d:AV} (h:wc M1 fi3 Tryz.f3 args d):Ev M1 (.pure 3 args) d []:=pcl _ _ (by kernel_rfl) h
noncomputable abbrev zNzM11 (ax:Int) (ay:Int) (az:Int):=ag [vi ax,vi ay,vi az]
noncomputable abbrev zNzM12 (bx:Int) (by_:Int) (bz:Int):=ag [vi bx,vi by_,vi bz]
noncomputable abbrev zNzM13 (ax:Int) (ay:Int) (az:Int) (bx:Int) (by_:Int) (bz:Int) (c:Int):=bif bif Sp.corE ax ay az bx by_ bz c != 0 then true else !decide (Sp.isV (Sp.cor ax ay az bx by_ bz c)) then true else !Sp.trn ax ay az bx by_ bz (Sp.cor ax ay az bx by_ bz c) c
theorem lCor (ax ay az bx by_ bz c:Int)  (dq:AV) (H :
  ((¬Sp.corE ax ay az bx by_ bz c = 0) -> vb (bif Sp.cor ax ay az bx by_ bz c == 0 then Sp.corE ax ay az bx by_ bz c == Sp.corE ax ay az bx by_ bz c else false) = dq) /\
  (¬(¬Sp.corE ax ay az bx by_ bz c = 0) -> ((¬((¬Sp.corE ax ay az bx by_ bz c = 0) \/ (¬(Sp.isV (Sp.cor ax ay az bx by_ bz c))))) -> (Sp.okTr ax ay az bx by_ bz (Sp.cor ax ay az bx by_ bz c) c)) /\
   ((((¬Sp.corE ax ay az bx by_ bz c = 0) \/ (¬(Sp.isV (Sp.cor ax ay az bx by_ bz c)))) \/ (¬(Sp.trn ax ay az bx by_ bz (Sp.cor ax ay az bx by_ bz c) c = true))) -> vb false = dq) /\
   (¬(((¬Sp.corE ax ay az bx by_ bz c = 0) \/ (¬(Sp.isV (Sp.cor ax ay az bx by_ bz c)))) \/ (¬(Sp.trn ax ay az bx by_ bz (Sp.cor ax ay az bx by_ bz c) c = true))) -> (-9223372036854775808 <= Sp.cor ax ay az bx by_ bz c + 1 /\ Sp.cor ax ay az bx by_ bz c + 1 <= 9223372036854775807) /\
    ((¬(Sp.cor ax ay az bx by_ bz c = 1000000)) -> (Sp.okTr ax ay az bx by_ bz (Sp.cor ax ay az bx by_ bz c + 1) c)) /\
    (vb (bif Sp.cor ax ay az bx by_ bz c == 1000000 then true else !Sp.trn ax ay az bx by_ bz (Sp.cor ax ay az bx by_ bz c + 1) c)) = dq))) :
 lCor_at ax ay az bx by_ bz c (PureQ dq):=by
 unfold lCor_at
 refine path_wp (G:=given kp3 [(1,0,.call (vb true) none),(3,3,.call (tu [vi (Sp.cor ax ay az bx by_ bz c),vi (Sp.corE ax ay az bx by_ bz c)]) none),(4,3,.call (vi (Sp.corE ax ay az bx by_ bz c)) none)] []) 14 [false] ⟨(atC (cd Tryz.f3) [1,1,1,0,1,1]),[(2,vi c),(3,AV.ptr 0 0 0 0),(4,AV.ptr 1 0 0 0),(7,vi (Sp.cor ax ay az bx by_ bz c)),(8,vi (Sp.corE ax ay az bx by_ bz c)),(9,vi (Sp.corE ax ay az bx by_ bz c)),(24,vb (Sp.corE ax ay az bx by_ bz c != 0))],[⟨[(zNzM11 ax ay az)],3,0,false,false⟩,⟨[(zNzM12 bx by_ bz)],3,0,false,false⟩],_,[],_⟩ (by kernel_rfl) (bc rfl (bc rfl (bc rfl (bc rfl (bc rfl b0))))) q0 (ce (@ev7 ) (ce (@ev8 (ax) (ay) (az) (bx) (by_) (bz) (c)) (ce (@ev9 (ax) (ay) (az) (bx) (by_) (bz) (c)) c0))) ?_
 rcases xm (¬Sp.corE ax ay az bx by_ bz c = 0) with d2 | d2
 ·have H:=H.1 d2
  exact path_re (G:=given kp3 [] []) 1000 [true] (vb (bif Sp.cor ax ay az bx by_ bz c == 0 then Sp.corE ax ay az bx by_ bz c == Sp.corE ax ay az bx by_ bz c else false)) (by kernel_rfl) (bc (beq_t (i_ne.2 d2)) b0) q0 c0 H
 ·have H:=H.2 d2
  obtain ⟨k5,H⟩:=H
  refine path_wp (G:=given kp3 [(7,4,.call (vb (decide (Sp.isV (Sp.cor ax ay az bx by_ bz c)))) none),(7,12,.call (vb (Sp.trn ax ay az bx by_ bz (Sp.cor ax ay az bx by_ bz c) c)) none)] []) 5 [false] ⟨(atC (cd Tryz.f3) [1,1,1,1,0,1]),[(2,vi c),(3,AV.ptr 0 0 0 0),(4,AV.ptr 1 0 0 0),(7,vi (Sp.cor ax ay az bx by_ bz c)),(46,vb (zNzM13 ax ay az bx by_ bz c))],[⟨[(zNzM11 ax ay az)],3,0,false,false⟩,⟨[(zNzM12 bx by_ bz)],3,0,false,false⟩],[(Sp.corE ax ay az bx by_ bz c != 0) == false,!((bif Sp.corE ax ay az bx by_ bz c != 0 then true else !decide (Sp.isV (Sp.cor ax ay az bx by_ bz c))) == false && true) || true,!((bif Sp.corE ax ay az bx by_ bz c != 0 then true else !decide (Sp.isV (Sp.cor ax ay az bx by_ bz c))) == false && true) || true],[],[⟨(Sp.corE ax ay az bx by_ bz c != 0) == false && true && true,false,10,[vi (Sp.cor ax ay az bx by_ bz c)],[],vb (decide (Sp.isV (Sp.cor ax ay az bx by_ bz c))),[]⟩,⟨(bif Sp.corE ax ay az bx by_ bz c != 0 then true else !decide (Sp.isV (Sp.cor ax ay az bx by_ bz c))) == false && true && true,false,11,[(zNzM11 ax ay az),(zNzM12 bx by_ bz),vi (Sp.cor ax ay az bx by_ bz c),vi c],[],vb (Sp.trn ax ay az bx by_ bz (Sp.cor ax ay az bx by_ bz c) c),[]⟩]⟩ (by kernel_rfl) (bc (beq_f (fun h => d2 (i_ne.1 h))) (bc (Bool.or_true _) (bc (Bool.or_true _) b0))) q0 (cc (fun hc => ((@ev10 (Sp.cor ax ay az bx by_ bz c)):Ev M1 (Conf.pure 10 [vi (Sp.cor ax ay az bx by_ bz c)]) (vb (decide (Sp.isV (Sp.cor ax ay az bx by_ bz c)))) [])) (cc (fun hc => ((@ev11 (ax) (ay) (az) (bx) (by_) (bz) (Sp.cor ax ay az bx by_ bz c) (c) (k5 ((i_at (i_at (i_bf (i_bor i_ne (i_not i_dec))))).1 hc))):Ev M1 (Conf.pure 11 [(zNzM11 ax ay az),(zNzM12 bx by_ bz),vi (Sp.cor ax ay az bx by_ bz c),vi c]) (vb (Sp.trn ax ay az bx by_ bz (Sp.cor ax ay az bx by_ bz c) c)) [])) c0)) ?_
  rcases xm (((¬Sp.corE ax ay az bx by_ bz c = 0) \/ (¬(Sp.isV (Sp.cor ax ay az bx by_ bz c)))) \/ (¬(Sp.trn ax ay az bx by_ bz (Sp.cor ax ay az bx by_ bz c) c = true))) with d7 | d7
  ·have H:=H.1 d7
   exact path_re (G:=given kp3 [] []) 1000 [true] (asm:=[(zNzM13 ax ay az bx by_ bz c) == true]) (vb false) (by kernel_rfl) (bc (beq_t ((i_bor (i_bor i_ne (i_not i_dec)) (i_not (i_var _))).2 d7)) b0) q0 c0 H
  ·have H:=H.2 d7
   obtain ⟨k8,H⟩:=H
   have w9:wi (Sp.cor ax ay az bx by_ bz c + 1) = Sp.cor ax ay az bx by_ bz c + 1:=wI64 k8
   obtain ⟨k11,H⟩:=H
   exact path_re (G:=given kp3 [(9,8,.call (vb (Sp.trn ax ay az bx by_ bz (Sp.cor ax ay az bx by_ bz c + 1) c)) none)] []) 1000 [false] (asm:=[(zNzM13 ax ay az bx by_ bz c) == false,!((Sp.cor ax ay az bx by_ bz c == 1000000) == false && true) || true,!((Sp.cor ax ay az bx by_ bz c == 1000000) == false && true) || true]) (calls:=[⟨(Sp.cor ax ay az bx by_ bz c == 1000000) == false && true && true,false,11,[(zNzM11 ax ay az),(zNzM12 bx by_ bz),vi (wi (Sp.cor ax ay az bx by_ bz c + 1)),vi c],[],vb (Sp.trn ax ay az bx by_ bz (Sp.cor ax ay az bx by_ bz c + 1) c),[]⟩]) (vb (bif Sp.cor ax ay az bx by_ bz c == 1000000 then true else !Sp.trn ax ay az bx by_ bz (Sp.cor ax ay az bx by_ bz c + 1) c)) (by kernel_rfl) (bc (beq_f (fun h => d7 ((i_bor (i_bor i_ne (i_not i_dec)) (i_not (i_var _))).1 h))) (bc (Bool.or_true _) (bc (Bool.or_true _) b0))) q0 (cc (fun hc => ((by (try rw [w9]);all_goals exact (@ev11 (ax) (ay) (az) (bx) (by_) (bz) (Sp.cor ax ay az bx by_ bz c + 1) (c) (k11 ((i_at (i_at (i_bf i_eq))).1 hc)))):Ev M1 (Conf.pure 11 [(zNzM11 ax ay az),(zNzM12 bx by_ bz),vi (wi (Sp.cor ax ay az bx by_ bz c + 1)),vi c]) (vb (Sp.trn ax ay az bx by_ bz (Sp.cor ax ay az bx by_ bz c + 1) c)) [])) c0) H
end Go.Av

namespace Go.Av
open Go.Proofs
namespace Sp
end Sp
theorem ev3 (ax ay az bx by_ bz c:Int):Ev M1 (.pure 3 [.agg [.int .i64 ax,.int .i64 ay,.int .i64 az],.agg [.int .i64 bx,.int .i64 by_,.int .i64 bz],.int .i64 c]) (.bool true) []:=by
 refine call3 (lCor _ _ _ _ _ _ _ _ ⟨fun x => ?_,fun x => ?_⟩)
 ·rw [show Sp.cor ax ay az bx by_ bz c = 0 from if_neg x]
  simp only [beq_self_eq_true,cond_true]
 ·have e:=Classical.not_not.1 x
  obtain ⟨b,t,u⟩:=cor_spec e
  have v:Sp.isV (Sp.cor ax ay az bx by_ bz c):=b
  refine ⟨fun _ => ⟨e,by omega⟩,fun y => ?_,fun _ => ⟨by omega,fun _ => ⟨e,by omega⟩,?_⟩⟩
  ·exact absurd y fun z => z.elim (fun w => w.elim (fun a => a e) fun a => a v) fun w => w t
  ·rcases u with u | u
   ·rw [u];rfl
   ·rw [u];cases (Sp.cor ax ay az bx by_ bz c == 1000000) <;> rfl
end Go.Av
