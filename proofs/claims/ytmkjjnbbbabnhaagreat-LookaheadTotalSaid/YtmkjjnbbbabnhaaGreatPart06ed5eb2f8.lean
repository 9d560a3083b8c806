/- PART 5 of the texts of a claim, joined by a program: what each part shows stands at its head. -/
import Derived.Test.YtmkjjnbbbabnhaaGreatPartdcff7ef501
import Derived.Orders

namespace Go.Av
open Go.Proofs
theorem sgO_square {a b c s:Rat} (hs:0 < s) (h:s * s = c):Sp.sgO a b c = Sp.sgR (a + b * s):=by
 have e:a * a - b * b * c = (a - b * s) * (a + b * s):=by rw [<- h];grind
 unfold Sp.sgO
 rw [e,sgR_mul]
 rcases tri b with k | k | k
 ·have k2:=mul_np k hs
  rcases tri a with j | j | j
  ·rw [sgR_neg k,sgR_neg j,if_pos (.inr rfl),sgR_neg (show a + b * s < 0 by grind)]
  ·subst j
   rw [sgR_neg k,sgR_zero,if_neg (by decide),if_pos rfl,sgR_neg (show (0:Rat) + b * s < 0 by grind)]
  ·rw [sgR_neg k,sgR_pos j,if_neg (by decide),if_neg (by decide),sgR_pos (show 0 < a - b * s by grind),Int.one_mul,Int.one_mul]
 ·subst k
  rw [sgR_zero,if_pos (.inl rfl),Rat.zero_mul,Rat.add_zero]
 ·have k2:=mul_pp k hs
  rcases tri a with j | j | j
  ·rw [sgR_pos k,sgR_neg j,if_neg (by decide),if_neg (by decide),sgR_neg (show a - b * s < 0 by grind)]
   omega
  ·subst j
   rw [sgR_pos k,sgR_zero,if_neg (by decide),if_pos rfl,sgR_pos (show 0 < (0:Rat) + b * s by grind)]
  ·rw [sgR_pos k,sgR_pos j,if_pos (.inr rfl),sgR_pos (show 0 < a + b * s by grind)]
theorem rt_pos {c:Rat} (hc:0 < c) (h:Sp.rsq c):0 < Sp.rt c:=by
 have e:=(rt_num h).1
 have n:=sq_nonneg c.num
 have m:=rt_mul h
 rcases tri (Sp.rt c) with k | k | k
 ·have:=num_lt.2 k;omega
 ·rw [k] at m;grind
 ·exact k
theorem sgR_qi0:Sp.sgR (Sp.qi 0) = 0:=by rw [qi_eq];rfl
theorem sgO_b0 (a c:Rat):Sp.sgO a (Sp.qi 0) c = Sp.sgR a:=by
 unfold Sp.sgO;rw [sgR_qi0,if_pos (.inl rfl)]
theorem sgO_rd (a b c:Rat):Sp.sgO a b (Sp.rad b c) = Sp.sgO a b c:=by
 by_cases h:b = 0
 ·subst h
  unfold Sp.sgO;rw [sgR_zero,if_pos (.inl rfl),if_pos (.inl rfl)]
 ·rw [show Sp.rad b c = c from if_neg h]
theorem com_rad0 (b c:Rat):Sp.rad (b + Sp.qi 0) (Sp.com b (Sp.rad b c) (Sp.qi 0)) = Sp.rad b c:=by
 rw [show b + Sp.qi 0 = b by rw [qi_eq];exact Rat.add_zero b]
 unfold Sp.com Sp.rad
 by_cases h:b = 0
 ·rw [if_pos h,if_pos h]
 ·rw [if_neg h,if_neg h,if_neg h]
theorem sgO_prog {a b c V H:Rat} (hc:0 < c):Sp.sgO (Sp.mkA a b c * V + H) (Sp.mkB b c * V + Sp.qi 0) (Sp.rad (Sp.mkB b c * V + Sp.qi 0) (Sp.com (Sp.mkB b c * V) (Sp.rad (Sp.mkB b c * V) (Sp.mkC b c)) (Sp.qi 0))) = Sp.sgO (a * V + H) (b * V) c:=by
 rw [com_rad0,show Sp.mkB b c * V + Sp.qi 0 = Sp.mkB b c * V by rw [qi_eq];exact Rat.add_zero _,sgO_rd]
 by_cases s:Sp.rsq c
 ·rw [show Sp.mkA a b c = a + b * Sp.rt c from if_pos s,show Sp.mkB b c = Sp.qi 0 from if_pos s,show Sp.qi 0 * V = Sp.qi 0 by rw [qi_eq];exact Rat.zero_mul V,sgO_b0,sgO_square (rt_pos hc s) (rt_mul s)]
  congr 1;grind
 ·rw [show Sp.mkA a b c = a from if_neg s,show Sp.mkB b c = b from if_neg s,show Sp.mkC b c = Sp.rad b c from if_neg s]
  by_cases h:b = 0
  ·subst h
   rw [Rat.zero_mul]
   unfold Sp.sgO;rw [sgR_zero,if_pos (.inl rfl),if_pos (.inl rfl)]
  ·rw [show Sp.rad b c = c from if_neg h]
theorem sgO_cong {a b c x y:Rat} (h1:Sp.sgR b = Sp.sgR x) (h2:b * b * c = x * x * y):Sp.sgO a b c = Sp.sgO a x y:=by
 unfold Sp.sgO;rw [h1,h2]
theorem corner_eq {A t k V:Rat} (hk:0 < k):Sp.sgO A (t / k * V) k = Sp.sgO A (t * V) (1 / k):=by
 have e:t / k = t * k⁻¹:=Rat.div_def t k
 have e2:1 / k = k⁻¹:=by rw [Rat.div_def,Rat.one_mul]
 have i:k⁻¹ * k = 1:=Rat.inv_mul_cancel k (by grind)
 rw [e,e2]
 generalize k⁻¹ = j at *
 refine sgO_cong ?_ ?_
 ·have:t * V = t * j * V * k:=by grind
  rw [this,sgR_mul (t * j * V) k,sgR_pos hk,Int.mul_one]
 ·have:t * j * V * (t * j * V) * k = t * V * (t * V) * j * (j * k):=by grind
  rw [this,i,Rat.mul_one]
namespace Sp
noncomputable def gg (x v:Rat):Rat:=if v + v <= x then v * x - v * v else x * x / 4
noncomputable def rch (T v a:Rat):Rat:=if v + v <= T * a then v * T - v * v / a else a / 4 * (T * T)
end Sp
theorem rch_gg {T v a:Rat} (ha:0 < a):Sp.rch T v a * a = Sp.gg (T * a) v:=by
 unfold Sp.rch Sp.gg
 split
 ·have:v * v / a * a = v * v:=by
   rw [Rat.div_def,Rat.mul_assoc,Rat.inv_mul_cancel a (by grind),Rat.mul_one]
  grind
 ·grind
theorem gg_lt {x y v:Rat} (hv:0 < v) (h0:0 <= x) (h:x < y):Sp.gg x v < Sp.gg y v:=by
 unfold Sp.gg
 by_cases h1:v + v <= x
 ·have h2:v + v <= y:=by grind
  rw [if_pos h1,if_pos h2]
  have:=mul_pp hv (show 0 < y - x by grind)
  grind
 ·rw [if_neg h1]
  by_cases h2:v + v <= y
  ·rw [if_pos h2]
   have a1:=mul_ge (show 0 <= v by grind) (show 0 <= y - (v + v) by grind)
   have a2:=mul_pp (show 0 < v + v - x by grind) (show 0 < v + v + x by grind)
   grind
  ·rw [if_neg h2]
   have a2:=mul_pp (show 0 < y - x by grind) (show 0 < y + x by grind)
   grind
theorem lt_of_mul {a p q:Rat} (ha:0 < a) (h:p * a < q * a):p < q:=by
 apply Classical.byContradiction
 intro n
 have:=mul_ge (show 0 <= p - q by grind) (show 0 <= a by grind)
 grind
theorem rch_lt {T S v a:Rat} (ha:0 < a) (hv:0 < v) (h0:0 <= T) (h:T < S):Sp.rch T v a < Sp.rch S v a:=by
 refine lt_of_mul ha ?_
 rw [rch_gg ha,rch_gg ha]
 have:=mul_pp (show 0 < S - T by grind) ha
 exact gg_lt hv (mul_ge h0 (by grind)) (by grind)
end Go.Av

namespace Go.Av
open Go.Proofs
theorem ev34 (n d:Int) (h:Sp.okF n d):Ev M1 (.pure 34 [.int .i64 n,.int .i64 d]) (ratA false false (Sp.qf n d)) []:=by
 rw [qf_eq]
 obtain ⟨h1,h2,h3⟩:=h
 have c1:=inI_cnt h1
 have c2:=inI_cnt h2
 exact call34 (vRFrac _ _ _ ⟨fun k => absurd k h3,fun _ => ⟨h1,h2,⟨by unfold Sp.okB;omega,by unfold Sp.okB;omega,h3⟩,.refl _⟩⟩)
end Go.Av

namespace Go.Av
open Go.Proofs
set_option maxRecDepth 100000
def fi66:Fi:=⟨14,[.cell 4 36]⟩
def kp66:List (Nat × List Nat):=[(0,[2,3,4]),(1,[4,5]),(2,[4])]
def kOver_at (f1 f2 g1 g2:Bool) (r s:Rat) (Q:AV -> Heap -> Prop):Prop:=Wp M1 (.run fi66 (atC (cd Tryz.f66) []) [(0,ratA f1 f2 r),(1,ratA g1 g2 s)] []) Q
theorem call66 {args:List AV} {d:AV} (h:wc M1 fi66 Tryz.f66 args d):Ev M1 (.pure 66 args) d []:=pcl _ _ (by kernel_rfl) h
theorem kOver (f1 f2 g1 g2:Bool) (r s:Rat)  (dq:AV) (H :
  (Sp.okR r /\ Sp.okR s /\ s.num ≠ 0) /\
  Weak (ratA false false (r / s)) dq) :
 kOver_at f1 f2 g1 g2 r s (PureQ dq):=by
 unfold kOver_at
 obtain ⟨k1,H⟩:=H
 exact path_rq (G:=given kp66 [(1,2,.call (tu [ratA false false (r / s),vi 0]) none)] []) 1000 [] (ratA false false (r / s)) (by kernel_rfl) (bc rfl (bc rfl (bc rfl (bc rfl (bc rfl b0))))) q0 (ce (@ev97 (f1) (f2) (g1) (g2) (r) (s) k1) c0) H
end Go.Av

namespace Go.Av
open Go.Proofs
theorem ev66 (f1 f2 g1 g2:Bool) (r s:Rat) (h:Sp.okR r /\ Sp.okR s /\ s.num ≠ 0):Ev M1 (.pure 66 [ratA f1 f2 r,ratA g1 g2 s]) (ratA false false (r / s)) []:=
 call66 (kOver _ _ _ _ _ _ _ ⟨h,.refl _⟩)
theorem ev56 (fa:Bool) (a:Int):Ev M1 (.pure 56 [bigA fa a]) (ratA false false (Sp.qi a)) []:=by
 refine call56 (rFromInt _ _ _ ⟨false,Sp.limI 1,ev46,?_⟩)
 rw [qi_eq]
 show Weak _ (AV.agg [.bool (Sp.isNeg (a:Rat).num),.vec false 1 ((Sp.limI (a:Rat).num).map (.int .u32)),.bool (Sp.isNeg ((a:Rat).den:Int)),.vec false 1 ((Sp.limI ((a:Rat).den:Int)).map (.int .u32))])
 rw [Rat.num_intCast,Rat.den_intCast]
 exact weak_rat _ _ _ _ _ _
end Go.Av

namespace Go.Av
open Go.Proofs
set_option maxRecDepth 100000
def fi12:Fi:=⟨54,[.cell 6 36,.tmp 7]⟩
def kp12:List (Nat × List Nat):=[(0,[0,1,2,6]),(1,[0,1,2,6,23]),(2,[6,7]),(3,[1,2,6,8,9,10]),(4,[1,2,6,8,9,38]),(5,[6,7]),(6,[6,7])]
def fi30:Fi:=⟨93,[.tmp 12]⟩
def kp30:List (Nat × List Nat):=[(0,[0,1,2,3,4,5]),(1,[0,1,2,3,4,5,13]),(2,[0,1,2,3,4,5,13,14]),(3,[0,1,2,5,13,14,15]),(4,[0,5,13,14,15,16,17]),(5,[0,5,13,14,15,16,53]),(6,[12]),(7,[0,5,13,17,18]),(8,[0,5,13,18,62]),(9,[12]),(10,[5,13,18]),(11,[17,18]),(12,[12])]
def fi52:Fi:=⟨41,[.tmp 4,.tmp 5]⟩
def kp52:List (Nat × List Nat):=[(0,[2,3]),(1,[2,3,13]),(2,[4,5]),(3,[6]),(4,[6,7]),(5,[7,37]),(6,[7]),(7,[4,5])]
def fi54:Fi:=⟨16,[.tmp 6]⟩
def kp54:List (Nat × List Nat):=[(0,[0,1,2]),(1,[6])]
def kFaster1_at (n u v:Int) (Q:AV -> Heap -> Prop):Prop:=Wp M1 (.run fi54 (atC (cd Tryz.f54) []) [(0,.int .i64 n),(1,.int .i64 u),(2,.int .i64 v)] []) Q
def kLength_at (ax ay az bx by_ bz:Int) (Q:AV -> Heap -> Prop):Prop:=Wp M1 (.run fi52 (atC (cd Tryz.f52) []) [(0,.agg [.int .i64 ax,.int .i64 ay,.int .i64 az]),(1,.agg [.int .i64 bx,.int .i64 by_,.int .i64 bz])] []) Q
def kAllow_at (v x y m n c:Int) (Q:AV -> Heap -> Prop):Prop:=Wp M1 (.run fi30 (atC (cd Tryz.f30) []) [(0,.int .i64 v),(1,.int .i64 x),(2,.int .i64 y),(3,.int .i64 m),(4,.int .i64 n),(5,.int .i64 c)] []) Q
def kReach_at (t v a:Int) (Q:AV -> Heap -> Prop):Prop:=Wp M1 (.run fi12 (atC (cd Tryz.f12) []) [(0,.int .i64 t),(1,.int .i64 v),(2,.int .i64 a)] []) Q
theorem call12 {args:List AV} {d:AV} (h:wc M1 fi12 Tryz.f12 args d):Ev M1 (.pure 12 args) d []:=pcl _ _ (by kernel_rfl) h
theorem call30 {args:List AV} {d:AV} (h:wc M1 fi30 Tryz.f30 args d):Ev M1 (.pure 30 args) d []:=pcl _ _ (by kernel_rfl) h
theorem call52 {args:List AV} {d:AV} (h:wc M1 fi52 Tryz.f52 args d):Ev M1 (.pure 52 args) d []:=pcl _ _ (by kernel_rfl) h
theorem call54 {args:List AV} {d:AV} (h:wc M1 fi54 Tryz.f54 args d):Ev M1 (.pure 54 args) d []:=pcl _ _ (by kernel_rfl) h
theorem kFaster1 (n u v:Int)  (dq:AV) (H :
  (-9223372036854775808 <= n * n /\ n * n <= 9223372036854775807) /\
  (-9223372036854775808 <= 2 * v /\ 2 * v <= 9223372036854775807) /\
  (-9223372036854775808 <= 2 * v * u /\ 2 * v * u <= 9223372036854775807) /\
  (-9223372036854775808 <= n * n + 2 * v * u /\ n * n + 2 * v * u <= 9223372036854775807) /\
  (Sp.okNs (n * n + 2 * v * u)) /\
  vi (Sp.sq (n * n + 2 * v * u)) = dq) :
 kFaster1_at n u v (PureQ dq):=by
 unfold kFaster1_at
 obtain ⟨k1,H⟩:=H
 have w2:wi (n * n) = n * n:=wI64 k1
 obtain ⟨k3,H⟩:=H
 have w4:wi (2 * v) = 2 * v:=wI64 k3
 obtain ⟨k5,H⟩:=H
 have w6:wi (2 * v * u) = 2 * v * u:=wI64 k5
 obtain ⟨k7,H⟩:=H
 have w8:wi (n * n + 2 * v * u) = n * n + 2 * v * u:=wI64 k7
 obtain ⟨k9,H⟩:=H
 exact path_re (G:=given kp54 [(1,8,.call (vi (Sp.sq (n * n + 2 * v * u))) none)] []) 1000 [] (calls:=[pc 87 [vi (wi (wi (n * n) + wi (wi (2 * v) * u)))] (vi (Sp.sq (n * n + 2 * v * u)))]) (vi (Sp.sq (n * n + 2 * v * u))) (by kernel_rfl) b0 q0 (ce (by (try rw [w2]);(try rw [w4]);(try rw [w6]);(try rw [w8]);all_goals exact (@ev87 (n * n + 2 * v * u) k9)) c0) H
noncomputable abbrev zNzD1 (bx:Int) (by_:Int) (bz:Int):=ag [vi bx,vi by_,vi bz]
theorem kLength (ax ay az bx by_ bz:Int)  (dq:AV) (H :
  (((¬Sp.inP ax ay az) \/ (¬Sp.inP bx by_ bz)) -> tu [vi 0,vi 11] = dq) /\
  (¬((¬Sp.inP ax ay az) \/ (¬Sp.inP bx by_ bz)) -> (-9223372036854775808 <= bx - ax /\ bx - ax <= 9223372036854775807) /\
   (-9223372036854775808 <= by_ - ay /\ by_ - ay <= 9223372036854775807) /\
   (-9223372036854775808 <= bz - az /\ bz - az <= 9223372036854775807) /\
   (Sp.inQ (bx - ax) /\ Sp.inQ (by_ - ay) /\ Sp.inQ (bz - az)) /\
   (Sp.okNs (Sp.sqr (bx - ax) (by_ - ay) (bz - az))) /\
   (-9223372036854775808 <= Sp.sq (Sp.sqr (bx - ax) (by_ - ay) (bz - az)) * Sp.sq (Sp.sqr (bx - ax) (by_ - ay) (bz - az)) /\ Sp.sq (Sp.sqr (bx - ax) (by_ - ay) (bz - az)) * Sp.sq (Sp.sqr (bx - ax) (by_ - ay) (bz - az)) <= 9223372036854775807) /\
   ((Sp.sq (Sp.sqr (bx - ax) (by_ - ay) (bz - az)) * Sp.sq (Sp.sqr (bx - ax) (by_ - ay) (bz - az)) < Sp.sqr (bx - ax) (by_ - ay) (bz - az)) -> (-9223372036854775808 <= Sp.sq (Sp.sqr (bx - ax) (by_ - ay) (bz - az)) + 1 /\ Sp.sq (Sp.sqr (bx - ax) (by_ - ay) (bz - az)) + 1 <= 9223372036854775807) /\
    tu [vi (Sp.sq (Sp.sqr (bx - ax) (by_ - ay) (bz - az)) + 1),vi 0] = dq) /\
   (¬(Sp.sq (Sp.sqr (bx - ax) (by_ - ay) (bz - az)) * Sp.sq (Sp.sqr (bx - ax) (by_ - ay) (bz - az)) < Sp.sqr (bx - ax) (by_ - ay) (bz - az)) -> tu [vi (Sp.sq (Sp.sqr (bx - ax) (by_ - ay) (bz - az))),vi 0] = dq))) :
 kLength_at ax ay az bx by_ bz (PureQ dq):=by
 unfold kLength_at
 refine path_wp (G:=given kp52 [(1,1,.call (vb (decide ¬Sp.inP ax ay az)) none),(1,4,.call (vb (decide ¬Sp.inP bx by_ bz)) none)] []) 5 [] ⟨(atC (cd Tryz.f52) [1,0,1]),[(2,AV.ptr 0 0 0 0),(3,AV.ptr 1 0 0 0),(13,vb (bif decide ¬Sp.inP ax ay az then true else decide ¬Sp.inP bx by_ bz))],[⟨[ag [vi ax,vi ay,vi az]],3,0,false,false⟩,⟨[(zNzD1 bx by_ bz)],3,0,false,false⟩],[true,!((decide ¬Sp.inP ax ay az) == false && true) || true],[],[⟨true,false,26,[ag [vi ax,vi ay,vi az]],[],vb (decide ¬Sp.inP ax ay az),[]⟩,⟨(decide ¬Sp.inP ax ay az) == false && true && true,false,26,[(zNzD1 bx by_ bz)],[],vb (decide ¬Sp.inP bx by_ bz),[]⟩]⟩ (by kernel_rfl) (bc rfl (bc (Bool.or_true _) b0)) q0 (cc (fun _ => (@ev26 (ax) (ay) (az))) (cc (fun hc => ((@ev26 (bx) (by_) (bz)):Ev M1 (Conf.pure 26 [(zNzD1 bx by_ bz)]) (vb (decide ¬Sp.inP bx by_ bz)) [])) c0)) ?_
 rcases xm ((¬Sp.inP ax ay az) \/ (¬Sp.inP bx by_ bz)) with d3 | d3
 ·have H:=H.1 d3
  exact path_re (G:=given kp52 [] []) 1000 [true] (tu [vi 0,vi 11]) (by kernel_rfl) (bc (beq_t ((i_bor i_dec i_dec).2 d3)) b0) q0 c0 H
 ·have H:=H.2 d3
  obtain ⟨k4,H⟩:=H
  have w5:wi (bx - ax) = bx - ax:=wI64 k4
  obtain ⟨k6,H⟩:=H
  have w7:wi (by_ - ay) = by_ - ay:=wI64 k6
  obtain ⟨k8,H⟩:=H
  have w9:wi (bz - az) = bz - az:=wI64 k8
  obtain ⟨k10,H⟩:=H
  obtain ⟨k11,H⟩:=H
  obtain ⟨k12,H⟩:=H
  have w13:wi (Sp.sq (Sp.sqr (bx - ax) (by_ - ay) (bz - az)) * Sp.sq (Sp.sqr (bx - ax) (by_ - ay) (bz - az))) = Sp.sq (Sp.sqr (bx - ax) (by_ - ay) (bz - az)) * Sp.sq (Sp.sqr (bx - ax) (by_ - ay) (bz - az)):=wI64 k12
  have i14:(decide (wi (Sp.sq (Sp.sqr (bx - ax) (by_ - ay) (bz - az)) * Sp.sq (Sp.sqr (bx - ax) (by_ - ay) (bz - az))) < Sp.sqr (bx - ax) (by_ - ay) (bz - az))) = true ↔ (Sp.sq (Sp.sqr (bx - ax) (by_ - ay) (bz - az)) * Sp.sq (Sp.sqr (bx - ax) (by_ - ay) (bz - az)) < Sp.sqr (bx - ax) (by_ - ay) (bz - az)):=(by (try rw [w13]);all_goals exact i_dec)
  refine path_wp (G:=given kp52 [(3,16,.call (vi (Sp.sqr (bx - ax) (by_ - ay) (bz - az))) none),(4,1,.call (vi (Sp.sq (Sp.sqr (bx - ax) (by_ - ay) (bz - az)))) none)] []) 9 [false] ⟨(atC (cd Tryz.f52) [1,1,1,1,0,1]),[(7,vi (Sp.sq (Sp.sqr (bx - ax) (by_ - ay) (bz - az)))),(37,vb (decide (wi (Sp.sq (Sp.sqr (bx - ax) (by_ - ay) (bz - az)) * Sp.sq (Sp.sqr (bx - ax) (by_ - ay) (bz - az))) < Sp.sqr (bx - ax) (by_ - ay) (bz - az))))],[⟨[ag [vi ax,vi ay,vi az]],3,0,false,false⟩,⟨[(zNzD1 bx by_ bz)],3,0,false,false⟩],_,[],[pc 27 [ag [vi (wi (bx - ax)),vi (wi (by_ - ay)),vi (wi (bz - az))]] (vi (Sp.sqr (bx - ax) (by_ - ay) (bz - az))),pc 87 [vi (Sp.sqr (bx - ax) (by_ - ay) (bz - az))] (vi (Sp.sq (Sp.sqr (bx - ax) (by_ - ay) (bz - az))))]⟩ (by kernel_rfl) (bc (beq_f (fun h => d3 ((i_bor i_dec i_dec).1 h))) (bc rfl (bc rfl (bc rfl (bc rfl (bc rfl (bc rfl b0))))))) q0 (ce (by (try rw [w5]);(try rw [w7]);(try rw [w9]);all_goals exact (@ev27 (bx - ax) (by_ - ay) (bz - az) k10)) (ce (@ev87 (Sp.sqr (bx - ax) (by_ - ay) (bz - az)) k11) c0)) ?_
  rcases xm (Sp.sq (Sp.sqr (bx - ax) (by_ - ay) (bz - az)) * Sp.sq (Sp.sqr (bx - ax) (by_ - ay) (bz - az)) < Sp.sqr (bx - ax) (by_ - ay) (bz - az)) with d15 | d15
  ·have H:=H.1 d15
   obtain ⟨k16,H⟩:=H
   have w17:wi (Sp.sq (Sp.sqr (bx - ax) (by_ - ay) (bz - az)) + 1) = Sp.sq (Sp.sqr (bx - ax) (by_ - ay) (bz - az)) + 1:=wI64 k16
   exact path_re (G:=given kp52 [] []) 1000 [true] (tu [vi (wi (Sp.sq (Sp.sqr (bx - ax) (by_ - ay) (bz - az)) + 1)),vi 0]) (by kernel_rfl) (bc (beq_t (i14.2 d15)) b0) q0 c0 (by (try rw [w17]);all_goals exact H)
  ·have H:=H.2 d15
   exact path_re (G:=given kp52 [] []) 1000 [false] (tu [vi (Sp.sq (Sp.sqr (bx - ax) (by_ - ay) (bz - az))),vi 0]) (by kernel_rfl) (bc (beq_f (fun h => d15 (i14.1 h))) b0) q0 c0 H
noncomputable abbrev zNzD2 (x:Int) (y:Int) (m:Int) (n:Int):=Sp.qi (-2) * (Sp.qi x * Sp.qi y) / (Sp.qi m * Sp.qi n)
noncomputable abbrev zNzD4 (x:Int) (m:Int) (y:Int) (n:Int) (v:Int) (c:Int):=Sp.mkA (Sp.qf (x * x) m + Sp.qf (y * y) n) (zNzD2 x y m n) (Sp.qi m * Sp.qi n) * (Sp.qi v * Sp.qi v) + -(Sp.qi c * Sp.qi c)
noncomputable abbrev zNzD5 (x:Int) (y:Int) (m:Int) (n:Int) (v:Int):=Sp.mkB (zNzD2 x y m n) (Sp.qi m * Sp.qi n) * (Sp.qi v * Sp.qi v) + Sp.qi 0
noncomputable abbrev zNzD6 (x:Int) (y:Int) (m:Int) (n:Int) (v:Int):=Sp.mkB (zNzD2 x y m n) (Sp.qi m * Sp.qi n) * (Sp.qi v * Sp.qi v)
noncomputable abbrev zNzD7:=tu [ag [vb false,vf [],vb false,vf [],vb false,vf [],vb false,vf [],vb false,vf [],vb false,vf []],vi 7]
noncomputable abbrev zNzD8 (x:Int) (m:Int) (y:Int) (n:Int) (v:Int):=Sp.mkA (Sp.qf (x * x) m + Sp.qf (y * y) n) (zNzD2 x y m n) (Sp.qi m * Sp.qi n) * (Sp.qi v * Sp.qi v)
noncomputable abbrev zNzD9 (x:Int) (y:Int) (m:Int) (n:Int) (v:Int):=Sp.rad (zNzD6 x y m n v) (Sp.mkC (zNzD2 x y m n) (Sp.qi m * Sp.qi n))
noncomputable abbrev zNzD3 (x:Int) (y:Int) (m:Int) (n:Int) (v:Int):=Sp.rad (zNzD5 x y m n v) (Sp.com (zNzD6 x y m n v) (zNzD9 x y m n v) (Sp.qi 0))
noncomputable abbrev zNzD10 (x:Int) (m:Int) (y:Int) (n:Int):=Sp.mkA (Sp.qf (x * x) m + Sp.qf (y * y) n) (zNzD2 x y m n) (Sp.qi m * Sp.qi n)
theorem kAllow (v x y m n c:Int)  (dq:AV) (H :
  (Sp.inI m) /\
  (Sp.inI n) /\
  (Sp.okR (Sp.qi m) /\ Sp.okR (Sp.qi n)) /\
  (-9223372036854775808 <= x * x /\ x * x <= 9223372036854775807) /\
  (Sp.okF (x * x) m) /\
  (-9223372036854775808 <= y * y /\ y * y <= 9223372036854775807) /\
  (Sp.okF (y * y) n) /\
  (Sp.okR (Sp.qf (x * x) m) /\ Sp.okR (Sp.qf (y * y) n)) /\
  (Sp.inI (-2)) /\
  (Sp.inI x) /\
  (Sp.inI y) /\
  (Sp.okR (Sp.qi x) /\ Sp.okR (Sp.qi y)) /\
  (Sp.okR (Sp.qi (-2)) /\ Sp.okR (Sp.qi x * Sp.qi y)) /\
  (Sp.okR (Sp.qi (-2) * (Sp.qi x * Sp.qi y)) /\ Sp.okR (Sp.qi m * Sp.qi n) /\ (Sp.qi m * Sp.qi n).num ≠ 0) /\
  ((Sp.isNN (Sp.qi m * Sp.qi n)) -> (Sp.okO (Sp.qf (x * x) m + Sp.qf (y * y) n) (Sp.qi (-2) * (Sp.qi x * Sp.qi y) / (Sp.qi m * Sp.qi n)) (Sp.qi m * Sp.qi n)) /\
   (Sp.inI v) /\
   (Sp.okR (Sp.qi v) /\ Sp.okR (Sp.qi v)) /\
   (Sp.okP (Sp.mkA (Sp.qf (x * x) m + Sp.qf (y * y) n) (Sp.qi (-2) * (Sp.qi x * Sp.qi y) / (Sp.qi m * Sp.qi n)) (Sp.qi m * Sp.qi n)) (Sp.mkB (Sp.qi (-2) * (Sp.qi x * Sp.qi y) / (Sp.qi m * Sp.qi n)) (Sp.qi m * Sp.qi n)) /\ Sp.okR (Sp.qi v * Sp.qi v)) /\
   (Sp.inI c) /\
   (Sp.okR (Sp.qi c) /\ Sp.okR (Sp.qi c)) /\
   (Sp.okB (Sp.qi c * Sp.qi c).num) /\
   ((Sp.isCom (Sp.mkB (Sp.qi (-2) * (Sp.qi x * Sp.qi y) / (Sp.qi m * Sp.qi n)) (Sp.qi m * Sp.qi n) * (Sp.qi v * Sp.qi v)) (Sp.rad (Sp.mkB (Sp.qi (-2) * (Sp.qi x * Sp.qi y) / (Sp.qi m * Sp.qi n)) (Sp.qi m * Sp.qi n) * (Sp.qi v * Sp.qi v)) (Sp.mkC (Sp.qi (-2) * (Sp.qi x * Sp.qi y) / (Sp.qi m * Sp.qi n)) (Sp.qi m * Sp.qi n))) (Sp.qi 0) (Sp.qi 0)) -> (Sp.okO (Sp.mkA (Sp.qf (x * x) m + Sp.qf (y * y) n) (Sp.qi (-2) * (Sp.qi x * Sp.qi y) / (Sp.qi m * Sp.qi n)) (Sp.qi m * Sp.qi n) * (Sp.qi v * Sp.qi v)) (Sp.mkB (Sp.qi (-2) * (Sp.qi x * Sp.qi y) / (Sp.qi m * Sp.qi n)) (Sp.qi m * Sp.qi n) * (Sp.qi v * Sp.qi v)) (Sp.rad (Sp.mkB (Sp.qi (-2) * (Sp.qi x * Sp.qi y) / (Sp.qi m * Sp.qi n)) (Sp.qi m * Sp.qi n) * (Sp.qi v * Sp.qi v)) (Sp.mkC (Sp.qi (-2) * (Sp.qi x * Sp.qi y) / (Sp.qi m * Sp.qi n)) (Sp.qi m * Sp.qi n))) /\ Sp.okO (-(Sp.qi c * Sp.qi c)) (Sp.qi 0) (Sp.qi 0)) /\
    ((true = true) -> (Sp.okO (Sp.mkA (Sp.qf (x * x) m + Sp.qf (y * y) n) (Sp.qi (-2) * (Sp.qi x * Sp.qi y) / (Sp.qi m * Sp.qi n)) (Sp.qi m * Sp.qi n) * (Sp.qi v * Sp.qi v) + -(Sp.qi c * Sp.qi c)) (Sp.mkB (Sp.qi (-2) * (Sp.qi x * Sp.qi y) / (Sp.qi m * Sp.qi n)) (Sp.qi m * Sp.qi n) * (Sp.qi v * Sp.qi v) + Sp.qi 0) (Sp.rad (Sp.mkB (Sp.qi (-2) * (Sp.qi x * Sp.qi y) / (Sp.qi m * Sp.qi n)) (Sp.qi m * Sp.qi n) * (Sp.qi v * Sp.qi v) + Sp.qi 0) (Sp.com (Sp.mkB (Sp.qi (-2) * (Sp.qi x * Sp.qi y) / (Sp.qi m * Sp.qi n)) (Sp.qi m * Sp.qi n) * (Sp.qi v * Sp.qi v)) (Sp.rad (Sp.mkB (Sp.qi (-2) * (Sp.qi x * Sp.qi y) / (Sp.qi m * Sp.qi n)) (Sp.qi m * Sp.qi n) * (Sp.qi v * Sp.qi v)) (Sp.mkC (Sp.qi (-2) * (Sp.qi x * Sp.qi y) / (Sp.qi m * Sp.qi n)) (Sp.qi m * Sp.qi n))) (Sp.qi 0))))) /\
    vb (decide (Sp.sgO (Sp.mkA (Sp.qf (x * x) m + Sp.qf (y * y) n) (Sp.qi (-2) * (Sp.qi x * Sp.qi y) / (Sp.qi m * Sp.qi n)) (Sp.qi m * Sp.qi n) * (Sp.qi v * Sp.qi v) + -(Sp.qi c * Sp.qi c)) (Sp.mkB (Sp.qi (-2) * (Sp.qi x * Sp.qi y) / (Sp.qi m * Sp.qi n)) (Sp.qi m * Sp.qi n) * (Sp.qi v * Sp.qi v) + Sp.qi 0) (Sp.rad (Sp.mkB (Sp.qi (-2) * (Sp.qi x * Sp.qi y) / (Sp.qi m * Sp.qi n)) (Sp.qi m * Sp.qi n) * (Sp.qi v * Sp.qi v) + Sp.qi 0) (Sp.com (Sp.mkB (Sp.qi (-2) * (Sp.qi x * Sp.qi y) / (Sp.qi m * Sp.qi n)) (Sp.qi m * Sp.qi n) * (Sp.qi v * Sp.qi v)) (Sp.rad (Sp.mkB (Sp.qi (-2) * (Sp.qi x * Sp.qi y) / (Sp.qi m * Sp.qi n)) (Sp.qi m * Sp.qi n) * (Sp.qi v * Sp.qi v)) (Sp.mkC (Sp.qi (-2) * (Sp.qi x * Sp.qi y) / (Sp.qi m * Sp.qi n)) (Sp.qi m * Sp.qi n))) (Sp.qi 0))) <= 0)) = dq) /\
   (¬(Sp.isCom (Sp.mkB (Sp.qi (-2) * (Sp.qi x * Sp.qi y) / (Sp.qi m * Sp.qi n)) (Sp.qi m * Sp.qi n) * (Sp.qi v * Sp.qi v)) (Sp.rad (Sp.mkB (Sp.qi (-2) * (Sp.qi x * Sp.qi y) / (Sp.qi m * Sp.qi n)) (Sp.qi m * Sp.qi n) * (Sp.qi v * Sp.qi v)) (Sp.mkC (Sp.qi (-2) * (Sp.qi x * Sp.qi y) / (Sp.qi m * Sp.qi n)) (Sp.qi m * Sp.qi n))) (Sp.qi 0) (Sp.qi 0)) -> False)) /\
  (¬(Sp.isNN (Sp.qi m * Sp.qi n)) -> (Sp.okO (Sp.qf (x * x) m + Sp.qf (y * y) n) (Sp.qi (-2) * (Sp.qi x * Sp.qi y) / (Sp.qi m * Sp.qi n)) (Sp.qi m * Sp.qi n)) /\
   vb false = dq)) :
 kAllow_at v x y m n c (PureQ dq):=by
 unfold kAllow_at
 obtain ⟨k1,H⟩:=H
 obtain ⟨k2,H⟩:=H
 obtain ⟨k3,H⟩:=H
 obtain ⟨k4,H⟩:=H
 have w5:wi (x * x) = x * x:=wI64 k4
 obtain ⟨k6,H⟩:=H
 obtain ⟨k7,H⟩:=H
 have w8:wi (y * y) = y * y:=wI64 k7
 obtain ⟨k9,H⟩:=H
 obtain ⟨k10,H⟩:=H
 obtain ⟨k11,H⟩:=H
 obtain ⟨k12,H⟩:=H
 obtain ⟨k13,H⟩:=H
 obtain ⟨k14,H⟩:=H
 obtain ⟨k15,H⟩:=H
 obtain ⟨k16,H⟩:=H
 rcases xm (Sp.isNN (Sp.qi m * Sp.qi n)) with d17 | d17
 ·have H:=H.1 d17
  obtain ⟨k18,H⟩:=H
  obtain ⟨k19,H⟩:=H
  obtain ⟨k20,H⟩:=H
  obtain ⟨k21,H⟩:=H
  obtain ⟨k22,H⟩:=H
  obtain ⟨k23,H⟩:=H
  obtain ⟨k24,H⟩:=H
  rcases xm (Sp.isCom (zNzD6 x y m n v) (zNzD9 x y m n v) (Sp.qi 0) (Sp.qi 0)) with d25 | d25
  ·have H:=H.1 d25
   obtain ⟨k26,H⟩:=H
   obtain ⟨k28,H⟩:=H
   exact path_re (G:=given kp30 [(2,2,.call (ratA false false (Sp.qi m)) none),(2,5,.call (ratA false false (Sp.qi n)) none),(2,6,.call (ratA false false (Sp.qi m * Sp.qi n)) none),(3,4,.call (ratA false false (Sp.qf (x * x) m)) none),(3,9,.call (ratA false false (Sp.qf (y * y) n)) none),(3,10,.call (ratA false false (Sp.qf (x * x) m + Sp.qf (y * y) n)) none),(4,1,.call (ratA false false (Sp.qi (-2))) none),(4,4,.call (ratA false false (Sp.qi x)) none),(4,7,.call (ratA false false (Sp.qi y)) none),(4,8,.call (ratA false false (Sp.qi x * Sp.qi y)) none),(4,9,.call (ratA false false (Sp.qi (-2) * (Sp.qi x * Sp.qi y))) none),(4,11,.call (tu [ratA false false (zNzD2 x y m n),vi 0]) none),(7,3,.call (tu [rootF (zNzD10 x m y n) (Sp.mkB (zNzD2 x y m n) (Sp.qi m * Sp.qi n)) (Sp.mkC (zNzD2 x y m n) (Sp.qi m * Sp.qi n)),vi 0]) none),(10,3,.call (ratA false false (Sp.qi v)) none),(10,6,.call (ratA false false (Sp.qi v)) none),(10,7,.call (ratA false false (Sp.qi v * Sp.qi v)) none),(10,8,.call (rootF (zNzD8 x m y n v) (zNzD6 x y m n v) (zNzD9 x y m n v)) none),(11,3,.call (ratA false false (Sp.qi c)) none),(11,6,.call (ratA false false (Sp.qi c)) none),(11,7,.call (ratA false false (Sp.qi c * Sp.qi c)) none),(11,8,.call (ratA false false (-(Sp.qi c * Sp.qi c))) none),(11,9,.call (rootF (-(Sp.qi c * Sp.qi c)) (Sp.qi 0) (Sp.qi 0)) none),(11,10,.call (tu [rootF (zNzD4 x m y n v c) (zNzD5 x y m n v) (zNzD3 x y m n v),vi 0]) none),(12,4,.call (vi (Sp.sgO (zNzD4 x m y n v c) (zNzD5 x y m n v) (zNzD3 x y m n v))) none)] []) 1000 [false,false] (calls:=[⟨true,false,35,[vi m],[],ratA false false (Sp.qi m),[]⟩,⟨true,false,35,[vi n],[],ratA false false (Sp.qi n),[]⟩,⟨true,false,37,[ratA false false (Sp.qi m),ratA false false (Sp.qi n)],[],ratA false false (Sp.qi m * Sp.qi n),[]⟩,⟨true,false,34,[vi (wi (x * x)),vi m],[],ratA false false (Sp.qf (x * x) m),[]⟩,⟨true,false,34,[vi (wi (y * y)),vi n],[],ratA false false (Sp.qf (y * y) n),[]⟩,⟨true,false,38,[ratA false false (Sp.qf (x * x) m),ratA false false (Sp.qf (y * y) n)],[],ratA false false (Sp.qf (x * x) m + Sp.qf (y * y) n),[]⟩,⟨true,false,35,[vi (-2)],[],ratA false false (Sp.qi (-2)),[]⟩,⟨true,false,35,[vi x],[],ratA false false (Sp.qi x),[]⟩,⟨true,false,35,[vi y],[],ratA false false (Sp.qi y),[]⟩,⟨true,false,37,[ratA false false (Sp.qi x),ratA false false (Sp.qi y)],[],ratA false false (Sp.qi x * Sp.qi y),[]⟩,⟨true,false,37,[ratA false false (Sp.qi (-2)),ratA false false (Sp.qi x * Sp.qi y)],[],ratA false false (Sp.qi (-2) * (Sp.qi x * Sp.qi y)),[]⟩,⟨true,false,58,[ratA false false (Sp.qi (-2) * (Sp.qi x * Sp.qi y)),ratA false false (Sp.qi m * Sp.qi n)],[],tu [ratA false false (zNzD2 x y m n),vi 0],[]⟩,⟨true,false,59,[ratA false false (Sp.qf (x * x) m + Sp.qf (y * y) n),ratA false false (zNzD2 x y m n),ratA false false (Sp.qi m * Sp.qi n)],[],tu [rootF (zNzD10 x m y n) (Sp.mkB (zNzD2 x y m n) (Sp.qi m * Sp.qi n)) (Sp.mkC (zNzD2 x y m n) (Sp.qi m * Sp.qi n)),vi 0],[]⟩,⟨true,false,35,[vi v],[],ratA false false (Sp.qi v),[]⟩,⟨true,false,35,[vi v],[],ratA false false (Sp.qi v),[]⟩,⟨true,false,37,[ratA false false (Sp.qi v),ratA false false (Sp.qi v)],[],ratA false false (Sp.qi v * Sp.qi v),[]⟩,⟨true,false,60,[rootF (zNzD10 x m y n) (Sp.mkB (zNzD2 x y m n) (Sp.qi m * Sp.qi n)) (Sp.mkC (zNzD2 x y m n) (Sp.qi m * Sp.qi n)),ratA false false (Sp.qi v * Sp.qi v)],[],rootF (zNzD8 x m y n v) (zNzD6 x y m n v) (zNzD9 x y m n v),[]⟩,⟨true,false,35,[vi c],[],ratA false false (Sp.qi c),[]⟩,⟨true,false,35,[vi c],[],ratA false false (Sp.qi c),[]⟩,⟨true,false,37,[ratA false false (Sp.qi c),ratA false false (Sp.qi c)],[],ratA false false (Sp.qi c * Sp.qi c),[]⟩,⟨true,false,63,[ratA false false (Sp.qi c * Sp.qi c)],[],ratA false false (-(Sp.qi c * Sp.qi c)),[]⟩,⟨true,false,62,[ratA false false (-(Sp.qi c * Sp.qi c))],[],rootF (-(Sp.qi c * Sp.qi c)) (Sp.qi 0) (Sp.qi 0),[]⟩,⟨true,false,61,[rootF (zNzD8 x m y n v) (zNzD6 x y m n v) (zNzD9 x y m n v),rootF (-(Sp.qi c * Sp.qi c)) (Sp.qi 0) (Sp.qi 0)],[],tu [rootF (zNzD4 x m y n v c) (zNzD5 x y m n v) (zNzD3 x y m n v),vi 0],[]⟩,⟨true == true && true && true,false,64,[rootF (zNzD4 x m y n v c) (zNzD5 x y m n v) (zNzD3 x y m n v)],[],vi (Sp.sgO (zNzD4 x m y n v c) (zNzD5 x y m n v) (zNzD3 x y m n v)),[]⟩]) (vb (decide (Sp.sgO (zNzD4 x m y n v c) (zNzD5 x y m n v) (zNzD3 x y m n v) <= 0))) (by kernel_rfl) (bc rfl (bc rfl (bc rfl (bc rfl (bc rfl (bc rfl (bc rfl (bc rfl (bc rfl (bc rfl (bc rfl (bc rfl (bc rfl (bc rfl (bc rfl b0))))))))))))))) q0 (cc (fun _ => (@ev35 (m) k1)) (cc (fun _ => (@ev35 (n) k2)) (cc (fun _ => (@ev37 (false) (false) (false) (false) (Sp.qi m) (Sp.qi n) k3)) (cc (fun _ => (by (try rw [w5]);all_goals exact (@ev34 (x * x) (m) k6))) (cc (fun _ => (by (try rw [w8]);all_goals exact (@ev34 (y * y) (n) k9))) (cc (fun _ => (@ev38 (false) (false) (false) (false) (Sp.qf (x * x) m) (Sp.qf (y * y) n) k10)) (cc (fun _ => (@ev35 (-2) k11)) (cc (fun _ => (@ev35 (x) k12)) (cc (fun _ => (@ev35 (y) k13)) (cc (fun _ => (@ev37 (false) (false) (false) (false) (Sp.qi x) (Sp.qi y) k14)) (cc (fun _ => (@ev37 (false) (false) (false) (false) (Sp.qi (-2)) (Sp.qi x * Sp.qi y) k15)) (cc (fun _ => (@ev58 (false) (false) (false) (false) (Sp.qi (-2) * (Sp.qi x * Sp.qi y)) (Sp.qi m * Sp.qi n) k16)) (cc (fun _ => (@ev59_y (false) (false) (false) (false) (false) (false) (Sp.qf (x * x) m + Sp.qf (y * y) n) (zNzD2 x y m n) (Sp.qi m * Sp.qi n) k18 d17)) (cc (fun _ => (@ev35 (v) k19)) (cc (fun _ => (@ev35 (v) k19)) (cc (fun _ => (@ev37 (false) (false) (false) (false) (Sp.qi v) (Sp.qi v) k20)) (cc (fun _ => (@ev60 (false) (false) (false) (false) (false) (false) (false) (false) (zNzD10 x m y n) (Sp.mkB (zNzD2 x y m n) (Sp.qi m * Sp.qi n)) (Sp.mkC (zNzD2 x y m n) (Sp.qi m * Sp.qi n)) (Sp.qi v * Sp.qi v) k21)) (cc (fun _ => (@ev35 (c) k22)) (cc (fun _ => (@ev35 (c) k22)) (cc (fun _ => (@ev37 (false) (false) (false) (false) (Sp.qi c) (Sp.qi c) k23)) (cc (fun _ => (@ev63 (false) (false) (Sp.qi c * Sp.qi c) k24)) (cc (fun _ => (@ev62 (false) (false) (-(Sp.qi c * Sp.qi c)))) (cc (fun _ => (@ev61_y (false) (false) (false) (false) (false) (false) (false) (false) (false) (false) (false) (false) (zNzD8 x m y n v) (zNzD6 x y m n v) (zNzD9 x y m n v) (-(Sp.qi c * Sp.qi c)) (Sp.qi 0) (Sp.qi 0) k26 d25)) (cc (fun hc => ((@ev64 (false) (false) (false) (false) (false) (false) (zNzD4 x m y n v c) (zNzD5 x y m n v) (zNzD3 x y m n v) (k28 ((i_at (i_at (i_bt (i_var _)))).1 hc))):Ev M1 (Conf.pure 64 [rootF (zNzD4 x m y n v c) (zNzD5 x y m n v) (zNzD3 x y m n v)]) (vi (Sp.sgO (zNzD4 x m y n v c) (zNzD5 x y m n v) (zNzD3 x y m n v))) [])) c0)))))))))))))))))))))))) H
  ·have H:=H.2 d25
   exact False.elim H
 ·have H:=H.2 d17
  obtain ⟨k30,H⟩:=H
  exact path_re (G:=given kp30 [(2,2,.call (ratA false false (Sp.qi m)) none),(2,5,.call (ratA false false (Sp.qi n)) none),(2,6,.call (ratA false false (Sp.qi m * Sp.qi n)) none),(3,4,.call (ratA false false (Sp.qf (x * x) m)) none),(3,9,.call (ratA false false (Sp.qf (y * y) n)) none),(3,10,.call (ratA false false (Sp.qf (x * x) m + Sp.qf (y * y) n)) none),(4,1,.call (ratA false false (Sp.qi (-2))) none),(4,4,.call (ratA false false (Sp.qi x)) none),(4,7,.call (ratA false false (Sp.qi y)) none),(4,8,.call (ratA false false (Sp.qi x * Sp.qi y)) none),(4,9,.call (ratA false false (Sp.qi (-2) * (Sp.qi x * Sp.qi y))) none),(4,11,.call (tu [ratA false false (zNzD2 x y m n),vi 0]) none),(7,3,.call zNzD7 none)] []) 1000 [false,true] (calls:=[pc 35 [vi m] (ratA false false (Sp.qi m)),pc 35 [vi n] (ratA false false (Sp.qi n)),pc 37 [ratA false false (Sp.qi m),ratA false false (Sp.qi n)] (ratA false false (Sp.qi m * Sp.qi n)),pc 34 [vi (wi (x * x)),vi m] (ratA false false (Sp.qf (x * x) m)),pc 34 [vi (wi (y * y)),vi n] (ratA false false (Sp.qf (y * y) n)),pc 38 [ratA false false (Sp.qf (x * x) m),ratA false false (Sp.qf (y * y) n)] (ratA false false (Sp.qf (x * x) m + Sp.qf (y * y) n)),pc 35 [vi (-2)] (ratA false false (Sp.qi (-2))),pc 35 [vi x] (ratA false false (Sp.qi x)),pc 35 [vi y] (ratA false false (Sp.qi y)),pc 37 [ratA false false (Sp.qi x),ratA false false (Sp.qi y)] (ratA false false (Sp.qi x * Sp.qi y)),pc 37 [ratA false false (Sp.qi (-2)),ratA false false (Sp.qi x * Sp.qi y)] (ratA false false (Sp.qi (-2) * (Sp.qi x * Sp.qi y))),pc 58 [ratA false false (Sp.qi (-2) * (Sp.qi x * Sp.qi y)),ratA false false (Sp.qi m * Sp.qi n)] (tu [ratA false false (zNzD2 x y m n),vi 0]),pc 59 [ratA false false (Sp.qf (x * x) m + Sp.qf (y * y) n),ratA false false (zNzD2 x y m n),ratA false false (Sp.qi m * Sp.qi n)] zNzD7]) (vb false) (by kernel_rfl) (bc rfl (bc rfl (bc rfl (bc rfl (bc rfl (bc rfl (bc rfl (bc rfl (bc rfl (bc rfl b0)))))))))) q0 (ce (@ev35 (m) k1) (ce (@ev35 (n) k2) (ce (@ev37 (false) (false) (false) (false) (Sp.qi m) (Sp.qi n) k3) (ce (by (try rw [w5]);all_goals exact (@ev34 (x * x) (m) k6)) (ce (by (try rw [w8]);all_goals exact (@ev34 (y * y) (n) k9)) (ce (@ev38 (false) (false) (false) (false) (Sp.qf (x * x) m) (Sp.qf (y * y) n) k10) (ce (@ev35 (-2) k11) (ce (@ev35 (x) k12) (ce (@ev35 (y) k13) (ce (@ev37 (false) (false) (false) (false) (Sp.qi x) (Sp.qi y) k14) (ce (@ev37 (false) (false) (false) (false) (Sp.qi (-2)) (Sp.qi x * Sp.qi y) k15) (ce (@ev58 (false) (false) (false) (false) (Sp.qi (-2) * (Sp.qi x * Sp.qi y)) (Sp.qi m * Sp.qi n) k16) (ce (@ev59_n (false) (false) (false) (false) (false) (false) (Sp.qf (x * x) m + Sp.qf (y * y) n) (zNzD2 x y m n) (Sp.qi m * Sp.qi n) k30 d17) c0))))))))))))) H
noncomputable abbrev zNzD11 (t:Int) (a:Int) (v:Int):=Sp.sgnI ((Sp.qf t 1000 * Sp.qi a).num * (↑(Sp.qi v + Sp.qi v).den:Int) - (Sp.qi v + Sp.qi v).num * (↑(Sp.qf t 1000 * Sp.qi a).den:Int)) >= 0
noncomputable abbrev zNzD12:=ag [vb false,AV.vnil,vb false,AV.vnil]
theorem kReach (t v a:Int)  (dq:AV) (H :
  ((((¬(0 <= t /\ t <= 1000000000000)) \/ (¬(1 <= v /\ v <= 1000000))) \/ (¬(1 <= a /\ a <= 100000000))) -> Weak (tu [ag [vb false,AV.vnil,vb false,AV.vnil],vi 1]) dq) /\
  (¬(((¬(0 <= t /\ t <= 1000000000000)) \/ (¬(1 <= v /\ v <= 1000000))) \/ (¬(1 <= a /\ a <= 100000000))) -> (Sp.okF t 1000) /\
   (Sp.inI v) /\
   (Sp.inI a) /\
   (Sp.okR (Sp.qf t 1000) /\ Sp.okR (Sp.qi a)) /\
   (Sp.okR (Sp.qi v) /\ Sp.okR (Sp.qi v)) /\
   (Sp.okR (Sp.qf t 1000 * Sp.qi a) /\ Sp.okR (Sp.qi v + Sp.qi v)) /\
   ((Sp.sgnI ((Sp.qf t 1000 * Sp.qi a).num * (↑(Sp.qi v + Sp.qi v).den:Int) - (Sp.qi v + Sp.qi v).num * (↑(Sp.qf t 1000 * Sp.qi a).den:Int)) >= 0) -> (Sp.okR (Sp.qi v) /\ Sp.okR (Sp.qf t 1000)) /\
    (-9223372036854775808 <= v * v /\ v * v <= 9223372036854775807) /\
    (Sp.okF (v * v) a) /\
    (Sp.okR (Sp.qi v * Sp.qf t 1000) /\ Sp.okR (Sp.qf (v * v) a)) /\
    Weak (tu [ratA false false (Sp.qi v * Sp.qf t 1000 - Sp.qf (v * v) a),vi 0]) dq) /\
   (¬(Sp.sgnI ((Sp.qf t 1000 * Sp.qi a).num * (↑(Sp.qi v + Sp.qi v).den:Int) - (Sp.qi v + Sp.qi v).num * (↑(Sp.qf t 1000 * Sp.qi a).den:Int)) >= 0) -> (Sp.okF a 4) /\
    (Sp.okR (Sp.qf t 1000) /\ Sp.okR (Sp.qf t 1000)) /\
    (Sp.okR (Sp.qf a 4) /\ Sp.okR (Sp.qf t 1000 * Sp.qf t 1000)) /\
    Weak (tu [ratA false false (Sp.qf a 4 * (Sp.qf t 1000 * Sp.qf t 1000)),vi 0]) dq))) :
 kReach_at t v a (PureQ dq):=by
 unfold kReach_at
 refine path_wp (G:=given kp12 [(1,1,.call (vb (decide (0 <= t /\ t <= 1000000000000))) none),(1,5,.call (vb (decide (1 <= v /\ v <= 1000000))) none),(1,10,.call (vb (decide (1 <= a /\ a <= 100000000))) none)] []) 5 [] ⟨(atC (cd Tryz.f12) [1,0,1]),[(0,vi t),(1,vi v),(2,vi a),(6,AV.ptr 0 0 0 0),(23,vb (bif bif !decide (0 <= t /\ t <= 1000000000000) then true else !decide (1 <= v /\ v <= 1000000) then true else !decide (1 <= a /\ a <= 100000000)))],[⟨[zNzD12],4,0,false,false⟩],_,[],[⟨true,false,25,[vi t,vi 0,vi 1000000000000],[],vb (decide (0 <= t /\ t <= 1000000000000)),[]⟩,⟨(!decide (0 <= t /\ t <= 1000000000000)) == false && true && true,false,25,[vi v,vi 1,vi 1000000],[],vb (decide (1 <= v /\ v <= 1000000)),[]⟩,⟨(bif !decide (0 <= t /\ t <= 1000000000000) then true else !decide (1 <= v /\ v <= 1000000)) == false && true && true,false,25,[vi a,vi 1,vi 100000000],[],vb (decide (1 <= a /\ a <= 100000000)),[]⟩]⟩ (by kernel_rfl) b0 q0 (cc (fun _ => (@ev25 (t) (0) (1000000000000))) (cc (fun hc => ((@ev25 (v) (1) (1000000)):Ev M1 (Conf.pure 25 [vi v,vi 1,vi 1000000]) (vb (decide (1 <= v /\ v <= 1000000))) [])) (cc (fun hc => ((@ev25 (a) (1) (100000000)):Ev M1 (Conf.pure 25 [vi a,vi 1,vi 100000000]) (vb (decide (1 <= a /\ a <= 100000000))) [])) c0))) ?_
 rcases xm (((¬(0 <= t /\ t <= 1000000000000)) \/ (¬(1 <= v /\ v <= 1000000))) \/ (¬(1 <= a /\ a <= 100000000))) with d4 | d4
 ·have H:=H.1 d4
  exact path_rq (G:=given kp12 [] []) 1000 [true] (tu [zNzD12,vi 1]) (by kernel_rfl) (bc (beq_t ((i_bor (i_bor (i_not i_dec) (i_not i_dec)) (i_not i_dec)).2 d4)) (bc rfl b0)) q0 c0 H
 ·have H:=H.2 d4
  obtain ⟨k5,H⟩:=H
  obtain ⟨k6,H⟩:=H
  obtain ⟨k7,H⟩:=H
  obtain ⟨k8,H⟩:=H
  obtain ⟨k9,H⟩:=H
  obtain ⟨k10,H⟩:=H
  refine path_wp (G:=given kp12 [(3,1,.call (ratA false false (Sp.qf t 1000)) none),(3,3,.call (ratA false false (Sp.qi v)) none),(3,5,.call (ratA false false (Sp.qi a)) none),(4,2,.call (ratA false false (Sp.qf t 1000 * Sp.qi a)) none),(4,5,.call (ratA false false (Sp.qi v + Sp.qi v)) none),(4,6,.call (vi (Sp.sgnI ((Sp.qf t 1000 * Sp.qi a).num * (↑(Sp.qi v + Sp.qi v).den:Int) - (Sp.qi v + Sp.qi v).num * (↑(Sp.qf t 1000 * Sp.qi a).den:Int)))) none)] []) 7 [false] ⟨(atC (cd Tryz.f12) [1,1,1,0,1]),[(1,vi v),(2,vi a),(6,AV.ptr 0 0 0 0),(8,AV.ptr 1 0 0 0),(9,AV.ptr 2 0 0 0),(38,vb (decide (zNzD11 t a v)))],[⟨[zNzD12],4,0,false,false⟩,⟨[ratA false false (Sp.qf t 1000)],4,0,false,false⟩,⟨[ratA false false (Sp.qi v)],4,0,false,false⟩,⟨[ratA false false (Sp.qi a)],4,0,false,false⟩],_,[],_⟩ (by kernel_rfl) (bc (beq_f (fun h => d4 ((i_bor (i_bor (i_not i_dec) (i_not i_dec)) (i_not i_dec)).1 h))) (bc rfl (bc rfl (bc rfl (bc rfl (bc rfl (bc rfl (bc rfl b0)))))))) q0 (ce (@ev34 (t) (1000) k5) (ce (@ev35 (v) k6) (ce (@ev35 (a) k7) (ce (@ev37 (false) (false) (false) (false) (Sp.qf t 1000) (Sp.qi a) k8) (ce (@ev38 (false) (false) (false) (false) (Sp.qi v) (Sp.qi v) k9) (ce (@ev36 (false) (false) (false) (false) (Sp.qf t 1000 * Sp.qi a) (Sp.qi v + Sp.qi v) k10) c0)))))) ?_
  rcases xm (zNzD11 t a v) with d12 | d12
  ·have H:=H.1 d12
   obtain ⟨k13,H⟩:=H
   obtain ⟨k14,H⟩:=H
   have w15:wi (v * v) = v * v:=wI64 k14
   obtain ⟨k16,H⟩:=H
   obtain ⟨k17,H⟩:=H
   exact path_rq (G:=given kp12 [(5,2,.call (ratA false false (Sp.qi v * Sp.qf t 1000)) none),(5,7,.call (ratA false false (Sp.qf (v * v) a)) none),(5,8,.call (ratA false false (Sp.qi v * Sp.qf t 1000 - Sp.qf (v * v) a)) none)] []) 1000 [true] (calls:=[pc 37 [ratA false false (Sp.qi v),ratA false false (Sp.qf t 1000)] (ratA false false (Sp.qi v * Sp.qf t 1000)),pc 34 [vi (wi (v * v)),vi a] (ratA false false (Sp.qf (v * v) a)),pc 39 [ratA false false (Sp.qi v * Sp.qf t 1000),ratA false false (Sp.qf (v * v) a)] (ratA false false (Sp.qi v * Sp.qf t 1000 - Sp.qf (v * v) a))]) (tu [ratA false false (Sp.qi v * Sp.qf t 1000 - Sp.qf (v * v) a),vi 0]) (by kernel_rfl) (bc (beq_t (i_dec.2 d12)) (bc rfl (bc rfl (bc rfl b0)))) q0 (ce (@ev37 (false) (false) (false) (false) (Sp.qi v) (Sp.qf t 1000) k13) (ce (by (try rw [w15]);all_goals exact (@ev34 (v * v) (a) k16)) (ce (@ev39 (false) (false) (false) (false) (Sp.qi v * Sp.qf t 1000) (Sp.qf (v * v) a) k17) c0))) H
  ·have H:=H.2 d12
   obtain ⟨k18,H⟩:=H
   obtain ⟨k19,H⟩:=H
   obtain ⟨k20,H⟩:=H
   exact path_rq (G:=given kp12 [(6,1,.call (ratA false false (Sp.qf a 4)) none),(6,4,.call (ratA false false (Sp.qf t 1000 * Sp.qf t 1000)) none),(6,5,.call (ratA false false (Sp.qf a 4 * (Sp.qf t 1000 * Sp.qf t 1000))) none)] []) 1000 [false] (tu [ratA false false (Sp.qf a 4 * (Sp.qf t 1000 * Sp.qf t 1000)),vi 0]) (by kernel_rfl) (bc (beq_f (fun h => d12 (i_dec.1 h))) (bc rfl (bc rfl (bc rfl b0)))) q0 (ce (@ev34 (a) (4) k18) (ce (@ev37 (false) (false) (false) (false) (Sp.qf t 1000) (Sp.qf t 1000) k19) (ce (@ev37 (false) (false) (false) (false) (Sp.qf a 4) (Sp.qf t 1000 * Sp.qf t 1000) k20) c0))) H
end Go.Av

namespace Go.Av
open Go.Proofs
theorem ev54 (n u v:Int) (h:Sp.isV n /\ Sp.isLen u /\ Sp.isAcc v):Ev M1 (.pure 54 [.int .i64 n,.int .i64 u,.int .i64 v]) (.int .i64 (Sp.af (2 * v * u) n)) []:=by
 obtain ⟨a,b,c⟩:=af_ok h
 have c':=c
 unfold Sp.okNs at c'
 have d:=h.2.2
 unfold Sp.isAcc at d
 exact call54 (kFaster1 _ _ _ _ ⟨by omega,by omega,by omega,by omega,c,rfl⟩)
theorem ev52 (ax ay az bx by_ bz:Int):Ev M1 (.pure 52 [.agg [.int .i64 ax,.int .i64 ay,.int .i64 az],.agg [.int .i64 bx,.int .i64 by_,.int .i64 bz]]) (.tup [.int .i64 (Sp.dist ax ay az bx by_ bz),.int .i64 (Sp.distE ax ay az bx by_ bz)]) []:=by
 refine call52 (kLength _ _ _ _ _ _ _ ⟨fun x => ?_,fun x => ?_⟩)
 ·have n:¬(Sp.inP ax ay az /\ Sp.inP bx by_ bz):=fun y => x.elim (fun z => z y.1) fun z => z y.2
  unfold Sp.dist Sp.distE
  rw [if_neg n,if_neg n]
 ·have y:Sp.inP ax ay az /\ Sp.inP bx by_ bz:=⟨Classical.not_not.1 fun z => x (.inl z),Classical.not_not.1 fun z => x (.inr z)⟩
  obtain ⟨q,n⟩:=dist_ok y
  obtain ⟨s1,s2,s3,s4⟩:=sq_small n
  unfold Sp.dist Sp.distE Sp.upR
  rw [if_pos y,if_pos y]
  have n':=n
  unfold Sp.okNs at n'
  have q':=q
  unfold Sp.inQ at q'
  have m0:=nn_sq (Sp.sq (Sp.sqr (bx - ax) (by_ - ay) (bz - az)))
  refine ⟨by omega,by omega,by omega,q,n,by omega,fun z => ⟨by omega,by rw [if_pos z]⟩,fun z => by rw [if_neg z]⟩
namespace Sp
noncomputable def alwA (x y m n:Int):Rat:=qf (x * x) m + qf (y * y) n
noncomputable def alwT (x y:Int):Rat:=qi (-2) * (qi x * qi y)
noncomputable def alw (v x y m n c:Int):Bool:=decide (sgO (alwA x y m n * (qi v * qi v) + -(qi c * qi c)) (alwT x y * (qi v * qi v)) (1 / (qi m * qi n)) <= 0)
def okQ (m:Int):Prop:=1 <= m /\ m <= 1200000000000000
def okAl (v x y m n c:Int):Prop:=(0 <= v /\ v <= 1000001) /\ (inM x /\ inM y) /\ (okQ m /\ okQ n) /\ isV c
end Sp
theorem qi_pos {m:Int} (h:1 <= m):0 < Sp.qi m:=by
 rw [qi_eq,<- Rat.intCast_zero]
 exact Rat.intCast_lt_intCast.2 (by omega)
theorem qi_0:Sp.qi 0 = 0:=by rw [qi_eq];rfl
theorem nn_pos {c:Rat} (h:0 < c):Sp.isNN c:=by
 unfold Sp.isNN
 apply Classical.byContradiction
 intro n
 have:=num_lt.1 (show c.num < 0 by omega)
 grind
theorem ev30 (v x y m n c:Int) (h:Sp.okAl v x y m n c):Ev M1 (.pure 30 [.int .i64 v,.int .i64 x,.int .i64 y,.int .i64 m,.int .i64 n,.int .i64 c]) (.bool (Sp.alw v x y m n c)) []:=by
 obtain ⟨hv,⟨hx,hy⟩,⟨hm,hn⟩,hc⟩:=h
 unfold Sp.okQ at hm hn
 have bx:=sq_bound (x:=x) (by unfold Sp.inM at hx;unfold Sp.inQ;omega)
 have by_:=sq_bound (x:=y) (by unfold Sp.inM at hy;unfold Sp.inQ;omega)
 unfold Sp.inM at hx hy
 unfold Sp.isV at hc
 have im:Sp.inI m:=by unfold Sp.inI;omega
 have iN:Sp.inI n:=by unfold Sp.inI;omega
 have ix:Sp.inI x:=by unfold Sp.inI;omega
 have iy:Sp.inI y:=by unfold Sp.inI;omega
 have iv:Sp.inI v:=by unfold Sp.inI;omega
 have ic:Sp.inI c:=by unfold Sp.inI;omega
 have i2:Sp.inI (-2):=by unfold Sp.inI;omega
 have fx:Sp.okF (x * x) m:=⟨by unfold Sp.inI;omega,im,by omega⟩
 have fy:Sp.okF (y * y) n:=⟨by unfold Sp.inI;omega,iN,by omega⟩
 have pm:=qi_pos hm.1
 have pn:=qi_pos hn.1
 have pk:=mul_pp pm pn
 have tm:=okT_int im
 have tn:=okT_int iN
 have tk:=okT_mul tm tn
 have ta:=okT_add (okT_qf fx) (okT_qf fy)
 have txy:=okT_mul (okT_int ix) (okT_int iy)
 have tt:=okT_mul (okT_int i2) txy
 have k0:(Sp.qi m * Sp.qi n).num ≠ 0:=fun e => by rw [Rat.num_eq_zero] at e;grind
 have tb:=okT_div tt tk k0
 have tv:=okT_mul (okT_int iv) (okT_int iv)
 have tc:=okT_mul (okT_int ic) (okT_int ic)
 have tA:=okT_mkA (okT_le ta (show 7 <= 20 by omega)) (okT_le tb (show 15 <= 20 by omega)) (okT_le tk (show 6 <= 20 by omega))
 have tB:=okT_mkB (c:=Sp.qi m * Sp.qi n) (okT_le tb (show 15 <= 20 by omega))
 have tC:=okT_mkC (b:=Sp.qi (-2) * (Sp.qi x * Sp.qi y) / (Sp.qi m * Sp.qi n)) (okT_le tk (show 6 <= 20 by omega))
 have uA:=okT_mul tA tv
 have uB:=okT_mul tB tv
 have uC:=okT_rad (b:=Sp.mkB (Sp.qi (-2) * (Sp.qi x * Sp.qi y) / (Sp.qi m * Sp.qi n)) (Sp.qi m * Sp.qi n) * (Sp.qi v * Sp.qi v)) tC
 have wA:=okT_add uA (okT_neg tc)
 have wB:=okT_add uB okT_q0
 have wC:=okT_rad (b:=Sp.mkB (Sp.qi (-2) * (Sp.qi x * Sp.qi y) / (Sp.qi m * Sp.qi n)) (Sp.qi m * Sp.qi n) * (Sp.qi v * Sp.qi v) + Sp.qi 0) (okT_com (b:=Sp.mkB (Sp.qi (-2) * (Sp.qi x * Sp.qi y) / (Sp.qi m * Sp.qi n)) (Sp.qi m * Sp.qi n) * (Sp.qi v * Sp.qi v)) uC (okT_le okT_q0 (show 1 <= 22 by omega)))
 refine call30 (kAllow _ _ _ _ _ _ _ ⟨im,iN,⟨okT_R tm (by omega),okT_R tn (by omega)⟩,by omega,fx,by omega,fy,⟨okT_R (okT_qf fx) (by omega),okT_R (okT_qf fy) (by omega)⟩,i2,ix,iy,⟨okT_R (okT_int ix) (by omega),okT_R (okT_int iy) (by omega)⟩,⟨okT_R (okT_int i2) (by omega),okT_R txy (by omega)⟩,⟨okT_R tt (by omega),okT_R tk (by omega),k0⟩,fun _ => ⟨okT_O (okT_le ta (show 7 <= 20 by omega)) (okT_le tb (show 15 <= 20 by omega)) (okT_le tk (show 6 <= 20 by omega)) (by omega),iv,⟨okT_R (okT_int iv) (by omega),okT_R (okT_int iv) (by omega)⟩,⟨⟨okT_le tA (by omega),okT_le tB (by omega)⟩,okT_R tv (by omega)⟩,ic,⟨okT_R (okT_int ic) (by omega),okT_R (okT_int ic) (by omega)⟩,?_,fun _ => ⟨⟨⟨okT_le uA (by omega),okT_le uB (by omega),okT_le uC (by omega)⟩,⟨okT_le (okT_neg tc) (by omega),okT_le okT_q0 (by omega),okT_le okT_q0 (by omega)⟩⟩,fun _ => ⟨okT_le wA (by omega),okT_le wB (by omega),okT_le wC (by omega)⟩,?_⟩,fun k => k (.inr (.inl qi_0))⟩,fun k => absurd (nn_pos pk) k⟩)
 ·have:=tc.1
  unfold Sp.okB;omega
 ·rw [sgO_prog pk,corner_eq pk];rfl
namespace Sp
def okRe (t v a:Int):Prop:=(0 <= t /\ t <= 1000000000000) /\ (1 <= v /\ v <= 1000000) /\ isAcc a
noncomputable def reR (t v a:Int):Rat:=rch (qf t 1000) (qi v) (qi a)
end Sp
instance (t v a:Int):Decidable (Sp.okRe t v a):=by unfold Sp.okRe;infer_instance
theorem sgnI_ge {n:Int}:Sp.sgnI n >= 0 ↔ 0 <= n:=by
 unfold Sp.sgnI
 (repeat' split) <;> omega
theorem cmp_ge {r s:Rat}:Sp.sgnI (r.num * (s.den:Int) - s.num * (r.den:Int)) >= 0 ↔ s <= r:=by
 rw [sgnI_ge,Rat.le_iff];omega
theorem qf_div (n:Int) {d:Int} (h:0 < d):Sp.qf n d = Sp.qi n / Sp.qi d:=by
 rw [qf_eq,qi_eq,qi_eq,Rat.divInt_eq_div]
theorem reach_y {t v a:Int} (h:0 < a) (k:Sp.qi v + Sp.qi v <= Sp.qf t 1000 * Sp.qi a):Sp.reR t v a = Sp.qi v * Sp.qf t 1000 - Sp.qf (v * v) a:=by
 unfold Sp.reR Sp.rch
 rw [if_pos k,qf_div _ h,<- qi_mul]
theorem reach_n {t v a:Int} (k:¬Sp.qi v + Sp.qi v <= Sp.qf t 1000 * Sp.qi a):Sp.reR t v a = Sp.qf a 4 * (Sp.qf t 1000 * Sp.qf t 1000):=by
 have e:Sp.qi 4 = (4:Rat):=by rw [qi_eq];rfl
 unfold Sp.reR Sp.rch
 rw [if_neg k,show Sp.qf a 4 = Sp.qi a / Sp.qi 4 from qf_div a (by omega),e]
theorem okT_re {t v a:Int} (h:Sp.okRe t v a):Sp.okT 13 (Sp.reR t v a):=by
 obtain ⟨h1,h2,h3⟩:=h
 unfold Sp.isAcc at h3
 have b:v * v <= 1000000 * 1000000:=sq_le_sq (by omega) (by omega)
 have b0:=nn_sq v
 have ia:Sp.inI a:=by unfold Sp.inI;omega
 have iv:Sp.inI v:=by unfold Sp.inI;omega
 have ft:Sp.okF t 1000:=⟨by unfold Sp.inI;omega,by unfold Sp.inI;omega,by omega⟩
 have fv:Sp.okF (v * v) a:=⟨by unfold Sp.inI;omega,ia,by omega⟩
 have fa:Sp.okF a 4:=⟨ia,by unfold Sp.inI;omega,by omega⟩
 by_cases k:Sp.qi v + Sp.qi v <= Sp.qf t 1000 * Sp.qi a
 ·rw [reach_y (by omega) k]
  exact okT_le (okT_sub (okT_mul (okT_int iv) (okT_qf ft)) (okT_qf fv)) (by omega)
 ·rw [reach_n k]
  exact okT_le (okT_mul (okT_qf fa) (okT_mul (okT_qf ft) (okT_qf ft))) (by omega)
theorem re_no {t v a:Int}:(((¬(0 <= t /\ t <= 1000000000000)) \/ (¬(1 <= v /\ v <= 1000000))) \/ (¬(1 <= a /\ a <= 100000000))) ↔ ¬Sp.okRe t v a:=by unfold Sp.okRe Sp.isAcc;omega
theorem ev12_y (t v a:Int) (k:Sp.okRe t v a):Ev M1 (.pure 12 [.int .i64 t,.int .i64 v,.int .i64 a]) (.tup [ratA false false (Sp.reR t v a),.int .i64 0]) []:=by
 have h:=k
 obtain ⟨h1,h2,h3⟩:=h
 unfold Sp.isAcc at h3
 have b:v * v <= 1000000 * 1000000:=sq_le_sq (by omega) (by omega)
 have b0:=nn_sq v
 have ia:Sp.inI a:=by unfold Sp.inI;omega
 have iv:Sp.inI v:=by unfold Sp.inI;omega
 have ft:Sp.okF t 1000:=⟨by unfold Sp.inI;omega,by unfold Sp.inI;omega,by omega⟩
 have fv:Sp.okF (v * v) a:=⟨by unfold Sp.inI;omega,ia,by omega⟩
 have fa:Sp.okF a 4:=⟨ia,by unfold Sp.inI;omega,by omega⟩
 have qt:=okT_qf ft
 have qv:=okT_int iv
 have qa:=okT_int ia
 refine call12 (kReach _ _ _ _ ⟨fun x => absurd k (re_no.1 x),fun _ => ⟨ft,iv,ia,⟨okT_R qt (by omega),okT_R qa (by omega)⟩,⟨okT_R qv (by omega),okT_R qv (by omega)⟩,⟨okT_R (okT_mul qt qa) (by omega),okT_R (okT_add qv qv) (by omega)⟩,fun x => ?_,fun x => ?_⟩⟩)
 ·rw [cmp_ge] at x
  rw [reach_y (by omega) x]
  exact ⟨⟨okT_R qv (by omega),okT_R qt (by omega)⟩,by omega,fv,⟨okT_R (okT_mul qv qt) (by omega),okT_R (okT_qf fv) (by omega)⟩,.refl _⟩
 ·rw [cmp_ge] at x
  rw [reach_n x]
  exact ⟨fa,⟨okT_R qt (by omega),okT_R qt (by omega)⟩,⟨okT_R (okT_qf fa) (by omega),okT_R (okT_mul qt qt) (by omega)⟩,.refl _⟩
theorem ev12_n (t v a:Int) (k:¬(Sp.okRe t v a)):Ev M1 (.pure 12 [.int .i64 t,.int .i64 v,.int .i64 a]) (.tup [noR,.int .i64 1]) []:=
 call12 (kReach _ _ _ _ ⟨fun _ => weak_two weak_nr (.refl _),fun x => absurd (re_no.2 k) x⟩)
end Go.Av

namespace Go.Av
open Go.Proofs
set_option maxRecDepth 100000
def fi21:Fi:=⟨25,[.tmp 6,.tmp 7]⟩
def kp21:List (Nat × List Nat):=[(0,[0,1,2]),(1,[0,1,2,20]),(2,[6,7]),(3,[6,7])]
def fi22:Fi:=⟨88,[.tmp 4,.tmp 5]⟩
def kp22:List (Nat × List Nat):=[(0,[0,1]),(1,[0,1,6]),(2,[0,1,6,14]),(3,[4,5]),(4,[0,1,7]),(5,[0,1,7,8]),(6,[0,1,7,8,23]),(7,[0,1,7,8]),(8,[0,1,7,8]),(9,[0,1,7,9]),(10,[0,1,7,9,64]),(11,[0,1,7,9]),(12,[0,1,7,9]),(13,[4,5])]
def fi29:Fi:=⟨45,[.tmp 7]⟩
def kp29:List (Nat × List Nat):=[(0,[0,1,2,3,4,5]),(1,[1,2,3,4,5,8]),(2,[7])]
def fi49:Fi:=⟨23,[.tmp 5]⟩
def kp49:List (Nat × List Nat):=[(0,[0,1,2,3]),(1,[3,6,7]),(2,[5])]
def kFaster_at (n u v:Int) (Q:AV -> Heap -> Prop):Prop:=Wp M1 (.run fi21 (atC (cd Tryz.f21) []) [(0,.int .i64 n),(1,.int .i64 u),(2,.int .i64 v)] []) Q
def kSp_at (fl:Bool) (l:List Pt) (a:Int) (Q:AV -> Heap -> Prop):Prop:=Wp M1 (.run fi22 (atC (cd Tryz.f22) []) [(0,.vec fl 3 (l.map Pt.a)),(1,.int .i64 a)] []) Q
def kSpA_at (fl:Bool) (l:List Pt) (a i:Int) (o:List Int) (Q:AV -> Heap -> Prop):Prop:=Wp M1 (.run fi22 (atC (cd Tryz.f22) [1,1,1,0,1,0,0]) [(0,.vec fl 3 (l.map Pt.a)),(1,.int .i64 a),(7,.row 0 0),(8,.int .i64 i)] [⟨o.map (.int .i64),1,0,false,true⟩]) Q
def kSpB_at (fl:Bool) (l:List Pt) (a i:Int) (o:List Int) (Q:AV -> Heap -> Prop):Prop:=Wp M1 (.run fi22 (atC (cd Tryz.f22) [1,1,1,1,0,1,0,0]) [(0,.vec fl 3 (l.map Pt.a)),(1,.int .i64 a),(7,.row 0 0),(9,.int .i64 i)] [⟨o.map (.int .i64),1,0,false,true⟩]) Q
def kCor1_at (ax ay az bx by_ bz m n c i:Int) (Q:AV -> Heap -> Prop):Prop:=Wp M1 (.run fi29 (atC (cd Tryz.f29) []) [(0,.int .i64 i),(1,.eptr 3 [.agg [.int .i64 ax,.int .i64 ay,.int .i64 az]] 0 0),(2,.eptr 3 [.agg [.int .i64 bx,.int .i64 by_,.int .i64 bz]] 0 0),(3,.eptr 1 [.int .i64 m] 0 0),(4,.eptr 1 [.int .i64 n] 0 0),(5,.eptr 1 [.int .i64 c] 0 0)] []) Q
def kStr1_at (f g:Bool) (v a i:Int) (r:Rat) (Q:AV -> Heap -> Prop):Prop:=Wp M1 (.run fi49 (atC (cd Tryz.f49) []) [(0,.int .i64 i),(1,.eptr 1 [.int .i64 v] 0 0),(2,.eptr 1 [.int .i64 a] 0 0),(3,.eptr 4 [ratA f g r] 0 0)] []) Q
theorem call21 {args:List AV} {d:AV} (h:wc M1 fi21 Tryz.f21 args d):Ev M1 (.pure 21 args) d []:=pcl _ _ (by kernel_rfl) h
theorem call22 {args:List AV} {d:AV} (h:wc M1 fi22 Tryz.f22 args d):Ev M1 (.pure 22 args) d []:=pcl _ _ (by kernel_rfl) h
theorem call29 {args:List AV} {d:AV} (h:wc M1 fi29 Tryz.f29 args d):Ev M1 (.pure 29 args) d []:=pcl _ _ (by kernel_rfl) h
theorem call49 {args:List AV} {d:AV} (h:wc M1 fi49 Tryz.f49 args d):Ev M1 (.pure 49 args) d []:=pcl _ _ (by kernel_rfl) h
theorem kFaster (n u v:Int)  (dq:AV) (H :
  ((((¬(0 <= n /\ n <= 1000000)) \/ (¬(0 <= u /\ u <= 100000000))) \/ (¬(1 <= v /\ v <= 100000000))) -> tu [vi 0,vi 1] = dq) /\
  (¬(((¬(0 <= n /\ n <= 1000000)) \/ (¬(0 <= u /\ u <= 100000000))) \/ (¬(1 <= v /\ v <= 100000000))) -> (Sp.isV n /\ Sp.isLen u /\ Sp.isAcc v) /\
   tu [vi (Sp.af (2 * v * u) n),vi 0] = dq)) :
 kFaster_at n u v (PureQ dq):=by
 unfold kFaster_at
 refine path_wp (G:=given kp21 [(1,1,.call (vb (decide (0 <= n /\ n <= 1000000))) none),(1,5,.call (vb (decide (0 <= u /\ u <= 100000000))) none),(1,10,.call (vb (decide (1 <= v /\ v <= 100000000))) none)] []) 5 [] ⟨(atC (cd Tryz.f21) [1,0,1]),[(0,vi n),(1,vi u),(2,vi v),(20,vb (bif bif !decide (0 <= n /\ n <= 1000000) then true else !decide (0 <= u /\ u <= 100000000) then true else !decide (1 <= v /\ v <= 100000000)))],[],_,[],[⟨true,false,25,[vi n,vi 0,vi 1000000],[],vb (decide (0 <= n /\ n <= 1000000)),[]⟩,⟨(!decide (0 <= n /\ n <= 1000000)) == false && true && true,false,25,[vi u,vi 0,vi 100000000],[],vb (decide (0 <= u /\ u <= 100000000)),[]⟩,⟨(bif !decide (0 <= n /\ n <= 1000000) then true else !decide (0 <= u /\ u <= 100000000)) == false && true && true,false,25,[vi v,vi 1,vi 100000000],[],vb (decide (1 <= v /\ v <= 100000000)),[]⟩]⟩ (by kernel_rfl) b0 q0 (cc (fun _ => (@ev25 (n) (0) (1000000))) (cc (fun hc => ((@ev25 (u) (0) (100000000)):Ev M1 (Conf.pure 25 [vi u,vi 0,vi 100000000]) (vb (decide (0 <= u /\ u <= 100000000))) [])) (cc (fun hc => ((@ev25 (v) (1) (100000000)):Ev M1 (Conf.pure 25 [vi v,vi 1,vi 100000000]) (vb (decide (1 <= v /\ v <= 100000000))) [])) c0))) ?_
 rcases xm (((¬(0 <= n /\ n <= 1000000)) \/ (¬(0 <= u /\ u <= 100000000))) \/ (¬(1 <= v /\ v <= 100000000))) with d4 | d4
 ·have H:=H.1 d4
  exact path_re (G:=given kp21 [] []) 1000 [true] (tu [vi 0,vi 1]) (by kernel_rfl) (bc (beq_t ((i_bor (i_bor (i_not i_dec) (i_not i_dec)) (i_not i_dec)).2 d4)) b0) q0 c0 H
 ·have H:=H.2 d4
  obtain ⟨k5,H⟩:=H
  exact path_re (G:=given kp21 [(3,3,.call (vi (Sp.af (2 * v * u) n)) none)] []) 1000 [false] (tu [vi (Sp.af (2 * v * u) n),vi 0]) (by kernel_rfl) (bc (beq_f (fun h => d4 ((i_bor (i_bor (i_not i_dec) (i_not i_dec)) (i_not i_dec)).1 h))) b0) q0 (ce (@ev54 (n) (u) (v) k5) c0) H
theorem kSp (fl:Bool) (l:List Pt) (a:Int)  (Q:AV -> Heap -> Prop) (H :
  ((¬Sp.validE l a = 0) -> Q (tu [AV.vnil,vi (Sp.validE l a)]) []) /\
  (¬(¬Sp.validE l a = 0) -> (-9223372036854775808 <= (↑l.length:Int) + 1 /\ (↑l.length:Int) + 1 <= 9223372036854775807) /\
   (0 <= (↑l.length:Int) + 1) /\
   (((↑l.length:Int) + 1) * 8 <= 1099511627776) /\
   ((↑l.length:Int) + 1 <= 1099511627776) /\
   kSpA_at (fl) (l) (a) (1) (List.replicate ((↑l.length:Int) + 1).toNat (0:Int)) Q)) :
 kSp_at fl l a Q:=by
 unfold kSp_at
 refine path_wp (G:=given kp22 [(1,2,.call (vi (Sp.validE l a)) none)] []) 7 [] ⟨(atC (cd Tryz.f22) [1,0,1,1]),[(0,AV.vec fl 3 (List.map Pt.a l)),(1,vi a),(6,vi (Sp.validE l a)),(14,vb (Sp.validE l a != 0))],[],_,[],_⟩ (by kernel_rfl) b0 q0 (ce (@ev55 (fl) (l) (a)) c0) ?_
 rcases xm (¬Sp.validE l a = 0) with d2 | d2
 ·have H:=H.1 d2
  exact path_ret (G:=given kp22 [] []) 1000 [true] (k:=((atC (cd Tryz.f22) [1,0,1,1,0,1])).tail) (env':=[(4,AV.vnil),(5,vi (Sp.validE l a))]) (L':=[]) (asm:=[(Sp.validE l a != 0) == true]) (eqs:=[]) (calls:=[]) (tu [AV.vnil,vi (Sp.validE l a)]) (by kernel_rfl) (by kernel_rfl) (allB_cons (beq_t (i_ne.2 d2)) allB_nil) allP_nil allC_nil H
 ·have H:=H.2 d2
  have w3:(List.map Pt.a l).length = l.length:=List.length_map ..
  obtain ⟨k4,H⟩:=H
  have w5:wi ((↑l.length:Int) + 1) = (↑l.length:Int) + 1:=wI64 k4
  have i6:(decide (0 <= wi ((↑(List.map Pt.a l).length:Int) + 1))) = true ↔ (0 <= (↑l.length:Int) + 1):=(by (try rw [w3]);(try rw [w5]);all_goals exact i_dec)
  obtain ⟨k7,H⟩:=H
  have i8:(decide (wi ((↑(List.map Pt.a l).length:Int) + 1) <= wi ((↑(List.map Pt.a l).length:Int) + 1))) = true ↔ ((↑l.length:Int) + 1 <= (↑l.length:Int) + 1):=(by (try rw [w3]);(try rw [w5]);all_goals exact i_dec)
  have i9:(decide (wi ((↑(List.map Pt.a l).length:Int) + 1) * 8 <= 1099511627776)) = true ↔ (((↑l.length:Int) + 1) * 8 <= 1099511627776):=(by (try rw [w3]);(try rw [w5]);all_goals exact i_dec)
  obtain ⟨k10,H⟩:=H
  have i11:(decide (wi ((↑(List.map Pt.a l).length:Int) + 1) <= 1099511627776)) = true ↔ ((↑l.length:Int) + 1 <= 1099511627776):=(by (try rw [w3]);(try rw [w5]);all_goals exact i_dec)
  obtain ⟨k12,H⟩:=H
  have w13:List.replicate ((↑l.length:Int) + 1).toNat (vi 0) = List.map (vi) (List.replicate ((↑l.length:Int) + 1).toNat (0:Int)):=(lm_rep rfl)
  exact path_wp (G:=given kp22 [] []) 1000 [false] ⟨(atC (cd Tryz.f22) [1,1,1,0,1,0,0]),[(0,AV.vec fl 3 (List.map Pt.a l)),(1,vi a),(7,AV.row 0 0),(8,vi 1)],[⟨List.replicate (wi ((↑(List.map Pt.a l).length:Int) + 1)).toNat (vi 0),1,0,false,true⟩],[(Sp.validE l a != 0) == false,decide (0 <= wi ((↑(List.map Pt.a l).length:Int) + 1)),decide (wi ((↑(List.map Pt.a l).length:Int) + 1) <= wi ((↑(List.map Pt.a l).length:Int) + 1)),decide (wi ((↑(List.map Pt.a l).length:Int) + 1) * 8 <= 1099511627776),decide (wi ((↑(List.map Pt.a l).length:Int) + 1) <= 1099511627776)],[],_⟩ (by kernel_rfl) (bc (beq_f (fun h => d2 (i_ne.1 h))) (bc (i6.2 k7) (bc (i8.2 (by omega)) (bc (i9.2 k10) (bc (i11.2 k12) b0))))) q0 c0 (by (try rw [w3]);(try rw [w5]);(try rw [w13]);all_goals exact H)
noncomputable abbrev zNzE1 (l:List Pt) (i:Int):=ag [vi (l.getD (i - 1).toNat default).len,vi (l.getD (i - 1).toNat default).spd,vi (l.getD (i - 1).toNat default).cor]
noncomputable abbrev zNzE2 (l:List Pt) (i:Int):=ag [vi (l.getD i.toNat default).len,vi (l.getD i.toNat default).spd,vi (l.getD i.toNat default).cor]
theorem kSpA (fl:Bool) (l:List Pt) (a i:Int) (o:List Int)  (Q:AV -> Heap -> Prop) (H :
  ((i < (↑l.length:Int)) -> (-9223372036854775808 <= i - 1 /\ i - 1 <= 9223372036854775807) /\
   (Sp.isV (o.getD (i - 1).toNat default) /\ Sp.isLen (l.getD (i - 1).toNat default).len /\ Sp.isAcc a) /\
   (0 <= i - 1) /\
   ((i - 1).toNat < l.length) /\
   (0 <= i) /\
   (i.toNat < l.length) /\
   ((i - 1).toNat < o.length) /\
   (i.toNat < o.length) /\
   (-9223372036854775808 <= i + 1 /\ i + 1 <= 9223372036854775807) /\
   kSpA_at (fl) (l) (a) (i + 1) (o.set i.toNat (if Sp.af (2 * a * (l.getD (i - 1).toNat default).len) (o.getD (i - 1).toNat default) < if (l.getD i.toNat default).spd < if (l.getD (i - 1).toNat default).cor < (l.getD (i - 1).toNat default).spd then (l.getD (i - 1).toNat default).cor else (l.getD (i - 1).toNat default).spd then (l.getD i.toNat default).spd else if (l.getD (i - 1).toNat default).cor < (l.getD (i - 1).toNat default).spd then (l.getD (i - 1).toNat default).cor else (l.getD (i - 1).toNat default).spd then Sp.af (2 * a * (l.getD (i - 1).toNat default).len) (o.getD (i - 1).toNat default) else if (l.getD i.toNat default).spd < if (l.getD (i - 1).toNat default).cor < (l.getD (i - 1).toNat default).spd then (l.getD (i - 1).toNat default).cor else (l.getD (i - 1).toNat default).spd then (l.getD i.toNat default).spd else if (l.getD (i - 1).toNat default).cor < (l.getD (i - 1).toNat default).spd then (l.getD (i - 1).toNat default).cor else (l.getD (i - 1).toNat default).spd)) Q) /\
  (¬(i < (↑l.length:Int)) -> (-9223372036854775808 <= (↑l.length:Int) - 1 /\ (↑l.length:Int) - 1 <= 9223372036854775807) /\
   kSpB_at (fl) (l) (a) ((↑l.length:Int) - 1) (o) Q)) :
 kSpA_at fl l a i o Q:=by
 unfold kSpA_at
 have w1:(List.map Pt.a l).length = l.length:=List.length_map ..
 have i2:(decide (i < (↑(List.map Pt.a l).length:Int))) = true ↔ (i < (↑l.length:Int)):=(by (try rw [w1]);all_goals exact i_dec)
 rcases xm (i < (↑l.length:Int)) with d3 | d3
 ·have H:=H.1 d3
  obtain ⟨k4,H⟩:=H
  have w5:wi (i - 1) = i - 1:=wI64 k4
  obtain ⟨k6,H⟩:=H
  have i7:(decide (0 <= wi (i - 1))) = true ↔ (0 <= i - 1):=(by (try rw [w5]);all_goals exact i_dec)
  obtain ⟨k8,H⟩:=H
  have i9:(decide ((wi (i - 1)).toNat < (List.map Pt.a l).length)) = true ↔ ((i - 1).toNat < l.length):=(by (try rw [w1]);(try rw [w5]);all_goals exact i_dec)
  obtain ⟨k10,H⟩:=H
  have i11:(decide (0 <= wi (i - 1))) = true ↔ (0 <= i - 1):=(by (try rw [w5]);all_goals exact i_dec)
  have i12:(decide ((wi (i - 1)).toNat < (List.map Pt.a l).length)) = true ↔ ((i - 1).toNat < l.length):=(by (try rw [w1]);(try rw [w5]);all_goals exact i_dec)
  obtain ⟨k14,H⟩:=H
  have i15:(decide (i.toNat < (List.map Pt.a l).length)) = true ↔ (i.toNat < l.length):=(by (try rw [w1]);all_goals exact i_dec)
  obtain ⟨k16,H⟩:=H
  have i17:(decide (0 <= wi (i - 1))) = true ↔ (0 <= i - 1):=(by (try rw [w5]);all_goals exact i_dec)
  have w18:(List.map (vi) o).length = o.length:=List.length_map ..
  have i19:(decide ((wi (i - 1)).toNat < (List.map (vi) o).length)) = true ↔ ((i - 1).toNat < o.length):=(by (try rw [w5]);(try rw [w18]);all_goals exact i_dec)
  obtain ⟨k20,H⟩:=H
  have i21:(decide (0 <= wi (i - 1))) = true ↔ (0 <= i - 1):=(by (try rw [w5]);all_goals exact i_dec)
  have i22:(decide ((wi (i - 1)).toNat < (List.map Pt.a l).length)) = true ↔ ((i - 1).toNat < l.length):=(by (try rw [w1]);(try rw [w5]);all_goals exact i_dec)
  have i24:(decide (i.toNat < (List.map (vi) o).length)) = true ↔ (i.toNat < o.length):=(by (try rw [w18]);all_goals exact i_dec)
  obtain ⟨k25,H⟩:=H
  have w26:(List.map (vi) o).set i.toNat (vi (if Sp.af (2 * a * (l.getD (i - 1).toNat default).len) (o.getD (i - 1).toNat default) < if (l.getD i.toNat default).spd < if (l.getD (i - 1).toNat default).cor < (l.getD (i - 1).toNat default).spd then (l.getD (i - 1).toNat default).cor else (l.getD (i - 1).toNat default).spd then (l.getD i.toNat default).spd else if (l.getD (i - 1).toNat default).cor < (l.getD (i - 1).toNat default).spd then (l.getD (i - 1).toNat default).cor else (l.getD (i - 1).toNat default).spd then Sp.af (2 * a * (l.getD (i - 1).toNat default).len) (o.getD (i - 1).toNat default) else if (l.getD i.toNat default).spd < if (l.getD (i - 1).toNat default).cor < (l.getD (i - 1).toNat default).spd then (l.getD (i - 1).toNat default).cor else (l.getD (i - 1).toNat default).spd then (l.getD i.toNat default).spd else if (l.getD (i - 1).toNat default).cor < (l.getD (i - 1).toNat default).spd then (l.getD (i - 1).toNat default).cor else (l.getD (i - 1).toNat default).spd)) = List.map (vi) (o.set i.toNat (if Sp.af (2 * a * (l.getD (i - 1).toNat default).len) (o.getD (i - 1).toNat default) < if (l.getD i.toNat default).spd < if (l.getD (i - 1).toNat default).cor < (l.getD (i - 1).toNat default).spd then (l.getD (i - 1).toNat default).cor else (l.getD (i - 1).toNat default).spd then (l.getD i.toNat default).spd else if (l.getD (i - 1).toNat default).cor < (l.getD (i - 1).toNat default).spd then (l.getD (i - 1).toNat default).cor else (l.getD (i - 1).toNat default).spd then Sp.af (2 * a * (l.getD (i - 1).toNat default).len) (o.getD (i - 1).toNat default) else if (l.getD i.toNat default).spd < if (l.getD (i - 1).toNat default).cor < (l.getD (i - 1).toNat default).spd then (l.getD (i - 1).toNat default).cor else (l.getD (i - 1).toNat default).spd then (l.getD i.toNat default).spd else if (l.getD (i - 1).toNat default).cor < (l.getD (i - 1).toNat default).spd then (l.getD (i - 1).toNat default).cor else (l.getD (i - 1).toNat default).spd)):=(lm_set rfl rfl)
  obtain ⟨k27,H⟩:=H
  have w28:wi (i + 1) = i + 1:=wI64 k27
  exact path_wp (G:=given kp22 [(8,7,.elem (zNzE1 l i)),(8,13,.elem (zNzE1 l i)),(8,18,.elem (zNzE2 l i)),(8,23,.elem (vi (o.getD (i - 1).toNat default))),(8,29,.elem (zNzE1 l i)),(8,31,.call (vi (Sp.af (2 * a * (l.getD (i - 1).toNat default).len) (o.getD (i - 1).toNat default))) none),(8,34,.elem (vi (o.getD i.toNat default)))] []) 1000 [true] ⟨(atC (cd Tryz.f22) [1,1,1,0,1,0,0]),[(0,AV.vec fl 3 (List.map Pt.a l)),(1,vi a),(7,AV.row 0 0),(8,vi (wi (i + 1)))],[⟨(List.map (vi) o).set i.toNat (vi (if Sp.af (2 * a * (l.getD (i - 1).toNat default).len) (o.getD (i - 1).toNat default) < if (l.getD i.toNat default).spd < if (l.getD (i - 1).toNat default).cor < (l.getD (i - 1).toNat default).spd then (l.getD (i - 1).toNat default).cor else (l.getD (i - 1).toNat default).spd then (l.getD i.toNat default).spd else if (l.getD (i - 1).toNat default).cor < (l.getD (i - 1).toNat default).spd then (l.getD (i - 1).toNat default).cor else (l.getD (i - 1).toNat default).spd then Sp.af (2 * a * (l.getD (i - 1).toNat default).len) (o.getD (i - 1).toNat default) else if (l.getD i.toNat default).spd < if (l.getD (i - 1).toNat default).cor < (l.getD (i - 1).toNat default).spd then (l.getD (i - 1).toNat default).cor else (l.getD (i - 1).toNat default).spd then (l.getD i.toNat default).spd else if (l.getD (i - 1).toNat default).cor < (l.getD (i - 1).toNat default).spd then (l.getD (i - 1).toNat default).cor else (l.getD (i - 1).toNat default).spd)),1,0,false,true⟩],_,[((List.map Pt.a l).get?Internal (wi (i - 1)).toNat = some (zNzE1 l i)),((List.map Pt.a l).get?Internal (wi (i - 1)).toNat = some (zNzE1 l i)),((List.map Pt.a l).get?Internal i.toNat = some (zNzE2 l i)),((List.map (vi) o).get?Internal (wi (i - 1)).toNat = some (vi (o.getD (i - 1).toNat default))),((List.map Pt.a l).get?Internal (wi (i - 1)).toNat = some (zNzE1 l i)),((List.map (vi) o).get?Internal i.toNat = some (vi (o.getD i.toNat default)))],_⟩ (by kernel_rfl) (bc (beq_t (i2.2 d3)) (bc (i7.2 k8) (bc (i9.2 k10) (bc (i11.2 k8) (bc (i12.2 k10) (bc (i_dec.2 k14) (bc (i15.2 k16) (bc rfl (bc (i17.2 k8) (bc (i19.2 k20) (bc rfl (bc (i21.2 k8) (bc (i22.2 k10) (bc rfl (bc (i_dec.2 k14) (bc (i24.2 k25) (bc rfl b0))))))))))))))))) (qc (by (try rw [w5]);all_goals exact (el_map k10)) (qc (by (try rw [w5]);all_goals exact (el_map k10)) (qc (el_map k16) (qc (by (try rw [w5]);all_goals exact (el_map k20)) (qc (by (try rw [w5]);all_goals exact (el_map k10)) (qc (el_map k25) q0)))))) (ce (@ev54 (o.getD (i - 1).toNat default) ((l.getD (i - 1).toNat default).len) (a) k6) c0) (by (try rw [w26]);(try rw [w28]);all_goals exact H)
 ·have H:=H.2 d3
  obtain ⟨k29,H⟩:=H
  have w30:wi ((↑l.length:Int) - 1) = (↑l.length:Int) - 1:=wI64 k29
  exact path_wp (G:=given kp22 [] []) 1000 [false] ⟨(atC (cd Tryz.f22) [1,1,1,1,0,1,0,0]),[(0,AV.vec fl 3 (List.map Pt.a l)),(1,vi a),(7,AV.row 0 0),(9,vi (wi ((↑(List.map Pt.a l).length:Int) - 1)))],[⟨List.map (vi) o,1,0,false,true⟩],_,[],_⟩ (by kernel_rfl) (bc (beq_f (fun h => d3 (i2.1 h))) b0) q0 c0 (by (try rw [w1]);(try rw [w30]);all_goals exact H)
noncomputable abbrev zNzE3 (l:List Pt) (i:Int):=ag [vi (l.getD i.toNat default).len,vi (l.getD i.toNat default).spd,vi (l.getD i.toNat default).cor]
theorem kSpB (fl:Bool) (l:List Pt) (a i:Int) (o:List Int)  (Q:AV -> Heap -> Prop) (H :
  ((i > 0) -> (-9223372036854775808 <= i + 1 /\ i + 1 <= 9223372036854775807) /\
   (Sp.isV (o.getD (i + 1).toNat default) /\ Sp.isLen (l.getD i.toNat default).len /\ Sp.isAcc a) /\
   (0 <= i) /\
   (i.toNat < o.length) /\
   (0 <= i + 1) /\
   ((i + 1).toNat < o.length) /\
   (i.toNat < l.length) /\
   (-9223372036854775808 <= i - 1 /\ i - 1 <= 9223372036854775807) /\
   kSpB_at (fl) (l) (a) (i - 1) (o.set i.toNat (if Sp.af (2 * a * (l.getD i.toNat default).len) (o.getD (i + 1).toNat default) < o.getD i.toNat default then Sp.af (2 * a * (l.getD i.toNat default).len) (o.getD (i + 1).toNat default) else o.getD i.toNat default)) Q) /\
  (¬(i > 0) -> Q (tu [AV.row 0 0,vi 0]) [{ elems:=List.map (vi) o,es:=1,ver:=0,frozen:=false,clean:=true }])) :
 kSpB_at fl l a i o Q:=by
 unfold kSpB_at
 rcases xm (i > 0) with d2 | d2
 ·have H:=H.1 d2
  obtain ⟨k3,H⟩:=H
  have w4:wi (i + 1) = i + 1:=wI64 k3
  obtain ⟨k5,H⟩:=H
  obtain ⟨k7,H⟩:=H
  have w8:(List.map (vi) o).length = o.length:=List.length_map ..
  have i9:(decide (i.toNat < (List.map (vi) o).length)) = true ↔ (i.toNat < o.length):=(by (try rw [w8]);all_goals exact i_dec)
  obtain ⟨k10,H⟩:=H
  have i11:(decide (0 <= wi (i + 1))) = true ↔ (0 <= i + 1):=(by (try rw [w4]);all_goals exact i_dec)
  obtain ⟨k12,H⟩:=H
  have i13:(decide ((wi (i + 1)).toNat < (List.map (vi) o).length)) = true ↔ ((i + 1).toNat < o.length):=(by (try rw [w4]);(try rw [w8]);all_goals exact i_dec)
  obtain ⟨k14,H⟩:=H
  have w16:(List.map Pt.a l).length = l.length:=List.length_map ..
  have i17:(decide (i.toNat < (List.map Pt.a l).length)) = true ↔ (i.toNat < l.length):=(by (try rw [w16]);all_goals exact i_dec)
  obtain ⟨k18,H⟩:=H
  have i20:(decide (i.toNat < (List.map (vi) o).length)) = true ↔ (i.toNat < o.length):=(by (try rw [w8]);all_goals exact i_dec)
  have w21:(List.map (vi) o).set i.toNat (vi (if Sp.af (2 * a * (l.getD i.toNat default).len) (o.getD (i + 1).toNat default) < o.getD i.toNat default then Sp.af (2 * a * (l.getD i.toNat default).len) (o.getD (i + 1).toNat default) else o.getD i.toNat default)) = List.map (vi) (o.set i.toNat (if Sp.af (2 * a * (l.getD i.toNat default).len) (o.getD (i + 1).toNat default) < o.getD i.toNat default then Sp.af (2 * a * (l.getD i.toNat default).len) (o.getD (i + 1).toNat default) else o.getD i.toNat default)):=(lm_set rfl rfl)
  obtain ⟨k22,H⟩:=H
  have w23:wi (i - 1) = i - 1:=wI64 k22
  exact path_wp (G:=given kp22 [(12,5,.elem (vi (o.getD i.toNat default))),(12,10,.elem (vi (o.getD (i + 1).toNat default))),(12,15,.elem (zNzE3 l i)),(12,17,.call (vi (Sp.af (2 * a * (l.getD i.toNat default).len) (o.getD (i + 1).toNat default))) none),(12,20,.elem (vi (o.getD i.toNat default)))] []) 1000 [true] ⟨(atC (cd Tryz.f22) [1,1,1,1,0,1,0,0]),[(0,AV.vec fl 3 (List.map Pt.a l)),(1,vi a),(7,AV.row 0 0),(9,vi (wi (i - 1)))],[⟨(List.map (vi) o).set i.toNat (vi (if Sp.af (2 * a * (l.getD i.toNat default).len) (o.getD (i + 1).toNat default) < o.getD i.toNat default then Sp.af (2 * a * (l.getD i.toNat default).len) (o.getD (i + 1).toNat default) else o.getD i.toNat default)),1,0,false,true⟩],_,[((List.map (vi) o).get?Internal i.toNat = some (vi (o.getD i.toNat default))),((List.map (vi) o).get?Internal (wi (i + 1)).toNat = some (vi (o.getD (i + 1).toNat default))),((List.map Pt.a l).get?Internal i.toNat = some (zNzE3 l i)),((List.map (vi) o).get?Internal i.toNat = some (vi (o.getD i.toNat default)))],_⟩ (by kernel_rfl) (bc (beq_t (i_dec.2 d2)) (bc rfl (bc (i_dec.2 k7) (bc (i9.2 k10) (bc rfl (bc rfl (bc (i11.2 k12) (bc (i13.2 k14) (bc rfl (bc (i_dec.2 k7) (bc (i17.2 k18) (bc rfl (bc (i_dec.2 k7) (bc (i20.2 k10) (bc rfl b0))))))))))))))) (qc (el_map k10) (qc (by (try rw [w4]);all_goals exact (el_map k14)) (qc (el_map k18) (qc (el_map k10) q0)))) (ce (@ev54 (o.getD (i + 1).toNat default) ((l.getD i.toNat default).len) (a) k5) c0) (by (try rw [w21]);(try rw [w23]);all_goals exact H)
 ·have H:=H.2 d2
  exact path_ret (G:=given kp22 [] []) 1000 [false] (k:=((atC (cd Tryz.f22) [1,1,1,1,1,1])).tail) (env':=[(4,AV.row 0 0),(5,vi 0)]) (L':=[⟨List.map (vi) o,1,0,false,true⟩]) (asm:=[(decide (i > 0)) == false]) (eqs:=[]) (calls:=[]) (tu [AV.row 0 0,vi 0]) (by kernel_rfl) (by kernel_rfl) (allB_cons (beq_f (fun h => d2 (i_dec.1 h))) allB_nil) allP_nil allC_nil H
theorem kCor1 (ax ay az bx by_ bz m n c i:Int)  (dq:AV) (H :
  (-9223372036854775808 <= i + 1 /\ i + 1 <= 9223372036854775807) /\
  (Sp.okAl (i + 1) ax bx m n c) /\
  ((¬(¬(Sp.alw (i + 1) ax bx m n c = true))) -> (Sp.okAl (i + 1) ay by_ m n c)) /\
  ((¬((¬(Sp.alw (i + 1) ax bx m n c = true)) \/ (¬(Sp.alw (i + 1) ay by_ m n c = true)))) -> (Sp.okAl (i + 1) az bz m n c)) /\
  (vb (bif bif !Sp.alw (i + 1) ax bx m n c then true else !Sp.alw (i + 1) ay by_ m n c then true else !Sp.alw (i + 1) az bz m n c)) = dq) :
 kCor1_at ax ay az bx by_ bz m n c i (PureQ dq):=by
 unfold kCor1_at
 obtain ⟨k1,H⟩:=H
 have w2:wi (i + 1) = i + 1:=wI64 k1
 obtain ⟨k3,H⟩:=H
 obtain ⟨k5,H⟩:=H
 obtain ⟨k7,H⟩:=H
 exact path_re (G:=given kp29 [(2,8,.call (vb (Sp.alw (i + 1) ax bx m n c)) none),(2,19,.call (vb (Sp.alw (i + 1) ay by_ m n c)) none),(2,31,.call (vb (Sp.alw (i + 1) az bz m n c)) none)] []) 1000 [] (calls:=[⟨true,false,30,[vi (wi (i + 1)),vi ax,vi bx,vi m,vi n,vi c],[],vb (Sp.alw (i + 1) ax bx m n c),[]⟩,⟨(!Sp.alw (i + 1) ax bx m n c) == false && true && true,false,30,[vi (wi (i + 1)),vi ay,vi by_,vi m,vi n,vi c],[],vb (Sp.alw (i + 1) ay by_ m n c),[]⟩,⟨(bif !Sp.alw (i + 1) ax bx m n c then true else !Sp.alw (i + 1) ay by_ m n c) == false && true && true,false,30,[vi (wi (i + 1)),vi az,vi bz,vi m,vi n,vi c],[],vb (Sp.alw (i + 1) az bz m n c),[]⟩]) (vb (bif bif !Sp.alw (i + 1) ax bx m n c then true else !Sp.alw (i + 1) ay by_ m n c then true else !Sp.alw (i + 1) az bz m n c)) (by kernel_rfl) b0 q0 (cc (fun _ => (by (try rw [w2]);all_goals exact (@ev30 (i + 1) (ax) (bx) (m) (n) (c) k3))) (cc (fun hc => ((by (try rw [w2]);all_goals exact (@ev30 (i + 1) (ay) (by_) (m) (n) (c) (k5 ((i_at (i_at (i_bf (i_not (i_var _))))).1 hc)))):Ev M1 (Conf.pure 30 [vi (wi (i + 1)),vi ay,vi by_,vi m,vi n,vi c]) (vb (Sp.alw (i + 1) ay by_ m n c)) [])) (cc (fun hc => ((by (try rw [w2]);all_goals exact (@ev30 (i + 1) (az) (bz) (m) (n) (c) (k7 ((i_at (i_at (i_bf (i_bor (i_not (i_var _)) (i_not (i_var _)))))).1 hc)))):Ev M1 (Conf.pure 30 [vi (wi (i + 1)),vi az,vi bz,vi m,vi n,vi c]) (vb (Sp.alw (i + 1) az bz m n c)) [])) c0))) H
noncomputable abbrev zNzE4:=ag [vb false,vf [],vb false,vf []]
noncomputable abbrev zNzE5 (i:Int) (v:Int) (a:Int) (r:Rat):=Sp.sgnI ((Sp.reR i v a).num * (↑r.den:Int) - r.num * (↑(Sp.reR i v a).den:Int))
theorem kStr1 (f g:Bool) (v a i:Int) (r:Rat)  (dq:AV) (H :
  ((Sp.okRe i v a) -> ((true = true) -> (Sp.okR (Sp.reR i v a) /\ Sp.okR r)) /\
   vb (decide (Sp.sgnI ((Sp.reR i v a).num * (↑r.den:Int) - r.num * (↑(Sp.reR i v a).den:Int)) >= 0)) = dq) /\
  (¬(Sp.okRe i v a) -> ∃ (n1:Int),
   ((false = true) -> (Ev M1 (Conf.pure 36 [ag [vb false,vf [],vb false,vf []],ratA f g r]) (vi n1) [])) /\
   vb false = dq)) :
 kStr1_at f g v a i r (PureQ dq):=by
 unfold kStr1_at
 rcases xm (Sp.okRe i v a) with d1 | d1
 ·have H:=H.1 d1
  obtain ⟨k3,H⟩:=H
  exact path_re (G:=given kp49 [(1,3,.call (tu [ratA false false (Sp.reR i v a),vi 0]) none),(2,5,.call (vi (zNzE5 i v a r)) none)] []) 1000 [] (calls:=[⟨true,false,12,[vi i,vi v,vi a],[],tu [ratA false false (Sp.reR i v a),vi 0],[]⟩,⟨true == true && true && true,false,36,[ratA false false (Sp.reR i v a),ratA f g r],[],vi (zNzE5 i v a r),[]⟩]) (vb (decide (Sp.sgnI ((Sp.reR i v a).num * (↑r.den:Int) - r.num * (↑(Sp.reR i v a).den:Int)) >= 0))) (by kernel_rfl) (bc rfl (bc rfl b0)) q0 (cc (fun _ => (@ev12_y (i) (v) (a) d1)) (cc (fun hc => ((@ev36 (false) (false) (f) (g) (Sp.reR i v a) (r) (k3 ((i_at (i_at (i_bt (i_var _)))).1 hc))):Ev M1 (Conf.pure 36 [ratA false false (Sp.reR i v a),ratA f g r]) (vi (zNzE5 i v a r)) [])) c0)) H
 ·have H:=H.2 d1
  obtain ⟨n1,H⟩:=H
  obtain ⟨k5,H⟩:=H
  exact path_re (G:=given kp49 [(1,3,.call (tu [zNzE4,vi 1]) none),(2,5,.call (vi n1) none)] []) 1000 [] (calls:=[⟨true,false,12,[vi i,vi v,vi a],[],tu [zNzE4,vi 1],[]⟩,⟨false == true && true && true,false,36,[zNzE4,ratA f g r],[],vi n1,[]⟩]) (vb false) (by kernel_rfl) (bc rfl (bc rfl b0)) q0 (cc (fun _ => (@ev12_n (i) (v) (a) d1)) (cc (fun hc => ((k5 ((i_at (i_at (i_bt (i_var _)))).1 hc)):Ev M1 (Conf.pure 36 [zNzE4,ratA f g r]) (vi n1) [])) c0)) H
end Go.Av

namespace Go.Av
open Go.Proofs
theorem ev21 (n u v:Int):Ev M1 (.pure 21 [.int .i64 n,.int .i64 u,.int .i64 v]) (.tup [.int .i64 (Sp.fastV n u v),.int .i64 (Sp.fastE n u v)]) []:=by
 have e:(((¬(0 <= n /\ n <= 1000000)) \/ (¬(0 <= u /\ u <= 100000000))) \/ (¬(1 <= v /\ v <= 100000000))) ↔ ¬(Sp.isV n /\ Sp.isLen u /\ Sp.isAcc v):=by unfold Sp.isV Sp.isLen Sp.isAcc;omega
 refine call21 (kFaster _ _ _ _ ⟨fun x => ?_,fun x => ?_⟩)
 ·have y:=e.1 x
  unfold Sp.fastV Sp.fastE
  rw [if_neg y,if_neg y]
 ·have y:=Classical.not_not.1 (mt e.2 x)
  unfold Sp.fastV Sp.fastE
  rw [if_pos y,if_pos y]
  exact ⟨y,rfl⟩
theorem spF_le {l:List Pt} {a:Int} (h:Sp.okPts l a):∀ i,i < l.length -> 0 <= Sp.spF l a i /\ Sp.spF l a i <= 1000000
 | 0,_ => by unfold Sp.spF;omega
 | i + 1,hi => by
  have a1:=cap_nn h (i + 1)
  have b:=@af_nn (Sp.kA l a i) (Sp.spF l a i) (kA_nn h i (by omega)).1
  unfold Sp.spF
  omega
theorem spF_step {l:List Pt} {a:Int} {i:Nat} (h:0 < i):Sp.spF l a i = min (Sp.cap l i) (Sp.af (Sp.kA l a (i - 1)) (Sp.spF l a (i - 1))):=by
 obtain ⟨j,rfl⟩:∃ j,i = j + 1:=⟨i - 1,by omega⟩
 rw [Nat.add_sub_cancel];rfl
theorem spAt_step {l:List Pt} {a:Int} {i:Nat} (h1:0 < i) (h2:i < l.length):Sp.spAt l a i = min (Sp.spF l a i) (Sp.af (Sp.kA l a i) (Sp.spAt l a (i + 1))):=by
 obtain ⟨d,hd⟩:∃ d,l.length - i = d + 1:=⟨l.length - i - 1,by omega⟩
 unfold Sp.spAt
 rw [hd,Sp.spG,if_neg (by omega),show l.length - (d + 1) = i by omega,show l.length - (i + 1) = d by omega]
theorem spAt_zero {l:List Pt} {a:Int}:Sp.spAt l a 0 = 0:=by
 unfold Sp.spAt
 rw [Nat.sub_zero]
 rcases e:l.length with _ | d
 ·rfl
 ·rw [Sp.spG,if_pos e]
theorem spAt_end {l:List Pt} {a:Int}:Sp.spAt l a l.length = 0:=by
 unfold Sp.spAt
 rw [Nat.sub_self];rfl
theorem spds_of {l:List Pt} {a:Int} {o:List Int} (ho:o.length = l.length + 1) (hv:∀ j,j <= l.length -> o.getD j default = Sp.spAt l a j):o = Sp.spds l a:=by
 rw [rm_of o,ho]
 exact rm_congr fun i hi => hv i (by omega)
theorem spB_loop {fl:Bool} {l:List Pt} {a:Int} {Q:AV -> Heap -> Prop} (hl:(l.length:Int) <= 2000) (h:Sp.okPts l a) (hq:Q (.tup [.row 0 0,.int .i64 0]) [⟨(Sp.spds l a).map (.int .i64),1,0,false,true⟩]) :
  ∀ (i:Nat) (o:List Int),i < l.length -> o.length = l.length + 1 -> (∀ j,j <= l.length -> o.getD j default = if j <= i then Sp.spF l a j else Sp.spAt l a j) -> kSpB_at fl l a i o Q
 | 0,o,hi,ho,hv => by
  refine kSpB _ _ _ _ _ _ ⟨fun x => by omega,fun _ => ?_⟩
  rw [spds_of (a:=a) ho fun j hj => by
   rw [hv j hj]
   by_cases e:j = 0
   ·subst e;rw [if_pos (Nat.le_refl _),spAt_zero];rfl
   ·rw [if_neg (by omega)]]
  exact hq
 | i + 1,o,hi,ho,hv => by
  have e1:=hv (i + 1) (by omega)
  have e2:=hv (i + 1 + 1) (by omega)
  rw [if_pos (Nat.le_refl _)] at e1
  rw [if_neg (by omega)] at e2
  have b2:=spAt_le h (i:=i + 1 + 1) (by omega)
  have p:=pt_at h hi
  refine kSpB _ _ _ _ _ _ ⟨fun _ => ?_,fun x => by omega⟩
  rw [show ((i + 1:Nat):Int).toNat = i + 1 by omega,show (((i + 1:Nat):Int) + 1).toNat = i + 1 + 1 by omega,show ((i + 1:Nat):Int) - 1 = (i:Int) by omega]
  simp only [min_if]
  rw [e1,e2]
  refine ⟨by omega,⟨by unfold Sp.isV;omega,p.1,h.1⟩,by omega,by omega,by omega,by omega,by omega,by omega,?_⟩
  rw [show min (Sp.spF l a (i + 1)) (Sp.af (2 * a * (l.getD (i + 1) default).len) (Sp.spAt l a (i + 1 + 1))) = Sp.spAt l a (i + 1) from (spAt_step (by omega) hi).symm]
  refine spB_loop hl h hq i _ (by omega) (by simp [ho]) fun j hj => ?_
  rw [getD_set' (by omega)]
  by_cases e:i + 1 = j
  ·subst e;rw [if_pos rfl,if_neg (by omega)]
  ·rw [if_neg e,hv j hj]
   by_cases k:j <= i
   ·rw [if_pos k,if_pos (by omega)]
   ·rw [if_neg k,if_neg (by omega)]
theorem spA_loop {fl:Bool} {l:List Pt} {a:Int} {Q:AV -> Heap -> Prop} (hl:(l.length:Int) <= 2000) (h:Sp.okPts l a) (hq:Q (.tup [.row 0 0,.int .i64 0]) [⟨(Sp.spds l a).map (.int .i64),1,0,false,true⟩]) :
  ∀ (k i:Nat) (o:List Int),l.length <= i + k -> 0 < i -> o.length = l.length + 1 -> (∀ j,j <= l.length -> o.getD j default = if j < i /\ j < l.length then Sp.spF l a j else 0) -> kSpA_at fl l a i o Q
 | 0,i,o,hk,h0,ho,hv => by
  refine kSpA _ _ _ _ _ _ ⟨fun x => by omega,fun _ => ⟨by omega,?_⟩⟩
  by_cases n:l.length = 0
  ·refine kSpB _ _ _ _ _ _ ⟨fun x => by omega,fun _ => ?_⟩
   rw [spds_of (a:=a) ho fun j hj => by
    rw [hv j hj,if_neg (by omega),show j = 0 by omega,spAt_zero]]
   exact hq
  ·rw [show (l.length:Int) - 1 = ((l.length - 1:Nat):Int) by omega]
   refine spB_loop hl h hq (l.length - 1) o (by omega) ho fun j hj => ?_
   rw [hv j hj]
   by_cases e:j <= l.length - 1
   ·rw [if_pos e,if_pos (by omega)]
   ·rw [if_neg e,if_neg (by omega),show j = l.length by omega,spAt_end]
 | k + 1,i,o,hk,h0,ho,hv => by
  by_cases x:i < l.length
  ·have e1:=hv (i - 1) (by omega)
   rw [if_pos (by omega)] at e1
   have b1:=spF_le h (i - 1) (by omega)
   have p:=pt_at h (i:=i - 1) (by omega)
   refine kSpA _ _ _ _ _ _ ⟨fun _ => ?_,fun y => by omega⟩
   rw [Int.toNat_natCast,show ((i:Int) - 1).toNat = i - 1 by omega,show (i:Int) + 1 = ((i + 1:Nat):Int) by omega]
   simp only [min_if]
   rw [e1]
   refine ⟨by omega,⟨by unfold Sp.isV;omega,p.1,h.1⟩,by omega,by omega,by omega,by omega,by omega,by omega,by omega,?_⟩
   have hc:Sp.cap l i = min (min (l.getD (i - 1) default).spd (l.getD (i - 1) default).cor) (l.getD i default).spd:=if_neg (by omega)
   rw [<- hc,show min (Sp.cap l i) (Sp.af (2 * a * (l.getD (i - 1) default).len) (Sp.spF l a (i - 1))) = Sp.spF l a i from (spF_step h0).symm]
   refine spA_loop hl h hq k (i + 1) _ (by omega) (by omega) (by simp [ho]) fun j hj => ?_
   rw [getD_set' (by omega)]
   by_cases e:i = j
   ·subst e;rw [if_pos rfl,if_pos (by omega)]
   ·rw [if_neg e,hv j hj]
    by_cases m:j < i /\ j < l.length
    ·rw [if_pos m,if_pos (by omega)]
    ·rw [if_neg m,if_neg (by omega)]
  ·exact spA_loop hl h hq 0 i o (by omega) h0 ho hv
theorem sp_run {fl:Bool} {l:List Pt} {a:Int} {Q:AV -> Heap -> Prop} (v:Sp.validE l a = 0) (hq:Q (.tup [.row 0 0,.int .i64 0]) [⟨(Sp.spds l a).map (.int .i64),1,0,false,true⟩]):kSp_at fl l a Q:=by
 obtain ⟨hl,h⟩:=validE_ok v
 refine kSp _ _ _ _ ⟨fun x => absurd v x,fun x => ⟨by omega,by omega,by omega,by omega,?_⟩⟩
 rw [show ((l.length:Int) + 1).toNat = l.length + 1 by omega]
 refine spA_loop hl h hq l.length 1 _ (by omega) (by omega) (by simp) fun j hj => ?_
 have e:(List.replicate (l.length + 1) (0:Int)).getD j default = 0:=by simp [List.getD_eq_getElem?_getD,List.getElem?_replicate,show j < l.length + 1 by omega]
 rw [e]
 split
 ·rw [show j = 0 by omega];rfl
 ·rfl
theorem ev22 (fl:Bool) (l:List Pt) (a:Int):Ev M1 (.pure 22 [.vec fl 3 (l.map Pt.a),.int .i64 a]) (.tup [.vec false 1 ((Sp.spdV l a).map (.int .i64)),.int .i64 (Sp.validE l a)]) []:=by
 by_cases v:Sp.validE l a = 0
 ·rw [show Sp.spdV l a = Sp.spds l a from if_pos v,v]
  exact call22 (sp_run v (pq_of rfl rfl ⟨rfl,trivial⟩ rfl rfl))
 ·rw [show Sp.spdV l a = [] from if_neg v]
  exact call22 (kSp _ _ _ _ ⟨fun _ => pq_weak rfl rfl trivial rfl weak_nil2,fun x => absurd v x⟩)
namespace Sp
noncomputable def corP (ax ay az bx by_ bz m n c i:Int):Bool:=bif bif !alw (i + 1) ax bx m n c then true else !alw (i + 1) ay by_ m n c then true else !alw (i + 1) az bz m n c
def okCr (ax ay az bx by_ bz m n c:Int):Prop:=inP ax ay az /\ inP bx by_ bz /\ okQ m /\ okQ n /\ isV c
def inS (h i:Int):Prop:=0 <= i /\ i <= h
noncomputable def strP (v a:Int) (r:Rat) (i:Int):Bool:=decide (r <= reR i v a)
def okSt (v a:Int) (r:Rat):Prop:=(1 <= v /\ v <= 1000000) /\ isAcc a /\ okR r
end Sp
theorem ev29 (ax ay az bx by_ bz m n c i:Int) (h:Sp.okCr ax ay az bx by_ bz m n c /\ Sp.inS 1000000 i):Ev M1 (.pure 29 [.int .i64 i,.eptr 3 [.agg [.int .i64 ax,.int .i64 ay,.int .i64 az]] 0 0,.eptr 3 [.agg [.int .i64 bx,.int .i64 by_,.int .i64 bz]] 0 0,.eptr 1 [.int .i64 m] 0 0,.eptr 1 [.int .i64 n] 0 0,.eptr 1 [.int .i64 c] 0 0]) (.bool (Sp.corP ax ay az bx by_ bz m n c i)) []:=by
 obtain ⟨⟨⟨a1,a2,a3⟩,⟨b1,b2,b3⟩,hm,hn,hc⟩,hi⟩:=h
 unfold Sp.inS at hi
 have v:0 <= i + 1 /\ i + 1 <= 1000001:=by omega
 exact call29 (kCor1 _ _ _ _ _ _ _ _ _ _ _ ⟨by omega,⟨v,⟨a1,b1⟩,⟨hm,hn⟩,hc⟩,fun _ => ⟨v,⟨a2,b2⟩,⟨hm,hn⟩,hc⟩,fun _ => ⟨v,⟨a3,b3⟩,⟨hm,hn⟩,hc⟩,rfl⟩)
theorem ev49 (f g:Bool) (v a i:Int) (r:Rat) (h:Sp.okSt v a r /\ Sp.inS 1000000000000 i):Ev M1 (.pure 49 [.int .i64 i,.eptr 1 [.int .i64 v] 0 0,.eptr 1 [.int .i64 a] 0 0,.eptr 4 [ratA f g r] 0 0]) (.bool (Sp.strP v a r i)) []:=by
 obtain ⟨⟨hv,ha,hr⟩,hi⟩:=h
 have k:Sp.okRe i v a:=⟨hi,hv,ha⟩
 refine call49 (kStr1 _ _ _ _ _ _ _ ⟨fun _ => ⟨fun _ => ⟨okT_R (okT_re k) (by omega),hr⟩,?_⟩,fun x => absurd k x⟩)
 unfold Sp.strP
 congr 1
 exact dec_iff cmp_ge
end Go.Av

namespace Go.Av
open Go.Proofs
set_option maxRecDepth 100000
def fi28:Fi:=⟨26,[.tmp 4]⟩
def kp28:List (Nat × List Nat):=[(0,[0,1]),(1,[1,5,6]),(2,[1,5,6,11]),(3,[1,5,6,7]),(4,[1,5,6,7,21]),(5,[1,5,6]),(6,[1,5,6]),(7,[4])]
def kSeC_at (ax ay az bx by_ bz m n c:Int) (Q:AV -> Heap -> Prop):Prop:=Wp M1 (.run fi28 (atC (cd Tryz.f28) []) [(0,.int .i64 1000000),(1,.func (.func 29) [] [.eptr 3 [.agg [.int .i64 ax,.int .i64 ay,.int .i64 az]] 0 0,.eptr 3 [.agg [.int .i64 bx,.int .i64 by_,.int .i64 bz]] 0 0,.eptr 1 [.int .i64 m] 0 0,.eptr 1 [.int .i64 n] 0 0,.eptr 1 [.int .i64 c] 0 0])] []) Q
def kSeCH_at (ax ay az bx by_ bz m n c:Int) (i j:Int) (Q:AV -> Heap -> Prop):Prop:=Wp M1 (.run fi28 (atC (cd Tryz.f28) [1,1,0,0,0]) [(1,.func (.func 29) [] [.eptr 3 [.agg [.int .i64 ax,.int .i64 ay,.int .i64 az]] 0 0,.eptr 3 [.agg [.int .i64 bx,.int .i64 by_,.int .i64 bz]] 0 0,.eptr 1 [.int .i64 m] 0 0,.eptr 1 [.int .i64 n] 0 0,.eptr 1 [.int .i64 c] 0 0]),(5,.int .i64 i),(6,.int .i64 j)] []) Q
def kSeS_at (f g:Bool) (v a:Int) (r:Rat) (Q:AV -> Heap -> Prop):Prop:=Wp M1 (.run fi28 (atC (cd Tryz.f28) []) [(0,.int .i64 1000000000000),(1,.func (.func 49) [] [.eptr 1 [.int .i64 v] 0 0,.eptr 1 [.int .i64 a] 0 0,.eptr 4 [ratA f g r] 0 0])] []) Q
def kSeSH_at (f g:Bool) (v a:Int) (r:Rat) (i j:Int) (Q:AV -> Heap -> Prop):Prop:=Wp M1 (.run fi28 (atC (cd Tryz.f28) [1,1,0,0,0]) [(1,.func (.func 49) [] [.eptr 1 [.int .i64 v] 0 0,.eptr 1 [.int .i64 a] 0 0,.eptr 4 [ratA f g r] 0 0]),(5,.int .i64 i),(6,.int .i64 j)] []) Q
theorem call28 {args:List AV} {d:AV} (h:wc M1 fi28 Tryz.f28 args d):Ev M1 (.pure 28 args) d []:=pcl _ _ (by kernel_rfl) h
theorem kSeC (ax ay az bx by_ bz m n c:Int)  (dq:AV) (H :
  kSeCH_at (ax) (ay) (az) (bx) (by_) (bz) (m) (n) (c) (0) (1000000) (PureQ dq)) :
 kSeC_at ax ay az bx by_ bz m n c (PureQ dq):=by
 unfold kSeC_at
 exact path_wp (G:=given kp28 [] []) 1000 [] ⟨(atC (cd Tryz.f28) [1,1,0,0,0]),[(1,AV.func (Fn.func 29) [] [AV.eptr 3 [ag [vi ax,vi ay,vi az]] 0 0,AV.eptr 3 [ag [vi bx,vi by_,vi bz]] 0 0,AV.eptr 1 [vi m] 0 0,AV.eptr 1 [vi n] 0 0,AV.eptr 1 [vi c] 0 0]),(5,vi 0),(6,vi 1000000)],[],_,[],_⟩ (by kernel_rfl) b0 q0 c0 (H)
noncomputable abbrev zNzF1 (ax:Int) (ay:Int) (az:Int):=ag [vi ax,vi ay,vi az]
noncomputable abbrev zNzF2 (bx:Int) (by_:Int) (bz:Int):=ag [vi bx,vi by_,vi bz]
theorem kSeCH (ax ay az bx by_ bz m n c:Int) (i j:Int)  (dq:AV) (H :
  ((i < j) -> (-9223372036854775808 <= i + j /\ i + j <= 9223372036854775807) /\
   (0 <= i + j /\ i + j <= 18446744073709551615) /\
   (-9223372036854775808 <= (i + j).fdiv (2 ^ min (Int.toNat 1) IntKind.u64.bits) /\ (i + j).fdiv (2 ^ min (Int.toNat 1) IntKind.u64.bits) <= 9223372036854775807) /\
   (Sp.okCr ax ay az bx by_ bz m n c /\ Sp.inS 1000000 ((i + j).fdiv (2 ^ min (Int.toNat 1) IntKind.u64.bits))) /\
   ((¬(Sp.corP ax ay az bx by_ bz m n c ((i + j).fdiv (2 ^ min (Int.toNat 1) IntKind.u64.bits)) = true)) -> (-9223372036854775808 <= (i + j).fdiv (2 ^ min (Int.toNat 1) IntKind.u64.bits) + 1 /\ (i + j).fdiv (2 ^ min (Int.toNat 1) IntKind.u64.bits) + 1 <= 9223372036854775807) /\
    kSeCH_at (ax) (ay) (az) (bx) (by_) (bz) (m) (n) (c) ((i + j).fdiv (2 ^ min (Int.toNat 1) IntKind.u64.bits) + 1) (j) (PureQ dq)) /\
   (¬(¬(Sp.corP ax ay az bx by_ bz m n c ((i + j).fdiv (2 ^ min (Int.toNat 1) IntKind.u64.bits)) = true)) -> kSeCH_at (ax) (ay) (az) (bx) (by_) (bz) (m) (n) (c) (i) ((i + j).fdiv (2 ^ min (Int.toNat 1) IntKind.u64.bits)) (PureQ dq))) /\
  (¬(i < j) -> vi i = dq)) :
 kSeCH_at ax ay az bx by_ bz m n c i j (PureQ dq):=by
 unfold kSeCH_at
 rcases xm (i < j) with d2 | d2
 ·have H:=H.1 d2
  obtain ⟨k3,H⟩:=H
  have w4:wi (i + j) = i + j:=wI64 k3
  obtain ⟨k5,H⟩:=H
  have w6:wu (i + j) = i + j:=wU64 k5
  obtain ⟨k7,H⟩:=H
  have w8:wi ((i + j).fdiv (2 ^ min (Int.toNat 1) IntKind.u64.bits)) = (i + j).fdiv (2 ^ min (Int.toNat 1) IntKind.u64.bits):=wI64 k7
  obtain ⟨k9,H⟩:=H
  refine path_wp (G:=given kp28 [(4,2,.call (vb (Sp.corP ax ay az bx by_ bz m n c ((i + j).fdiv (2 ^ min (Int.toNat 1) IntKind.u64.bits)))) none)] []) 10 [true] ⟨(atC (cd Tryz.f28) [1,1,0,0,0,1,0,1,1]),[(1,AV.func (Fn.func 29) [] [AV.eptr 3 [(zNzF1 ax ay az)] 0 0,AV.eptr 3 [(zNzF2 bx by_ bz)] 0 0,AV.eptr 1 [vi m] 0 0,AV.eptr 1 [vi n] 0 0,AV.eptr 1 [vi c] 0 0]),(5,vi i),(6,vi j),(7,vi (wi ((wu (wi (i + j))).fdiv (2 ^ min (Int.toNat 1) IntKind.u64.bits)))),(21,vb !Sp.corP ax ay az bx by_ bz m n c ((i + j).fdiv (2 ^ min (Int.toNat 1) IntKind.u64.bits)))],[],_,[],[pc 29 [vi (wi ((wu (wi (i + j))).fdiv (2 ^ min (Int.toNat 1) IntKind.u64.bits))),AV.eptr 3 [(zNzF1 ax ay az)] 0 0,AV.eptr 3 [(zNzF2 bx by_ bz)] 0 0,AV.eptr 1 [vi m] 0 0,AV.eptr 1 [vi n] 0 0,AV.eptr 1 [vi c] 0 0] (vb (Sp.corP ax ay az bx by_ bz m n c ((i + j).fdiv (2 ^ min (Int.toNat 1) IntKind.u64.bits))))]⟩ (by kernel_rfl) (bc (beq_t (i_dec.2 d2)) (bc rfl b0)) q0 (ce (by (try rw [w4]);(try rw [w6]);(try rw [w8]);all_goals exact (@ev29 (ax) (ay) (az) (bx) (by_) (bz) (m) (n) (c) ((i + j).fdiv (2 ^ min (Int.toNat 1) IntKind.u64.bits)) k9)) c0) ?_
  rcases xm (¬(Sp.corP ax ay az bx by_ bz m n c ((i + j).fdiv (2 ^ min (Int.toNat 1) IntKind.u64.bits)) = true)) with d11 | d11
  ·have H:=H.1 d11
   obtain ⟨k12,H⟩:=H
   have w13:wi ((i + j).fdiv (2 ^ min (Int.toNat 1) IntKind.u64.bits) + 1) = (i + j).fdiv (2 ^ min (Int.toNat 1) IntKind.u64.bits) + 1:=wI64 k12
   exact path_wp (G:=given kp28 [] []) 1000 [true] ⟨(atC (cd Tryz.f28) [1,1,0,0,0]),[(1,AV.func (Fn.func 29) [] [AV.eptr 3 [(zNzF1 ax ay az)] 0 0,AV.eptr 3 [(zNzF2 bx by_ bz)] 0 0,AV.eptr 1 [vi m] 0 0,AV.eptr 1 [vi n] 0 0,AV.eptr 1 [vi c] 0 0]),(5,vi (wi (wi ((wu (wi (i + j))).fdiv (2 ^ min (Int.toNat 1) IntKind.u64.bits)) + 1))),(6,vi j)],[],[(!Sp.corP ax ay az bx by_ bz m n c ((i + j).fdiv (2 ^ min (Int.toNat 1) IntKind.u64.bits))) == true],[],_⟩ (by kernel_rfl) (bc (beq_t ((i_not (i_var _)).2 d11)) b0) q0 c0 (by (try rw [w4]);(try rw [w6]);(try rw [w8]);(try rw [w13]);all_goals exact H)
  ·have H:=H.2 d11
   exact path_wp (G:=given kp28 [] []) 1000 [false] ⟨(atC (cd Tryz.f28) [1,1,0,0,0]),[(1,AV.func (Fn.func 29) [] [AV.eptr 3 [(zNzF1 ax ay az)] 0 0,AV.eptr 3 [(zNzF2 bx by_ bz)] 0 0,AV.eptr 1 [vi m] 0 0,AV.eptr 1 [vi n] 0 0,AV.eptr 1 [vi c] 0 0]),(5,vi i),(6,vi (wi ((wu (wi (i + j))).fdiv (2 ^ min (Int.toNat 1) IntKind.u64.bits))))],[],[(!Sp.corP ax ay az bx by_ bz m n c ((i + j).fdiv (2 ^ min (Int.toNat 1) IntKind.u64.bits))) == false],[],_⟩ (by kernel_rfl) (bc (beq_f (fun h => d11 ((i_not (i_var _)).1 h))) b0) q0 c0 (by (try rw [w4]);(try rw [w6]);(try rw [w8]);all_goals exact H)
 ·have H:=H.2 d2
  exact path_re (G:=given kp28 [] []) 1000 [false] (vi i) (by kernel_rfl) (bc (beq_f (fun h => d2 (i_dec.1 h))) b0) q0 c0 H
theorem kSeS (f g:Bool) (v a:Int) (r:Rat)  (dq:AV) (H :
  kSeSH_at (f) (g) (v) (a) (r) (0) (1000000000000) (PureQ dq)) :
 kSeS_at f g v a r (PureQ dq):=by
 unfold kSeS_at
 exact path_wp (G:=given kp28 [] []) 1000 [] ⟨(atC (cd Tryz.f28) [1,1,0,0,0]),[(1,AV.func (Fn.func 49) [] [AV.eptr 1 [vi v] 0 0,AV.eptr 1 [vi a] 0 0,AV.eptr 4 [ratA f g r] 0 0]),(5,vi 0),(6,vi 1000000000000)],[],_,[],_⟩ (by kernel_rfl) b0 q0 c0 (H)
theorem kSeSH (f g:Bool) (v a:Int) (r:Rat) (i j:Int)  (dq:AV) (H :
  ((i < j) -> (-9223372036854775808 <= i + j /\ i + j <= 9223372036854775807) /\
   (0 <= i + j /\ i + j <= 18446744073709551615) /\
   (-9223372036854775808 <= (i + j).fdiv (2 ^ min (Int.toNat 1) IntKind.u64.bits) /\ (i + j).fdiv (2 ^ min (Int.toNat 1) IntKind.u64.bits) <= 9223372036854775807) /\
   (Sp.okSt v a r /\ Sp.inS 1000000000000 ((i + j).fdiv (2 ^ min (Int.toNat 1) IntKind.u64.bits))) /\
   ((¬(Sp.strP v a r ((i + j).fdiv (2 ^ min (Int.toNat 1) IntKind.u64.bits)) = true)) -> (-9223372036854775808 <= (i + j).fdiv (2 ^ min (Int.toNat 1) IntKind.u64.bits) + 1 /\ (i + j).fdiv (2 ^ min (Int.toNat 1) IntKind.u64.bits) + 1 <= 9223372036854775807) /\
    kSeSH_at (f) (g) (v) (a) (r) ((i + j).fdiv (2 ^ min (Int.toNat 1) IntKind.u64.bits) + 1) (j) (PureQ dq)) /\
   (¬(¬(Sp.strP v a r ((i + j).fdiv (2 ^ min (Int.toNat 1) IntKind.u64.bits)) = true)) -> kSeSH_at (f) (g) (v) (a) (r) (i) ((i + j).fdiv (2 ^ min (Int.toNat 1) IntKind.u64.bits)) (PureQ dq))) /\
  (¬(i < j) -> vi i = dq)) :
 kSeSH_at f g v a r i j (PureQ dq):=by
 unfold kSeSH_at
 rcases xm (i < j) with d2 | d2
 ·have H:=H.1 d2
  obtain ⟨k3,H⟩:=H
  have w4:wi (i + j) = i + j:=wI64 k3
  obtain ⟨k5,H⟩:=H
  have w6:wu (i + j) = i + j:=wU64 k5
  obtain ⟨k7,H⟩:=H
  have w8:wi ((i + j).fdiv (2 ^ min (Int.toNat 1) IntKind.u64.bits)) = (i + j).fdiv (2 ^ min (Int.toNat 1) IntKind.u64.bits):=wI64 k7
  obtain ⟨k9,H⟩:=H
  refine path_wp (G:=given kp28 [(4,2,.call (vb (Sp.strP v a r ((i + j).fdiv (2 ^ min (Int.toNat 1) IntKind.u64.bits)))) none)] []) 10 [true] ⟨(atC (cd Tryz.f28) [1,1,0,0,0,1,0,1,1]),[(1,AV.func (Fn.func 49) [] [AV.eptr 1 [vi v] 0 0,AV.eptr 1 [vi a] 0 0,AV.eptr 4 [ratA f g r] 0 0]),(5,vi i),(6,vi j),(7,vi (wi ((wu (wi (i + j))).fdiv (2 ^ min (Int.toNat 1) IntKind.u64.bits)))),(21,vb !Sp.strP v a r ((i + j).fdiv (2 ^ min (Int.toNat 1) IntKind.u64.bits)))],[],_,[],[pc 49 [vi (wi ((wu (wi (i + j))).fdiv (2 ^ min (Int.toNat 1) IntKind.u64.bits))),AV.eptr 1 [vi v] 0 0,AV.eptr 1 [vi a] 0 0,AV.eptr 4 [ratA f g r] 0 0] (vb (Sp.strP v a r ((i + j).fdiv (2 ^ min (Int.toNat 1) IntKind.u64.bits))))]⟩ (by kernel_rfl) (bc (beq_t (i_dec.2 d2)) (bc rfl b0)) q0 (ce (by (try rw [w4]);(try rw [w6]);(try rw [w8]);all_goals exact (@ev49 (f) (g) (v) (a) ((i + j).fdiv (2 ^ min (Int.toNat 1) IntKind.u64.bits)) (r) k9)) c0) ?_
  rcases xm (¬(Sp.strP v a r ((i + j).fdiv (2 ^ min (Int.toNat 1) IntKind.u64.bits)) = true)) with d11 | d11
  ·have H:=H.1 d11
   obtain ⟨k12,H⟩:=H
   have w13:wi ((i + j).fdiv (2 ^ min (Int.toNat 1) IntKind.u64.bits) + 1) = (i + j).fdiv (2 ^ min (Int.toNat 1) IntKind.u64.bits) + 1:=wI64 k12
   exact path_wp (G:=given kp28 [] []) 1000 [true] ⟨(atC (cd Tryz.f28) [1,1,0,0,0]),[(1,AV.func (Fn.func 49) [] [AV.eptr 1 [vi v] 0 0,AV.eptr 1 [vi a] 0 0,AV.eptr 4 [ratA f g r] 0 0]),(5,vi (wi (wi ((wu (wi (i + j))).fdiv (2 ^ min (Int.toNat 1) IntKind.u64.bits)) + 1))),(6,vi j)],[],[(!Sp.strP v a r ((i + j).fdiv (2 ^ min (Int.toNat 1) IntKind.u64.bits))) == true],[],_⟩ (by kernel_rfl) (bc (beq_t ((i_not (i_var _)).2 d11)) b0) q0 c0 (by (try rw [w4]);(try rw [w6]);(try rw [w8]);(try rw [w13]);all_goals exact H)
  ·have H:=H.2 d11
   exact path_wp (G:=given kp28 [] []) 1000 [false] ⟨(atC (cd Tryz.f28) [1,1,0,0,0]),[(1,AV.func (Fn.func 49) [] [AV.eptr 1 [vi v] 0 0,AV.eptr 1 [vi a] 0 0,AV.eptr 4 [ratA f g r] 0 0]),(5,vi i),(6,vi (wi ((wu (wi (i + j))).fdiv (2 ^ min (Int.toNat 1) IntKind.u64.bits))))],[],[(!Sp.strP v a r ((i + j).fdiv (2 ^ min (Int.toNat 1) IntKind.u64.bits))) == false],[],_⟩ (by kernel_rfl) (bc (beq_f (fun h => d11 ((i_not (i_var _)).1 h))) b0) q0 c0 (by (try rw [w4]);(try rw [w6]);(try rw [w8]);all_goals exact H)
 ·have H:=H.2 d2
  exact path_re (G:=given kp28 [] []) 1000 [false] (vi i) (by kernel_rfl) (bc (beq_f (fun h => d2 (i_dec.1 h))) b0) q0 c0 H
end Go.Av

namespace Go.Av
open Go.Proofs
theorem half_fdiv {x:Int} (h:0 <= x):x.fdiv (2 ^ min (Int.toNat 1) IntKind.u64.bits) = x / 2:=by
 have e:(2:Int) ^ min (Int.toNat 1) IntKind.u64.bits = 2:=rfl
 rw [e,Int.fdiv_eq_ediv_of_nonneg x (by omega)]
theorem seC_loop {ax ay az bx by_ bz m n c:Int} {dq:AV} (h:Sp.okCr ax ay az bx by_ bz m n c):∀ (k:Nat) (i j:Int),j - i < 2 ^ k -> 0 <= i -> i <= j -> j <= 1000000 -> AV.int .i64 (Sp.bs (Sp.corP ax ay az bx by_ bz m n c) k i j) = dq -> kSeCH_at ax ay az bx by_ bz m n c i j (PureQ dq)
 | 0,i,j,hk,h0,h1,h2,hq => by
  refine kSeCH _ _ _ _ _ _ _ _ _ _ _ _ ⟨fun x => by omega,fun x => hq⟩
 | k + 1,i,j,hk,h0,h1,h2,hq => by
  by_cases x:i < j
  ·rw [Int.pow_succ] at hk
   refine kSeCH _ _ _ _ _ _ _ _ _ _ _ _ ⟨fun _ => ?_,fun y => absurd x y⟩
   rw [half_fdiv (by omega)]
   rw [bs_step x] at hq
   refine ⟨by omega,by omega,by omega,⟨h,by unfold Sp.inS;omega⟩,fun y => ⟨by omega,?_⟩,fun y => ?_⟩
   ·rw [(Bool.not_eq_true _).mp y,cond_false] at hq
    exact seC_loop h k _ _ (by omega) (by omega) (by omega) (by omega) hq
   ·rw [Classical.not_not.1 y,cond_true] at hq
    exact seC_loop h k _ _ (by omega) (by omega) (by omega) (by omega) hq
  ·rw [bs_done x] at hq
   exact kSeCH _ _ _ _ _ _ _ _ _ _ _ _ ⟨fun y => absurd y x,fun _ => hq⟩
theorem seS_loop {f g:Bool} {v a:Int} {r:Rat} {dq:AV} (h:Sp.okSt v a r):∀ (k:Nat) (i j:Int),j - i < 2 ^ k -> 0 <= i -> i <= j -> j <= 1000000000000 -> AV.int .i64 (Sp.bs (Sp.strP v a r) k i j) = dq -> kSeSH_at f g v a r i j (PureQ dq)
 | 0,i,j,hk,h0,h1,h2,hq => by
  refine kSeSH _ _ _ _ _ _ _ _ ⟨fun x => by omega,fun x => hq⟩
 | k + 1,i,j,hk,h0,h1,h2,hq => by
  by_cases x:i < j
  ·rw [Int.pow_succ] at hk
   refine kSeSH _ _ _ _ _ _ _ _ ⟨fun _ => ?_,fun y => absurd x y⟩
   rw [half_fdiv (by omega)]
   rw [bs_step x] at hq
   refine ⟨by omega,by omega,by omega,⟨h,by unfold Sp.inS;omega⟩,fun y => ⟨by omega,?_⟩,fun y => ?_⟩
   ·rw [(Bool.not_eq_true _).mp y,cond_false] at hq
    exact seS_loop h k _ _ (by omega) (by omega) (by omega) (by omega) hq
   ·rw [Classical.not_not.1 y,cond_true] at hq
    exact seS_loop h k _ _ (by omega) (by omega) (by omega) (by omega) hq
  ·rw [bs_done x] at hq
   exact kSeSH _ _ _ _ _ _ _ _ ⟨fun y => absurd y x,fun _ => hq⟩
namespace Sp
noncomputable def corV (ax ay az bx by_ bz m n c:Int):Int:=bs (corP ax ay az bx by_ bz m n c) 40 0 1000000
noncomputable def strV (v a:Int) (r:Rat):Int:=bs (strP v a r) 40 0 1000000000000
end Sp
theorem ev28_c (ax ay az bx by_ bz m n c:Int) (h:Sp.okCr ax ay az bx by_ bz m n c):Ev M1 (.pure 28 [.int .i64 1000000,.func (.func 29) [] [.eptr 3 [.agg [.int .i64 ax,.int .i64 ay,.int .i64 az]] 0 0,.eptr 3 [.agg [.int .i64 bx,.int .i64 by_,.int .i64 bz]] 0 0,.eptr 1 [.int .i64 m] 0 0,.eptr 1 [.int .i64 n] 0 0,.eptr 1 [.int .i64 c] 0 0]]) (.int .i64 (Sp.corV ax ay az bx by_ bz m n c)) []:=
 call28 (kSeC _ _ _ _ _ _ _ _ _ _ (seC_loop h 40 0 1000000 (by decide) (by decide) (by decide) (by decide) rfl))
theorem ev28_s (f g:Bool) (v a:Int) (r:Rat) (h:Sp.okSt v a r):Ev M1 (.pure 28 [.int .i64 1000000000000,.func (.func 49) [] [.eptr 1 [.int .i64 v] 0 0,.eptr 1 [.int .i64 a] 0 0,.eptr 4 [ratA f g r] 0 0]]) (.int .i64 (Sp.strV v a r)) []:=
 call28 (kSeS _ _ _ _ _ _ (seS_loop h 40 0 1000000000000 (by decide) (by decide) (by decide) (by decide) rfl))
end Go.Av

namespace Go.Av
open Go.Proofs
set_option maxRecDepth 100000
def fi8:Fi:=⟨35,[.tmp 6,.tmp 7]⟩
def kp8:List (Nat × List Nat):=[(0,[3,4,5]),(1,[3,4,5,11]),(2,[6,7]),(3,[3,4,5,15]),(4,[6,7]),(5,[3,4,5,8,9]),(6,[3,4,5,8,9,31]),(7,[6,7]),(8,[10]),(9,[6,7])]
def fi17:Fi:=⟨28,[.tmp 6,.tmp 7]⟩
def kp17:List (Nat × List Nat):=[(0,[0,4,5]),(1,[0,4,5,22]),(2,[6,7]),(3,[4,5,8]),(4,[9]),(5,[6,7])]
def kCorner_at (ax ay az bx by_ bz c:Int) (Q:AV -> Heap -> Prop):Prop:=Wp M1 (.run fi8 (atC (cd Tryz.f8) []) [(0,.agg [.int .i64 ax,.int .i64 ay,.int .i64 az]),(1,.agg [.int .i64 bx,.int .i64 by_,.int .i64 bz]),(2,.int .i64 c)] []) Q
def kStraight_at (n u v:Int) (Q:AV -> Heap -> Prop):Prop:=Wp M1 (.run fi17 (atC (cd Tryz.f17) []) [(0,.int .i64 n),(1,.int .i64 u),(2,.int .i64 v)] []) Q
theorem call8 {args:List AV} {d:AV} (h:wc M1 fi8 Tryz.f8 args d):Ev M1 (.pure 8 args) d []:=pcl _ _ (by kernel_rfl) h
theorem call17 {args:List AV} {d:AV} (h:wc M1 fi17 Tryz.f17 args d):Ev M1 (.pure 17 args) d []:=pcl _ _ (by kernel_rfl) h
noncomputable abbrev zNzG1 (bx:Int) (by_:Int) (bz:Int):=ag [vi bx,vi by_,vi bz]
noncomputable abbrev zNzG2 (ax:Int) (ay:Int) (az:Int):=ag [vi ax,vi ay,vi az]
theorem kCorner (ax ay az bx by_ bz c:Int)  (dq:AV) (H :
  ((¬(0 <= c /\ c <= 1000000)) -> tu [vi 0,vi 1] = dq) /\
  (¬(¬(0 <= c /\ c <= 1000000)) -> (((¬Sp.inP ax ay az) \/ (¬Sp.inP bx by_ bz)) -> tu [vi 0,vi 11] = dq) /\
   (¬((¬Sp.inP ax ay az) \/ (¬Sp.inP bx by_ bz)) -> (Sp.inQ ax /\ Sp.inQ ay /\ Sp.inQ az) /\
    (Sp.inQ bx /\ Sp.inQ by_ /\ Sp.inQ bz) /\
    (((Sp.sqr ax ay az = 0) \/ (Sp.sqr bx by_ bz = 0)) -> tu [vi 0,vi 6] = dq) /\
    (¬((Sp.sqr ax ay az = 0) \/ (Sp.sqr bx by_ bz = 0)) -> (Sp.okCr ax ay az bx by_ bz (Sp.sqr ax ay az) (Sp.sqr bx by_ bz) c) /\
     tu [vi (Sp.corV ax ay az bx by_ bz (Sp.sqr ax ay az) (Sp.sqr bx by_ bz) c),vi 0] = dq)))) :
 kCorner_at ax ay az bx by_ bz c (PureQ dq):=by
 unfold kCorner_at
 refine path_wp (G:=given kp8 [(1,1,.call (vb (decide (0 <= c /\ c <= 1000000))) none)] []) 6 [] ⟨(atC (cd Tryz.f8) [1,0,0,1]),[(3,AV.ptr 0 0 0 0),(4,AV.ptr 1 0 0 0),(5,AV.ptr 2 0 0 0),(11,vb !decide (0 <= c /\ c <= 1000000))],[⟨[(zNzG2 ax ay az)],3,0,false,false⟩,⟨[(zNzG1 bx by_ bz)],3,0,false,false⟩,⟨[vi c],1,0,false,false⟩],_,[],_⟩ (by kernel_rfl) (bc rfl b0) q0 (ce (@ev25 (c) (0) (1000000)) c0) ?_
 rcases xm (¬(0 <= c /\ c <= 1000000)) with d2 | d2
 ·have H:=H.1 d2
  exact path_re (G:=given kp8 [] []) 1000 [true] (tu [vi 0,vi 1]) (by kernel_rfl) (bc (beq_t ((i_not i_dec).2 d2)) b0) q0 c0 H
 ·have H:=H.2 d2
  refine path_wp (G:=given kp8 [(3,1,.call (vb (decide ¬Sp.inP ax ay az)) none),(3,4,.call (vb (decide ¬Sp.inP bx by_ bz)) none)] []) 3 [false] ⟨(atC (cd Tryz.f8) [1,0,0,1,1,1]),[(3,AV.ptr 0 0 0 0),(4,AV.ptr 1 0 0 0),(5,AV.ptr 2 0 0 0),(15,vb (bif decide ¬Sp.inP ax ay az then true else decide ¬Sp.inP bx by_ bz))],[⟨[(zNzG2 ax ay az)],3,0,false,false⟩,⟨[(zNzG1 bx by_ bz)],3,0,false,false⟩,⟨[vi c],1,0,false,false⟩],[(!decide (0 <= c /\ c <= 1000000)) == false,true,!((decide ¬Sp.inP ax ay az) == false && true) || true],[],[⟨true,false,26,[(zNzG2 ax ay az)],[],vb (decide ¬Sp.inP ax ay az),[]⟩,⟨(decide ¬Sp.inP ax ay az) == false && true && true,false,26,[(zNzG1 bx by_ bz)],[],vb (decide ¬Sp.inP bx by_ bz),[]⟩]⟩ (by kernel_rfl) (bc (beq_f (fun h => d2 ((i_not i_dec).1 h))) (bc rfl (bc (Bool.or_true _) b0))) q0 (cc (fun _ => (@ev26 (ax) (ay) (az))) (cc (fun hc => ((@ev26 (bx) (by_) (bz)):Ev M1 (Conf.pure 26 [(zNzG1 bx by_ bz)]) (vb (decide ¬Sp.inP bx by_ bz)) [])) c0)) ?_
  rcases xm ((¬Sp.inP ax ay az) \/ (¬Sp.inP bx by_ bz)) with d5 | d5
  ·have H:=H.1 d5
   exact path_re (G:=given kp8 [] []) 1000 [true] (tu [vi 0,vi 11]) (by kernel_rfl) (bc (beq_t ((i_bor i_dec i_dec).2 d5)) b0) q0 c0 H
  ·have H:=H.2 d5
   obtain ⟨k6,H⟩:=H
   obtain ⟨k7,H⟩:=H
   refine path_wp (G:=given kp8 [(5,1,.call (vi (Sp.sqr ax ay az)) none),(5,3,.call (vi (Sp.sqr bx by_ bz)) none)] []) 4 [false] ⟨(atC (cd Tryz.f8) [1,1,0]),[(3,AV.ptr 0 0 0 0),(4,AV.ptr 1 0 0 0),(5,AV.ptr 2 0 0 0),(15,vb (bif decide ¬Sp.inP ax ay az then true else decide ¬Sp.inP bx by_ bz))],[⟨[(zNzG2 ax ay az)],3,0,false,false⟩,⟨[(zNzG1 bx by_ bz)],3,0,false,false⟩,⟨[vi c],1,0,false,false⟩],_,[],_⟩ (by kernel_rfl) (bc (beq_f (fun h => d5 ((i_bor i_dec i_dec).1 h))) b0) q0 c0 (wp_both (G:=given kp8 [(5,1,.call (vi (Sp.sqr ax ay az)) none),(5,3,.call (vi (Sp.sqr bx by_ bz)) none)] []) [0,1,2,4,3] 4 (e1:=[(3,AV.ptr 0 0 0 0),(4,AV.ptr 1 0 0 0),(5,AV.ptr 2 0 0 0),(8,AV.ptr 3 0 0 0),(9,AV.ptr 4 0 0 0)]) (L1:=[⟨[(zNzG2 ax ay az)],3,0,false,false⟩,⟨[(zNzG1 bx by_ bz)],3,0,false,false⟩,⟨[vi c],1,0,false,false⟩,⟨[vi (Sp.sqr ax ay az)],1,0,false,false⟩,⟨[vi (Sp.sqr bx by_ bz)],1,0,false,false⟩]) (a:=[true,true,true,true]) (q:=[]) (cs:=[⟨true,false,27,[(zNzG2 ax ay az)],[],vi (Sp.sqr ax ay az),[]⟩,⟨true,false,27,[(zNzG1 bx by_ bz)],[],vi (Sp.sqr bx by_ bz),[]⟩]) (by kernel_rfl) (by kernel_rfl) (allB_cons rfl (allB_cons rfl (allB_cons rfl (allB_cons rfl allB_nil)))) allP_nil (allC_cons (fun _ => (@ev27 (ax) (ay) (az) k6)) (allC_cons (fun _ => (@ev27 (bx) (by_) (bz) k7)) allC_nil)) ?_)
   rcases xm ((Sp.sqr ax ay az = 0) \/ (Sp.sqr bx by_ bz = 0)) with d9 | d9
   ·have H:=H.1 d9
    exact path_re (G:=given kp8 [] []) 1000 [true] (asm:=[true,!((Sp.sqr ax ay az == 0) == false && true) || true,(bif Sp.sqr ax ay az == 0 then true else Sp.sqr bx by_ bz == 0) == true]) (tu [vi 0,vi 6]) (by kernel_rfl) (bc rfl (bc (Bool.or_true _) (bc (beq_t ((i_bor i_eq i_eq).2 d9)) b0))) q0 c0 H
   ·have H:=H.2 d9
    obtain ⟨k10,H⟩:=H
    exact path_re (G:=given kp8 [(8,1,.call (vi (Sp.corV ax ay az bx by_ bz (Sp.sqr ax ay az) (Sp.sqr bx by_ bz) c)) none)] []) 1000 [false] (asm:=[true,!((Sp.sqr ax ay az == 0) == false && true) || true,(bif Sp.sqr ax ay az == 0 then true else Sp.sqr bx by_ bz == 0) == false,true,true,true,true,true]) (tu [vi (Sp.corV ax ay az bx by_ bz (Sp.sqr ax ay az) (Sp.sqr bx by_ bz) c),vi 0]) (by kernel_rfl) (bc rfl (bc (Bool.or_true _) (bc (beq_f (fun h => d9 ((i_bor i_eq i_eq).1 h))) (bc rfl (bc rfl (bc rfl (bc rfl (bc rfl b0)))))))) q0 (ce (@ev28_c (ax) (ay) (az) (bx) (by_) (bz) (Sp.sqr ax ay az) (Sp.sqr bx by_ bz) (c) k10) c0) H
theorem kStraight (n u v:Int)  (dq:AV) (H :
  ((((¬(0 <= n /\ n <= 100000000)) \/ (¬(1 <= u /\ u <= 1000000))) \/ (¬(1 <= v /\ v <= 100000000))) -> tu [vi 0,vi 1] = dq) /\
  (¬(((¬(0 <= n /\ n <= 100000000)) \/ (¬(1 <= u /\ u <= 1000000))) \/ (¬(1 <= v /\ v <= 100000000))) -> (Sp.inI n) /\
   (Sp.okSt u v (Sp.qi n)) /\
   tu [vi (Sp.strV u v (Sp.qi n)),vi 0] = dq)) :
 kStraight_at n u v (PureQ dq):=by
 unfold kStraight_at
 refine path_wp (G:=given kp17 [(1,1,.call (vb (decide (0 <= n /\ n <= 100000000))) none),(1,5,.call (vb (decide (1 <= u /\ u <= 1000000))) none),(1,10,.call (vb (decide (1 <= v /\ v <= 100000000))) none)] []) 5 [] ⟨(atC (cd Tryz.f17) [1,0,1]),[(0,vi n),(4,AV.ptr 0 0 0 0),(5,AV.ptr 1 0 0 0),(22,vb (bif bif !decide (0 <= n /\ n <= 100000000) then true else !decide (1 <= u /\ u <= 1000000) then true else !decide (1 <= v /\ v <= 100000000)))],[⟨[vi u],1,0,false,false⟩,⟨[vi v],1,0,false,false⟩],[!((!decide (0 <= n /\ n <= 100000000)) == false && true) || true,!((bif !decide (0 <= n /\ n <= 100000000) then true else !decide (1 <= u /\ u <= 1000000)) == false && true) || true],[],[⟨true,false,25,[vi n,vi 0,vi 100000000],[],vb (decide (0 <= n /\ n <= 100000000)),[]⟩,⟨(!decide (0 <= n /\ n <= 100000000)) == false && true && true,false,25,[vi u,vi 1,vi 1000000],[],vb (decide (1 <= u /\ u <= 1000000)),[]⟩,⟨(bif !decide (0 <= n /\ n <= 100000000) then true else !decide (1 <= u /\ u <= 1000000)) == false && true && true,false,25,[vi v,vi 1,vi 100000000],[],vb (decide (1 <= v /\ v <= 100000000)),[]⟩]⟩ (by kernel_rfl) (bc (Bool.or_true _) (bc (Bool.or_true _) b0)) q0 (cc (fun _ => (@ev25 (n) (0) (100000000))) (cc (fun hc => ((@ev25 (u) (1) (1000000)):Ev M1 (Conf.pure 25 [vi u,vi 1,vi 1000000]) (vb (decide (1 <= u /\ u <= 1000000))) [])) (cc (fun hc => ((@ev25 (v) (1) (100000000)):Ev M1 (Conf.pure 25 [vi v,vi 1,vi 100000000]) (vb (decide (1 <= v /\ v <= 100000000))) [])) c0))) ?_
 rcases xm (((¬(0 <= n /\ n <= 100000000)) \/ (¬(1 <= u /\ u <= 1000000))) \/ (¬(1 <= v /\ v <= 100000000))) with d4 | d4
 ·have H:=H.1 d4
  exact path_re (G:=given kp17 [] []) 1000 [true] (tu [vi 0,vi 1]) (by kernel_rfl) (bc (beq_t ((i_bor (i_bor (i_not i_dec) (i_not i_dec)) (i_not i_dec)).2 d4)) b0) q0 c0 H
 ·have H:=H.2 d4
  obtain ⟨k5,H⟩:=H
  obtain ⟨k6,H⟩:=H
  exact path_re (G:=given kp17 [(3,1,.call (ratA false false (Sp.qi n)) none),(4,1,.call (vi (Sp.strV u v (Sp.qi n))) none)] []) 1000 [false] (tu [vi (Sp.strV u v (Sp.qi n)),vi 0]) (by kernel_rfl) (bc (beq_f (fun h => d4 ((i_bor (i_bor (i_not i_dec) (i_not i_dec)) (i_not i_dec)).1 h))) (bc rfl (bc rfl (bc rfl (bc rfl b0))))) q0 (ce (@ev35 (n) k5) (ce (@ev28_s (false) (false) (u) (v) (Sp.qi n) k6) c0)) H
end Go.Av

namespace Go.Av
open Go.Proofs
namespace Sp
def corE (ax ay az bx by_ bz c:Int):Int:=if isV c then (if inP ax ay az /\ inP bx by_ bz then (if sqr ax ay az = 0 \/ sqr bx by_ bz = 0 then 6 else 0) else 11) else 1
noncomputable def cor (ax ay az bx by_ bz c:Int):Int:=if corE ax ay az bx by_ bz c = 0 then corV ax ay az bx by_ bz (sqr ax ay az) (sqr bx by_ bz) c else 0
def isSt (n u v:Int):Prop:=isLen n /\ (1 <= u /\ u <= 1000000) /\ isAcc v
end Sp
instance (n u v:Int):Decidable (Sp.isSt n u v):=by unfold Sp.isSt;infer_instance
namespace Sp
def strE (n u v:Int):Int:=if isSt n u v then 0 else 1
noncomputable def str (n u v:Int):Int:=if isSt n u v then strV u v (qi n) else 0
end Sp
theorem okCr_of {ax ay az bx by_ bz c:Int} (h1:Sp.isV c) (h2:Sp.inP ax ay az /\ Sp.inP bx by_ bz) (h3:¬(Sp.sqr ax ay az = 0 \/ Sp.sqr bx by_ bz = 0)):Sp.okCr ax ay az bx by_ bz (Sp.sqr ax ay az) (Sp.sqr bx by_ bz) c /\ (Sp.inQ ax /\ Sp.inQ ay /\ Sp.inQ az) /\ Sp.inQ bx /\ Sp.inQ by_ /\ Sp.inQ bz:=by
 have q:=h2
 unfold Sp.inP Sp.inM at q
 have qa:Sp.inQ ax /\ Sp.inQ ay /\ Sp.inQ az:=by unfold Sp.inQ;omega
 have qb:Sp.inQ bx /\ Sp.inQ by_ /\ Sp.inQ bz:=by unfold Sp.inQ;omega
 have a:=sqr_bound qa.1 qa.2.1 qa.2.2
 have b:=sqr_bound qb.1 qb.2.1 qb.2.2
 exact ⟨⟨h2.1,h2.2,by unfold Sp.okQ;omega,by unfold Sp.okQ;omega,h1⟩,qa,qb⟩
theorem ev8 (ax ay az bx by_ bz c:Int):Ev M1 (.pure 8 [.agg [.int .i64 ax,.int .i64 ay,.int .i64 az],.agg [.int .i64 bx,.int .i64 by_,.int .i64 bz],.int .i64 c]) (.tup [.int .i64 (Sp.cor ax ay az bx by_ bz c),.int .i64 (Sp.corE ax ay az bx by_ bz c)]) []:=by
 refine call8 (kCorner _ _ _ _ _ _ _ _ ⟨fun x => ?_,fun x => ⟨fun y => ?_,fun y => ?_⟩⟩)
 ·have e:Sp.corE ax ay az bx by_ bz c = 1:=if_neg x
  unfold Sp.cor;rw [e];rfl
 ·have x:Sp.isV c:=Classical.not_not.1 x
  have e:Sp.corE ax ay az bx by_ bz c = 11:=by unfold Sp.corE;rw [if_pos x,if_neg fun z => y.elim (fun w => w z.1) fun w => w z.2]
  unfold Sp.cor;rw [e];rfl
 ·have x:Sp.isV c:=Classical.not_not.1 x
  have y:Sp.inP ax ay az /\ Sp.inP bx by_ bz:=⟨Classical.not_not.1 fun z => y (.inl z),Classical.not_not.1 fun z => y (.inr z)⟩
  have q:=y
  unfold Sp.inP Sp.inM at q
  refine ⟨by unfold Sp.inQ;omega,by unfold Sp.inQ;omega,fun z => ?_,fun z => ?_⟩
  ·have e:Sp.corE ax ay az bx by_ bz c = 6:=by unfold Sp.corE;rw [if_pos x,if_pos y,if_pos z]
   unfold Sp.cor;rw [e];rfl
  ·have e:Sp.corE ax ay az bx by_ bz c = 0:=by unfold Sp.corE;rw [if_pos x,if_pos y,if_neg z]
   unfold Sp.cor;rw [e,if_pos rfl]
   exact ⟨(okCr_of x y z).1,rfl⟩
theorem ev17 (n u v:Int):Ev M1 (.pure 17 [.int .i64 n,.int .i64 u,.int .i64 v]) (.tup [.int .i64 (Sp.str n u v),.int .i64 (Sp.strE n u v)]) []:=by
 have e:(((¬(0 <= n /\ n <= 100000000)) \/ (¬(1 <= u /\ u <= 1000000))) \/ (¬(1 <= v /\ v <= 100000000))) ↔ ¬Sp.isSt n u v:=by unfold Sp.isSt Sp.isLen Sp.isAcc;omega
 refine call17 (kStraight _ _ _ _ ⟨fun x => ?_,fun x => ?_⟩)
 ·unfold Sp.str Sp.strE
  rw [if_neg (e.1 x),if_neg (e.1 x)]
 ·have y:=Classical.not_not.1 (mt e.2 x)
  unfold Sp.str Sp.strE
  rw [if_pos y,if_pos y]
  have z:=y.1
  unfold Sp.isLen at z
  have i:Sp.inI n:=by unfold Sp.inI;omega
  exact ⟨i,⟨y.2.1,y.2.2,okT_R (okT_int i) (by omega)⟩,rfl⟩
end Go.Av

namespace Go.Av
open Go.Proofs
set_option maxRecDepth 100000
def fi24:Fi:=⟨6,[.cell 2 36]⟩
def kp24:List (Nat × List Nat):=[(0,[0,2]),(1,[2])]
def kWhole_at (n:Int) (Q:AV -> Heap -> Prop):Prop:=Wp M1 (.run fi24 (atC (cd Tryz.f24) []) [(0,.int .i64 n)] []) Q
theorem call24 {args:List AV} {d:AV} (h:wc M1 fi24 Tryz.f24 args d):Ev M1 (.pure 24 args) d []:=pcl _ _ (by kernel_rfl) h
theorem kWhole (n:Int)  (dq:AV) (H :
  (Sp.inI n) /\
  Weak (ratA false false (Sp.qi n)) dq) :
 kWhole_at n (PureQ dq):=by
 unfold kWhole_at
 obtain ⟨k1,H⟩:=H
 exact path_rq (G:=given kp24 [(1,1,.call (bigA false n) none),(1,2,.call (ratA false false (Sp.qi n)) none)] []) 1000 [] (ratA false false (Sp.qi n)) (by kernel_rfl) (bc rfl b0) q0 (ce (@ev57 (n) k1) (ce (@ev56 (false) (n)) c0)) H
end Go.Av

namespace Go.Av
open Go.Proofs
theorem ev24 (n:Int) (h:Sp.inI n):Ev M1 (.pure 24 [.int .i64 n]) (ratA false false (Sp.qi n)) []:=
 call24 (kWhole _ _ ⟨h,.refl _⟩)
theorem qf_lt {i j d:Int} (hd:0 < d) (h:i < j):Sp.qf i d < Sp.qf j d:=by
 rw [qf_div _ hd,qf_div _ hd,Rat.div_def,Rat.div_def]
 have p:0 < Sp.qi d:=qi_pos (by omega)
 have e:Sp.qi d * (Sp.qi d)⁻¹ = 1:=Rat.mul_inv_cancel _ (by grind)
 have k:Sp.qi i < Sp.qi j:=by rw [qi_eq,qi_eq];exact Rat.intCast_lt_intCast.2 h
 have q:0 < (Sp.qi d)⁻¹:=by
  rcases tri ((Sp.qi d)⁻¹) with t | t | t
  ·have:=mul_pp p (show 0 < -(Sp.qi d)⁻¹ by grind);grind
  ·rw [t] at e;grind
  ·exact t
 have:=mul_pp (show 0 < Sp.qi j - Sp.qi i by grind) q
 grind
theorem qf_zero (d:Int):Sp.qf 0 d = 0:=by rw [qf_eq];exact Rat.zero_divInt d
theorem qf_nn {i d:Int} (hd:0 < d) (h:0 <= i):0 <= Sp.qf i d:=by
 rcases Int.lt_or_eq_of_le h with k | k
 ·have:=qf_lt hd k;rw [qf_zero] at this;grind
 ·rw [<- k,qf_zero];grind
theorem reR_lt {i j v a:Int} (hv:1 <= v) (ha:1 <= a) (h0:0 <= i) (h:i < j):Sp.reR i v a < Sp.reR j v a:=
 rch_lt (qi_pos ha) (qi_pos hv) (qf_nn (by omega) h0) (qf_lt (by omega) h)
theorem reR_le {i j v a:Int} (hv:1 <= v) (ha:1 <= a) (h0:0 <= i) (h:i <= j):Sp.reR i v a <= Sp.reR j v a:=by
 rcases Int.lt_or_eq_of_le h with k | k
 ·have:=reR_lt hv ha h0 k;grind
 ·rw [k];grind
theorem ex_fast:Sp.fastV 0 500 1000 = 1000 /\ Sp.fastE 0 500 1000 = 0:=by
 have h:Sp.isV 0 /\ Sp.isLen 500 /\ Sp.isAcc 1000:=by unfold Sp.isV Sp.isLen Sp.isAcc;omega
 unfold Sp.fastV Sp.fastE
 rw [if_pos h,if_pos h]
 exact ⟨(sq_unique (by decide) (by decide) (by decide)).symm,rfl⟩
def exL:List Pt:=[⟨500,2000,600⟩,⟨500,2000,2000⟩]
theorem ex_valid:Sp.validE exL 1000 = 0:=by
 have h:Sp.okPts exL 1000:=⟨by unfold Sp.isAcc;omega,fun p hp => by
  simp only [exL,List.mem_cons,List.not_mem_nil,or_false] at hp
  rcases hp with rfl | rfl <;> (unfold Sp.okPt Sp.isLen Sp.isV;decide)⟩
 unfold Sp.validE
 rw [if_neg (by decide),if_pos h]
theorem ex_spds:Sp.spdV exL 1000 = [0,600,0]:=by
 rw [show Sp.spdV exL 1000 = Sp.spds exL 1000 from if_pos ex_valid]
 have e:Sp.sq (0 * 0 + 2 * 1000 * 500) = 1000:=(sq_unique (by decide) (by decide) (by decide)).symm
 have f1:Sp.spF exL 1000 1 = 600:=by
  show min (min (min (2000:Int) 600) 2000) (Sp.sq (0 * 0 + 2 * 1000 * 500)) = 600
  rw [e];decide
 have g1:Sp.spAt exL 1000 1 = 600:=by
  show min (Sp.spF exL 1000 1) (Sp.sq (0 * 0 + 2 * 1000 * 500)) = 600
  rw [e,f1];decide
 show [Sp.spAt exL 1000 0,Sp.spAt exL 1000 1,Sp.spAt exL 1000 exL.length] = _
 rw [spAt_zero,g1,spAt_end]
theorem qi1:Sp.qi 1 = 1:=by rw [qi_eq];rfl
theorem sgR_le {a:Rat}:Sp.sgR a <= 0 ↔ a <= 0:=by
 rcases tri a with k | k | k
 ·rw [sgR_neg k];constructor
  ·intro _;grind
  ·intro _;omega
 ·subst k;rw [sgR_zero];constructor
  ·intro _;grind
  ·intro _;omega
 ·rw [sgR_pos k];constructor
  ·intro h;omega
  ·intro h;grind
theorem alw_ex {v x y:Int} (h:x * y = 0) (k:Sp.alwA x y 1 1 = Sp.qi (x * x + y * y)):Sp.alw v x y 1 1 500 = decide ((x * x + y * y) * (v * v) <= 250000):=by
 have t:Sp.alwT x y * (Sp.qi v * Sp.qi v) = Sp.qi 0:=by
  unfold Sp.alwT
  rw [qi_mul x y,h,qi_0];grind
 unfold Sp.alw
 rw [t,sgO_b0,k,qi_mul,qi_mul,qi_mul]
 refine dec_iff ?_
 rw [sgR_le]
 have e:Sp.qi ((x * x + y * y) * (v * v)) + -Sp.qi (500 * 500) <= 0 ↔ Sp.qi ((x * x + y * y) * (v * v)) <= Sp.qi (500 * 500):=by constructor <;> intro _ <;> grind
 rw [e,qi_eq,qi_eq,Rat.intCast_le_intCast]
 exact Iff.rfl
theorem qf1 (n:Int):Sp.qf n 1 = Sp.qi n:=by rw [qf_div n (by omega),qi1,Rat.div_def];grind
theorem ex_cor:Sp.cor 1 0 0 0 1 0 500 = 500 /\ Sp.corE 1 0 0 0 1 0 500 = 0:=by
 have e:Sp.corE 1 0 0 0 1 0 500 = 0:=by
  unfold Sp.corE
  rw [if_pos (by unfold Sp.isV;omega),if_pos (by unfold Sp.inP Sp.inM;omega),if_neg (by decide)]
 refine ⟨?_,e⟩
 unfold Sp.cor
 rw [if_pos e]
 show Sp.corV 1 0 0 0 1 0 1 1 500 = 500
 have p:∀ i:Int,0 <= i -> Sp.corP 1 0 0 0 1 0 1 1 500 i = decide (500 <= i):=by
  intro i hi
  have a1:Sp.alwA 1 0 1 1 = Sp.qi (1 * 1 + 0 * 0):=by unfold Sp.alwA;rw [qf1,qf1];show Sp.qi 1 + Sp.qi 0 = Sp.qi 1;rw [qi_0];grind
  have a2:Sp.alwA 0 1 1 1 = Sp.qi (0 * 0 + 1 * 1):=by unfold Sp.alwA;rw [qf1,qf1];show Sp.qi 0 + Sp.qi 1 = Sp.qi 1;rw [qi_0];grind
  have a3:Sp.alwA 0 0 1 1 = Sp.qi (0 * 0 + 0 * 0):=by unfold Sp.alwA;rw [qf1];show Sp.qi 0 + Sp.qi 0 = Sp.qi 0;rw [qi_0];grind
  have s1:(1 * 1 + 0 * 0:Int) * ((i + 1) * (i + 1)) <= 250000 ↔ ¬500 <= i:=by
   have m1:500 <= i -> 501 * 501 <= (i + 1) * (i + 1):=fun k => sq_le_sq (by omega) (by omega)
   have m2:¬500 <= i -> (i + 1) * (i + 1) <= 500 * 500:=fun k => sq_le_sq (by omega) (by omega)
   omega
  have s2:(0 * 0 + 1 * 1:Int) * ((i + 1) * (i + 1)) <= 250000 ↔ ¬500 <= i:=s1
  have s3:(0 * 0 + 0 * 0:Int) * ((i + 1) * (i + 1)) <= 250000 ↔ True:=by
   rw [show (0 * 0 + 0 * 0:Int) = 0 from rfl,Int.zero_mul];decide
  unfold Sp.corP
  rw [alw_ex (by decide) a1,alw_ex (by decide) a2,alw_ex (by decide) a3,dec_iff s1,dec_iff s2,dec_iff s3]
  by_cases k:500 <= i <;> simp [k]
 obtain ⟨r0,r1,r2,r3⟩:=bs_all (p:=Sp.corP 1 0 0 0 1 0 1 1 500) (h:=1000000) (by decide) (by decide)
 unfold Sp.corV
 generalize Sp.bs (Sp.corP 1 0 0 0 1 0 1 1 500) 40 0 1000000 = r at *
 rw [p r r0] at r3
 have r2':r = 0 \/ ¬500 <= r - 1:=by
  rcases r2 with k | k
  ·exact .inl k
  ·by_cases z:r = 0
   ·exact .inl z
   ·rw [p (r - 1) (by omega)] at k
    exact .inr (of_decide_eq_false k)
 have r3':r = 1000000 \/ 500 <= r:=r3.imp id of_decide_eq_true
 omega
theorem ex_re:Sp.reR 2000 1000 1000 = Sp.qi 1000:=by
 have t:Sp.qf 2000 1000 = 2:=by rw [qf_eq];decide +kernel
 have e:Sp.qi 1000 = 1000:=by rw [qi_eq];rfl
 have i:(1000:Rat) * 1000⁻¹ = 1:=Rat.mul_inv_cancel _ (by decide +kernel)
 unfold Sp.reR Sp.rch
 rw [t,e,if_pos (by decide +kernel),Rat.div_def]
 grind
theorem ex_okRe:Sp.okRe 2000 1000 1000:=by unfold Sp.okRe Sp.isAcc;omega
theorem ex_str:Sp.str 1000 1000 1000 = 2000 /\ Sp.strE 1000 1000 1000 = 0:=by
 have h:Sp.isSt 1000 1000 1000:=by unfold Sp.isSt Sp.isLen Sp.isAcc;omega
 unfold Sp.str Sp.strE
 rw [if_pos h,if_pos h]
 refine ⟨?_,rfl⟩
 obtain ⟨r0,r1,r2,r3⟩:=bs_all (p:=Sp.strP 1000 1000 (Sp.qi 1000)) (h:=1000000000000) (by decide) (by decide)
 unfold Sp.strV
 generalize Sp.bs (Sp.strP 1000 1000 (Sp.qi 1000)) 40 0 1000000000000 = r at *
 unfold Sp.strP at r2 r3
 have a:¬r < 2000:=fun k => by
  rcases r3 with z | z
  ·omega
  ·have:=of_decide_eq_true z
   have:=reR_lt (v:=1000) (a:=1000) (by omega) (by omega) r0 k
   rw [ex_re] at this
   grind
 have b:¬2000 < r:=fun k => by
  rcases r2 with z | z
  ·omega
  ·have:=of_decide_eq_false z
   have:=reR_le (v:=1000) (a:=1000) (i:=2000) (j:=r - 1) (by omega) (by omega) (by omega) (by omega)
   rw [ex_re] at this
   grind
 omega
end Go.Av

namespace Go.Av
open Go.Proofs
set_option maxRecDepth 100000
def fi7:Fi:=⟨76,[.tmp 0]⟩
def kp7:List (Nat × List Nat):=[(0,[]),(1,[1,2]),(2,[1,2,3,4]),(3,[1,2,3,4,5,6]),(4,[1,2,3,4,5,6,7,8]),(5,[1,2,3,4,5,6,7,8,9,10]),(6,[0])]
def kAwake_at  (Q:AV -> Heap -> Prop):Prop:=Wp M1 (.run fi7 (atC (cd Tryz.f7) []) [] []) Q
theorem call7 {args:List AV} {d:AV} (h:wc M1 fi7 Tryz.f7 args d):Ev M1 (.pure 7 args) d []:=pcl _ _ (by kernel_rfl) h
noncomputable abbrev zNzJ1:=ag [vb (Sp.isNeg (Sp.reR 2000 1000 1000).num),vf (us (Sp.limI (Sp.reR 2000 1000 1000).num)),vb false,vf (us (Sp.limI (↑(Sp.reR 2000 1000 1000).den:Int)))]
noncomputable abbrev zNzJ2 (n1:Int) (b3:Bool):=bif bif bif bif bif bif n1 == 0 then true else false then false else false then true else false then Sp.fastV 0 500 1000 == 1000 else false then b3 else false then Sp.cor 1 0 0 0 1 0 500 == 500 else false
noncomputable abbrev zNzJ3 (n1:Int) (b1:Bool):=bif bif bif bif bif bif n1 == 0 then true else false then true else false then true else false then Sp.fastV 0 500 1000 == 1000 else false then b1 else false then Sp.cor 1 0 0 0 1 0 500 == 500 else false
noncomputable abbrev zNzJ4:=ag [vb false,vf [],vb false,vf []]
noncomputable abbrev zNzJ5:=tu [vi (Sp.cor 1 0 0 0 1 0 500),vi 0]
noncomputable abbrev zNzJ6:=tu [vi (Sp.str 1000 1000 1000),vi 0]
noncomputable abbrev zNzJ7:=tu [vi (Sp.fastV 0 500 1000),vi 0]
noncomputable abbrev zNzJ8 (l1:List (Int)) (n1:Int):=tu [vf (List.map (vi) l1),vi n1]
theorem kAwake   (dq:AV) (H :
  ∃ (l1:List (Int)) (n1:Int),
  (Ev M1 (Conf.pure 22 [AV.vec true 3 [ag [vi 500,vi 2000,vi 600],ag [vi 500,vi 2000,vi 2000]],vi 1000]) (tu [vf (List.map (vi) l1),vi n1]) []) /\
  ((Sp.okRe 2000 1000 1000) -> ∃ (b1:Bool),
   ((((((n1 = 0) \/ (false = true)) \/ (false = true)) \/ (false = true)) /\ (Sp.fastV 0 500 1000 = 1000)) -> (Ev M1 (Conf.pure 23 [vf (List.map (vi) l1),AV.vec true 1 [vi 0,vi 600,vi 0]]) (vb b1) [])) /\
   ((((((((n1 = 0) \/ (false = true)) \/ (false = true)) \/ (false = true)) /\ (Sp.fastV 0 500 1000 = 1000)) /\ (b1 = true)) /\ (Sp.cor 1 0 0 0 1 0 500 = 500)) -> (Sp.inI 1000)) /\
   ∃ (b2:Bool),
   ((((((((n1 = 0) \/ (false = true)) \/ (false = true)) \/ (false = true)) /\ (Sp.fastV 0 500 1000 = 1000)) /\ (b1 = true)) /\ (Sp.cor 1 0 0 0 1 0 500 = 500)) -> (Ev M1 (Conf.pure 15 [ag [vb (Sp.isNeg (Sp.reR 2000 1000 1000).num),vf (us (Sp.limI (Sp.reR 2000 1000 1000).num)),vb false,vf (us (Sp.limI (↑(Sp.reR 2000 1000 1000).den:Int)))],ratA false false (Sp.qi 1000)]) (vb b2) [])) /\
   vb (bif bif bif bif bif bif bif bif n1 == 0 then true else false then true else false then true else false then Sp.fastV 0 500 1000 == 1000 else false then b1 else false then Sp.cor 1 0 0 0 1 0 500 == 500 else false then b2 else false then Sp.str 1000 1000 1000 == 2000 else false) = dq) /\
  (¬(Sp.okRe 2000 1000 1000) -> ∃ (b3:Bool),
   ((((((n1 = 0) \/ (false = true)) /\ (false = true)) \/ (false = true)) /\ (Sp.fastV 0 500 1000 = 1000)) -> (Ev M1 (Conf.pure 23 [vf (List.map (vi) l1),AV.vec true 1 [vi 0,vi 600,vi 0]]) (vb b3) [])) /\
   ((((((((n1 = 0) \/ (false = true)) /\ (false = true)) \/ (false = true)) /\ (Sp.fastV 0 500 1000 = 1000)) /\ (b3 = true)) /\ (Sp.cor 1 0 0 0 1 0 500 = 500)) -> (Sp.inI 1000)) /\
   ∃ (b4:Bool),
   ((((((((n1 = 0) \/ (false = true)) /\ (false = true)) \/ (false = true)) /\ (Sp.fastV 0 500 1000 = 1000)) /\ (b3 = true)) /\ (Sp.cor 1 0 0 0 1 0 500 = 500)) -> (Ev M1 (Conf.pure 15 [ag [vb false,vf [],vb false,vf []],ratA false false (Sp.qi 1000)]) (vb b4) [])) /\
   vb (bif bif bif bif bif bif bif bif n1 == 0 then true else false then false else false then true else false then Sp.fastV 0 500 1000 == 1000 else false then b3 else false then Sp.cor 1 0 0 0 1 0 500 == 500 else false then b4 else false then Sp.str 1000 1000 1000 == 2000 else false) = dq)) :
 kAwake_at  (PureQ dq):=by
 unfold kAwake_at
 obtain ⟨l1,n1,H⟩:=H
 obtain ⟨k1,H⟩:=H
 rcases xm (Sp.okRe 2000 1000 1000) with d2 | d2
 ·have H:=H.1 d2
  obtain ⟨b1,H⟩:=H
  obtain ⟨k4,H⟩:=H
  obtain ⟨k6,H⟩:=H
  obtain ⟨b2,H⟩:=H
  obtain ⟨k8,H⟩:=H
  exact path_re (G:=given kp7 [(1,0,.call (zNzJ7) none),(2,3,.call ((zNzJ8 l1 n1)) none),(3,2,.call (zNzJ5) none),(4,0,.call (tu [zNzJ1,vi 0]) none),(5,0,.call (zNzJ6) none),(6,25,.call (vb b1) none),(6,33,.call (ratA false false (Sp.qi 1000)) none),(6,34,.call (vb b2) none)] []) 1000 [] (asm:=[true,!((zNzJ3 n1 b1) == true && true) || true]) (calls:=[⟨true,false,21,[vi 0,vi 500,vi 1000],[],zNzJ7,[]⟩,⟨true,false,22,[AV.vec true 3 [ag [vi 500,vi 2000,vi 600],ag [vi 500,vi 2000,vi 2000]],vi 1000],[],(zNzJ8 l1 n1),[]⟩,⟨true,false,8,[ag [vi 1,vi 0,vi 0],ag [vi 0,vi 1,vi 0],vi 500],[],zNzJ5,[]⟩,⟨true,false,12,[vi 2000,vi 1000,vi 1000],[],tu [zNzJ1,vi 0],[]⟩,⟨true,false,17,[vi 1000,vi 1000,vi 1000],[],zNzJ6,[]⟩,⟨(bif bif bif bif n1 == 0 then true else false then true else false then true else false then Sp.fastV 0 500 1000 == 1000 else false) == true && true && true,false,23,[vf (List.map (vi) l1),AV.vec true 1 [vi 0,vi 600,vi 0]],[],vb b1,[]⟩,⟨(zNzJ3 n1 b1) == true && true && true,false,24,[vi 1000],[],ratA false false (Sp.qi 1000),[]⟩,⟨(zNzJ3 n1 b1) == true && true && true,false,15,[zNzJ1,ratA false false (Sp.qi 1000)],[],vb b2,[]⟩]) (vb (bif bif bif bif bif bif bif bif n1 == 0 then true else false then true else false then true else false then Sp.fastV 0 500 1000 == 1000 else false then b1 else false then Sp.cor 1 0 0 0 1 0 500 == 500 else false then b2 else false then Sp.str 1000 1000 1000 == 2000 else false)) (by kernel_rfl) (bc rfl (bc (Bool.or_true _) b0)) q0 (cc (fun _ => (@ev21 (0) (500) (1000))) (cc (fun _ => k1) (cc (fun _ => (@ev8 (1) (0) (0) (0) (1) (0) (500))) (cc (fun _ => (@ev12_y (2000) (1000) (1000) d2)) (cc (fun _ => (@ev17 (1000) (1000) (1000))) (cc (fun hc => ((k4 ((i_at (i_at (i_bt (i_band (i_bor (i_bor (i_bor i_eq (i_var _)) (i_var _)) (i_var _)) i_eq)))).1 hc)):Ev M1 (Conf.pure 23 [vf (List.map (vi) l1),AV.vec true 1 [vi 0,vi 600,vi 0]]) (vb b1) [])) (cc (fun hc => ((@ev24 (1000) (k6 ((i_at (i_at (i_bt (i_band (i_band (i_band (i_bor (i_bor (i_bor i_eq (i_var _)) (i_var _)) (i_var _)) i_eq) (i_var _)) i_eq)))).1 hc))):Ev M1 (Conf.pure 24 [vi 1000]) (ratA false false (Sp.qi 1000)) [])) (cc (fun hc => ((k8 ((i_at (i_at (i_bt (i_band (i_band (i_band (i_bor (i_bor (i_bor i_eq (i_var _)) (i_var _)) (i_var _)) i_eq) (i_var _)) i_eq)))).1 hc)):Ev M1 (Conf.pure 15 [zNzJ1,ratA false false (Sp.qi 1000)]) (vb b2) [])) c0)))))))) H
 ·have H:=H.2 d2
  obtain ⟨b3,H⟩:=H
  obtain ⟨k10,H⟩:=H
  obtain ⟨k12,H⟩:=H
  obtain ⟨b4,H⟩:=H
  obtain ⟨k14,H⟩:=H
  exact path_re (G:=given kp7 [(1,0,.call (zNzJ7) none),(2,3,.call ((zNzJ8 l1 n1)) none),(3,2,.call (zNzJ5) none),(4,0,.call (tu [zNzJ4,vi 1]) none),(5,0,.call (zNzJ6) none),(6,25,.call (vb b3) none),(6,33,.call (ratA false false (Sp.qi 1000)) none),(6,34,.call (vb b4) none)] []) 1000 [] (asm:=[true,!((zNzJ2 n1 b3) == true && true) || true]) (calls:=[⟨true,false,21,[vi 0,vi 500,vi 1000],[],zNzJ7,[]⟩,⟨true,false,22,[AV.vec true 3 [ag [vi 500,vi 2000,vi 600],ag [vi 500,vi 2000,vi 2000]],vi 1000],[],(zNzJ8 l1 n1),[]⟩,⟨true,false,8,[ag [vi 1,vi 0,vi 0],ag [vi 0,vi 1,vi 0],vi 500],[],zNzJ5,[]⟩,⟨true,false,12,[vi 2000,vi 1000,vi 1000],[],tu [zNzJ4,vi 1],[]⟩,⟨true,false,17,[vi 1000,vi 1000,vi 1000],[],zNzJ6,[]⟩,⟨(bif bif bif bif n1 == 0 then true else false then false else false then true else false then Sp.fastV 0 500 1000 == 1000 else false) == true && true && true,false,23,[vf (List.map (vi) l1),AV.vec true 1 [vi 0,vi 600,vi 0]],[],vb b3,[]⟩,⟨(zNzJ2 n1 b3) == true && true && true,false,24,[vi 1000],[],ratA false false (Sp.qi 1000),[]⟩,⟨(zNzJ2 n1 b3) == true && true && true,false,15,[zNzJ4,ratA false false (Sp.qi 1000)],[],vb b4,[]⟩]) (vb (bif bif bif bif bif bif bif bif n1 == 0 then true else false then false else false then true else false then Sp.fastV 0 500 1000 == 1000 else false then b3 else false then Sp.cor 1 0 0 0 1 0 500 == 500 else false then b4 else false then Sp.str 1000 1000 1000 == 2000 else false)) (by kernel_rfl) (bc rfl (bc (Bool.or_true _) b0)) q0 (cc (fun _ => (@ev21 (0) (500) (1000))) (cc (fun _ => k1) (cc (fun _ => (@ev8 (1) (0) (0) (0) (1) (0) (500))) (cc (fun _ => (@ev12_n (2000) (1000) (1000) d2)) (cc (fun _ => (@ev17 (1000) (1000) (1000))) (cc (fun hc => ((k10 ((i_at (i_at (i_bt (i_band (i_bor (i_band (i_bor i_eq (i_var _)) (i_var _)) (i_var _)) i_eq)))).1 hc)):Ev M1 (Conf.pure 23 [vf (List.map (vi) l1),AV.vec true 1 [vi 0,vi 600,vi 0]]) (vb b3) [])) (cc (fun hc => ((@ev24 (1000) (k12 ((i_at (i_at (i_bt (i_band (i_band (i_band (i_bor (i_band (i_bor i_eq (i_var _)) (i_var _)) (i_var _)) i_eq) (i_var _)) i_eq)))).1 hc))):Ev M1 (Conf.pure 24 [vi 1000]) (ratA false false (Sp.qi 1000)) [])) (cc (fun hc => ((k14 ((i_at (i_at (i_bt (i_band (i_band (i_band (i_bor (i_band (i_bor i_eq (i_var _)) (i_var _)) (i_var _)) i_eq) (i_var _)) i_eq)))).1 hc)):Ev M1 (Conf.pure 15 [zNzJ4,ratA false false (Sp.qi 1000)]) (vb b4) [])) c0)))))))) H
end Go.Av

namespace Go.Av
open Go.Proofs
theorem ev7:Ev M1 (.pure 7 []) (.bool true) []:=by
 have s:=ev22 true exL 1000
 rw [ex_valid,ex_spds] at s
 have q:=ev23 false true [0,600,0] [0,600,0] (by decide)
 rw [decide_eq_true rfl] at q
 have k:=ev15 false false false false (Sp.reR 2000 1000 1000) (Sp.qi 1000) ⟨okT_R (okT_re ex_okRe) (by omega),okT_R (okT_int (by unfold Sp.inI;omega)) (by omega)⟩
 rw [decide_eq_true ex_re] at k
 refine call7 (kAwake _ ⟨[0,600,0],0,s,fun _ => ⟨true,fun _ => q,fun _ => by unfold Sp.inI;omega,true,fun _ => k,?_⟩,fun x => absurd ex_okRe x⟩)
 rw [ex_fast.1,ex_cor.1,ex_str.1]
 rfl
end Go.Av

namespace Go.Av
open Go.Proofs
set_option maxRecDepth 100000
end Go.Av

namespace Go.Av
open Go.Proofs
end Go.Av

namespace Go.Av
open Go.Proofs
set_option maxRecDepth 100000
def fi41:Fi:=⟨40,[.cell 6 36]⟩
def kp41:List (Nat × List Nat):=[(0,[0,1,2,6]),(1,[6,7,8,9]),(2,[6,7,8,9,23]),(3,[6]),(4,[6])]
def kReachR_at (t v a:Int) (Q:AV -> Heap -> Prop):Prop:=Wp M1 (.run fi41 (atC (cd Tryz.f41) []) [(0,.int .i64 t),(1,.int .i64 v),(2,.int .i64 a)] []) Q
theorem call41 {args:List AV} {d:AV} (h:wc M1 fi41 Tryz.f41 args d):Ev M1 (.pure 41 args) d []:=pcl _ _ (by kernel_rfl) h
noncomputable abbrev zNzH3 (t:Int) (a:Int) (v:Int):=Sp.sgnI ((Sp.qf t 1000 * Sp.qi a).num * (↑(Sp.qi v + Sp.qi v).den:Int) - (Sp.qi v + Sp.qi v).num * (↑(Sp.qf t 1000 * Sp.qi a).den:Int)) >= 0
theorem kReachR (t v a:Int)  (dq:AV) (H :
  (Sp.okF t 1000) /\
  (Sp.inI v) /\
  (Sp.inI a) /\
  (Sp.okR (Sp.qf t 1000) /\ Sp.okR (Sp.qi a)) /\
  (Sp.okR (Sp.qi v) /\ Sp.okR (Sp.qi v)) /\
  (Sp.okR (Sp.qf t 1000 * Sp.qi a) /\ Sp.okR (Sp.qi v + Sp.qi v)) /\
  ((Sp.sgnI ((Sp.qf t 1000 * Sp.qi a).num * (↑(Sp.qi v + Sp.qi v).den:Int) - (Sp.qi v + Sp.qi v).num * (↑(Sp.qf t 1000 * Sp.qi a).den:Int)) >= 0) -> (Sp.okR (Sp.qi v) /\ Sp.okR (Sp.qf t 1000)) /\
   (Sp.okR (Sp.qi v * Sp.qi v) /\ Sp.okR (Sp.qi a) /\ (Sp.qi a).num ≠ 0) /\
   (Sp.okR (Sp.qi v * Sp.qf t 1000) /\ Sp.okR (Sp.qi v * Sp.qi v / Sp.qi a)) /\
   Weak (ratA false false (Sp.qi v * Sp.qf t 1000 - Sp.qi v * Sp.qi v / Sp.qi a)) dq) /\
  (¬(Sp.sgnI ((Sp.qf t 1000 * Sp.qi a).num * (↑(Sp.qi v + Sp.qi v).den:Int) - (Sp.qi v + Sp.qi v).num * (↑(Sp.qf t 1000 * Sp.qi a).den:Int)) >= 0) -> (Sp.okF 1 4) /\
   (Sp.okR (Sp.qi a) /\ Sp.okR (Sp.qf 1 4)) /\
   (Sp.okR (Sp.qf t 1000) /\ Sp.okR (Sp.qf t 1000)) /\
   (Sp.okR (Sp.qi a * Sp.qf 1 4) /\ Sp.okR (Sp.qf t 1000 * Sp.qf t 1000)) /\
   Weak (ratA false false (Sp.qi a * Sp.qf 1 4 * (Sp.qf t 1000 * Sp.qf t 1000))) dq)) :
 kReachR_at t v a (PureQ dq):=by
 unfold kReachR_at
 obtain ⟨k1,H⟩:=H
 obtain ⟨k2,H⟩:=H
 obtain ⟨k3,H⟩:=H
 obtain ⟨k4,H⟩:=H
 obtain ⟨k5,H⟩:=H
 obtain ⟨k6,H⟩:=H
 refine path_wp (G:=given kp41 [(1,1,.call (ratA false false (Sp.qf t 1000)) none),(1,3,.call (ratA false false (Sp.qi v)) none),(1,5,.call (ratA false false (Sp.qi a)) none),(2,2,.call (ratA false false (Sp.qf t 1000 * Sp.qi a)) none),(2,5,.call (ratA false false (Sp.qi v + Sp.qi v)) none),(2,6,.call (vi (Sp.sgnI ((Sp.qf t 1000 * Sp.qi a).num * (↑(Sp.qi v + Sp.qi v).den:Int) - (Sp.qi v + Sp.qi v).num * (↑(Sp.qf t 1000 * Sp.qi a).den:Int)))) none)] []) 7 [] ⟨(atC (cd Tryz.f41) [1,1,0,1]),[(6,AV.ptr 0 0 0 0),(7,AV.ptr 1 0 0 0),(8,AV.ptr 2 0 0 0),(9,AV.ptr 3 0 0 0),(23,vb (decide (zNzH3 t a v)))],[⟨[ag [vb false,AV.vnil,vb false,AV.vnil]],4,0,false,false⟩,⟨[ratA false false (Sp.qf t 1000)],4,0,false,false⟩,⟨[ratA false false (Sp.qi v)],4,0,false,false⟩,⟨[ratA false false (Sp.qi a)],4,0,false,false⟩],_,[],_⟩ (by kernel_rfl) (bc rfl (bc rfl (bc rfl (bc rfl (bc rfl (bc rfl (bc rfl b0))))))) q0 (ce (@ev79 (t) (1000) k1) (ce (@ev51 (v) k2) (ce (@ev51 (a) k3) (ce (@ev68 (false) (false) (false) (false) (Sp.qf t 1000) (Sp.qi a) k4) (ce (@ev65 (false) (false) (false) (false) (Sp.qi v) (Sp.qi v) k5) (ce (@ev16 (false) (false) (false) (false) (Sp.qf t 1000 * Sp.qi a) (Sp.qi v + Sp.qi v) k6) c0)))))) ?_
 rcases xm (zNzH3 t a v) with d8 | d8
 ·have H:=H.1 d8
  obtain ⟨k9,H⟩:=H
  obtain ⟨k10,H⟩:=H
  obtain ⟨k11,H⟩:=H
  exact path_rq (G:=given kp41 [(3,2,.call (ratA false false (Sp.qi v * Sp.qf t 1000)) none),(3,5,.call (ratA false false (Sp.qi v * Sp.qi v)) none),(3,7,.call (ratA false false (Sp.qi v * Sp.qi v / Sp.qi a)) none),(3,8,.call (ratA false false (Sp.qi v * Sp.qf t 1000 - Sp.qi v * Sp.qi v / Sp.qi a)) none)] []) 1000 [true] (ratA false false (Sp.qi v * Sp.qf t 1000 - Sp.qi v * Sp.qi v / Sp.qi a)) (by kernel_rfl) (bc (beq_t (i_dec.2 d8)) (bc rfl (bc rfl (bc rfl (bc rfl (bc rfl (bc rfl b0))))))) q0 (ce (@ev68 (false) (false) (false) (false) (Sp.qi v) (Sp.qf t 1000) k9) (ce (@ev68 (false) (false) (false) (false) (Sp.qi v) (Sp.qi v) k5) (ce (@ev66 (false) (false) (false) (false) (Sp.qi v * Sp.qi v) (Sp.qi a) k10) (ce (@ev67 (false) (false) (false) (false) (Sp.qi v * Sp.qf t 1000) (Sp.qi v * Sp.qi v / Sp.qi a) k11) c0)))) H
 ·have H:=H.2 d8
  obtain ⟨k12,H⟩:=H
  obtain ⟨k13,H⟩:=H
  obtain ⟨k14,H⟩:=H
  obtain ⟨k15,H⟩:=H
  exact path_rq (G:=given kp41 [(4,1,.call (ratA false false (Sp.qf 1 4)) none),(4,2,.call (ratA false false (Sp.qi a * Sp.qf 1 4)) none),(4,5,.call (ratA false false (Sp.qf t 1000 * Sp.qf t 1000)) none),(4,6,.call (ratA false false (Sp.qi a * Sp.qf 1 4 * (Sp.qf t 1000 * Sp.qf t 1000))) none)] []) 1000 [false] (ratA false false (Sp.qi a * Sp.qf 1 4 * (Sp.qf t 1000 * Sp.qf t 1000))) (by kernel_rfl) (bc (beq_f (fun h => d8 (i_dec.1 h))) (bc rfl (bc rfl (bc rfl (bc rfl b0))))) q0 (ce (@ev79 (1) (4) k12) (ce (@ev68 (false) (false) (false) (false) (Sp.qi a) (Sp.qf 1 4) k13) (ce (@ev68 (false) (false) (false) (false) (Sp.qf t 1000) (Sp.qf t 1000) k14) (ce (@ev68 (false) (false) (false) (false) (Sp.qi a * Sp.qf 1 4) (Sp.qf t 1000 * Sp.qf t 1000) k15) c0)))) H
end Go.Av

namespace Go.Av
open Go.Proofs
theorem ev41 (t v a:Int) (k:Sp.okRe t v a):Ev M1 (.pure 41 [.int .i64 t,.int .i64 v,.int .i64 a]) (ratA false false (Sp.reR t v a)) []:=by
 obtain ⟨h1,h2,h3⟩:=k
 unfold Sp.isAcc at h3
 have ia:Sp.inI a:=by unfold Sp.inI;omega
 have iv:Sp.inI v:=by unfold Sp.inI;omega
 have ft:Sp.okF t 1000:=⟨by unfold Sp.inI;omega,by unfold Sp.inI;omega,by omega⟩
 have f4:Sp.okF 1 4:=⟨by unfold Sp.inI;omega,by unfold Sp.inI;omega,by omega⟩
 have qt:=okT_qf ft
 have qv:=okT_int iv
 have qa:=okT_int ia
 have pa:=qi_pos h3.1
 have na:(Sp.qi a).num ≠ 0:=fun e => by rw [Rat.num_eq_zero] at e;grind
 refine call41 (kReachR _ _ _ _ ⟨ft,iv,ia,⟨okT_R qt (by omega),okT_R qa (by omega)⟩,⟨okT_R qv (by omega),okT_R qv (by omega)⟩,⟨okT_R (okT_mul qt qa) (by omega),okT_R (okT_add qv qv) (by omega)⟩,fun x => ?_,fun x => ?_⟩)
 ·rw [cmp_ge] at x
  rw [show Sp.reR t v a = Sp.qi v * Sp.qf t 1000 - Sp.qi v * Sp.qi v / Sp.qi a by unfold Sp.reR Sp.rch;rw [if_pos x]]
  exact ⟨⟨okT_R qv (by omega),okT_R qt (by omega)⟩,⟨okT_R (okT_mul qv qv) (by omega),okT_R qa (by omega),na⟩,⟨okT_R (okT_mul qv qt) (by omega),okT_R (okT_div (okT_mul qv qv) qa na) (by omega)⟩,.refl _⟩
 ·rw [cmp_ge] at x
  have e:Sp.qi a * Sp.qf 1 4 = Sp.qf a 4:=by
   rw [qf_div _ (by omega),qf_div _ (by omega),Rat.div_def,Rat.div_def,qi1];grind
  rw [reach_n x,e]
  refine ⟨f4,⟨okT_R qa (by omega),okT_R (okT_qf f4) (by omega)⟩,⟨okT_R qt (by omega),okT_R qt (by omega)⟩,⟨?_,okT_R (okT_mul qt qt) (by omega)⟩,.refl _⟩
  exact okT_R (okT_qf (show Sp.okF a 4 from ⟨ia,by unfold Sp.inI;omega,by omega⟩)) (by omega)
end Go.Av

namespace Go.Av
open Go.Proofs
set_option maxRecDepth 100000
def fi18:Fi:=⟨47,[.tmp 6,.tmp 7]⟩
def kp18:List (Nat × List Nat):=[(0,[0,1,2]),(1,[0,1,2,27]),(2,[6,7]),(3,[0,1,2,8,9]),(4,[0,1,2,8,9,30]),(5,[0,1,2,8,9,10]),(6,[0,1,2,8,9,10,42]),(7,[0,1,2,8,9]),(8,[0,1,2,8,9]),(9,[6,7])]
def kStrR_at (n u v:Int) (Q:AV -> Heap -> Prop):Prop:=Wp M1 (.run fi18 (atC (cd Tryz.f18) []) [(0,.int .i64 n),(1,.int .i64 u),(2,.int .i64 v)] []) Q
def kStrRH_at (n u v i j:Int) (Q:AV -> Heap -> Prop):Prop:=Wp M1 (.run fi18 (atC (cd Tryz.f18) [1,1,1,0,0,0]) [(0,.int .i64 n),(1,.int .i64 u),(2,.int .i64 v),(8,.int .i64 i),(9,.int .i64 j)] []) Q
theorem call18 {args:List AV} {d:AV} (h:wc M1 fi18 Tryz.f18 args d):Ev M1 (.pure 18 args) d []:=pcl _ _ (by kernel_rfl) h
theorem kStrR (n u v:Int)  (dq:AV) (H :
  (((((¬(Sp.isLen n)) \/ (¬(Sp.isV u))) \/ (u < 1)) \/ (¬(Sp.isAcc v))) -> tu [vi 0,vi 1] = dq) /\
  (¬((((¬(Sp.isLen n)) \/ (¬(Sp.isV u))) \/ (u < 1)) \/ (¬(Sp.isAcc v))) -> kStrRH_at (n) (u) (v) (0) (1000000000000) (PureQ dq))) :
 kStrR_at n u v (PureQ dq):=by
 unfold kStrR_at
 refine path_wp (G:=given kp18 [(1,1,.call (vb (decide (Sp.isLen n))) none),(1,5,.call (vb (decide (Sp.isV u))) none),(1,14,.call (vb (decide (Sp.isAcc v))) none)] []) 5 [] ⟨(atC (cd Tryz.f18) [1,0,1]),[(0,vi n),(1,vi u),(2,vi v),(27,vb (bif bif bif !decide (Sp.isLen n) then true else !decide (Sp.isV u) then true else decide (u < 1) then true else !decide (Sp.isAcc v)))],[],_,[],[⟨true,false,50,[vi n],[],vb (decide (Sp.isLen n)),[]⟩,⟨(!decide (Sp.isLen n)) == false && true && true,false,10,[vi u],[],vb (decide (Sp.isV u)),[]⟩,⟨(bif bif !decide (Sp.isLen n) then true else !decide (Sp.isV u) then true else decide (u < 1)) == false && true && true,false,40,[vi v],[],vb (decide (Sp.isAcc v)),[]⟩]⟩ (by kernel_rfl) b0 q0 (cc (fun _ => (@ev50 (n))) (cc (fun hc => ((@ev10 (u)):Ev M1 (Conf.pure 10 [vi u]) (vb (decide (Sp.isV u))) [])) (cc (fun hc => ((@ev40 (v)):Ev M1 (Conf.pure 40 [vi v]) (vb (decide (Sp.isAcc v))) [])) c0))) ?_
 rcases xm ((((¬(Sp.isLen n)) \/ (¬(Sp.isV u))) \/ (u < 1)) \/ (¬(Sp.isAcc v))) with d4 | d4
 ·have H:=H.1 d4
  exact path_re (G:=given kp18 [] []) 1000 [true] (tu [vi 0,vi 1]) (by kernel_rfl) (bc (beq_t ((i_bor (i_bor (i_bor (i_not i_dec) (i_not i_dec)) i_dec) (i_not i_dec)).2 d4)) b0) q0 c0 H
 ·have H:=H.2 d4
  exact path_wp (G:=given kp18 [] []) 1000 [false] ⟨(atC (cd Tryz.f18) [1,1,1,0,0,0]),[(0,vi n),(1,vi u),(2,vi v),(8,vi 0),(9,vi 1000000000000)],[],_,[],_⟩ (by kernel_rfl) (bc (beq_f (fun h => d4 ((i_bor (i_bor (i_bor (i_not i_dec) (i_not i_dec)) i_dec) (i_not i_dec)).1 h))) b0) q0 c0 (H)
theorem kStrRH (n u v i j:Int)  (dq:AV) (H :
  ((i < j) -> (-9223372036854775808 <= i + j /\ i + j <= 9223372036854775807) /\
   (-9223372036854775808 <= (i + j).tdiv 2 /\ (i + j).tdiv 2 <= 9223372036854775807) /\
   (Sp.okRe ((i + j).tdiv 2) u v) /\
   (Sp.inI n) /\
   (Sp.okR (Sp.reR ((i + j).tdiv 2) u v) /\ Sp.okR (Sp.qi n)) /\
   ((Sp.sgnI ((Sp.reR ((i + j).tdiv 2) u v).num * (↑(Sp.qi n).den:Int) - (Sp.qi n).num * (↑(Sp.reR ((i + j).tdiv 2) u v).den:Int)) >= 0) -> kStrRH_at (n) (u) (v) (i) ((i + j).tdiv 2) (PureQ dq)) /\
   (¬(Sp.sgnI ((Sp.reR ((i + j).tdiv 2) u v).num * (↑(Sp.qi n).den:Int) - (Sp.qi n).num * (↑(Sp.reR ((i + j).tdiv 2) u v).den:Int)) >= 0) -> (-9223372036854775808 <= (i + j).tdiv 2 + 1 /\ (i + j).tdiv 2 + 1 <= 9223372036854775807) /\
    kStrRH_at (n) (u) (v) ((i + j).tdiv 2 + 1) (j) (PureQ dq))) /\
  (¬(i < j) -> tu [vi i,vi 0] = dq)) :
 kStrRH_at n u v i j (PureQ dq):=by
 unfold kStrRH_at
 rcases xm (i < j) with d2 | d2
 ·have H:=H.1 d2
  obtain ⟨k3,H⟩:=H
  have w4:wi (i + j) = i + j:=wI64 k3
  obtain ⟨k5,H⟩:=H
  have w6:wi ((i + j).tdiv 2) = (i + j).tdiv 2:=wI64 k5
  obtain ⟨k7,H⟩:=H
  obtain ⟨k8,H⟩:=H
  obtain ⟨k9,H⟩:=H
  refine path_wp (G:=given kp18 [(6,3,.call (ratA false false (Sp.reR ((i + j).tdiv 2) u v)) none),(6,5,.call (ratA false false (Sp.qi n)) none),(6,6,.call (vi (Sp.sgnI ((Sp.reR ((i + j).tdiv 2) u v).num * (↑(Sp.qi n).den:Int) - (Sp.qi n).num * (↑(Sp.reR ((i + j).tdiv 2) u v).den:Int)))) none)] []) 10 [true] ⟨(atC (cd Tryz.f18) [1,1,1,0,0,0,1,0,1,1]),[(0,vi n),(1,vi u),(2,vi v),(8,vi i),(9,vi j),(10,vi (wi ((wi (i + j)).tdiv 2))),(42,vb (decide (Sp.sgnI ((Sp.reR ((i + j).tdiv 2) u v).num * (↑(Sp.qi n).den:Int) - (Sp.qi n).num * (↑(Sp.reR ((i + j).tdiv 2) u v).den:Int)) >= 0)))],[],_,[],[pc 41 [vi (wi ((wi (i + j)).tdiv 2)),vi u,vi v] (ratA false false (Sp.reR ((i + j).tdiv 2) u v)),pc 51 [vi n] (ratA false false (Sp.qi n)),pc 16 [ratA false false (Sp.reR ((i + j).tdiv 2) u v),ratA false false (Sp.qi n)] (vi (Sp.sgnI ((Sp.reR ((i + j).tdiv 2) u v).num * (↑(Sp.qi n).den:Int) - (Sp.qi n).num * (↑(Sp.reR ((i + j).tdiv 2) u v).den:Int))))]⟩ (by kernel_rfl) (bc (beq_t (i_dec.2 d2)) (bc rfl b0)) q0 (ce (by (try rw [w4]);(try rw [w6]);all_goals exact (@ev41 ((i + j).tdiv 2) (u) (v) k7)) (ce (@ev51 (n) k8) (ce (@ev16 (false) (false) (false) (false) (Sp.reR ((i + j).tdiv 2) u v) (Sp.qi n) k9) c0))) ?_
  rcases xm (Sp.sgnI ((Sp.reR ((i + j).tdiv 2) u v).num * (↑(Sp.qi n).den:Int) - (Sp.qi n).num * (↑(Sp.reR ((i + j).tdiv 2) u v).den:Int)) >= 0) with d11 | d11
  ·have H:=H.1 d11
   exact path_wp (G:=given kp18 [] []) 1000 [true] ⟨(atC (cd Tryz.f18) [1,1,1,0,0,0]),[(0,vi n),(1,vi u),(2,vi v),(8,vi i),(9,vi (wi ((wi (i + j)).tdiv 2)))],[],_,[],_⟩ (by kernel_rfl) (bc (beq_t (i_dec.2 d11)) b0) q0 c0 (by (try rw [w4]);(try rw [w6]);all_goals exact H)
  ·have H:=H.2 d11
   obtain ⟨k12,H⟩:=H
   have w13:wi ((i + j).tdiv 2 + 1) = (i + j).tdiv 2 + 1:=wI64 k12
   exact path_wp (G:=given kp18 [] []) 1000 [false] ⟨(atC (cd Tryz.f18) [1,1,1,0,0,0]),[(0,vi n),(1,vi u),(2,vi v),(8,vi (wi (wi ((wi (i + j)).tdiv 2) + 1))),(9,vi j)],[],_,[],_⟩ (by kernel_rfl) (bc (beq_f (fun h => d11 (i_dec.1 h))) b0) q0 c0 (by (try rw [w4]);(try rw [w6]);(try rw [w13]);all_goals exact H)
 ·have H:=H.2 d2
  exact path_re (G:=given kp18 [] []) 1000 [false] (tu [vi i,vi 0]) (by kernel_rfl) (bc (beq_f (fun h => d2 (i_dec.1 h))) b0) q0 c0 H
end Go.Av

namespace Go.Av
open Go.Proofs
namespace Sp
end Sp
theorem strR_loop {n u v:Int} {dq:AV} (h:Sp.isSt n u v):∀ (k:Nat) (i j:Int),j - i < 2 ^ k -> 0 <= i -> i <= j -> j <= 1000000000000 -> AV.tup [.int .i64 (Sp.bs (Sp.strP u v (Sp.qi n)) k i j),.int .i64 0] = dq -> kStrRH_at n u v i j (PureQ dq)
 | 0,i,j,hk,h0,h1,h2,hq => by
  refine kStrRH _ _ _ _ _ _ ⟨fun x => by omega,fun x => hq⟩
 | k + 1,i,j,hk,h0,h1,h2,hq => by
  by_cases x:i < j
  ·rw [Int.pow_succ] at hk
   refine kStrRH _ _ _ _ _ _ ⟨fun _ => ?_,fun y => absurd x y⟩
   rw [Int.tdiv_eq_ediv_of_nonneg (by omega)]
   rw [bs_step x] at hq
   have ok:Sp.okRe ((i + j) / 2) u v:=⟨by omega,h.2.1,h.2.2⟩
   have hn:=h.1
   unfold Sp.isLen at hn
   have i1:Sp.inI n:=by unfold Sp.inI;omega
   refine ⟨by omega,by omega,ok,i1,⟨okT_R (okT_re ok) (by omega),okT_R (okT_int i1) (by omega)⟩,fun y => ?_,fun y => ⟨by omega,?_⟩⟩
   ·rw [show Sp.strP u v (Sp.qi n) ((i + j) / 2) = true from decide_eq_true (cmp_ge.1 y),cond_true] at hq
    exact strR_loop h k _ _ (by omega) (by omega) (by omega) (by omega) hq
   ·rw [show Sp.strP u v (Sp.qi n) ((i + j) / 2) = false from decide_eq_false fun z => y (cmp_ge.2 z),cond_false] at hq
    exact strR_loop h k _ _ (by omega) (by omega) (by omega) (by omega) hq
  ·rw [bs_done x] at hq
   exact kStrRH _ _ _ _ _ _ ⟨fun y => absurd y x,fun _ => hq⟩
theorem ev18 (n u v:Int):Ev M1 (.pure 18 [.int .i64 n,.int .i64 u,.int .i64 v]) (.tup [.int .i64 (Sp.str n u v),.int .i64 (Sp.strE n u v)]) []:=by
 have e:((((¬(Sp.isLen n)) \/ (¬(Sp.isV u))) \/ (u < 1)) \/ (¬(Sp.isAcc v))) ↔ ¬Sp.isSt n u v:=by unfold Sp.isSt Sp.isV Sp.isLen Sp.isAcc;omega
 refine call18 (kStrR _ _ _ _ ⟨fun x => ?_,fun x => ?_⟩)
 ·unfold Sp.str Sp.strE
  rw [if_neg (e.1 x),if_neg (e.1 x)]
 ·have y:=Classical.not_not.1 (mt e.2 x)
  unfold Sp.str Sp.strE
  rw [if_pos y,if_pos y]
  exact strR_loop y 40 0 1000000000000 (by decide) (by decide) (by decide) (by decide) rfl
end Go.Av

namespace Go.Av
open Go.Proofs
structure Mo where
 ax:Int
 ay:Int
 az:Int
 bx:Int
 by_:Int
 bz:Int
 rate:Int
 tool:Int
 blk:Int
 deriving Inhabited
def Mo.a (p:Mo):AV:=.agg [.int .i64 p.ax,.int .i64 p.ay,.int .i64 p.az,.int .i64 p.bx,.int .i64 p.by_,.int .i64 p.bz,.int .i64 p.rate,.int .i64 p.tool,.int .i64 p.blk]
end Go.Av

namespace Go.Av
open Go.Proofs
set_option maxRecDepth 100000
def fi19:Fi:=⟨67,[.tmp 6,.tmp 7]⟩
def kp19:List (Nat × List Nat):=[(0,[0,1,2]),(1,[0,1,2,17]),(2,[6,7]),(3,[0,1,2,25]),(4,[6,7]),(5,[0,1,2,8]),(6,[1,2,8,26,27,28]),(7,[1,2,8,26,27,28,29]),(8,[1,2,8,10,26,27,28]),(9,[1,2,8,10,26,27,28,35]),(10,[6,7]),(11,[1,2,8,10,11,26,27,28]),(12,[1,2,8,10,11,26,27,28,39]),(13,[1,2,8,10,11,26,27,28]),(14,[1,2,8,11,12,13,26,27,28]),(15,[1,2,8,11,12,13,26,27,28,50]),(16,[6,7]),(17,[1,2,8,13,14,26,27,28]),(18,[1,2,8,13,14,26,27,28,60]),(19,[6,7]),(20,[1,2,8,26,27,28]),(21,[1,2,8,26,27,28]),(22,[6,7])]
def fi20:Fi:=⟨79,[.tmp 6,.tmp 7]⟩
def kp20:List (Nat × List Nat):=[(0,[0,1,2]),(1,[0,1,2,17]),(2,[6,7]),(3,[0,1,2,29]),(4,[6,7]),(5,[0,1,2,8]),(6,[0,1,2,8,9]),(7,[0,1,2,8,9,33]),(8,[0,1,2,8,9]),(9,[0,1,2,8,9,42]),(10,[6,7]),(11,[0,1,2,8,9,10,11]),(12,[0,1,2,8,9,10,11,58]),(13,[6,7]),(14,[0,1,2,8,9,10,12]),(15,[0,1,2,8,9,10,12,66]),(16,[0,1,2,8,9,10,12]),(17,[0,1,2,8,9,13]),(18,[0,1,2,8,9]),(19,[6,7])]
def kTot_at (fm:Bool) (m:List Mo) (r a:Int) (Q:AV -> Heap -> Prop):Prop:=Wp M1 (.run fi19 (atC (cd Tryz.f19) []) [(0,.vec fm 9 (m.map Mo.a)),(1,.int .i64 r),(2,.int .i64 a)] []) Q
def kTotH_at (fm:Bool) (m:List Mo) (r a:Int) (s n i:Int) (Q:AV -> Heap -> Prop):Prop:=Wp M1 (.run fi19 (atC (cd Tryz.f19) [1,1,1,1,0,1,0,0]) [(1,.int .i64 r),(2,.int .i64 a),(8,.int .i64 s),(26,.vec fm 9 (m.map Mo.a)),(27,.int .i64 n),(28,.int .i64 i)] []) Q
def kTotR_at (fm:Bool) (m:List Mo) (r a:Int) (Q:AV -> Heap -> Prop):Prop:=Wp M1 (.run fi20 (atC (cd Tryz.f20) []) [(0,.vec fm 9 (m.map Mo.a)),(1,.int .i64 r),(2,.int .i64 a)] []) Q
def kTotRH_at (fm:Bool) (m:List Mo) (r a:Int) (s i:Int) (Q:AV -> Heap -> Prop):Prop:=Wp M1 (.run fi20 (atC (cd Tryz.f20) [1,1,1,1,0,1,0,0]) [(0,.vec fm 9 (m.map Mo.a)),(1,.int .i64 r),(2,.int .i64 a),(8,.int .i64 s),(9,.int .i64 i)] []) Q
theorem call19 {args:List AV} {d:AV} (h:wc M1 fi19 Tryz.f19 args d):Ev M1 (.pure 19 args) d []:=pcl _ _ (by kernel_rfl) h
theorem call20 {args:List AV} {d:AV} (h:wc M1 fi20 Tryz.f20 args d):Ev M1 (.pure 20 args) d []:=pcl _ _ (by kernel_rfl) h
theorem kTot (fm:Bool) (m:List Mo) (r a:Int)  (dq:AV) (H :
  (((↑m.length:Int) > 20000) -> tu [vi 0,vi 3] = dq) /\
  (¬((↑m.length:Int) > 20000) -> (((¬(1 <= r /\ r <= 1000000)) \/ (¬(1 <= a /\ a <= 100000000))) -> tu [vi 0,vi 1] = dq) /\
   (¬((¬(1 <= r /\ r <= 1000000)) \/ (¬(1 <= a /\ a <= 100000000))) -> kTotH_at (fm) (m) (r) (a) (0) ((↑m.length:Int)) (0) (PureQ dq)))) :
 kTot_at fm m r a (PureQ dq):=by
 unfold kTot_at
 have w1:(List.map Mo.a m).length = m.length:=List.length_map ..
 have i2:(decide ((↑(List.map Mo.a m).length:Int) > 20000)) = true ↔ ((↑m.length:Int) > 20000):=(by (try rw [w1]);all_goals exact i_dec)
 rcases xm ((↑m.length:Int) > 20000) with d3 | d3
 ·have H:=H.1 d3
  exact path_re (G:=given kp19 [] []) 1000 [true] (tu [vi 0,vi 3]) (by kernel_rfl) (bc (beq_t (i2.2 d3)) b0) q0 c0 H
 ·have H:=H.2 d3
  refine path_wp (G:=given kp19 [(3,1,.call (vb (decide (1 <= r /\ r <= 1000000))) none),(3,5,.call (vb (decide (1 <= a /\ a <= 100000000))) none)] []) 10 [false] ⟨(atC (cd Tryz.f19) [1,1,0,1]),[(0,AV.vec fm 9 (List.map Mo.a m)),(1,vi r),(2,vi a),(25,vb (bif !decide (1 <= r /\ r <= 1000000) then true else !decide (1 <= a /\ a <= 100000000)))],[],_,[],[⟨true,false,25,[vi r,vi 1,vi 1000000],[],vb (decide (1 <= r /\ r <= 1000000)),[]⟩,⟨(!decide (1 <= r /\ r <= 1000000)) == false && true && true,false,25,[vi a,vi 1,vi 100000000],[],vb (decide (1 <= a /\ a <= 100000000)),[]⟩]⟩ (by kernel_rfl) (bc (beq_f (fun h => d3 (i2.1 h))) b0) q0 (cc (fun _ => (@ev25 (r) (1) (1000000))) (cc (fun hc => ((@ev25 (a) (1) (100000000)):Ev M1 (Conf.pure 25 [vi a,vi 1,vi 100000000]) (vb (decide (1 <= a /\ a <= 100000000))) [])) c0)) ?_
  rcases xm ((¬(1 <= r /\ r <= 1000000)) \/ (¬(1 <= a /\ a <= 100000000))) with d6 | d6
  ·have H:=H.1 d6
   exact path_re (G:=given kp19 [] []) 1000 [true] (tu [vi 0,vi 1]) (by kernel_rfl) (bc (beq_t ((i_bor (i_not i_dec) (i_not i_dec)).2 d6)) b0) q0 c0 H
  ·have H:=H.2 d6
   exact path_wp (G:=given kp19 [] []) 1000 [false] ⟨(atC (cd Tryz.f19) [1,1,1,1,0,1,0,0]),[(1,vi r),(2,vi a),(8,vi 0),(26,AV.vec fm 9 (List.map Mo.a m)),(27,vi (↑(List.map Mo.a m).length:Int)),(28,vi 0)],[],_,[],_⟩ (by kernel_rfl) (bc (beq_f (fun h => d6 ((i_bor (i_not i_dec) (i_not i_dec)).1 h))) b0) q0 c0 (by (try rw [w1]);all_goals exact H)
noncomputable abbrev zNzM1 (m:List Mo) (i:Int):=ag [vi (m.getD i.toNat default).ax,vi (m.getD i.toNat default).ay,vi (m.getD i.toNat default).az,vi (m.getD i.toNat default).bx,vi (m.getD i.toNat default).by_,vi (m.getD i.toNat default).bz,vi (m.getD i.toNat default).rate,vi (m.getD i.toNat default).tool,vi (m.getD i.toNat default).blk]
noncomputable abbrev zNzM2 (m:List Mo) (i:Int):=Sp.distE (m.getD i.toNat default).ax (m.getD i.toNat default).ay (m.getD i.toNat default).az (m.getD i.toNat default).bx (m.getD i.toNat default).by_ (m.getD i.toNat default).bz
noncomputable abbrev zNzM3 (m:List Mo) (i:Int) (a:Int):=Sp.strE (Sp.dist (m.getD i.toNat default).ax (m.getD i.toNat default).ay (m.getD i.toNat default).az (m.getD i.toNat default).bx (m.getD i.toNat default).by_ (m.getD i.toNat default).bz) (m.getD i.toNat default).rate a
noncomputable abbrev zNzM4 (m:List Mo) (i:Int) (r:Int) (a:Int):=Sp.strE (Sp.dist (m.getD i.toNat default).ax (m.getD i.toNat default).ay (m.getD i.toNat default).az (m.getD i.toNat default).bx (m.getD i.toNat default).by_ (m.getD i.toNat default).bz) r a
noncomputable abbrev zNzM5 (m:List Mo) (i:Int):=tu [vi (Sp.dist (m.getD i.toNat default).ax (m.getD i.toNat default).ay (m.getD i.toNat default).az (m.getD i.toNat default).bx (m.getD i.toNat default).by_ (m.getD i.toNat default).bz),vi (zNzM2 m i)]
noncomputable abbrev zNzM6 (m:List Mo) (i:Int) (a:Int):=Sp.str (Sp.dist (m.getD i.toNat default).ax (m.getD i.toNat default).ay (m.getD i.toNat default).az (m.getD i.toNat default).bx (m.getD i.toNat default).by_ (m.getD i.toNat default).bz) (m.getD i.toNat default).rate a
noncomputable abbrev zNzM7 (m:List Mo) (i:Int):=Sp.distE (m.getD i.toNat default).ax (m.getD i.toNat default).ay (m.getD i.toNat default).az (m.getD i.toNat default).bx (m.getD i.toNat default).by_ (m.getD i.toNat default).bz != 0
noncomputable abbrev zNzM8 (m:List Mo) (i:Int) (r:Int) (a:Int):=Sp.str (Sp.dist (m.getD i.toNat default).ax (m.getD i.toNat default).ay (m.getD i.toNat default).az (m.getD i.toNat default).bx (m.getD i.toNat default).by_ (m.getD i.toNat default).bz) r a
theorem kTotH (fm:Bool) (m:List Mo) (r a:Int) (s n i:Int)  (dq:AV) (H :
  ((i < n) -> (0 <= i) /\
   (i.toNat < m.length) /\
   ((¬(0 <= (m.getD i.toNat default).rate /\ (m.getD i.toNat default).rate <= 1000000)) -> tu [vi 0,vi 1] = dq) /\
   (¬(¬(0 <= (m.getD i.toNat default).rate /\ (m.getD i.toNat default).rate <= 1000000)) -> (((m.getD i.toNat default).rate = 0) -> ((¬Sp.distE (m.getD i.toNat default).ax (m.getD i.toNat default).ay (m.getD i.toNat default).az (m.getD i.toNat default).bx (m.getD i.toNat default).by_ (m.getD i.toNat default).bz = 0) -> tu [vi 0,vi (Sp.distE (m.getD i.toNat default).ax (m.getD i.toNat default).ay (m.getD i.toNat default).az (m.getD i.toNat default).bx (m.getD i.toNat default).by_ (m.getD i.toNat default).bz)] = dq) /\
     (¬(¬Sp.distE (m.getD i.toNat default).ax (m.getD i.toNat default).ay (m.getD i.toNat default).az (m.getD i.toNat default).bx (m.getD i.toNat default).by_ (m.getD i.toNat default).bz = 0) -> ((¬Sp.strE (Sp.dist (m.getD i.toNat default).ax (m.getD i.toNat default).ay (m.getD i.toNat default).az (m.getD i.toNat default).bx (m.getD i.toNat default).by_ (m.getD i.toNat default).bz) r a = 0) -> tu [vi 0,vi (Sp.strE (Sp.dist (m.getD i.toNat default).ax (m.getD i.toNat default).ay (m.getD i.toNat default).az (m.getD i.toNat default).bx (m.getD i.toNat default).by_ (m.getD i.toNat default).bz) r a)] = dq) /\
      (¬(¬Sp.strE (Sp.dist (m.getD i.toNat default).ax (m.getD i.toNat default).ay (m.getD i.toNat default).az (m.getD i.toNat default).bx (m.getD i.toNat default).by_ (m.getD i.toNat default).bz) r a = 0) -> (-9223372036854775808 <= s + Sp.str (Sp.dist (m.getD i.toNat default).ax (m.getD i.toNat default).ay (m.getD i.toNat default).az (m.getD i.toNat default).bx (m.getD i.toNat default).by_ (m.getD i.toNat default).bz) r a /\ s + Sp.str (Sp.dist (m.getD i.toNat default).ax (m.getD i.toNat default).ay (m.getD i.toNat default).az (m.getD i.toNat default).bx (m.getD i.toNat default).by_ (m.getD i.toNat default).bz) r a <= 9223372036854775807) /\
       (-9223372036854775808 <= i + 1 /\ i + 1 <= 9223372036854775807) /\
       kTotH_at (fm) (m) (r) (a) (s + Sp.str (Sp.dist (m.getD i.toNat default).ax (m.getD i.toNat default).ay (m.getD i.toNat default).az (m.getD i.toNat default).bx (m.getD i.toNat default).by_ (m.getD i.toNat default).bz) r a) (n) (i + 1) (PureQ dq)))) /\
    (¬((m.getD i.toNat default).rate = 0) -> ((¬Sp.distE (m.getD i.toNat default).ax (m.getD i.toNat default).ay (m.getD i.toNat default).az (m.getD i.toNat default).bx (m.getD i.toNat default).by_ (m.getD i.toNat default).bz = 0) -> tu [vi 0,vi (Sp.distE (m.getD i.toNat default).ax (m.getD i.toNat default).ay (m.getD i.toNat default).az (m.getD i.toNat default).bx (m.getD i.toNat default).by_ (m.getD i.toNat default).bz)] = dq) /\
     (¬(¬Sp.distE (m.getD i.toNat default).ax (m.getD i.toNat default).ay (m.getD i.toNat default).az (m.getD i.toNat default).bx (m.getD i.toNat default).by_ (m.getD i.toNat default).bz = 0) -> ((¬Sp.strE (Sp.dist (m.getD i.toNat default).ax (m.getD i.toNat default).ay (m.getD i.toNat default).az (m.getD i.toNat default).bx (m.getD i.toNat default).by_ (m.getD i.toNat default).bz) (m.getD i.toNat default).rate a = 0) -> tu [vi 0,vi (Sp.strE (Sp.dist (m.getD i.toNat default).ax (m.getD i.toNat default).ay (m.getD i.toNat default).az (m.getD i.toNat default).bx (m.getD i.toNat default).by_ (m.getD i.toNat default).bz) (m.getD i.toNat default).rate a)] = dq) /\
      (¬(¬Sp.strE (Sp.dist (m.getD i.toNat default).ax (m.getD i.toNat default).ay (m.getD i.toNat default).az (m.getD i.toNat default).bx (m.getD i.toNat default).by_ (m.getD i.toNat default).bz) (m.getD i.toNat default).rate a = 0) -> (-9223372036854775808 <= s + Sp.str (Sp.dist (m.getD i.toNat default).ax (m.getD i.toNat default).ay (m.getD i.toNat default).az (m.getD i.toNat default).bx (m.getD i.toNat default).by_ (m.getD i.toNat default).bz) (m.getD i.toNat default).rate a /\ s + Sp.str (Sp.dist (m.getD i.toNat default).ax (m.getD i.toNat default).ay (m.getD i.toNat default).az (m.getD i.toNat default).bx (m.getD i.toNat default).by_ (m.getD i.toNat default).bz) (m.getD i.toNat default).rate a <= 9223372036854775807) /\
       (-9223372036854775808 <= i + 1 /\ i + 1 <= 9223372036854775807) /\
       kTotH_at (fm) (m) (r) (a) (s + Sp.str (Sp.dist (m.getD i.toNat default).ax (m.getD i.toNat default).ay (m.getD i.toNat default).az (m.getD i.toNat default).bx (m.getD i.toNat default).by_ (m.getD i.toNat default).bz) (m.getD i.toNat default).rate a) (n) (i + 1) (PureQ dq)))))) /\
  (¬(i < n) -> tu [vi s,vi 0] = dq)) :
 kTotH_at fm m r a s n i (PureQ dq):=by
 unfold kTotH_at
 rcases xm (i < n) with d2 | d2
 ·have H:=H.1 d2
  obtain ⟨k4,H⟩:=H
  have w5:(List.map Mo.a m).length = m.length:=List.length_map ..
  have i6:(decide (i.toNat < (List.map Mo.a m).length)) = true ↔ (i.toNat < m.length):=(by (try rw [w5]);all_goals exact i_dec)
  obtain ⟨k7,H⟩:=H
  refine path_wp (G:=given kp19 [(8,1,.elem ((zNzM1 m i))),(9,2,.call (vb (decide (0 <= (m.getD i.toNat default).rate /\ (m.getD i.toNat default).rate <= 1000000))) none)] []) 12 [true] ⟨(atC (cd Tryz.f19) [1,1,1,1,0,1,0,0,1,1,0,0,1,0,1]),[(1,vi r),(2,vi a),(8,vi s),(10,AV.ptr 0 0 0 0),(26,AV.vec fm 9 (List.map Mo.a m)),(27,vi n),(28,vi i),(35,vb !decide (0 <= (m.getD i.toNat default).rate /\ (m.getD i.toNat default).rate <= 1000000))],[⟨[(zNzM1 m i)],9,0,false,false⟩],_,[((List.map Mo.a m).get?Internal i.toNat = some ((zNzM1 m i)))],_⟩ (by kernel_rfl) (bc (beq_t (i_dec.2 d2)) (bc (i_dec.2 k4) (bc (i6.2 k7) (bc rfl (bc rfl b0))))) (qc (el_map k7) q0) (ce (@ev25 ((m.getD i.toNat default).rate) (0) (1000000)) c0) ?_
  rcases xm (¬(0 <= (m.getD i.toNat default).rate /\ (m.getD i.toNat default).rate <= 1000000)) with d9 | d9
  ·have H:=H.1 d9
   exact path_re (G:=given kp19 [] []) 1000 [true] (tu [vi 0,vi 1]) (by kernel_rfl) (bc (beq_t ((i_not i_dec).2 d9)) b0) q0 c0 H
  ·have H:=H.2 d9
   rcases xm ((m.getD i.toNat default).rate = 0) with d11 | d11
   ·have H:=H.1 d11
    refine path_wp (G:=given kp19 [(14,4,.call (zNzM5 m i) none)] []) 14 [false,true] ⟨(atC (cd Tryz.f19) [1,1,1,1,0,1,0,0,1,1,0,0,1,1,1,1,1,0,1]),[(1,vi r),(2,vi a),(8,vi s),(11,vi r),(12,vi (Sp.dist (m.getD i.toNat default).ax (m.getD i.toNat default).ay (m.getD i.toNat default).az (m.getD i.toNat default).bx (m.getD i.toNat default).by_ (m.getD i.toNat default).bz)),(13,vi (zNzM2 m i)),(26,AV.vec fm 9 (List.map Mo.a m)),(27,vi n),(28,vi i),(50,vb (zNzM7 m i))],[⟨[(zNzM1 m i)],9,0,false,false⟩],_,[],_⟩ (by kernel_rfl) (bc (beq_f (fun h => d9 ((i_not i_dec).1 h))) (bc rfl (bc (beq_t (i_eq.2 d11)) (bc rfl (bc rfl b0))))) q0 (ce (@ev52 ((m.getD i.toNat default).ax) ((m.getD i.toNat default).ay) ((m.getD i.toNat default).az) ((m.getD i.toNat default).bx) ((m.getD i.toNat default).by_) ((m.getD i.toNat default).bz)) c0) ?_
    rcases xm (¬Sp.distE (m.getD i.toNat default).ax (m.getD i.toNat default).ay (m.getD i.toNat default).az (m.getD i.toNat default).bx (m.getD i.toNat default).by_ (m.getD i.toNat default).bz = 0) with d13 | d13
    ·have H:=H.1 d13
     exact path_re (G:=given kp19 [] []) 1000 [true] (tu [vi 0,vi (zNzM2 m i)]) (by kernel_rfl) (bc (beq_t (i_ne.2 d13)) b0) q0 c0 H
    ·have H:=H.2 d13
     refine path_wp (G:=given kp19 [(17,3,.call (tu [vi (zNzM8 m i r a),vi (zNzM4 m i r a)]) none)] []) 7 [false] ⟨(atC (cd Tryz.f19) [1,1,1,1,0,1,0,0,1,1,0,0,1,1,1,1,1,1,1,0,1]),[(1,vi r),(2,vi a),(8,vi s),(13,vi (zNzM4 m i r a)),(14,vi (zNzM8 m i r a)),(26,AV.vec fm 9 (List.map Mo.a m)),(27,vi n),(28,vi i),(60,vb (Sp.strE (Sp.dist (m.getD i.toNat default).ax (m.getD i.toNat default).ay (m.getD i.toNat default).az (m.getD i.toNat default).bx (m.getD i.toNat default).by_ (m.getD i.toNat default).bz) r a != 0))],[⟨[(zNzM1 m i)],9,0,false,false⟩],_,[],_⟩ (by kernel_rfl) (bc (beq_f (fun h => d13 (i_ne.1 h))) b0) q0 (ce (@ev17 (Sp.dist (m.getD i.toNat default).ax (m.getD i.toNat default).ay (m.getD i.toNat default).az (m.getD i.toNat default).bx (m.getD i.toNat default).by_ (m.getD i.toNat default).bz) (r) (a)) c0) ?_
     rcases xm (¬Sp.strE (Sp.dist (m.getD i.toNat default).ax (m.getD i.toNat default).ay (m.getD i.toNat default).az (m.getD i.toNat default).bx (m.getD i.toNat default).by_ (m.getD i.toNat default).bz) r a = 0) with d15 | d15
     ·have H:=H.1 d15
      exact path_re (G:=given kp19 [] []) 1000 [true] (tu [vi 0,vi (zNzM4 m i r a)]) (by kernel_rfl) (bc (beq_t (i_ne.2 d15)) b0) q0 c0 H
     ·have H:=H.2 d15
      obtain ⟨k16,H⟩:=H
      have w17:wi (s + Sp.str (Sp.dist (m.getD i.toNat default).ax (m.getD i.toNat default).ay (m.getD i.toNat default).az (m.getD i.toNat default).bx (m.getD i.toNat default).by_ (m.getD i.toNat default).bz) r a) = s + Sp.str (Sp.dist (m.getD i.toNat default).ax (m.getD i.toNat default).ay (m.getD i.toNat default).az (m.getD i.toNat default).bx (m.getD i.toNat default).by_ (m.getD i.toNat default).bz) r a:=wI64 k16
      obtain ⟨k18,H⟩:=H
      have w19:wi (i + 1) = i + 1:=wI64 k18
      exact path_wp (G:=given kp19 [] []) 1000 [false] ⟨(atC (cd Tryz.f19) [1,1,1,1,0,1,0,0]),[(1,vi r),(2,vi a),(8,vi (wi (s + Sp.str (Sp.dist (m.getD i.toNat default).ax (m.getD i.toNat default).ay (m.getD i.toNat default).az (m.getD i.toNat default).bx (m.getD i.toNat default).by_ (m.getD i.toNat default).bz) r a))),(26,AV.vec fm 9 (List.map Mo.a m)),(27,vi n),(28,vi (wi (i + 1)))],[⟨[(zNzM1 m i)],9,0,false,false⟩],_,[],_⟩ (by kernel_rfl) (bc (beq_f (fun h => d15 (i_ne.1 h))) b0) q0 c0 (by (try rw [w17]);(try rw [w19]);all_goals exact wp_narrow [] (by kernel_rfl) H)
   ·have H:=H.2 d11
    refine path_wp (G:=given kp19 [(14,4,.call (zNzM5 m i) none)] []) 14 [false,false] ⟨(atC (cd Tryz.f19) [1,1,1,1,0,1,0,0,1,1,0,0,1,1,1,1,1,0,1]),[(1,vi r),(2,vi a),(8,vi s),(11,vi (m.getD i.toNat default).rate),(12,vi (Sp.dist (m.getD i.toNat default).ax (m.getD i.toNat default).ay (m.getD i.toNat default).az (m.getD i.toNat default).bx (m.getD i.toNat default).by_ (m.getD i.toNat default).bz)),(13,vi (zNzM2 m i)),(26,AV.vec fm 9 (List.map Mo.a m)),(27,vi n),(28,vi i),(50,vb (zNzM7 m i))],[⟨[(zNzM1 m i)],9,0,false,false⟩],_,[],_⟩ (by kernel_rfl) (bc (beq_f (fun h => d9 ((i_not i_dec).1 h))) (bc rfl (bc (beq_f (fun h => d11 (i_eq.1 h))) (bc rfl (bc rfl b0))))) q0 (ce (@ev52 ((m.getD i.toNat default).ax) ((m.getD i.toNat default).ay) ((m.getD i.toNat default).az) ((m.getD i.toNat default).bx) ((m.getD i.toNat default).by_) ((m.getD i.toNat default).bz)) c0) ?_
    rcases xm (¬Sp.distE (m.getD i.toNat default).ax (m.getD i.toNat default).ay (m.getD i.toNat default).az (m.getD i.toNat default).bx (m.getD i.toNat default).by_ (m.getD i.toNat default).bz = 0) with d21 | d21
    ·have H:=H.1 d21
     exact path_re (G:=given kp19 [] []) 1000 [true] (tu [vi 0,vi (zNzM2 m i)]) (by kernel_rfl) (bc (beq_t (i_ne.2 d21)) b0) q0 c0 H
    ·have H:=H.2 d21
     refine path_wp (G:=given kp19 [(17,3,.call (tu [vi (zNzM6 m i a),vi (zNzM3 m i a)]) none)] []) 7 [false] ⟨(atC (cd Tryz.f19) [1,1,1,1,0,1,0,0,1,1,0,0,1,1,1,1,1,1,1,0,1]),[(1,vi r),(2,vi a),(8,vi s),(13,vi (zNzM3 m i a)),(14,vi (zNzM6 m i a)),(26,AV.vec fm 9 (List.map Mo.a m)),(27,vi n),(28,vi i),(60,vb (Sp.strE (Sp.dist (m.getD i.toNat default).ax (m.getD i.toNat default).ay (m.getD i.toNat default).az (m.getD i.toNat default).bx (m.getD i.toNat default).by_ (m.getD i.toNat default).bz) (m.getD i.toNat default).rate a != 0))],[⟨[(zNzM1 m i)],9,0,false,false⟩],_,[],_⟩ (by kernel_rfl) (bc (beq_f (fun h => d21 (i_ne.1 h))) b0) q0 (ce (@ev17 (Sp.dist (m.getD i.toNat default).ax (m.getD i.toNat default).ay (m.getD i.toNat default).az (m.getD i.toNat default).bx (m.getD i.toNat default).by_ (m.getD i.toNat default).bz) ((m.getD i.toNat default).rate) (a)) c0) ?_
     rcases xm (¬Sp.strE (Sp.dist (m.getD i.toNat default).ax (m.getD i.toNat default).ay (m.getD i.toNat default).az (m.getD i.toNat default).bx (m.getD i.toNat default).by_ (m.getD i.toNat default).bz) (m.getD i.toNat default).rate a = 0) with d23 | d23
     ·have H:=H.1 d23
      exact path_re (G:=given kp19 [] []) 1000 [true] (tu [vi 0,vi (zNzM3 m i a)]) (by kernel_rfl) (bc (beq_t (i_ne.2 d23)) b0) q0 c0 H
     ·have H:=H.2 d23
      obtain ⟨k24,H⟩:=H
      have w25:wi (s + Sp.str (Sp.dist (m.getD i.toNat default).ax (m.getD i.toNat default).ay (m.getD i.toNat default).az (m.getD i.toNat default).bx (m.getD i.toNat default).by_ (m.getD i.toNat default).bz) (m.getD i.toNat default).rate a) = s + Sp.str (Sp.dist (m.getD i.toNat default).ax (m.getD i.toNat default).ay (m.getD i.toNat default).az (m.getD i.toNat default).bx (m.getD i.toNat default).by_ (m.getD i.toNat default).bz) (m.getD i.toNat default).rate a:=wI64 k24
      obtain ⟨k26,H⟩:=H
      have w27:wi (i + 1) = i + 1:=wI64 k26
      exact path_wp (G:=given kp19 [] []) 1000 [false] ⟨(atC (cd Tryz.f19) [1,1,1,1,0,1,0,0]),[(1,vi r),(2,vi a),(8,vi (wi (s + Sp.str (Sp.dist (m.getD i.toNat default).ax (m.getD i.toNat default).ay (m.getD i.toNat default).az (m.getD i.toNat default).bx (m.getD i.toNat default).by_ (m.getD i.toNat default).bz) (m.getD i.toNat default).rate a))),(26,AV.vec fm 9 (List.map Mo.a m)),(27,vi n),(28,vi (wi (i + 1)))],[⟨[(zNzM1 m i)],9,0,false,false⟩],_,[],_⟩ (by kernel_rfl) (bc (beq_f (fun h => d23 (i_ne.1 h))) b0) q0 c0 (by (try rw [w25]);(try rw [w27]);all_goals exact wp_narrow [] (by kernel_rfl) H)
 ·have H:=H.2 d2
  exact path_re (G:=given kp19 [] []) 1000 [false] (tu [vi s,vi 0]) (by kernel_rfl) (bc (beq_f (fun h => d2 (i_dec.1 h))) b0) q0 c0 H
theorem kTotR (fm:Bool) (m:List Mo) (r a:Int)  (dq:AV) (H :
  (((↑m.length:Int) > 20000) -> tu [vi 0,vi 3] = dq) /\
  (¬((↑m.length:Int) > 20000) -> ((((¬(Sp.isV r)) \/ (r < 1)) \/ (¬(Sp.isAcc a))) -> tu [vi 0,vi 1] = dq) /\
   (¬(((¬(Sp.isV r)) \/ (r < 1)) \/ (¬(Sp.isAcc a))) -> kTotRH_at (fm) (m) (r) (a) (0) (0) (PureQ dq)))) :
 kTotR_at fm m r a (PureQ dq):=by
 unfold kTotR_at
 have w1:(List.map Mo.a m).length = m.length:=List.length_map ..
 have i2:(decide ((↑(List.map Mo.a m).length:Int) > 20000)) = true ↔ ((↑m.length:Int) > 20000):=(by (try rw [w1]);all_goals exact i_dec)
 rcases xm ((↑m.length:Int) > 20000) with d3 | d3
 ·have H:=H.1 d3
  exact path_re (G:=given kp20 [] []) 1000 [true] (tu [vi 0,vi 3]) (by kernel_rfl) (bc (beq_t (i2.2 d3)) b0) q0 c0 H
 ·have H:=H.2 d3
  refine path_wp (G:=given kp20 [(3,1,.call (vb (decide (Sp.isV r))) none),(3,9,.call (vb (decide (Sp.isAcc a))) none)] []) 10 [false] ⟨(atC (cd Tryz.f20) [1,1,0,1]),[(0,AV.vec fm 9 (List.map Mo.a m)),(1,vi r),(2,vi a),(29,vb (bif bif !decide (Sp.isV r) then true else decide (r < 1) then true else !decide (Sp.isAcc a)))],[],_,[],[⟨true,false,10,[vi r],[],vb (decide (Sp.isV r)),[]⟩,⟨(bif !decide (Sp.isV r) then true else decide (r < 1)) == false && true && true,false,40,[vi a],[],vb (decide (Sp.isAcc a)),[]⟩]⟩ (by kernel_rfl) (bc (beq_f (fun h => d3 (i2.1 h))) b0) q0 (cc (fun _ => (@ev10 (r))) (cc (fun hc => ((@ev40 (a)):Ev M1 (Conf.pure 40 [vi a]) (vb (decide (Sp.isAcc a))) [])) c0)) ?_
  rcases xm (((¬(Sp.isV r)) \/ (r < 1)) \/ (¬(Sp.isAcc a))) with d6 | d6
  ·have H:=H.1 d6
   exact path_re (G:=given kp20 [] []) 1000 [true] (tu [vi 0,vi 1]) (by kernel_rfl) (bc (beq_t ((i_bor (i_bor (i_not i_dec) i_dec) (i_not i_dec)).2 d6)) b0) q0 c0 H
  ·have H:=H.2 d6
   exact path_wp (G:=given kp20 [] []) 1000 [false] ⟨(atC (cd Tryz.f20) [1,1,1,1,0,1,0,0]),[(0,AV.vec fm 9 (List.map Mo.a m)),(1,vi r),(2,vi a),(8,vi 0),(9,vi 0)],[],_,[],_⟩ (by kernel_rfl) (bc (beq_f (fun h => d6 ((i_bor (i_bor (i_not i_dec) i_dec) (i_not i_dec)).1 h))) b0) q0 c0 (H)
noncomputable abbrev zNzM9 (m:List Mo) (i:Int):=ag [vi (m.getD i.toNat default).ax,vi (m.getD i.toNat default).ay,vi (m.getD i.toNat default).az,vi (m.getD i.toNat default).bx,vi (m.getD i.toNat default).by_,vi (m.getD i.toNat default).bz,vi (m.getD i.toNat default).rate,vi (m.getD i.toNat default).tool,vi (m.getD i.toNat default).blk]
noncomputable abbrev zNzM10 (m:List Mo) (i:Int):=Sp.distE (m.getD i.toNat default).ax (m.getD i.toNat default).ay (m.getD i.toNat default).az (m.getD i.toNat default).bx (m.getD i.toNat default).by_ (m.getD i.toNat default).bz
theorem kTotRH (fm:Bool) (m:List Mo) (r a:Int) (s i:Int)  (dq:AV) (H :
  ((i < (↑m.length:Int)) -> (0 <= i) /\
   (i.toNat < m.length) /\
   ((¬(Sp.isV (m.getD i.toNat default).rate)) -> tu [vi 0,vi 1] = dq) /\
   (¬(¬(Sp.isV (m.getD i.toNat default).rate)) -> ((¬Sp.distE (m.getD i.toNat default).ax (m.getD i.toNat default).ay (m.getD i.toNat default).az (m.getD i.toNat default).bx (m.getD i.toNat default).by_ (m.getD i.toNat default).bz = 0) -> tu [vi 0,vi (Sp.distE (m.getD i.toNat default).ax (m.getD i.toNat default).ay (m.getD i.toNat default).az (m.getD i.toNat default).bx (m.getD i.toNat default).by_ (m.getD i.toNat default).bz)] = dq) /\
    (¬(¬Sp.distE (m.getD i.toNat default).ax (m.getD i.toNat default).ay (m.getD i.toNat default).az (m.getD i.toNat default).bx (m.getD i.toNat default).by_ (m.getD i.toNat default).bz = 0) -> (((m.getD i.toNat default).rate = 0) -> (-9223372036854775808 <= s + Sp.str (Sp.dist (m.getD i.toNat default).ax (m.getD i.toNat default).ay (m.getD i.toNat default).az (m.getD i.toNat default).bx (m.getD i.toNat default).by_ (m.getD i.toNat default).bz) r a /\ s + Sp.str (Sp.dist (m.getD i.toNat default).ax (m.getD i.toNat default).ay (m.getD i.toNat default).az (m.getD i.toNat default).bx (m.getD i.toNat default).by_ (m.getD i.toNat default).bz) r a <= 9223372036854775807) /\
      (-9223372036854775808 <= i + 1 /\ i + 1 <= 9223372036854775807) /\
      kTotRH_at (fm) (m) (r) (a) (s + Sp.str (Sp.dist (m.getD i.toNat default).ax (m.getD i.toNat default).ay (m.getD i.toNat default).az (m.getD i.toNat default).bx (m.getD i.toNat default).by_ (m.getD i.toNat default).bz) r a) (i + 1) (PureQ dq)) /\
     (¬((m.getD i.toNat default).rate = 0) -> (-9223372036854775808 <= s + Sp.str (Sp.dist (m.getD i.toNat default).ax (m.getD i.toNat default).ay (m.getD i.toNat default).az (m.getD i.toNat default).bx (m.getD i.toNat default).by_ (m.getD i.toNat default).bz) (m.getD i.toNat default).rate a /\ s + Sp.str (Sp.dist (m.getD i.toNat default).ax (m.getD i.toNat default).ay (m.getD i.toNat default).az (m.getD i.toNat default).bx (m.getD i.toNat default).by_ (m.getD i.toNat default).bz) (m.getD i.toNat default).rate a <= 9223372036854775807) /\
      (-9223372036854775808 <= i + 1 /\ i + 1 <= 9223372036854775807) /\
      kTotRH_at (fm) (m) (r) (a) (s + Sp.str (Sp.dist (m.getD i.toNat default).ax (m.getD i.toNat default).ay (m.getD i.toNat default).az (m.getD i.toNat default).bx (m.getD i.toNat default).by_ (m.getD i.toNat default).bz) (m.getD i.toNat default).rate a) (i + 1) (PureQ dq))))) /\
  (¬(i < (↑m.length:Int)) -> tu [vi s,vi 0] = dq)) :
 kTotRH_at fm m r a s i (PureQ dq):=by
 unfold kTotRH_at
 have w1:(List.map Mo.a m).length = m.length:=List.length_map ..
 have i2:(decide (i < (↑(List.map Mo.a m).length:Int))) = true ↔ (i < (↑m.length:Int)):=(by (try rw [w1]);all_goals exact i_dec)
 rcases xm (i < (↑m.length:Int)) with d3 | d3
 ·have H:=H.1 d3
  obtain ⟨k5,H⟩:=H
  have i6:(decide (i.toNat < (List.map Mo.a m).length)) = true ↔ (i.toNat < m.length):=(by (try rw [w1]);all_goals exact i_dec)
  obtain ⟨k7,H⟩:=H
  refine path_wp (G:=given kp20 [(9,4,.elem (zNzM9 m i)),(9,5,.call (vb (decide (Sp.isV (m.getD i.toNat default).rate))) none)] []) 10 [true] ⟨(atC (cd Tryz.f20) [1,1,1,1,0,1,0,0,1,0,0,0,1]),[(0,AV.vec fm 9 (List.map Mo.a m)),(1,vi r),(2,vi a),(8,vi s),(9,vi i),(42,vb !decide (Sp.isV (m.getD i.toNat default).rate))],[],_,[((List.map Mo.a m).get?Internal i.toNat = some (zNzM9 m i))],_⟩ (by kernel_rfl) (bc (beq_t (i2.2 d3)) (bc (i_dec.2 k5) (bc (i6.2 k7) b0))) (qc (el_map k7) q0) (ce (@ev10 ((m.getD i.toNat default).rate)) c0) ?_
  rcases xm (¬(Sp.isV (m.getD i.toNat default).rate)) with d9 | d9
  ·have H:=H.1 d9
   exact path_re (G:=given kp20 [] []) 1000 [true] (tu [vi 0,vi 1]) (by kernel_rfl) (bc (beq_t ((i_not i_dec).2 d9)) b0) q0 c0 H
  ·have H:=H.2 d9
   have i11:(decide (i.toNat < (List.map Mo.a m).length)) = true ↔ (i.toNat < m.length):=(by (try rw [w1]);all_goals exact i_dec)
   have i13:(decide (i.toNat < (List.map Mo.a m).length)) = true ↔ (i.toNat < m.length):=(by (try rw [w1]);all_goals exact i_dec)
   refine path_wp (G:=given kp20 [(11,4,.elem (zNzM9 m i)),(11,9,.elem (zNzM9 m i)),(11,10,.call (tu [vi (Sp.dist (m.getD i.toNat default).ax (m.getD i.toNat default).ay (m.getD i.toNat default).az (m.getD i.toNat default).bx (m.getD i.toNat default).by_ (m.getD i.toNat default).bz),vi (zNzM10 m i)]) none)] []) 7 [false] ⟨(atC (cd Tryz.f20) [1,1,1,1,0,1,0,0,1,0,0,1,1,0,1]),[(0,AV.vec fm 9 (List.map Mo.a m)),(1,vi r),(2,vi a),(8,vi s),(9,vi i),(10,vi (Sp.dist (m.getD i.toNat default).ax (m.getD i.toNat default).ay (m.getD i.toNat default).az (m.getD i.toNat default).bx (m.getD i.toNat default).by_ (m.getD i.toNat default).bz)),(11,vi (zNzM10 m i)),(58,vb (Sp.distE (m.getD i.toNat default).ax (m.getD i.toNat default).ay (m.getD i.toNat default).az (m.getD i.toNat default).bx (m.getD i.toNat default).by_ (m.getD i.toNat default).bz != 0))],[],_,[((List.map Mo.a m).get?Internal i.toNat = some (zNzM9 m i)),((List.map Mo.a m).get?Internal i.toNat = some (zNzM9 m i))],_⟩ (by kernel_rfl) (bc (beq_f (fun h => d9 ((i_not i_dec).1 h))) (bc (i_dec.2 k5) (bc (i11.2 k7) (bc (i_dec.2 k5) (bc (i13.2 k7) b0))))) (qc (el_map k7) (qc (el_map k7) q0)) (ce (@ev53 ((m.getD i.toNat default).ax) ((m.getD i.toNat default).ay) ((m.getD i.toNat default).az) ((m.getD i.toNat default).bx) ((m.getD i.toNat default).by_) ((m.getD i.toNat default).bz)) c0) ?_
   rcases xm (¬Sp.distE (m.getD i.toNat default).ax (m.getD i.toNat default).ay (m.getD i.toNat default).az (m.getD i.toNat default).bx (m.getD i.toNat default).by_ (m.getD i.toNat default).bz = 0) with d15 | d15
   ·have H:=H.1 d15
    exact path_re (G:=given kp20 [] []) 1000 [true] (tu [vi 0,vi (zNzM10 m i)]) (by kernel_rfl) (bc (beq_t (i_ne.2 d15)) b0) q0 c0 H
   ·have H:=H.2 d15
    have i17:(decide (i.toNat < (List.map Mo.a m).length)) = true ↔ (i.toNat < m.length):=(by (try rw [w1]);all_goals exact i_dec)
    refine path_wp (G:=given kp20 [(14,4,.elem (zNzM9 m i))] []) 7 [false] ⟨(atC (cd Tryz.f20) [1,1,1,1,0,1,0,0,1,0,0,1,1,1,1,0,1]),[(0,AV.vec fm 9 (List.map Mo.a m)),(1,vi r),(2,vi a),(8,vi s),(9,vi i),(10,vi (Sp.dist (m.getD i.toNat default).ax (m.getD i.toNat default).ay (m.getD i.toNat default).az (m.getD i.toNat default).bx (m.getD i.toNat default).by_ (m.getD i.toNat default).bz)),(12,vi (m.getD i.toNat default).rate),(66,vb ((m.getD i.toNat default).rate == 0))],[],_,[((List.map Mo.a m).get?Internal i.toNat = some (zNzM9 m i))],_⟩ (by kernel_rfl) (bc (beq_f (fun h => d15 (i_ne.1 h))) (bc (i_dec.2 k5) (bc (i17.2 k7) b0))) (qc (el_map k7) q0) c0 ?_
    rcases xm ((m.getD i.toNat default).rate = 0) with d19 | d19
    ·have H:=H.1 d19
     obtain ⟨k20,H⟩:=H
     have w21:wi (s + Sp.str (Sp.dist (m.getD i.toNat default).ax (m.getD i.toNat default).ay (m.getD i.toNat default).az (m.getD i.toNat default).bx (m.getD i.toNat default).by_ (m.getD i.toNat default).bz) r a) = s + Sp.str (Sp.dist (m.getD i.toNat default).ax (m.getD i.toNat default).ay (m.getD i.toNat default).az (m.getD i.toNat default).bx (m.getD i.toNat default).by_ (m.getD i.toNat default).bz) r a:=wI64 k20
     obtain ⟨k22,H⟩:=H
     have w23:wi (i + 1) = i + 1:=wI64 k22
     exact path_wp (G:=given kp20 [(17,3,.call (tu [vi (Sp.str (Sp.dist (m.getD i.toNat default).ax (m.getD i.toNat default).ay (m.getD i.toNat default).az (m.getD i.toNat default).bx (m.getD i.toNat default).by_ (m.getD i.toNat default).bz) r a),vi (Sp.strE (Sp.dist (m.getD i.toNat default).ax (m.getD i.toNat default).ay (m.getD i.toNat default).az (m.getD i.toNat default).bx (m.getD i.toNat default).by_ (m.getD i.toNat default).bz) r a)]) none)] []) 1000 [true] ⟨(atC (cd Tryz.f20) [1,1,1,1,0,1,0,0]),[(0,AV.vec fm 9 (List.map Mo.a m)),(1,vi r),(2,vi a),(8,vi (wi (s + Sp.str (Sp.dist (m.getD i.toNat default).ax (m.getD i.toNat default).ay (m.getD i.toNat default).az (m.getD i.toNat default).bx (m.getD i.toNat default).by_ (m.getD i.toNat default).bz) r a))),(9,vi (wi (i + 1)))],[],_,[],_⟩ (by kernel_rfl) (bc (beq_t (i_eq.2 d19)) b0) q0 (ce (@ev18 (Sp.dist (m.getD i.toNat default).ax (m.getD i.toNat default).ay (m.getD i.toNat default).az (m.getD i.toNat default).bx (m.getD i.toNat default).by_ (m.getD i.toNat default).bz) (r) (a)) c0) (by (try rw [w21]);(try rw [w23]);all_goals exact H)
    ·have H:=H.2 d19
     obtain ⟨k24,H⟩:=H
     have w25:wi (s + Sp.str (Sp.dist (m.getD i.toNat default).ax (m.getD i.toNat default).ay (m.getD i.toNat default).az (m.getD i.toNat default).bx (m.getD i.toNat default).by_ (m.getD i.toNat default).bz) (m.getD i.toNat default).rate a) = s + Sp.str (Sp.dist (m.getD i.toNat default).ax (m.getD i.toNat default).ay (m.getD i.toNat default).az (m.getD i.toNat default).bx (m.getD i.toNat default).by_ (m.getD i.toNat default).bz) (m.getD i.toNat default).rate a:=wI64 k24
     obtain ⟨k26,H⟩:=H
     have w27:wi (i + 1) = i + 1:=wI64 k26
     exact path_wp (G:=given kp20 [(17,3,.call (tu [vi (Sp.str (Sp.dist (m.getD i.toNat default).ax (m.getD i.toNat default).ay (m.getD i.toNat default).az (m.getD i.toNat default).bx (m.getD i.toNat default).by_ (m.getD i.toNat default).bz) (m.getD i.toNat default).rate a),vi (Sp.strE (Sp.dist (m.getD i.toNat default).ax (m.getD i.toNat default).ay (m.getD i.toNat default).az (m.getD i.toNat default).bx (m.getD i.toNat default).by_ (m.getD i.toNat default).bz) (m.getD i.toNat default).rate a)]) none)] []) 1000 [false] ⟨(atC (cd Tryz.f20) [1,1,1,1,0,1,0,0]),[(0,AV.vec fm 9 (List.map Mo.a m)),(1,vi r),(2,vi a),(8,vi (wi (s + Sp.str (Sp.dist (m.getD i.toNat default).ax (m.getD i.toNat default).ay (m.getD i.toNat default).az (m.getD i.toNat default).bx (m.getD i.toNat default).by_ (m.getD i.toNat default).bz) (m.getD i.toNat default).rate a))),(9,vi (wi (i + 1)))],[],_,[],_⟩ (by kernel_rfl) (bc (beq_f (fun h => d19 (i_eq.1 h))) b0) q0 (ce (@ev18 (Sp.dist (m.getD i.toNat default).ax (m.getD i.toNat default).ay (m.getD i.toNat default).az (m.getD i.toNat default).bx (m.getD i.toNat default).by_ (m.getD i.toNat default).bz) ((m.getD i.toNat default).rate) (a)) c0) (by (try rw [w25]);(try rw [w27]);all_goals exact H)
 ·have H:=H.2 d3
  exact path_re (G:=given kp20 [] []) 1000 [false] (tu [vi s,vi 0]) (by kernel_rfl) (bc (beq_f (fun h => d3 (i2.1 h))) b0) q0 c0 H
end Go.Av

namespace Go.Av
open Go.Proofs
namespace Sp
noncomputable def moD (x:Mo):Int:=dist x.ax x.ay x.az x.bx x.by_ x.bz
noncomputable def moE (x:Mo):Int:=distE x.ax x.ay x.az x.bx x.by_ x.bz
noncomputable def totF (r a:Int):List Mo -> Int -> Int × Int
 | [],s => (s,0)
 | x :: l,s => if isV x.rate then (if moE x = 0 then totF r a l (s + str (moD x) (if x.rate = 0 then r else x.rate) a) else (0,moE x)) else (0,1)
noncomputable def totV (m:List Mo) (r a:Int):Int × Int:=if (m.length:Int) > 20000 then (0,3) else if (1 <= r /\ r <= 1000000) /\ isAcc a then totF r a m 0 else (0,1)
noncomputable def totS (m:List Mo) (r a:Int):Int:=(totV m r a).1
noncomputable def totE (m:List Mo) (r a:Int):Int:=(totV m r a).2
end Sp
def Sp.le12 (i:Nat) (s:Int):Prop:=s <= (i:Int) * 1000000000000
theorem str_le (n u v:Int):0 <= Sp.str n u v /\ Sp.str n u v <= 1000000000000:=by
 unfold Sp.str
 split
 ·obtain ⟨r0,r1,_,_⟩:=bs_all (p:=Sp.strP u v (Sp.qi n)) (h:=1000000000000) (by decide) (by decide)
  exact ⟨r0,r1⟩
 ·omega
theorem moE_ok {x:Mo} (h:Sp.moE x = 0):Sp.isLen (Sp.moD x):=by
 unfold Sp.moE Sp.distE at h
 by_cases k:Sp.inP x.ax x.ay x.az /\ Sp.inP x.bx x.by_ x.bz
 ·have a:=dist_ok k
  have b:=sqr_bound a.1.1 a.1.2.1 a.1.2.2
  have c:=upR_le a.2 b.2
  unfold Sp.moD Sp.dist Sp.isLen
  rw [if_pos k]
  omega
 ·rw [if_neg k] at h;omega
theorem strE_ok {n u v:Int} (h1:Sp.isLen n) (h2:1 <= u /\ u <= 1000000) (h3:Sp.isAcc v):Sp.strE n u v = 0:=if_pos ⟨h1,h2,h3⟩
theorem tot_loop {fm:Bool} {m:List Mo} {r a:Int} {dq:AV} (hm:(m.length:Int) <= 20) (hr:1 <= r /\ r <= 1000000) (ha:Sp.isAcc a):∀ (k i:Nat) (s:Int),i + k = m.length -> 0 <= s -> Sp.le12 i s -> AV.tup [.int .i64 (Sp.totF r a (m.drop i) s).1,.int .i64 (Sp.totF r a (m.drop i) s).2] = dq -> kTotH_at fm m r a s m.length i (PureQ dq):=by
 intro k
 induction k with
 | zero =>
  intro i s e _ _ hq
  refine kTotH _ _ _ _ _ _ _ _ ⟨fun x => by omega,fun _ => ?_⟩
  rw [List.drop_eq_nil_of_le (by omega)] at hq
  exact hq
 | succ k ih =>
  intro i s e h0 h1 hq
  rw [drop_getD (d:=m) (i:=i) (by omega)] at hq
  refine kTotH _ _ _ _ _ _ _ _ ⟨fun _ => ?_,fun x => by omega⟩
  rw [Int.toNat_natCast,show (i:Int) + 1 = ((i + 1:Nat):Int) by omega]
  have nx:=fun s' => ih (i + 1) s' (by omega)
  have hi:i < m.length:=by omega
  generalize m.getD i default = x at *
  show 0 <= (i:Int) /\ i < m.length /\ _ /\ (_ -> (_ -> (¬Sp.moE x = 0 -> AV.tup [AV.int .i64 0,AV.int .i64 (Sp.moE x)] = dq) /\ (_ -> (¬Sp.strE (Sp.moD x) r a = 0 -> _) /\ (_ -> (_ <= s + Sp.str (Sp.moD x) r a /\ _) /\ _ /\ kTotH_at fm m r a (s + Sp.str (Sp.moD x) r a) _ _ _))) /\ (_ -> (¬Sp.moE x = 0 -> AV.tup [AV.int .i64 0,AV.int .i64 (Sp.moE x)] = dq) /\ (_ -> (¬Sp.strE (Sp.moD x) x.rate a = 0 -> _) /\ (_ -> (_ <= s + Sp.str (Sp.moD x) x.rate a /\ _) /\ _ /\ kTotH_at fm m r a (s + Sp.str (Sp.moD x) x.rate a) _ _ _))))
  have b1:=str_le (Sp.moD x) r a
  have b2:=str_le (Sp.moD x) x.rate a
  have nx':∀ c:Int,0 <= c -> c <= 1000000000000 -> Sp.le12 (i + 1) (s + c) /\ 0 <= s + c /\ s + c <= 21000000000000:=fun c c0 c1 => by unfold Sp.le12 at *;omega
  have n1:=nx' _ b1.1 b1.2
  have n2:=nx' _ b2.1 b2.2
  simp only [Sp.totF] at hq
  refine ⟨by omega,hi,fun y => ?_,fun y => ?_⟩
  ·have y:¬Sp.isV x.rate:=y
   rw [if_neg y] at hq;exact hq
  ·have y:Sp.isV x.rate:=Classical.not_not.1 y
   rw [if_pos y] at hq
   unfold Sp.isV at y
   refine ⟨fun z => ⟨fun w => ?_,fun w => ?_⟩,fun z => ⟨fun w => ?_,fun w => ?_⟩⟩
   ·have w:¬Sp.moE x = 0:=w
    rw [if_neg w] at hq;exact hq
   ·have w:Sp.moE x = 0:=Classical.not_not.1 w
    rw [if_pos w,if_pos z] at hq
    exact ⟨fun v => absurd (strE_ok (moE_ok w) hr ha) v,fun _ => ⟨by have q:=n1.2;unfold Sp.moD at q;omega,by omega,nx _ n1.2.1 n1.1 hq⟩⟩
   ·have w:¬Sp.moE x = 0:=w
    rw [if_neg w] at hq;exact hq
   ·have w:Sp.moE x = 0:=Classical.not_not.1 w
    rw [if_pos w,if_neg z] at hq
    exact ⟨fun v => absurd (strE_ok (moE_ok w) (by omega) ha) v,fun _ => ⟨by have q:=n2.2;unfold Sp.moD at q;omega,by omega,nx _ n2.2.1 n2.1 hq⟩⟩
theorem totR_loop {fm:Bool} {m:List Mo} {r a:Int} {dq:AV} (hm:(m.length:Int) <= 20) (hr:1 <= r /\ r <= 1000000) (ha:Sp.isAcc a):∀ (k i:Nat) (s:Int),i + k = m.length -> 0 <= s -> Sp.le12 i s -> AV.tup [.int .i64 (Sp.totF r a (m.drop i) s).1,.int .i64 (Sp.totF r a (m.drop i) s).2] = dq -> kTotRH_at fm m r a s i (PureQ dq):=by
 intro k
 induction k with
 | zero =>
  intro i s e _ _ hq
  refine kTotRH _ _ _ _ _ _ _ ⟨fun x => by omega,fun _ => ?_⟩
  rw [List.drop_eq_nil_of_le (by omega)] at hq
  exact hq
 | succ k ih =>
  intro i s e h0 h1 hq
  rw [drop_getD (d:=m) (i:=i) (by omega)] at hq
  refine kTotRH _ _ _ _ _ _ _ ⟨fun _ => ?_,fun x => by omega⟩
  rw [Int.toNat_natCast,show (i:Int) + 1 = ((i + 1:Nat):Int) by omega]
  have nx:=fun s' => ih (i + 1) s' (by omega)
  have hi:i < m.length:=by omega
  generalize m.getD i default = x at *
  show 0 <= (i:Int) /\ i < m.length /\ _ /\ (_ -> (¬Sp.moE x = 0 -> AV.tup [AV.int .i64 0,AV.int .i64 (Sp.moE x)] = dq) /\ (_ -> (_ -> (_ <= s + Sp.str (Sp.moD x) r a /\ _) /\ _ /\ kTotRH_at fm m r a (s + Sp.str (Sp.moD x) r a) _ _) /\ (_ -> (_ <= s + Sp.str (Sp.moD x) x.rate a /\ _) /\ _ /\ kTotRH_at fm m r a (s + Sp.str (Sp.moD x) x.rate a) _ _)))
  have b1:=str_le (Sp.moD x) r a
  have b2:=str_le (Sp.moD x) x.rate a
  have nx':∀ c:Int,0 <= c -> c <= 1000000000000 -> Sp.le12 (i + 1) (s + c) /\ 0 <= s + c /\ s + c <= 21000000000000:=fun c c0 c1 => by unfold Sp.le12 at *;omega
  have n1:=nx' _ b1.1 b1.2
  have n2:=nx' _ b2.1 b2.2
  simp only [Sp.totF] at hq
  refine ⟨by omega,hi,fun y => ?_,fun y => ?_⟩
  ·have y:¬Sp.isV x.rate:=y
   rw [if_neg y] at hq;exact hq
  ·have y:Sp.isV x.rate:=Classical.not_not.1 y
   rw [if_pos y] at hq
   unfold Sp.isV at y
   refine ⟨fun w => ?_,fun w => ⟨fun z => ?_,fun z => ?_⟩⟩
   ·have w:¬Sp.moE x = 0:=w
    rw [if_neg w] at hq;exact hq
   ·have w:Sp.moE x = 0:=Classical.not_not.1 w
    rw [if_pos w,if_pos z] at hq
    exact ⟨by have q:=n1.2;unfold Sp.moD at q;omega,by omega,nx _ n1.2.1 n1.1 hq⟩
   ·have w:Sp.moE x = 0:=Classical.not_not.1 w
    rw [if_pos w,if_neg z] at hq
    exact ⟨by have q:=n2.2;unfold Sp.moD at q;omega,by omega,nx _ n2.2.1 n2.1 hq⟩
def Sp.okTot (m:List Mo):Prop:=(m.length:Int) <= 20 \/ (m.length:Int) > 20000
theorem ev19 (fm:Bool) (m:List Mo) (r a:Int) (h:Sp.okTot m):Ev M1 (.pure 19 [.vec fm 9 (m.map Mo.a),.int .i64 r,.int .i64 a]) (.tup [.int .i64 (Sp.totS m r a),.int .i64 (Sp.totE m r a)]) []:=by
 unfold Sp.okTot at h
 unfold Sp.totS Sp.totE Sp.totV
 refine call19 (kTot _ _ _ _ _ ⟨fun x => ?_,fun x => ⟨fun y => ?_,fun y => ?_⟩⟩)
 ·rw [if_pos x]
 ·rw [if_neg x,if_neg (by unfold Sp.isAcc;omega)]
 ·have ha:Sp.isAcc a:=by unfold Sp.isAcc;omega
  rw [if_neg x,if_pos ⟨by omega,ha⟩]
  exact tot_loop (by omega) (by omega) ha m.length 0 0 (by omega) (by omega) (by unfold Sp.le12;omega) rfl
theorem ev20 (fm:Bool) (m:List Mo) (r a:Int) (h:Sp.okTot m):Ev M1 (.pure 20 [.vec fm 9 (m.map Mo.a),.int .i64 r,.int .i64 a]) (.tup [.int .i64 (Sp.totS m r a),.int .i64 (Sp.totE m r a)]) []:=by
 unfold Sp.okTot at h
 unfold Sp.totS Sp.totE Sp.totV
 refine call20 (kTotR _ _ _ _ _ ⟨fun x => ?_,fun x => ⟨fun y => ?_,fun y => ?_⟩⟩)
 ·rw [if_pos x]
 ·unfold Sp.isAcc Sp.isV at *
  rw [if_neg x,if_neg (by omega)]
 ·have ha:Sp.isAcc a:=Classical.not_not.1 fun z => y (.inr z)
  unfold Sp.isV at y
  rw [if_neg x,if_pos ⟨by omega,ha⟩]
  exact totR_loop (by omega) (by omega) ha m.length 0 0 (by omega) (by omega) (by unfold Sp.le12;omega) rfl
end Go.Av

namespace Go.Av
open Go.Proofs
set_option maxRecDepth 100000
def fi6:Fi:=⟨43,[.tmp 6]⟩
def kp6:List (Nat × List Nat):=[(0,[0,1,2]),(1,[0,1,2,12]),(2,[6]),(3,[0,1,2,20]),(4,[6]),(5,[0,1,2,7,8]),(6,[7,8,9,10]),(7,[6])]
def lTot_at (fm:Bool) (m:List Mo) (r a:Int) (Q:AV -> Heap -> Prop):Prop:=Wp M1 (.run fi6 (atC (cd Tryz.f6) []) [(0,.vec fm 9 (m.map Mo.a)),(1,.int .i64 r),(2,.int .i64 a)] []) Q
theorem call6 {args:List AV} {d:AV} (h:wc M1 fi6 Tryz.f6 args d):Ev M1 (.pure 6 args) d []:=pcl _ _ (by kernel_rfl) h
theorem lTot (fm:Bool) (m:List Mo) (r a:Int)  (dq:AV) (H :
  ((((↑m.length:Int) > 20) /\ ((↑m.length:Int) <= 20000)) -> vb true = dq) /\
  (¬(((↑m.length:Int) > 20) /\ ((↑m.length:Int) <= 20000)) -> (Sp.okTot m) /\
   vb (bif Sp.totS m r a == Sp.totS m r a then Sp.totE m r a == Sp.totE m r a else false) = dq)) :
 lTot_at fm m r a (PureQ dq):=by
 unfold lTot_at
 have w1:(List.map Mo.a m).length = m.length:=List.length_map ..
 have i2:(bif decide ((↑(List.map Mo.a m).length:Int) > 20) then decide ((↑(List.map Mo.a m).length:Int) <= 20000) else false) = true ↔ (((↑m.length:Int) > 20) /\ ((↑m.length:Int) <= 20000)):=(by (try rw [w1]);all_goals exact (i_band i_dec i_dec))
 refine path_wp (G:=given kp6 [(1,0,.call (vb true) none)] []) 10 [false] ⟨(atC (cd Tryz.f6) [1,1,0,1]),[(0,AV.vec fm 9 (List.map Mo.a m)),(1,vi r),(2,vi a),(20,vb (bif decide ((↑(List.map Mo.a m).length:Int) > 20) then decide ((↑(List.map Mo.a m).length:Int) <= 20000) else false))],[],_,[],_⟩ (by kernel_rfl) (bc rfl b0) q0 (ce (@ev7 ) c0) ?_
 rcases xm (((↑m.length:Int) > 20) /\ ((↑m.length:Int) <= 20000)) with d3 | d3
 ·have H:=H.1 d3
  exact path_re (G:=given kp6 [] []) 1000 [true] (vb true) (by kernel_rfl) (bc (beq_t (i2.2 d3)) b0) q0 c0 H
 ·have H:=H.2 d3
  obtain ⟨k4,H⟩:=H
  exact path_re (G:=given kp6 [(5,3,.call (tu [vi (Sp.totS m r a),vi (Sp.totE m r a)]) none),(6,3,.call (tu [vi (Sp.totS m r a),vi (Sp.totE m r a)]) none)] []) 1000 [false] (vb (bif Sp.totS m r a == Sp.totS m r a then Sp.totE m r a == Sp.totE m r a else false)) (by kernel_rfl) (bc (beq_f (fun h => d3 (i2.1 h))) b0) q0 (ce (@ev19 (fm) (m) (r) (a) k4) (ce (@ev20 (fm) (m) (r) (a) k4) c0)) H
end Go.Av

namespace Go.Av
open Go.RowKit
section
variable {P:Unit -> Program}
theorem done_of_made {S:St} {v:AV} {L':Heap} {s:Sem Value} (h:Made S v L' (s.run (P ()) S.w)):Done S v L' ((do pure (Next.value (<- s)):Sem Next).run (P ()) S.w):=by
 obtain ⟨β',w',cv,h1,h2,h3,h4⟩:=h
 exact ⟨β',w',cv,h1,h2,h3,.inl (by simp [h4])⟩
theorem done_of_run {S:St} (hS:HeapOk S) {v:AV} {s:Sem Value} (h:∃ vv,s.run (P ()) S.w = .ok vv S.w /\ Rel S v vv):Done S v S.L ((do pure (Next.value (<- s)):Sem Next).run (P ()) S.w):=by
 obtain ⟨vv,h1,h2⟩:=h
 exact done_quiet hS h2 (by simp [h1])
def ChainTrue (ρc:Operand -> Value) (ex:Chain):Prop:=∀ x ∈ ex,ρc (.tmp x.1) = .bool x.2
structure CallLeft (P:Unit -> Program) (inl:FuncId -> Bool) (S:St) (r:SR) (ρc:Operand -> Value) (o:Oper) (g:FuncId) (args:List AV) (cargs:List Value):Prop where
 run:(execOp ρc o).run (P ()) S.w = (callFunc g ⟨cargs⟩).run (P ()) S.w
 rel:RelL S args cargs
 call:∃ call,callF inl call S.L g args = some r
theorem arr_of_list {α:Type} {a:Array α} {l:List α} (h:a.toList = l):a = ⟨l⟩:=by
 subst h;rfl
theorem bopt {S:St} {ρ:Operand -> AV} {ρc:Operand -> Value} (hρ:∀ x,Rel S (ρ x) (ρc x)) (x:Option Operand):BRel S (x.map ρ) (x.map ρc):=by
 cases x with
 | none => exact .none
 | some x => exact .some _ _ (hρ x)
theorem builtin_step {S:St} (hS:HeapOk S) {inl:FuncId -> Bool} {call:Answer} {ρ:Operand -> AV} {ρc:Operand -> Value} {o:Oper} {c:Call} {b:Builtin} {r:SR} (hρ:∀ x,Rel S (ρ x) (ρc x))
  (ho:o.op = .call c) (hb:c.callee = .builtin b) (h:callA P inl call ρ S.L c = some r) (hA:∀ b ∈ r.asm,b = true) :
  r.calls = [] /\ Done S r.v (r.L'.getD S.L) ((execOp ρc o).run (P ()) S.w):=by
 have hrun:(execOp ρc o).run (P ()) S.w = (builtin b c.argTypes o.type (c.args.map fun | .const _ => true | _ => false) (c.args.map ρc)).run (P ()) S.w:=by
  simp [execOp,ho,resolve,hb,invoke]
  rfl
 rw [hrun]
 unfold callA at h
 rw [hb] at h
 simp only at h
 split at h
 ·rename_i s x T X h1 h2
  have e1:=arr_of_list h1
  have e2:=arr_of_list h2
  rw [e1,e2]
  have fin:((∃ e',(P ()).underlying X = some (.slice e')) \/ (P ()).underlying X = some .string) -> appendA P S.L T (ρ s) (ρ x) = some r -> r.calls = [] /\ Done S r.v (r.L'.getD S.L) ((builtin .append ⟨[T,X]⟩ o.type ((⟨[s,x]⟩:Array Operand).map fun | .const _ => true | _ => false) ((⟨[s,x]⟩:Array Operand).map ρc)).run (P ()) S.w):=by
   intro hX h
   obtain ⟨_,k2,k3⟩:=append_made (P:=P) (ty:=o.type) hS (hρ s) (hρ x) hX h hA
   refine ⟨k2,?_⟩
   have:=done_of_made k3
   simpa [builtin] using this
  split at h
  ·rename_i e' hX;exact fin (.inl ⟨e',hX⟩) h
  ·rename_i hX;exact fin (.inr hX) h
  ·simp at h
 ·rename_i d T rest h1 h2
  have e1:=arr_of_list h1
  have e2:=arr_of_list h2
  rw [e1,e2]
  obtain ⟨_,k2,k3⟩:=clear_made (P:=P) (ty:=o.type) (ts:=⟨T :: rest⟩) hS (by simp) (hρ d) h hA
  refine ⟨k2,?_⟩
  have:=done_of_made k3
  simpa [builtin] using this
 ·rename_i x T rest h1 h2
  have e1:=arr_of_list h1
  have e2:=arr_of_list h2
  rw [e1,e2]
  obtain ⟨k1,k2,_,k3⟩:=len_sound (P:=P) (ty:=o.type) (ts:=⟨T :: rest⟩) (by simp) (hρ x) h hA
  refine ⟨k2,?_⟩
  rw [k1]
  have:=done_of_run hS k3
  simpa [builtin] using this
 ·rename_i x T rest h1 h2
  have e1:=arr_of_list h1
  have e2:=arr_of_list h2
  rw [e1,e2]
  unfold quiet at h
  split at h
  ·rename_i v hv
   simp only [Option.some.injEq] at h;subst h
   have:=done_of_run hS (cap_sound (P:=P) (ty:=o.type) (ts:=⟨T :: rest⟩) (by simp) (hρ x) hv)
   exact ⟨rfl,by simpa [builtin] using this⟩
  ·simp at h
 ·rename_i tl x xs h1
  have e1:=arr_of_list h1
  rw [e1]
  unfold quiet at h
  split at h
  ·rename_i v hv
   simp only [Option.some.injEq] at h;subst h
   have:=done_of_run hS (min_sound (P:=P) (ty:=o.type) (ts:=c.argTypes) (hρ x) (RelL.map (l:=xs) hρ) hv)
   exact ⟨rfl,by simpa [builtin] using this⟩
  ·simp at h
 ·rename_i tl x xs h1
  have e1:=arr_of_list h1
  rw [e1]
  unfold quiet at h
  split at h
  ·rename_i v hv
   simp only [Option.some.injEq] at h;subst h
   have:=done_of_run hS (max_sound (P:=P) (ty:=o.type) (ts:=c.argTypes) (hρ x) (RelL.map (l:=xs) hρ) hv)
   exact ⟨rfl,by simpa [builtin] using this⟩
  ·simp at h
 ·simp at h
theorem value_step {S:St} {inl:FuncId -> Bool} {call:Answer} {ρ:Operand -> AV} {ρc:Operand -> Value} {o:Oper} {c:Call} {f:Operand} {r:SR} (hρ:∀ x,Rel S (ρ x) (ρc x))
  (ho:o.op = .call c) (hf:c.callee = .value f) (h:callA P inl call ρ S.L c = some r):∃ g args cargs,CallLeft P inl S r ρc o g args cargs:=by
 unfold callA at h
 rw [hf] at h
 simp only at h
 split at h
 ·rename_i g a b hfv
  have hr:=hρ f
  rw [hfv] at hr
  obtain ⟨va,vb,e1,l1,l2,r1,r2⟩:=rel_func hr
  refine ⟨g,_,va ++ c.args.toList.map ρc ++ vb,?_,?_,_,h⟩
  ·have e2:(⟨va⟩:Array Value) ++ c.args.map ρc ++ ⟨vb⟩ = ⟨va ++ c.args.toList.map ρc ++ vb⟩:=by
    apply Array.ext';simp
   simp only [execOp,ho,resolve,hf,e1,Deferred.ofValue,Sem.run_bind,Sem.run_pure,Result.andThen_ok,invoke,e2]
  ·exact (RelL.append (RelL.append ⟨l1,r1⟩ (RelL.map hρ)) ⟨l2,r2⟩)
 ·simp at h
theorem quiet_done {S:St} (hS:HeapOk S) {x:Option AV} {r:SR} {s:Sem Value} (h:quiet x = some r) (hs:∀ v,x = some v -> ∃ vv,s.run (P ()) S.w = .ok vv S.w /\ Rel S v vv) :
  r.calls = [] /\ Done S r.v (r.L'.getD S.L) ((do pure (Next.value (<- s)):Sem Next).run (P ()) S.w):=by
 unfold quiet at h
 split at h
 ·rename_i v
  simp only [Option.some.injEq] at h;subst h
  exact ⟨rfl,done_of_run hS (hs v rfl)⟩
 ·simp at h
theorem step_sound {S:St} (hS:HeapOk S) {inl:FuncId -> Bool} {call:Answer} {an:Option Ans} {ρ':Chain -> Operand -> AV} {ρc:Operand -> Value} {o:Oper} {r:SR}
  (hρ:∀ ex,ChainTrue ρc ex -> ∀ x,Rel S (ρ' ex x) (ρc x)) (h:stepA P inl call an ρ' S.L o = some r) (hA:∀ b ∈ r.asm,b = true) (hQ:∀ q ∈ r.eqs,q) :
  (r.calls = [] /\ Done S r.v (r.L'.getD S.L) ((execOp ρc o).run (P ()) S.w)) \/ ∃ g args cargs,CallLeft P inl S r ρc o g args cargs:=by
 have hρ0:∀ x,Rel S (ρ' [] x) (ρc x):=hρ [] (by intro x hx;simp at hx)
 unfold stepA at h
 simp only at h
 split at h
 ·rename_i x ho
  simp only [Option.some.injEq] at h;subst h
  exact .inl ⟨rfl,done_quiet hS (hρ0 x) (by simp [execOp,ho])⟩
 ·rename_i x ho
  simp only [Option.some.injEq] at h;subst h
  exact .inl ⟨rfl,done_quiet hS (hρ0 x) (by simp [execOp,ho])⟩
 ·rename_i c a b ho
  have hex:∀ t,ρc c = .bool t -> (execOp ρc o).run (P ()) S.w = .ok (.value (if t then ρc a else ρc b)) S.w:=by
   intro t ht
   simp [execOp,ho,ht,asBool]
  left
  split at h
  ·rename_i d
   unfold quiet at h
   split at h
   ·rename_i v hv
    simp only [Option.some.injEq] at h;subst h
    obtain ⟨t,e1,e2⟩:=pick_sound (av:=ρc a) (bv:=ρc b) (hρ0 (.tmp d)) (fun e => hρ [(d,true)] (by intro x hx;simp at hx;subst hx;exact e) a) (fun e => hρ [(d,false)] (by intro x hx;simp at hx;subst hx;exact e) b) hv
    exact ⟨rfl,done_quiet hS e2 (hex t e1)⟩
   ·simp at h
  ·unfold quiet at h
   split at h
   ·rename_i v hv
    simp only [Option.some.injEq] at h;subst h
    obtain ⟨t,e1,e2⟩:=pick_sound (hρ0 c) (fun _ => hρ0 a) (fun _ => hρ0 b) hv
    exact ⟨rfl,done_quiet hS e2 (hex t e1)⟩
   ·simp at h
 ·rename_i T ho
  split at h
  ·rename_i z hz
   obtain ⟨zv,e1,e2⟩:=zero_rel S hz
   obtain ⟨_,_,k3,L',k4,k5⟩:=box_made (P:=P) (T:=T) hS e2 h
   refine .inl ⟨k3,?_⟩
   rw [k4]
   have:(execOp ρc o).run (P ()) S.w = (do pure (Next.value (<- (newVar T zv >>= fun a => pure (Value.pointer (some a)):Sem Value))):Sem Next).run (P ()) S.w:=by
    simp [execOp,ho,Instr.alloc,e1]
   rw [this]
   exact done_of_made k5
  ·simp at h
 ·rename_i T x ho
  obtain ⟨_,_,k3,L',k4,k5⟩:=box_made (P:=P) (T:=T) hS (hρ0 x) h
  refine .inl ⟨k3,?_⟩
  rw [k4]
  have:(execOp ρc o).run (P ()) S.w = (do pure (Next.value (<- (newVar T (ρc x) >>= fun a => pure (Value.pointer (some a)):Sem Value))):Sem Next).run (P ()) S.w:=by
   simp [execOp,ho,Instr.box]
  rw [this]
  exact done_of_made k5
 ·rename_i T parts ho
  have:=quiet_done (P:=P) hS (s:=Instr.build T (parts.map fun (i,x) => (i,ρc x))) h (fun v hv => build_sound hρ0 hv)
  exact .inl (by simpa [execOp,ho] using this)
 ·rename_i T len parts ho
  obtain ⟨_,k2,k3⟩:=buildSlice_made (P:=P) hS hρ0 h hA
  exact .inl ⟨k2,by simpa [execOp,ho] using done_of_made k3⟩
 ·rename_i T a ho
  obtain ⟨k1,k2,k3⟩:=load_sound (P:=P) hS (hρ0 a) h hA hQ
  refine .inl ⟨k2,?_⟩
  rw [k1]
  simpa [execOp,ho] using done_of_run hS k3
 ·rename_i T a x ho
  obtain ⟨k1,k2,L',β',w',k3,k4,k5,k6⟩:=store_made (P:=P) hS (hρ0 a) (hρ0 x) h hA hQ
  refine .inl ⟨k2,?_⟩
  rw [k1,k3]
  exact ⟨β',w',undef,k4,k5,.tup [] [] rfl (by simp),.inr ⟨by simp [execOp,ho,k6],rfl⟩⟩
 ·rename_i x ho
  have hx:=hρ0 x
  split at h
  ·rename_i r' ver i j hv
   simp only [Option.some.injEq] at h;subst h
   rw [hv] at hx
   obtain ⟨⟨a,e⟩,_⟩:=rel_ptr' hx
   exact .inl ⟨rfl,done_quiet hS hx (by simp [execOp,ho,e])⟩
  ·rename_i es xs i j hv
   simp only [Option.some.injEq] at h;subst h
   rw [hv] at hx
   have hd:=rel_eptr hx
   generalize hpv:ρc x = pv at *
   cases hd with
   | eptr _ _ _ _ b off h1 h2 h3 => exact .inl ⟨rfl,done_quiet hS hx (by simp [execOp,ho,hpv])⟩
  ·simp at h
 ·rename_i op T x y yT ho
  obtain ⟨k1,k2,vv,k3,k4⟩:=bin_sound (P:=P) (xo:=x) (yo:=y) (hρ0 x) (hρ0 y) h hA
  refine .inl ⟨k2,?_⟩
  rw [k1]
  have:=done_of_run (P:=P) hS ⟨vv,k3,k4⟩
  simpa [execOp,ho] using this
 ·rename_i op T x ho
  have:=quiet_done (P:=P) hS h (fun v hv => un_sound (hρ0 x) hv)
  exact .inl (by simpa [execOp,ho] using this)
 ·rename_i src dst x ho
  have:=quiet_done (P:=P) hS h (fun v hv => conv_sound (hρ0 x) hv)
  exact .inl (by simpa [execOp,ho] using this)
 ·rename_i fn first captured ho
  simp only [Option.some.injEq] at h;subst h
  refine .inl ⟨rfl,done_quiet hS (cv:=.func fn ⟨first.toList.map ρc⟩ ⟨captured.toList.map ρc⟩) ?_ ?_⟩
  ·exact .func fn _ _ _ _ (RelL.map hρ0).1 (RelL.map hρ0).1 (RelL.map hρ0).2 (RelL.map hρ0).2
  ·have e1:first.map ρc = ⟨first.toList.map ρc⟩:=by apply Array.ext';simp
   have e2:captured.map ρc = ⟨captured.toList.map ρc⟩:=by apply Array.ext';simp
   simp [execOp,ho,Instr.makeFunc,e1,e2]
 ·rename_i T l c ho
  obtain ⟨_,k2,L',k3,k4⟩:=make_made (P:=P) hS (hρ0 l) (hρ0 c) h hA
  refine .inl ⟨k2,?_⟩
  rw [k3]
  simpa [execOp,ho] using done_of_made k4
 ·rename_i T x lo hi mx ho
  obtain ⟨k1,k2,_,k3⟩:=slice_sound (P:=P) hS (hρ0 x) (bopt hρ0 lo) (bopt hρ0 hi) (bopt hρ0 mx) h hA
  refine .inl ⟨k2,?_⟩
  rw [k1]
  simpa [execOp,ho] using done_of_run hS k3
 ·rename_i T x f ho
  have:=quiet_done (P:=P) hS h (fun v hv => fieldAddr_sound (hρ0 x) hv)
  exact .inl (by simpa [execOp,ho] using this)
 ·rename_i T x f ho
  have:=quiet_done (P:=P) hS h (fun v hv => field_sound (hρ0 x) hv)
  exact .inl (by simpa [execOp,ho] using this)
 ·rename_i T x i ho
  obtain ⟨k1,k2,_,k3⟩:=indexAddr_sound (P:=P) hS (hρ0 x) (hρ0 i) h hA
  refine .inl ⟨k2,?_⟩
  rw [k1]
  simpa [execOp,ho] using done_of_run hS k3
 ·rename_i T x i ho
  obtain ⟨k1,k2,_,k3⟩:=index_sound (P:=P) (hρ0 x) (hρ0 i) h hA
  refine .inl ⟨k2,?_⟩
  rw [k1]
  simpa [execOp,ho] using done_of_run hS k3
 ·rename_i t i ho
  have ht:=hρ0 t
  split at h
  ·rename_i vs hv
   rw [hv] at ht
   have:=quiet_done (P:=P) hS h (fun v hv => extract_sound ht hv)
   exact .inl (by simpa [execOp,ho] using this)
  ·simp at h
 ·rename_i c ho
  have key:∀ call',callA P inl call' (ρ' []) S.L c = some r -> (r.calls = [] /\ Done S r.v (r.L'.getD S.L) ((execOp ρc o).run (P ()) S.w)) \/ ∃ g args cargs,CallLeft P inl S r ρc o g args cargs:=by
   intro call' h
   cases hc:c.callee with
   | value f => exact .inr (value_step hρ0 ho hc h)
   | builtin b => exact .inl (builtin_step hS hρ0 ho hc h hA)
   | invoke x m => simp [callA,hc] at h
  split at h
  ·exact key _ h
  ·exact key _ h
 ·simp at h
end
end Go.Av

namespace Go.Av
open Go.RowKit
inductive ChainOk (env:Env):Chain -> Prop
 | nil:ChainOk env []
 | cons (d:Nat) (w:Bool) (b:Bool):(env.get d).2 = .bool b -> ChainOk env (env.get d).1 -> ChainOk env ((d,w) :: (env.get d).1)
def noD (d:Nat) (c:Chain):Bool:=!(c.any fun x => x.1 == d)
structure TRel (S:St) (env:Env) (tm:Array Value):Prop where
 chain:∀ t,ChainOk env (env.get t).1
 yes:∀ t,chainVal env (env.get t).1 = true -> Rel S (env.get t).2 (tm.getD t undef)
 no:∀ t,chainVal env (env.get t).1 = false -> tm.getD t undef = undef
theorem TRel.mono {S S':St} (he:Ext S S') {env:Env} {tm:Array Value} (h:TRel S env tm):TRel S' env tm:=
 ⟨h.chain,fun t ht => (h.yes t ht).mono he,h.no⟩
theorem chain_iff {S:St} {env:Env} {tm:Array Value} (h:TRel S env tm) {c:Chain} (hc:ChainOk env c) :
  chainVal env c = true ↔ ∀ x ∈ c,tm.getD x.1 undef = .bool x.2:=by
 induction hc with
 | nil => simp [chainVal]
 | cons d w b hb _ ih =>
  simp only [chainVal,hb,Bool.and_eq_true,beq_iff_eq,List.forall_mem_cons]
  rw [<- ih]
  constructor
  ·rintro ⟨e,hch⟩
   have:=h.yes d hch
   rw [hb] at this
   exact ⟨by rw [rel_bool this,e],hch⟩
  ·rintro ⟨e,hch⟩
   have:=h.yes d hch
   rw [hb] at this
   have:=rel_bool this
   rw [e] at this
   simp only [Value.bool.injEq] at this
   exact ⟨this.symm,hch⟩
theorem ev_rel {S:St} {env:Env} {a:Act} (h:TRel S env a.tmps) {c:Chain} (hc:∀ x ∈ c,a.tmps.getD x.1 undef = .bool x.2) (x:Operand):Rel S (ev env c x) (a.eval x):=by
 cases x with
 | tmp t =>
  simp only [ev,Act.eval]
  cases hs:Chain.sub (env.get t).1 c with
  | false => exact .any _
  | true =>
   refine h.yes t ((chain_iff h (h.chain t)).2 fun x hx => ?_)
   have:=(List.all_eq_true.1 hs) x hx
   obtain ⟨y,hy,he⟩:=List.any_eq_true.1 this
   simp only [Bool.and_eq_true,beq_iff_eq] at he
   rw [he.1,he.2];exact hc y hy
 | const v => exact rel_ofC S v
 | global g => exact .any _
 | func f => exact .data _ _ (.func _ [] [] [] [] rfl rfl (by simp) (by simp))
theorem get_any {env:Env} {d:Nat} (h:(env.any fun e => e.2.1.any fun x => x.1 == d) = false) (t:Nat):noD d (env.get t).1 = true:=by
 induction env with
 | nil => rfl
 | cons e env ih =>
  obtain ⟨k,c,v⟩:=e
  simp only [List.any_cons,Bool.or_eq_false_iff] at h
  simp only [Env.get]
  cases hk:k == t with
  | true => simpa [noD] using h.1
  | false => exact ih h.2
theorem chainVal_cons {env:Env} {d:Nat} {c':Chain} {v:AV} {c:Chain} (h:noD d c = true):chainVal ((d,c',v) :: env) c = chainVal env c:=by
 induction c with
 | nil => rfl
 | cons x c ih =>
  simp only [noD,List.any_cons,Bool.not_or,Bool.and_eq_true,Bool.not_eq_true',beq_eq_false_iff_ne] at h
  have hk:(d == x.1) = false:=by simpa using fun e => h.1 e.symm
  simp only [chainVal,Env.get,hk,cond_false]
  rw [ih (by simpa [noD] using h.2)]
theorem ChainOk.cons_env {env:Env} {d:Nat} {c':Chain} {v:AV} {c:Chain} (hc:ChainOk env c):noD d c = true -> ChainOk ((d,c',v) :: env) c:=by
 induction hc with
 | nil => exact fun _ => .nil
 | cons t w b hb _ ih =>
  intro h
  simp only [noD,List.any_cons,Bool.not_or,Bool.and_eq_true,Bool.not_eq_true',beq_eq_false_iff_ne] at h
  have hk:(d == t) = false:=by simpa using fun e => h.1 e.symm
  have e:Env.get ((d,c',v) :: env) t = env.get t:=by simp [Env.get,hk]
  have:=ChainOk.cons (env:=(d,c',v) :: env) t w b (by rw [e];exact hb) (by rw [e];exact ih (by simpa [noD] using h.2))
  rwa [e] at this
theorem putE_spec {n:Nat} {d:Nat} {c:Chain} {v:AV} {env env':Env} (h:putE n (some d) c v env = some env') :
  d < n /\ env' = (d,c,v) :: env /\ noD d c = true /\ ∀ t,noD d (env.get t).1 = true:=by
 unfold putE at h
 simp only at h
 split at h
 ·rename_i h1
  simp only [Option.some.injEq] at h
  obtain ⟨h2,h3⟩:=h1
  simp only [List.any_cons,Bool.or_eq_false_iff] at h3
  exact ⟨h2,h.symm,by simpa [noD] using h3.1,get_any h3.2⟩
 ·simp at h
theorem size_put (a:Act) (o:Option Tmp) (v:Value):(a.put o v).tmps.size = a.tmps.size:=by
 cases o <;> simp [Act.put]
theorem put_rel {S:St} {env env':Env} {a:Act} {n:Nat} {d:Option Tmp} {c:Chain} {v:AV} {cv:Value} (h:TRel S env a.tmps) (hn:n <= a.tmps.size) (hc:ChainOk env c)
  (hp:putE n d c v env = some env') (hy:chainVal env c = true -> Rel S v cv) (hno:chainVal env c = false -> cv = undef):TRel S env' (a.put d cv).tmps:=by
 cases d with
 | none =>
  simp only [putE,Option.some.injEq] at hp
  subst hp;exact h
 | some d =>
  obtain ⟨h1,rfl,h3,h4⟩:=putE_spec hp
  have hgd:∀ t,(a.put (some d) cv).tmps.getD t undef = if d = t then cv else a.tmps.getD t undef:=by
   intro t
   simp only [Act.put]
   by_cases e:d = t
   ·subst e
    have:d < a.tmps.size:=Nat.lt_of_lt_of_le h1 hn
    simp [this]
   ·simp [e]
  have hget:∀ t,Env.get ((d,c,v) :: env) t = if d = t then (c,v) else env.get t:=by
   intro t
   simp only [Env.get]
   by_cases e:d = t
   ·subst e;simp
   ·have:(d == t) = false:=by simpa using e
    simp [this,e]
  have hch:∀ t,noD d (Env.get ((d,c,v) :: env) t).1 = true:=by
   intro t;rw [hget];split
   ·exact h3
   ·exact h4 t
  refine ⟨fun t => ?_,fun t ht => ?_,fun t ht => ?_⟩
  ·have:=hch t
   rw [hget] at this ⊢
   split
   ·exact hc.cons_env h3
   ·exact (h.chain t).cons_env (h4 t)
  ·rw [chainVal_cons (hch t)] at ht
   rw [hget] at ht ⊢
   rw [hgd]
   split
   ·rename_i e;rw [if_pos e] at ht;exact hy ht
   ·rename_i e;rw [if_neg e] at ht;exact h.yes t ht
  ·rw [chainVal_cons (hch t)] at ht
   rw [hget] at ht
   rw [hgd]
   split
   ·rename_i e;rw [if_pos e] at ht;exact hno ht
   ·rename_i e;rw [if_neg e] at ht;exact h.no t ht
def OwnSnd (M:Mach) (f:FuncId) (args:List AV) (L:Heap) (v:AV) (L':Heap):Prop:=
 ∀ (S:St) (cargs:List Value),HeapOk S -> S.L = L -> RelL S args cargs ->
  (∀ w,(callFunc f ⟨cargs⟩).run (M.P ()) w = .ok (.enter f ⟨cargs⟩) w) /\
  Calls (M.P ()) f ⟨cargs⟩ S.w fun
   | .returned cv,w' => ∃ β',HeapOk ⟨S.base,S.acc,L',β',w'⟩ /\ Ext S ⟨S.base,S.acc,L',β',w'⟩ /\ Rel ⟨S.base,S.acc,L',β',w'⟩ v cv
   | _,_ => False
def PureSnd (M:Mach) (f:FuncId) (args:List AV) (d:AV):Prop:=
 ∀ (base:Nat) (acc:Nat -> Nat -> Prop) (w:World) (cargs:List Value),base <= w.heap.size -> (∀ b off,base <= b -> acc b off) -> RelL ⟨base,acc,[],[],w⟩ args cargs ->
  (∀ w,(callFunc f ⟨cargs⟩).run (M.P ()) w = .ok (.enter f ⟨cargs⟩) w) /\
  Calls (M.P ()) f ⟨cargs⟩ w fun
   | .returned cv,w' => Below base w w' /\ DRel ⟨base,acc,[],[],w'⟩ d cv
   | _,_ => False
def CFSnd (M:Mach) (c:CF):Prop:=
 match c.own with
 | true => OwnSnd M c.f c.args c.L c.v c.L'
 | false => PureSnd M c.f c.args c.v
theorem getD_of_get {a:Array Value} {d:Nat} {v:Value} (h:a[d]? = some v):a.getD d undef = v:=by
 simp [h]
theorem chainOf_no {S:St} {env:Env} {ops:Array Oper} {a:Act} {o:Oper} (hT:TRel S env a.tmps) (h:chainOf ops env o = some none):Region.wanted o (yielded ops a.tmps) = false:=by
 unfold chainOf at h
 unfold Region.wanted
 split at h
 ·simp at h
 ·rename_i j want hg
  simp only [hg]
  split at h
  ·rename_i hd
   simp [yielded,hd]
  ·rename_i d hd
   have hno:a.tmps.getD d undef = undef -> (yielded ops a.tmps j == some want) = false:=by
    intro e
    unfold yielded
    rw [hd]
    simp only [Option.bind_some]
    cases hx:a.tmps[d]? with
    | none => rfl
    | some v =>
     have:=getD_of_get hx
     rw [e] at this
     subst this
     rfl
   split at h
   ·simp at h
   ·rename_i ch hgt
    cases hcv:chainVal env ch with
    | false =>
     have:=hT.no d (by rw [hgt];exact hcv)
     exact hno this
    | true =>
     have:=hT.yes d (by rw [hgt];exact hcv)
     rw [hgt] at this
     obtain ⟨vs,h1,h2,_⟩:=rel_tup this
     have:vs = []:=List.length_eq_zero_iff.1 h2.symm
     subst this
     exact hno h1
   ·simp at h
theorem chainOf_yes {S:St} {env:Env} {ops:Array Oper} {a:Act} {o:Oper} {c:Chain} (hT:TRel S env a.tmps) (h:chainOf ops env o = some (some c)) :
  ChainOk env c /\ Region.wanted o (yielded ops a.tmps) = chainVal env c:=by
 unfold chainOf at h
 unfold Region.wanted
 split at h
 ·rename_i hg
  simp only [Option.some.injEq] at h;subst h
  simp only [hg]
  exact ⟨.nil,rfl⟩
 ·rename_i j want hg
  simp only [hg]
  split at h
  ·simp at h
  ·rename_i d hd
   split at h
   ·rename_i ch b hgt
    simp only [Option.some.injEq] at h;subst h
    have hc:ChainOk env ((d,want) :: ch):=by
     have:=ChainOk.cons (env:=env) d want b (by rw [hgt]) (hT.chain d)
     rwa [hgt] at this
    refine ⟨hc,?_⟩
    have hch:ChainOk env ch:=by have:=hT.chain d;rwa [hgt] at this
    unfold yielded
    rw [hd]
    simp only [Option.bind_some,chainVal,hgt]
    cases hcv:chainVal env ch with
    | false =>
     have:=hT.no d (by rw [hgt];exact hcv)
     cases hx:a.tmps[d]? with
     | none => simp
     | some v =>
      have h2:=getD_of_get hx
      rw [this] at h2
      subst h2
      simp [undef]
    | true =>
     have:=hT.yes d (by rw [hgt];exact hcv)
     rw [hgt] at this
     have:=rel_bool this
     cases hx:a.tmps[d]? with
     | none => rw [Array.getD_eq_getD_getElem?,hx] at this;simp [undef] at this
     | some v =>
      have h2:=getD_of_get hx
      rw [this] at h2
      subst h2
      simp
   ·simp at h
   ·simp at h
theorem DRel.scalar {S S':St} {a:AV} {v:Value} (h:DRel S a v):a.scalar = true -> DRel S' a v:=by
 have get:∀ {l:List AV},scalarL l = true -> ∀ (i:Nat) c,l[i]? = some c -> c.scalar = true:=by
  intro l
  induction l with
  | nil => intro _ i c hc;simp at hc
  | cons x l ih =>
   intro h i c hc
   simp only [scalarL,Bool.and_eq_true] at h
   cases i with
   | zero => simp at hc;subst hc;exact h.1
   | succ i => simp at hc;exact ih h.2 i c hc
 induction h with
 | bool b => exact fun _ => .bool b
 | int k n => exact fun _ => .int k n
 | str s => exact fun _ => .str s
 | nilp => exact fun _ => .nilp
 | nilf => exact fun _ => .nilf
 | vnil => exact fun _ => .vnil
 | agg cs vs hl _ ih => exact fun h => .agg cs vs hl fun i c v hc hv => ih i c v hc hv (get (by simpa [AV.scalar] using h) i c hc)
 | tup cs vs hl _ ih => exact fun h => .tup cs vs hl fun i c v hc hv => ih i c v hc hv (get (by simpa [AV.scalar] using h) i c hc)
 | func fn a b va vb ha hb _ _ ih1 ih2 => intro h;simp [AV.scalar] at h
 | eptr es xs i j b off ho hc _ ih => intro h;simp [AV.scalar] at h
 | vecE f es a cap hf => intro h;simp [AV.scalar] at h
 | vec f es xs b off cap ho hf hl hc _ ih => intro h;simp [AV.scalar] at h
theorem pure_call {M:Mach} {S:St} (hS:HeapOk S) {args ds:List AV} {cargs:List Value} {d:AV} {g:FuncId} {L2:Heap} (hrel:RelL S args cargs) (hds:pureL S.L args = some ds)
  (hv:∀ b ∈ versL S.L args,b = true) (hL2:(d.scalar = true /\ L2 = S.L) \/ L2 = freeze (rowsL args) S.L) (hsnd:PureSnd M g ds d) :
  (∀ w,(callFunc g ⟨cargs⟩).run (M.P ()) w = .ok (.enter g ⟨cargs⟩) w) /\
  Calls (M.P ()) g ⟨cargs⟩ S.w fun
   | .returned cv,w' => HeapOk ⟨S.base,S.acc,L2,S.β,w'⟩ /\ Ext S ⟨S.base,S.acc,L2,S.β,w'⟩ /\ Rel ⟨S.base,S.acc,L2,S.β,w'⟩ d cv
   | _,_ => False:=by
 obtain ⟨z1,z2⟩:HeapOk ⟨S.base,S.acc,L2,S.β,S.w⟩ /\ Ext S ⟨S.base,S.acc,L2,S.β,S.w⟩:=by
  rcases hL2 with ⟨_,rfl⟩ | rfl
  ·exact ⟨hS,Ext.refl S⟩
  ·exact freeze_ok _ hS
 let acc':Nat -> Nat -> Prop:=fun b off => S.w.heap.size <= b \/ d.scalar = true \/ Imm ⟨S.base,S.acc,L2,S.β,S.w⟩ b off
 have hpre:RelL ⟨S.w.heap.size,acc',[],[],S.w⟩ ds cargs:=by
  have hi:∀ b off,Imm S b off -> b < S.w.heap.size -> Imm ⟨S.w.heap.size,acc',[],[],S.w⟩ b off:=
   fun b off h1 h2 => ⟨.inr (.inr (z2.imm b off h1 h2).1),by simp⟩
  have hh:Holds S ⟨S.w.heap.size,acc',[],[],S.w⟩ (rowsL args):=by
   intro r hr row info h1 h2 off h3 h4
   refine ⟨?_,by simp⟩
   rcases hL2 with ⟨h,_⟩ | rfl
   ·exact .inr (.inl h)
   ·exact .inr (.inr (freeze_holds hS _ r hr row info h1 h2 off h3 h4))
  obtain ⟨h1,h2⟩:=pure_relL (S':=⟨S.w.heap.size,acc',[],[],S.w⟩) hS rfl hi args hrel hds hv hh
  exact ⟨h1,fun i c v hc hv => .data _ _ (h2 i c v hc hv)⟩
 obtain ⟨m1,m2⟩:=hsnd _ acc' S.w cargs (Nat.le_refl _) (fun b off h => .inl h) hpre
 refine ⟨m1,Calls.mono m2 fun e w'' he => ?_⟩
 cases e with
 | returned cv =>
  obtain ⟨n1,n2⟩:=he
  obtain ⟨k1,k2⟩:=more_heap z1 (w':=w'') ⟨n1.os,n1.tape,n1.output,n1.size,fun k hk => n1.block k (Nat.lt_of_lt_of_le hk hS.base)⟩ (fun b hb => n1.block b hb)
  refine ⟨k1,z2.trans k2,.data _ _ ?_⟩
  rcases hL2 with ⟨h,_⟩ | _
  ·exact n2.scalar h
  ·cases hsc:d.scalar with
   | true => exact n2.scalar hsc
   | false =>
    refine DRel.shift (S':=⟨S.base,S.acc,L2,S.β,w''⟩) (S:=⟨S.w.heap.size,acc',[],[],w''⟩) rfl (fun b off hi hb => ?_) n2
    rcases hi.1 with h1 | h2 | h2
    ·refine ⟨hS.anew b off h1,fun r info h2 h3 => ?_⟩
     have:=(hS.blk r info h2).2
     omega
    ·rw [hsc] at h2;simp at h2
    ·exact h2
 | panicked c => exact he.elim
 | outgrown => exact he.elim
theorem drel_scalar_of_fresh {S:St} {a:AV} {v:Value} (h:DRel S a v):freshA a = true -> a.scalar = true:=by
 have all:∀ {l:List AV} {vs:List Value},l.length = vs.length -> (∀ (i:Nat) c v,l[i]? = some c -> vs[i]? = some v -> freshA c = true -> c.scalar = true) -> freshL l = true -> scalarL l = true:=by
  intro l
  induction l with
  | nil => intro _ _ _ _;rfl
  | cons x l ih =>
   intro vs hl h hf
   cases vs with
   | nil => simp at hl
   | cons u vs =>
    simp only [freshL,Bool.and_eq_true] at hf
    simp only [scalarL,Bool.and_eq_true]
    exact ⟨h 0 x u rfl rfl hf.1,ih (vs:=vs) (by simpa using hl) (fun i c v hc hv => h (i + 1) c v (by simpa using hc) (by simpa using hv)) hf.2⟩
 induction h with
 | agg cs vs hl _ ih => intro hf;simpa [AV.scalar] using all hl ih (by simpa [freshA] using hf)
 | tup cs vs hl _ ih => intro hf;simpa [AV.scalar] using all hl ih (by simpa [freshA] using hf)
 | bool b => intro _;rfl
 | int k m => intro _;rfl
 | str s => intro _;rfl
 | nilp => intro _;rfl
 | nilf => intro _;rfl
 | vnil => intro _;rfl
 | func => intro hf;simp [freshA,AV.scalar] at hf
 | eptr => intro hf;simp [freshA,AV.scalar] at hf
 | vecE => intro hf;simp [freshA,AV.scalar] at hf
 | vec => intro hf;simp [freshA,AV.scalar] at hf
theorem scalar_rel {S S':St} {a:AV} {v:Value} (h:Rel S a v) (hs:a.scalar = true):Rel S' a v:=by
 have get:∀ {l:List AV},scalarL l = true -> ∀ (i:Nat) c,l[i]? = some c -> c.scalar = true:=by
  intro l
  induction l with
  | nil => intro _ i c hc;simp at hc
  | cons x l ih =>
   intro h i c hc
   simp only [scalarL,Bool.and_eq_true] at h
   cases i with
   | zero => simp at hc;subst hc;exact h.1
   | succ i => simp at hc;exact ih h.2 i c hc
 induction h with
 | any v => simp [AV.scalar] at hs
 | data a v h => exact .data _ _ (h.scalar hs)
 | agg cs vs hl _ ih => exact .agg cs vs hl fun i c v hc hv => ih i c v hc hv (get (by simpa [AV.scalar] using hs) i c hc)
 | tup cs vs hl _ ih => exact .tup cs vs hl fun i c v hc hv => ih i c v hc hv (get (by simpa [AV.scalar] using hs) i c hc)
 | func fn a b va vb _ _ _ _ _ _ => simp [AV.scalar] at hs
 | ptr r ver i j row info v _ _ _ _ _ => simp [AV.scalar] at hs
 | row r ver row info v _ _ _ _ _ => simp [AV.scalar] at hs
 | ref r ver lo len row info v _ _ _ _ _ => simp [AV.scalar] at hs
theorem scalar_ren (f:Nat -> Nat):∀ {a:AV} {S:St} {v:Value},Rel S a v -> a.scalar = true -> renA f a = a:=by
 intro a S v h hs
 have get:∀ {l:List AV},scalarL l = true -> ∀ (i:Nat) c,l[i]? = some c -> c.scalar = true:=by
  intro l
  induction l with
  | nil => intro _ i c hc;simp at hc
  | cons x l ih =>
   intro h i c hc
   simp only [scalarL,Bool.and_eq_true] at h
   cases i with
   | zero => simp at hc;subst hc;exact h.1
   | succ i => simp at hc;exact ih h.2 i c hc
 induction h with
 | any v => simp [AV.scalar] at hs
 | data a v h => exact dren h f
 | agg cs vs hl _ ih =>
  simp only [renA]
  rw [renL_same fun i c hc => ih i c (vs[i]'(by rw [<- hl];exact (List.getElem?_eq_some_iff.1 hc).1)) hc (List.getElem?_eq_getElem _) (get (by simpa [AV.scalar] using hs) i c hc)]
 | tup cs vs hl _ ih =>
  simp only [renA]
  rw [renL_same fun i c hc => ih i c (vs[i]'(by rw [<- hl];exact (List.getElem?_eq_some_iff.1 hc).1)) hc (List.getElem?_eq_getElem _) (get (by simpa [AV.scalar] using hs) i c hc)]
 | func fn a b va vb _ _ _ _ _ _ => simp [AV.scalar] at hs
 | ptr r ver i j row info v _ _ _ _ _ => simp [AV.scalar] at hs
 | row r ver row info v _ _ _ _ _ => simp [AV.scalar] at hs
 | ref r ver lo len row info v _ _ _ _ _ => simp [AV.scalar] at hs
theorem fresh_rel {S1 S':St} {j n:Nat} {row:Row} {info:BI} (h1:S1.L[j]? = some row) (h2:S1.β[j]? = some info) (h3:S'.L[n]? = some row) (h4:S'.β[n]? = some info) {a:AV} {v:Value} (h:Rel S1 a v) :
  freshA a = true -> (∀ r ∈ rowsA a,r = j) -> Rel S' (renA (fun _ => n) a) v:=by
 have get:∀ {l:List AV},freshL l = true -> ∀ (i:Nat) c,l[i]? = some c -> freshA c = true:=by
  intro l
  induction l with
  | nil => intro _ i c hc;simp at hc
  | cons x l ih =>
   intro h i c hc
   simp only [freshL,Bool.and_eq_true] at h
   cases i with
   | zero => simp at hc;subst hc;exact h.1
   | succ i => simp at hc;exact ih h.2 i c hc
 have mem:∀ {l:List AV} {i:Nat} {c:AV},(renL (fun _ => n) l)[i]? = some c -> ∃ c0,l[i]? = some c0 /\ c = renA (fun _ => n) c0:=by
  intro l i c h
  rw [renL_map,List.getElem?_map] at h
  obtain ⟨c0,h1,h2⟩:=Option.map_eq_some_iff.1 h
  exact ⟨c0,h1,h2.symm⟩
 have len:∀ l:List AV,(renL (fun _ => n) l).length = l.length:=fun l => by rw [renL_map];simp
 have sc:∀ {a:AV} {v:Value},Rel S1 a v -> a.scalar = true -> Rel S' (renA (fun _ => n) a) v:=fun hr hs => by rw [scalar_ren _ hr hs];exact scalar_rel hr hs
 induction h with
 | any v => intro hf;simp [freshA,AV.scalar] at hf
 | data a v h =>
  intro hf hm
  cases h with
  | agg cs vs hl hh =>
   refine .agg _ vs ((len cs).trans hl) fun i c v hc hv => ?_
   obtain ⟨c0,k1,rfl⟩:=mem hc
   have hd:=hh i c0 v k1 hv
   rw [dren hd]
   have e:=drel_scalar_of_fresh hd (get (by simpa [freshA] using hf) i c0 k1)
   exact .data _ _ (hd.scalar e)
  | tup cs vs hl hh =>
   refine .tup _ vs ((len cs).trans hl) fun i c v hc hv => ?_
   obtain ⟨c0,k1,rfl⟩:=mem hc
   have hd:=hh i c0 v k1 hv
   rw [dren hd]
   have e:=drel_scalar_of_fresh hd (get (by simpa [freshA] using hf) i c0 k1)
   exact .data _ _ (hd.scalar e)
  | func => simp [freshA,AV.scalar] at hf
  | eptr => simp [freshA,AV.scalar] at hf
  | vecE => simp [freshA,AV.scalar] at hf
  | vec => simp [freshA,AV.scalar] at hf
  | bool b => exact .data _ _ (.bool b)
  | int k m => exact .data _ _ (.int k m)
  | str s => exact .data _ _ (.str s)
  | nilp => exact .data _ _ .nilp
  | nilf => exact .data _ _ .nilf
  | vnil => exact .data _ _ .vnil
 | agg cs vs hl _ ih =>
  intro hf hm
  refine .agg _ vs ((len cs).trans hl) fun i c v hc hv => ?_
  obtain ⟨c0,k1,rfl⟩:=mem hc
  exact ih i c0 v k1 hv (get (by simpa [freshA] using hf) i c0 k1) fun r hr => hm r (by simp only [rowsA];exact rowsL_mem k1 hr)
 | tup cs vs hl _ ih =>
  intro hf hm
  refine .tup _ vs ((len cs).trans hl) fun i c v hc hv => ?_
  obtain ⟨c0,k1,rfl⟩:=mem hc
  exact ih i c0 v k1 hv (get (by simpa [freshA] using hf) i c0 k1) fun r hr => hm r (by simp only [rowsA];exact rowsL_mem k1 hr)
 | func fn a b va vb _ _ _ _ _ _ => intro hf;simp [freshA,AV.scalar] at hf
 | ptr r ver i j row info v _ _ _ _ _ => intro hf;simp [freshA,AV.scalar] at hf
 | ref r ver lo len row info v _ _ _ _ _ => intro hf;simp [freshA,AV.scalar] at hf
 | row r ver row' info' v g0 g1 g2 g3 g4 =>
  intro hf hm
  have hj:=hm r (by simp [rowsA])
  subst hj
  rw [h1] at g1;rw [h2] at g2
  simp only [Option.some.injEq] at g1 g2
  subst g1;subst g2
  exact .row n ver row info v g0 h3 h4 g3 g4
theorem own_call {M:Mach} {S:St} (hS:HeapOk S) {args args':List AV} {cargs:List Value} {rs:List Nat} {Lc:Heap} {v v':AV} {o L':Option Heap} {g:FuncId} (hin:ownIn S.L args = some (rs,args',Lc)) (hrel:RelL S args cargs)
  (hout:ownOut S.L rs v o = some (v',L')) (hsnd:OwnSnd M g args' Lc v (o.getD Lc)) :
  (∀ w,(callFunc g ⟨cargs⟩).run (M.P ()) w = .ok (.enter g ⟨cargs⟩) w) /\
  Calls (M.P ()) g ⟨cargs⟩ S.w fun
   | .returned cv,w' => ∃ β',HeapOk ⟨S.base,S.acc,L'.getD S.L,β',w'⟩ /\ Ext S ⟨S.base,S.acc,L'.getD S.L,β',w'⟩ /\ Rel ⟨S.base,S.acc,L'.getD S.L,β',w'⟩ v' cv
   | _,_ => False:=by
 obtain ⟨rows,hrows,hnd,ha,hcl,rfl,rfl⟩:=own_in hin
 obtain ⟨hl,hg⟩:=getRows_spec hrows
 obtain ⟨hSc,_,hrelc⟩:=sub_ok hS hrows hnd hcl
 have hrel':RelL ⟨S.base,accOf S rs,rows.map (renRow (posOf rs)),subβ S.β rs,S.w⟩ (renL (posOf rs) args) cargs:=by
  refine ⟨by rw [renL_map];simpa using hrel.1,fun i c cv hc hv => ?_⟩
  rw [renL_map,List.getElem?_map] at hc
  obtain ⟨c0,h1,rfl⟩:=Option.map_eq_some_iff.1 hc
  exact hrelc c0 cv (hrel.2 i c0 cv h1 hv) fun r hr => ha r (rowsL_mem h1 hr)
 obtain ⟨m1,m2⟩:=hsnd _ cargs hSc rfl hrel'
 refine ⟨m1,Calls.mono m2 fun e w' he => ?_⟩
 cases e with
 | panicked c => exact he.elim
 | outgrown => exact he.elim
 | returned cv =>
  obtain ⟨β1,n1,n2,n3⟩:=he
  cases o with
  | some L1 =>
   simp only [Option.getD_some] at n1 n2 n3
   unfold ownOut at hout
   simp only at hout
   split at hout
   ·rename_i old new ho hn
    split at hout
    ·rename_i hc
     simp only [Option.some.injEq,Prod.mk.injEq] at hout
     obtain ⟨rfl,rfl⟩:=hout
     simp only [Bool.and_eq_true,List.all_eq_true,Bool.or_eq_true,List.contains_iff_mem] at hc
     obtain ⟨k1,k2,k3⟩:=back_ok (S1:=⟨S.base,accOf S rs,L1,β1,w'⟩) hS hrows hnd hcl n1 n2 ((noDup_iff _).1 hc.1) (fun i hi => by simpa using (List.mem_filter.1 hi).2) ho hn
      (fun row hr r hrr => by simpa [Nat.blt_eq] using hc.2.2 row hr r hrr)
     exact ⟨_,k1,k2,k3 v cv n3 fun r hr => by simpa [Nat.blt_eq] using hc.2.1 r hr⟩
    ·simp at hout
   ·simp at hout
  | none =>
   simp only [Option.getD_none] at n1 n2 n3
   unfold ownOut at hout
   simp only at hout
   split at hout
   ·rename_i hc
    simp only [Option.some.injEq,Prod.mk.injEq] at hout
    obtain ⟨rfl,rfl⟩:=hout
    simp only [List.all_eq_true] at hc
    have hk:(rows.map (renRow (posOf rs))).length = rs.length:=by simp [hl]
    have hall:=getRows_all (rows.map (renRow (posOf rs)))
    rw [hk] at hall
    have href:∀ row ∈ rows.map (renRow (posOf rs)) ++ [],∀ r ∈ rowRefs row,r < rs.length \/ r ∈ ([]:List Nat):=by
     intro row hr r hrr
     rw [List.append_nil] at hr
     obtain ⟨row0,q1,rfl⟩:=List.mem_map.1 hr
     rw [refs_ren] at hrr
     obtain ⟨r0,q2,rfl⟩:=List.mem_map.1 hrr
     exact .inl (List.getElem?_eq_some_iff.1 (posOf_get (hcl row0 q1 r0 q2))).1
    obtain ⟨k1,k2,k3⟩:=back_ok (S1:=⟨S.base,accOf S rs,rows.map (renRow (posOf rs)),β1,w'⟩) (ns:=[]) (new:=[]) hS hrows hnd hcl n1 n2 List.nodup_nil (by simp) hall rfl href
    have hL:backL S.L rs [] (rows.map (renRow (posOf rs))) [] = S.L:=by
     unfold backL
     rw [List.map_nil,List.append_nil]
     refine put_same rs _ fun j r x hj hx => ?_
     obtain ⟨row,q1,q2⟩:=hg j r hj
     rw [List.map_map,List.getElem?_map,q2] at hx
     simp only [Option.map_some,Option.some.injEq,Function.comp] at hx
     rw [<- hx,renRow_back]
     ·exact q1
     ·intro r0 hr0
      have hp:=posOf_get (hcl row (List.mem_of_getElem? q2) r0 hr0)
      obtain ⟨z1,z2⟩:=List.getElem?_eq_some_iff.1 hp
      rw [back_lt z1,z2]
    have hv:renA (backOf S.L.length rs []) v = renA (fun i => rs.getD i 0) v:=renA_ext v fun r hr => by
     have:=hc r hr
     simp [backOf,this]
    have k3':=k3 v cv n3 fun r hr => .inl (by simpa [Nat.blt_eq] using hc r hr)
    rw [hL] at k1 k2 k3'
    rw [hv] at k3'
    exact ⟨_,k1,k2,k3'⟩
   ·simp at hout
theorem scalar_cell {xs:List AV} {i k:Nat} {x c:AV} (h:scalarL xs = true) (hx:xs[i]? = some x) (hc:x.cells[k]? = some c):c.scalar = true:=by
 have get:∀ {l:List AV},scalarL l = true -> ∀ (i:Nat) c,l[i]? = some c -> c.scalar = true:=by
  intro l
  induction l with
  | nil => intro _ i c hc;simp at hc
  | cons x l ih =>
   intro h i c hc
   simp only [scalarL,Bool.and_eq_true] at h
   cases i with
   | zero => simp at hc;subst hc;exact h.1
   | succ i => simp at hc;exact ih h.2 i c hc
 have h1:=get h i x hx
 cases x with
 | agg cs => exact get (l:=cs) (by simpa [AV.scalar] using h1) k c hc
 | _ =>
  cases k with
  | zero => simp only [AV.cells,List.getElem?_cons_zero,Option.some.injEq] at hc;subst hc;exact h1
  | succ k => simp [AV.cells] at hc
theorem fresh_call {M:Mach} {S:St} (hS:HeapOk S) {args ds:List AV} {cargs:List Value} {v:AV} {L1:Heap} {j:Nat} {row:Row} {g:FuncId} (hrel:RelL S args cargs) (hds:pureL S.L args = some ds)
  (hv:∀ b ∈ versL S.L args,b = true) (hj:rowsA v = [j]) (hrow:L1[j]? = some row) (hf:freshA v = true) (hsc:scalarL row.elems = true) (hsnd:OwnSnd M g ds [] v L1) :
  (∀ w,(callFunc g ⟨cargs⟩).run (M.P ()) w = .ok (.enter g ⟨cargs⟩) w) /\
  Calls (M.P ()) g ⟨cargs⟩ S.w fun
   | .returned cv,w' => ∃ β',HeapOk ⟨S.base,S.acc,S.L ++ [row],β',w'⟩ /\ Ext S ⟨S.base,S.acc,S.L ++ [row],β',w'⟩ /\ Rel ⟨S.base,S.acc,S.L ++ [row],β',w'⟩ (renA (fun _ => S.L.length) v) cv
   | _,_ => False:=by
 let V:St:=⟨S.w.heap.size,fun _ _ => True,[],[],S.w⟩
 have hV:HeapOk V:=⟨Nat.le_refl _,rfl,by simp [V],by simp [V],by simp [V],by simp [V],by simp [V],by simp [V],by simp [V],fun _ _ _ => trivial⟩
 have hpre:RelL V ds cargs:=by
  have hi:∀ b off,Imm S b off -> b < S.w.heap.size -> Imm V b off:=fun b off _ _ => ⟨trivial,by simp [V]⟩
  have hh:Holds S V (rowsL args):=by
   intro r hr row info h1 h2 off h3 h4
   exact ⟨trivial,by simp [V]⟩
  obtain ⟨h1,h2⟩:=pure_relL (S':=V) hS rfl hi args hrel hds hv hh
  exact ⟨h1,fun i c v hc hv => .data _ _ (h2 i c v hc hv)⟩
 obtain ⟨m1,m2⟩:=hsnd V cargs hV rfl hpre
 refine ⟨m1,Calls.mono m2 fun e w' he => ?_⟩
 cases e with
 | returned cv =>
  obtain ⟨β1,n1,n2,n3⟩:=he
  have hlt:j < β1.length:=by rw [<- n1.len];exact (List.getElem?_eq_some_iff.1 hrow).1
  obtain ⟨info,hinfo⟩:∃ info,β1[j]? = some info:=⟨_,List.getElem?_eq_getElem hlt⟩
  obtain ⟨b1,b2⟩:=n1.blk j info hinfo
  simp only [V] at b1
  have hbel:Below S.w.heap.size S.w w':=n2.below
  have hold:∀ b,b < S.w.heap.size -> w'.heap[b]? = S.w.heap[b]?:=hbel.block
  have cell:∀ b off,b < S.w.heap.size -> w'.cell? ⟨b,off,none⟩ = S.w.cell? ⟨b,off,none⟩:=fun b off hb => by simp only [World.cell?,hold b hb]
  have gL:∀ {r:Nat} {row':Row},(S.L ++ [row])[r]? = some row' -> (S.L[r]? = some row') \/ (r = S.L.length /\ row' = row):=by
   intro r row' h
   rw [List.getElem?_append] at h
   split at h
   ·exact .inl h
   ·rename_i hge
    have:r - S.L.length = 0:=by
     rcases Nat.eq_zero_or_pos (r - S.L.length) with h0 | h0
     ·exact h0
     ·rw [List.getElem?_eq_none (by simp;omega)] at h;simp at h
    rw [this] at h
    simp only [List.getElem?_cons_zero,Option.some.injEq] at h
    exact .inr ⟨by omega,h.symm⟩
  have gβ:∀ {r:Nat} {info':BI},(S.β ++ [info])[r]? = some info' -> (S.β[r]? = some info') \/ (r = S.L.length /\ info' = info):=by
   intro r info' h
   rw [List.getElem?_append] at h
   split at h
   ·exact .inl h
   ·rename_i hge
    have hl:=hS.len
    have:r - S.β.length = 0:=by
     rcases Nat.eq_zero_or_pos (r - S.β.length) with h0 | h0
     ·exact h0
     ·rw [List.getElem?_eq_none (by simp;omega)] at h;simp at h
    rw [this] at h
    simp only [List.getElem?_cons_zero,Option.some.injEq] at h
    exact .inr ⟨by omega,h.symm⟩
  have lt:∀ {r:Nat} {row':Row},S.L[r]? = some row' -> r < S.L.length:=fun h => (List.getElem?_eq_some_iff.1 h).1
  have ltβ:∀ {r:Nat} {i:BI},S.β[r]? = some i -> r < S.L.length:=fun h => by rw [hS.len];exact (List.getElem?_eq_some_iff.1 h).1
  have hE:Ext S ⟨S.base,S.acc,S.L ++ [row],S.β ++ [info],w'⟩:=by
   refine ⟨rfl,rfl,fun b off hi hb => ⟨⟨hi.1,fun r info' hr he => ?_⟩,cell b off hb⟩,fun r row' info' h1 h2 => ⟨row',info',?_,?_,Nat.le_refl _,fun _ => ⟨rfl,rfl⟩⟩,⟨hbel.os,hbel.tape,hbel.output,hbel.size,fun k hk => hbel.block k (Nat.lt_of_lt_of_le hk hS.base)⟩,fun r info' hr => ?_,fun b h1 h2 _ => hold b h2⟩
   ·rcases gβ hr with h | ⟨_,rfl⟩
    ·obtain ⟨row',k1,k2⟩:=hi.2 r info' h he
     exact ⟨row',by show (S.L ++ [row])[r]? = _;rw [List.getElem?_append_left (lt k1)];exact k1,k2⟩
    ·omega
   ·show (S.L ++ [row])[r]? = _;rw [List.getElem?_append_left (lt h1)];exact h1
   ·show (S.β ++ [info])[r]? = _;rw [List.getElem?_append_left (by rw [<- hS.len];exact lt h1)];exact h2
   ·rcases gβ hr with h | ⟨_,rfl⟩
    ·exact .inl ⟨r,info',h,rfl⟩
    ·exact .inr b1
  refine ⟨S.β ++ [info],⟨?_,by simp [hS.len],?_,?_,?_,?_,?_,?_,?_,fun b off hb => hS.anew b off (Nat.le_trans hbel.size hb)⟩,hE,?_⟩
  ·exact Nat.le_trans hS.base hbel.size
  ·intro r info' hr
   rcases gβ hr with h | ⟨_,rfl⟩
   ·obtain ⟨k1,k2⟩:=hS.blk r info' h
    exact ⟨k1,Nat.lt_of_lt_of_le k2 hbel.size⟩
   ·exact ⟨Nat.le_trans hS.base b1,b2⟩
  ·intro r r' i1 i2 h1 h2 he
   rcases gβ h1 with g1 | ⟨e1,e2⟩ <;> rcases gβ h2 with g2 | ⟨e3,e4⟩
   ·exact hS.inj r r' i1 i2 g1 g2 he
   ·have:=(hS.blk r i1 g1).2;rw [e4] at he;omega
   ·have:=(hS.blk r' i2 g2).2;rw [e2] at he;omega
   ·rw [e1,e3]
  ·intro r row' info' h1 h2
   rcases gL h1 with h1 | ⟨rfl,rfl⟩
   ·rcases gβ h2 with h2 | ⟨e,_⟩
    ·obtain ⟨k1,k2,cs,T,k3,k4⟩:=hS.cells r row' info' h1 h2
     exact ⟨k1,k2,cs,T,by show w'.heap[_]? = _;rw [hold _ (hS.blk r info' h2).2];exact k3,k4⟩
    ·have:=lt h1;omega
   ·rcases gβ h2 with h2 | ⟨_,rfl⟩
    ·have:=ltβ h2;omega
    ·exact n1.cells j row' info' hrow hinfo
  ·intro r row' h1
   rcases gL h1 with h1 | ⟨_,rfl⟩
   ·exact hS.elems r row' h1
   ·exact n1.elems j row' hrow
  ·intro r row' info' i x k c cv' h1 h2 h3 h4 h5
   rcases gL h1 with h1 | ⟨rfl,rfl⟩
   ·rcases gβ h2 with h2 | ⟨e,_⟩
    ·exact (hS.rel r row' info' i x k c cv' h1 h2 h3 h4 (by rw [<- cell _ _ (hS.blk r info' h2).2];exact h5)).mono hE
    ·have:=lt h1;omega
   ·rcases gβ h2 with h2 | ⟨_,rfl⟩
    ·have:=ltβ h2;omega
    ·exact scalar_rel (n1.rel j row' info' i x k c cv' hrow hinfo h3 h4 h5) (scalar_cell hsc h3 h4)
  ·intro r row' info' i x k c cv' h1 h2 hcl h3 h4 h5
   rcases gL h1 with h1 | ⟨rfl,rfl⟩
   ·rcases gβ h2 with h2 | ⟨e,_⟩
    ·exact (hS.clean r row' info' i x k c cv' h1 h2 hcl h3 h4 (by rw [<- cell _ _ (hS.blk r info' h2).2];exact h5)).mono hE
    ·have:=lt h1;omega
   ·rcases gβ h2 with h2 | ⟨_,rfl⟩
    ·have:=ltβ h2;omega
    ·exact (n1.clean j row' info' i x k c cv' hrow hinfo hcl h3 h4 h5).scalar (scalar_cell hsc h3 h4)
  ·intro r info' off hr
   rcases gβ hr with h | ⟨_,rfl⟩
   ·exact hS.acq r info' off h
   ·exact hS.anew _ _ b1
  ·exact fresh_rel (S1:=⟨V.base,V.acc,L1,β1,w'⟩) (j:=j) (n:=S.L.length) hrow hinfo (by show (S.L ++ [row])[S.L.length]? = _;simp) (by show (S.β ++ [info])[S.L.length]? = _;rw [hS.len];simp) n3 hf (by rw [hj];simp)
 | panicked c => exact he.elim
 | outgrown => exact he.elim
theorem op_sound {M:Mach} {S:St} {s s':RS} {ops:Array Oper} {o:Oper} {i n hot:Nat} {an:Option Ans} {call:Answer} {a:Act} {Q:Exit -> Act -> World -> Prop} {K:Act -> World -> Prop}
  (hS:HeapOk S) (hL:S.L = s.L) (hT:TRel S s.env a.tmps) (hn:n <= a.tmps.size) (ho:ops[i]? = some o) (h:runOp M.P M.inl call n ops an hot o s = some s')
  (hA:∀ b ∈ s'.asm,b = true) (hQ:∀ q ∈ s'.eqs,q) (hC:∀ c ∈ s'.calls,c.cond = true -> CFSnd M c)
  (hK:∀ S' a',HeapOk S' -> Ext S S' -> S'.L = s'.L -> TRel S' s'.env a'.tmps -> a'.tmps.size = a.tmps.size -> a'.defers = a.defers -> K a' S'.w) :
  wpOp (M.P ()) ops Q i K a S.w:=by
 have hdef:∀ v,(a.put o.dst v).defers = a.defers:=fun v => by cases hd:o.dst <;> simp [Act.put]
 unfold wpOp
 simp only [ho]
 unfold runOp at h
 split at h
 ·simp at h
 ·rename_i hc
  split at h
  ·rename_i env he
   simp only [Option.some.injEq] at h;subst h
   simp only [chainOf_no hT hc,Bool.false_eq_true,if_false]
   exact hK S _ hS (Ext.refl S) hL (put_rel hT hn .nil he (fun _ => .data _ _ (.tup [] [] rfl (by simp))) (fun h => by simp [chainVal] at h)) (size_put _ _ _) (hdef _)
  ·simp at h
 ·rename_i c hc
  obtain ⟨hco,hw⟩:=chainOf_yes hT hc
  rw [hw]
  split at h
  ·split at h
   ·simp at h
   ·rename_i hcv
    split at h
    ·rename_i env he
     simp only [Option.some.injEq] at h;subst h
     simp only [hcv,Bool.false_eq_true,if_false]
     exact hK S _ hS (Ext.refl S) hL (put_rel hT hn hco he (fun h => by simp [hcv] at h) (fun _ => rfl)) (size_put _ _ _) (hdef _)
    ·simp at h
  ·rename_i r hr
   split at h
   ·simp at h
   ·rename_i env he
    split at h
    ·simp at h
    ·
     have hs:s'.env = env /\ s'.L = mergeH (chainVal s.env c) s.L r.L' /\ (chainVal s.env c = true -> (∀ b ∈ r.asm,b ∈ s'.asm) /\ (∀ q ∈ r.eqs,∃ q' ∈ s'.eqs,q' -> q) /\ (∀ x ∈ r.calls,∃ x' ∈ s'.calls,x'.cond = x.cond /\ (CFSnd M x' -> CFSnd M x))):=by
      split at h
      ·simp only [Option.some.injEq] at h;subst h
       refine ⟨rfl,?_,fun _ => ⟨fun b hb => by simp [hb],fun q hq => ⟨q,by simp [hq],id⟩,fun x hx => ⟨x,by simp [hx],rfl,id⟩⟩⟩
       cases r.L' <;> simp [mergeH,chainVal]
      ·simp only [Option.some.injEq] at h;subst h
       refine ⟨rfl,rfl,fun hcv => ⟨fun b hb => ?_,fun q hq => ?_,fun x hx => ?_⟩⟩
       ·simp only [hcv,List.mem_append,List.mem_map]
        exact .inr ⟨b,hb,by simp⟩
       ·refine ⟨_,List.mem_append_right _ (List.mem_map.2 ⟨q,hq,rfl⟩),fun hp => hp hcv⟩
       ·refine ⟨CF.under (chainVal s.env c) x,List.mem_append_right _ (List.mem_map.2 ⟨x,hx,rfl⟩),by simp [CF.under,hcv],?_⟩
        exact id
     obtain ⟨e1,e2,e3⟩:=hs
     cases hcv:chainVal s.env c with
     | false =>
      simp only [Bool.false_eq_true,if_false]
      refine hK S _ hS (Ext.refl S) ?_ ?_ (size_put _ _ _) (hdef _)
      ·rw [e2,hcv,hL];cases r.L' <;> rfl
      ·rw [e1];exact put_rel hT hn hco he (fun h => by simp [hcv] at h) (fun _ => rfl)
     | true =>
      simp only [if_true]
      obtain ⟨f1,f2,f3⟩:=e3 hcv
      have hL':s'.L = r.L'.getD S.L:=by rw [e2,hcv,hL];cases r.L' <;> rfl
      have hrho:∀ ex,ChainTrue a.eval ex -> ∀ x,Rel S (ev s.env (ex ++ c) x) (a.eval x):=by
       intro ex hex x
       refine ev_rel hT (fun y hy => ?_) x
       rcases List.mem_append.1 hy with hy | hy
       ·exact hex y hy
       ·exact (chain_iff hT hco).1 hcv y hy
      rw [<- hL] at hr
      have fin:∀ β' w' cv,HeapOk ⟨S.base,S.acc,r.L'.getD S.L,β',w'⟩ -> Ext S ⟨S.base,S.acc,r.L'.getD S.L,β',w'⟩ -> Rel ⟨S.base,S.acc,r.L'.getD S.L,β',w'⟩ r.v cv -> K (a.put o.dst cv) w':=by
       intro β' w' cv h1 h2 h3
       refine hK ⟨S.base,S.acc,r.L'.getD S.L,β',w'⟩ _ h1 h2 hL'.symm ?_ (size_put _ _ _) (hdef _)
       rw [e1];exact put_rel (hT.mono h2) hn hco he (fun _ => h3) (fun h => by simp [hcv] at h)
      rcases step_sound hS hrho hr (fun b hb => hA b (f1 b hb)) (fun q hq => by obtain ⟨q',h1,h2⟩:=f2 q hq;exact h2 (hQ q' h1)) with ⟨_,β',w',cv,h1,h2,h3,h4⟩ | ⟨g,args,cargs,hcl⟩
      ·left
       unfold Oper.wp
       rcases h4 with h4 | ⟨h4,h5⟩
       ·rw [h4,Oper.upon_value];exact fin β' w' cv h1 h2 h3
       ·rw [h4,Oper.upon_skip];subst h5;exact fin β' w' undef h1 h2 h3
      ·left
       unfold Oper.wp
       obtain ⟨k1,k2,call',k3⟩:=hcl
       have hsnd:∀ x ∈ r.calls,x.cond = true -> CFSnd M x:=fun x hx hxc => by
        obtain ⟨x',h1,h2,h3⟩:=f3 x hx
        exact h3 (hC x' h1 (h2.trans hxc))
       unfold callF at k3
       cases hin:M.inl g with
       | true =>
        simp only [hin,cond_true] at k3
        split at k3
        ·rename_i rs args' Lc hoi
         split at k3
         ·rename_i v o hcall
          split at k3
          ·rename_i v' L' hoo
           simp only [Option.some.injEq] at k3;subst k3
           have:=hsnd _ (List.mem_singleton.2 rfl) rfl
           obtain ⟨m1,m2⟩:=own_call (M:=M) hS hoi k2 hoo this
           rw [k1,m1,Oper.upon_enter]
           refine Calls.mono m2 fun e w'' he => ?_
           cases e with
           | returned cv =>
            obtain ⟨β',n1,n2,n3⟩:=he
            exact fin β' w'' cv n1 n2 n3
           | panicked c => exact he.elim
           | outgrown => exact he.elim
          ·simp at k3
         ·simp at k3
        ·simp at k3
       | false =>
        simp only [hin,cond_false] at k3
        split at k3
        ·rename_i ds hds
         split at k3
         ·rename_i d hcall
          split at k3
          ·rename_i hdc
           have go:∀ L2:Heap,((d.scalar = true /\ L2 = S.L) \/ L2 = freeze (rowsL args) S.L) -> r.L'.getD S.L = L2 -> r.v = d -> r.asm = versL S.L args -> r.calls = [⟨true,false,g,ds,[],d,[]⟩] ->
             Oper.upon (M.P ()) o a K Q ((execOp a.eval o).run (M.P ()) S.w):=by
            intro L2 g1 g2 g3 g4 g5
            obtain ⟨m1,m2⟩:=pure_call (M:=M) (g:=g) hS k2 hds (fun b hb => hA b (f1 b (by rw [g4];exact hb))) g1 (hsnd ⟨true,false,g,ds,[],d,[]⟩ (by rw [g5];simp) rfl)
            rw [k1,m1,Oper.upon_enter]
            refine Calls.mono m2 fun e w'' he => ?_
            cases e with
            | returned cv =>
             obtain ⟨n1,n2,n3⟩:=he
             rw [<- g2] at n1 n2 n3
             rw [<- g3] at n3
             exact fin _ w'' cv n1 n2 n3
            | panicked c => exact he.elim
            | outgrown => exact he.elim
           cases hsc:(d.scalar || allFrozen S.L (rowsL args)) with
           | true =>
            simp only [hsc,Option.some.injEq] at k3;subst k3
            rcases Bool.or_eq_true_iff.1 hsc with hs1 | hs1
            ·exact go S.L (.inl ⟨hs1,rfl⟩) rfl rfl rfl rfl
            ·exact go S.L (.inr (freeze_same _ _ hs1).symm) rfl rfl rfl rfl
           | false =>
            cases hrs:rowsL args with
            | nil => rw [hrs] at hsc;simp [allFrozen] at hsc
            | cons q qs =>
             rw [hrs] at hsc
             simp only [hrs,hsc,Option.some.injEq] at k3;subst k3
             exact go (freeze (q :: qs) S.L) (.inr (by rw [hrs])) rfl rfl rfl rfl
          ·simp at k3
         ·rename_i v L1 hcall
          split at k3
          ·rename_i j hj
           split at k3
           ·rename_i row hrow
            split at k3
            ·rename_i hfr
             simp only [Option.some.injEq] at k3;subst k3
             simp only [Bool.and_eq_true] at hfr
             obtain ⟨m1,m2⟩:=fresh_call (M:=M) (g:=g) hS k2 hds (fun b hb => hA b (f1 b (List.mem_append_left _ hb))) hj hrow hfr.1 (hA _ (f1 _ (List.mem_append_right _ (List.mem_singleton.2 rfl)))) (hsnd _ (List.mem_singleton.2 rfl) rfl)
             rw [k1,m1,Oper.upon_enter]
             refine Calls.mono m2 fun e w'' he => ?_
             cases e with
             | returned cv =>
              obtain ⟨β',n1,n2,n3⟩:=he
              exact fin β' w'' cv n1 n2 n3
             | panicked c => exact he.elim
             | outgrown => exact he.elim
            ·simp at k3
           ·simp at k3
          ·simp at k3
         ·simp at k3
        ·simp at k3
end Go.Av
