/- PART 5 of the texts of a claim, joined by a program: what each part shows stands at its head. -/
import Derived.Test.YtmkjjnbbbabnhaaPartb4f4639367

namespace Go.Av
open Go.Proofs
theorem num_lt {r:Rat}:r.num < 0 ↔ r < 0:=by
 have h:=@Rat.num_nonneg r
 constructor
 ·intro k
  apply Classical.byContradiction
  intro n
  have:0 <= r:=by grind
  have:=h.2 this
  omega
 ·intro k
  apply Classical.byContradiction
  intro n
  have:0 <= r:=h.1 (by omega)
  grind
theorem num_gt {r:Rat}:0 < r.num ↔ 0 < r:=by
 have h:=@num_lt r
 have h0:=@Rat.num_eq_zero r
 constructor
 ·intro k
  have h1:¬r < 0:=fun x => by have:=h.2 x;omega
  have h2:r ≠ 0:=fun x => by have:=h0.2 x;omega
  grind
 ·intro k
  have h1:¬r.num < 0:=fun x => by have:=h.1 x;grind
  have h2:r.num ≠ 0:=fun x => by have:=h0.1 x;grind
  omega
theorem sgR_pos {r:Rat} (h:0 < r):Sp.sgR r = 1:=by
 have:=num_gt.2 h
 unfold Sp.sgR Sp.sgnI;rw [if_neg (by omega),if_pos this]
theorem sgR_neg {r:Rat} (h:r < 0):Sp.sgR r = -1:=by
 have:=num_lt.2 h
 unfold Sp.sgR Sp.sgnI;rw [if_pos this]
theorem sgR_zero:Sp.sgR 0 = 0:=rfl
theorem tri (r:Rat):r < 0 \/ r = 0 \/ 0 < r:=by grind
theorem mul_pp {p q:Rat} (h1:0 < p) (h2:0 < q):0 < p * q:=Rat.mul_pos h1 h2
theorem mul_nn {p q:Rat} (h1:p < 0) (h2:q < 0):0 < p * q:=by
 have:=Rat.mul_pos (show 0 < -p by grind) (show 0 < -q by grind)
 grind
theorem mul_pn {p q:Rat} (h1:0 < p) (h2:q < 0):p * q < 0:=by
 have:=Rat.mul_pos h1 (show 0 < -q by grind)
 grind
theorem mul_np {p q:Rat} (h1:p < 0) (h2:0 < q):p * q < 0:=by
 have:=Rat.mul_pos (show 0 < -p by grind) h2
 grind
theorem sgR_mul (p q:Rat):Sp.sgR (p * q) = Sp.sgR p * Sp.sgR q:=by
 rcases tri p with h | h | h
 ·rcases tri q with k | k | k
  ·rw [sgR_neg h,sgR_neg k,sgR_pos (mul_nn h k)];rfl
  ·subst k;rw [Rat.mul_zero,sgR_zero,Int.mul_zero]
  ·rw [sgR_neg h,sgR_pos k,sgR_neg (mul_np h k)];rfl
 ·subst h;rw [Rat.zero_mul,sgR_zero,Int.zero_mul]
 ·rcases tri q with k | k | k
  ·rw [sgR_pos h,sgR_neg k,sgR_neg (mul_pn h k)];rfl
  ·subst k;rw [Rat.mul_zero,sgR_zero,Int.mul_zero]
  ·rw [sgR_pos h,sgR_pos k,sgR_pos (mul_pp h k)];rfl
theorem mul_ge {p q:Rat} (h1:0 <= p) (h2:0 <= q):0 <= p * q:=Rat.mul_nonneg h1 h2
end Go.Av

namespace Go.Av
open Go.Proofs
theorem sgO_square {a b c s:Rat} (hs:0 < s) (h:s * s = c):Sp.sgO a b c = Sp.sgR (a + b * s):=by
 have e:a * a - b * b * c = (a - b * s) * (a + b * s):=by rw [<- h];grind
 unfold Sp.sgO
 rw [e,sgR_mul]
 rcases tri b with k | k | k
 ·have k2:=mul_np k hs
  rcases tri a with j | j | j
  ·rw [sgR_neg k,sgR_neg j,if_pos (.inr rfl),sgR_neg (show a + b * s < 0 by grind)]
  ·subst j
   rw [sgR_neg k,sgR_zero,if_neg (by decide),if_pos rfl,sgR_neg (show (0:Rat) + b * s < 0 by grind)]
  ·rw [sgR_neg k,sgR_pos j,if_neg (by decide),if_neg (by decide),sgR_pos (show 0 < a - b * s by grind),Int.one_mul,Int.one_mul]
 ·subst k
  rw [sgR_zero,if_pos (.inl rfl),Rat.zero_mul,Rat.add_zero]
 ·have k2:=mul_pp k hs
  rcases tri a with j | j | j
  ·rw [sgR_pos k,sgR_neg j,if_neg (by decide),if_neg (by decide),sgR_neg (show a - b * s < 0 by grind)]
   omega
  ·subst j
   rw [sgR_pos k,sgR_zero,if_neg (by decide),if_pos rfl,sgR_pos (show 0 < (0:Rat) + b * s by grind)]
  ·rw [sgR_pos k,sgR_pos j,if_pos (.inr rfl),sgR_pos (show 0 < a + b * s by grind)]
theorem rt_pos {c:Rat} (hc:0 < c) (h:Sp.rsq c):0 < Sp.rt c:=by
 have e:=(rt_num h).1
 have n:=sq_nonneg c.num
 have m:=rt_mul h
 rcases tri (Sp.rt c) with k | k | k
 ·have:=num_lt.2 k;omega
 ·rw [k] at m;grind
 ·exact k
theorem sgR_qi0:Sp.sgR (Sp.qi 0) = 0:=by rw [qi_eq];rfl
theorem sgO_b0 (a c:Rat):Sp.sgO a (Sp.qi 0) c = Sp.sgR a:=by
 unfold Sp.sgO;rw [sgR_qi0,if_pos (.inl rfl)]
theorem sgO_rd (a b c:Rat):Sp.sgO a b (Sp.rad b c) = Sp.sgO a b c:=by
 by_cases h:b = 0
 ·subst h
  unfold Sp.sgO;rw [sgR_zero,if_pos (.inl rfl),if_pos (.inl rfl)]
 ·rw [show Sp.rad b c = c from if_neg h]
theorem com_rad0 (b c:Rat):Sp.rad (b + Sp.qi 0) (Sp.com b (Sp.rad b c) (Sp.qi 0)) = Sp.rad b c:=by
 rw [show b + Sp.qi 0 = b by rw [qi_eq];exact Rat.add_zero b]
 unfold Sp.com Sp.rad
 by_cases h:b = 0
 ·rw [if_pos h,if_pos h]
 ·rw [if_neg h,if_neg h,if_neg h]
theorem sgO_prog {a b c V H:Rat} (hc:0 < c):Sp.sgO (Sp.mkA a b c * V + H) (Sp.mkB b c * V + Sp.qi 0) (Sp.rad (Sp.mkB b c * V + Sp.qi 0) (Sp.com (Sp.mkB b c * V) (Sp.rad (Sp.mkB b c * V) (Sp.mkC b c)) (Sp.qi 0))) = Sp.sgO (a * V + H) (b * V) c:=by
 rw [com_rad0,show Sp.mkB b c * V + Sp.qi 0 = Sp.mkB b c * V by rw [qi_eq];exact Rat.add_zero _,sgO_rd]
 by_cases s:Sp.rsq c
 ·rw [show Sp.mkA a b c = a + b * Sp.rt c from if_pos s,show Sp.mkB b c = Sp.qi 0 from if_pos s,show Sp.qi 0 * V = Sp.qi 0 by rw [qi_eq];exact Rat.zero_mul V,sgO_b0,sgO_square (rt_pos hc s) (rt_mul s)]
  congr 1;grind
 ·rw [show Sp.mkA a b c = a from if_neg s,show Sp.mkB b c = b from if_neg s,show Sp.mkC b c = Sp.rad b c from if_neg s]
  by_cases h:b = 0
  ·subst h
   rw [Rat.zero_mul]
   unfold Sp.sgO;rw [sgR_zero,if_pos (.inl rfl),if_pos (.inl rfl)]
  ·rw [show Sp.rad b c = c from if_neg h]
theorem sgO_cong {a b c x y:Rat} (h1:Sp.sgR b = Sp.sgR x) (h2:b * b * c = x * x * y):Sp.sgO a b c = Sp.sgO a x y:=by
 unfold Sp.sgO;rw [h1,h2]
theorem corner_eq {A t k V:Rat} (hk:0 < k):Sp.sgO A (t / k * V) k = Sp.sgO A (t * V) (1 / k):=by
 have e:t / k = t * k⁻¹:=Rat.div_def t k
 have e2:1 / k = k⁻¹:=by rw [Rat.div_def,Rat.one_mul]
 have i:k⁻¹ * k = 1:=Rat.inv_mul_cancel k (by grind)
 rw [e,e2]
 generalize k⁻¹ = j at *
 refine sgO_cong ?_ ?_
 ·have:t * V = t * j * V * k:=by grind
  rw [this,sgR_mul (t * j * V) k,sgR_pos hk,Int.mul_one]
 ·have:t * j * V * (t * j * V) * k = t * V * (t * V) * j * (j * k):=by grind
  rw [this,i,Rat.mul_one]
namespace Sp
noncomputable def gg (x v:Rat):Rat:=if v + v <= x then v * x - v * v else x * x / 4
noncomputable def rch (T v a:Rat):Rat:=if v + v <= T * a then v * T - v * v / a else a / 4 * (T * T)
end Sp
theorem rch_gg {T v a:Rat} (ha:0 < a):Sp.rch T v a * a = Sp.gg (T * a) v:=by
 unfold Sp.rch Sp.gg
 split
 ·have:v * v / a * a = v * v:=by
   rw [Rat.div_def,Rat.mul_assoc,Rat.inv_mul_cancel a (by grind),Rat.mul_one]
  grind
 ·grind
theorem gg_lt {x y v:Rat} (hv:0 < v) (h0:0 <= x) (h:x < y):Sp.gg x v < Sp.gg y v:=by
 unfold Sp.gg
 by_cases h1:v + v <= x
 ·have h2:v + v <= y:=by grind
  rw [if_pos h1,if_pos h2]
  have:=mul_pp hv (show 0 < y - x by grind)
  grind
 ·rw [if_neg h1]
  by_cases h2:v + v <= y
  ·rw [if_pos h2]
   have a1:=mul_ge (show 0 <= v by grind) (show 0 <= y - (v + v) by grind)
   have a2:=mul_pp (show 0 < v + v - x by grind) (show 0 < v + v + x by grind)
   grind
  ·rw [if_neg h2]
   have a2:=mul_pp (show 0 < y - x by grind) (show 0 < y + x by grind)
   grind
theorem lt_of_mul {a p q:Rat} (ha:0 < a) (h:p * a < q * a):p < q:=by
 apply Classical.byContradiction
 intro n
 have:=mul_ge (show 0 <= p - q by grind) (show 0 <= a by grind)
 grind
theorem rch_lt {T S v a:Rat} (ha:0 < a) (hv:0 < v) (h0:0 <= T) (h:T < S):Sp.rch T v a < Sp.rch S v a:=by
 refine lt_of_mul ha ?_
 rw [rch_gg ha,rch_gg ha]
 have:=mul_pp (show 0 < S - T by grind) ha
 exact gg_lt hv (mul_ge h0 (by grind)) (by grind)
end Go.Av

namespace Go.Av
open Go.Proofs
theorem ev40 (n d:Int) (h:Sp.okF n d):Ev M1 (.pure 40 [.int .i64 n,.int .i64 d]) (ratA false false (Sp.qf n d)) []:=by
 rw [qf_eq]
 obtain ⟨h1,h2,h3⟩:=h
 have c1:=inI_cnt h1
 have c2:=inI_cnt h2
 exact call40 (vRFrac _ _ _ ⟨fun k => absurd k h3,fun _ => ⟨h1,h2,⟨by unfold Sp.okB;omega,by unfold Sp.okB;omega,h3⟩,.refl _⟩⟩)
end Go.Av

namespace Go.Av
open Go.Proofs
set_option maxRecDepth 100000
end Go.Av

namespace Go.Av
open Go.Proofs
theorem ev48 (fa:Bool) (a:Int):Ev M1 (.pure 48 [bigA fa a]) (ratA false false (Sp.qi a)) []:=by
 refine call48 (rFromInt _ _ _ ⟨false,Sp.limI 1,ev68,?_⟩)
 rw [qi_eq]
 show Weak _ (AV.agg [.bool (Sp.isNeg (a:Rat).num),.vec false 1 ((Sp.limI (a:Rat).num).map (.int .u32)),.bool (Sp.isNeg ((a:Rat).den:Int)),.vec false 1 ((Sp.limI ((a:Rat).den:Int)).map (.int .u32))])
 rw [Rat.num_intCast,Rat.den_intCast]
 exact weak_rat _ _ _ _ _ _
end Go.Av

namespace Go.Av
open Go.Proofs
set_option maxRecDepth 100000
def fi21:Fi:=⟨54,[.cell 6 54,.tmp 7]⟩
def kp21:List (Nat × List Nat):=[(0,[0,1,2,6]),(1,[0,1,2,6,23]),(2,[6,7]),(3,[1,2,6,8,9,10]),(4,[1,2,6,8,9,38]),(5,[6,7]),(6,[6,7])]
def fi25:Fi:=⟨16,[.tmp 6]⟩
def kp25:List (Nat × List Nat):=[(0,[0,1,2]),(1,[6])]
def fi39:Fi:=⟨93,[.tmp 12]⟩
def kp39:List (Nat × List Nat):=[(0,[0,1,2,3,4,5]),(1,[0,1,2,3,4,5,13]),(2,[0,1,2,3,4,5,13,14]),(3,[0,1,2,5,13,14,15]),(4,[0,5,13,14,15,16,17]),(5,[0,5,13,14,15,16,53]),(6,[12]),(7,[0,5,13,17,18]),(8,[0,5,13,18,62]),(9,[12]),(10,[5,13,18]),(11,[17,18]),(12,[12])]
def kFaster1_at (n u v:Int) (Q:AV -> Heap -> Prop):Prop:=Wp M1 (.run fi25 (atC (cd Try.f25) []) [(0,.int .i64 n),(1,.int .i64 u),(2,.int .i64 v)] []) Q
def kAllow_at (v x y m n c:Int) (Q:AV -> Heap -> Prop):Prop:=Wp M1 (.run fi39 (atC (cd Try.f39) []) [(0,.int .i64 v),(1,.int .i64 x),(2,.int .i64 y),(3,.int .i64 m),(4,.int .i64 n),(5,.int .i64 c)] []) Q
def kReach_at (t v a:Int) (Q:AV -> Heap -> Prop):Prop:=Wp M1 (.run fi21 (atC (cd Try.f21) []) [(0,.int .i64 t),(1,.int .i64 v),(2,.int .i64 a)] []) Q
theorem call21 {args:List AV} {d:AV} (h:wc M1 fi21 Try.f21 args d):Ev M1 (.pure 21 args) d []:=pcl _ _ (by kernel_rfl) h
theorem call25 {args:List AV} {d:AV} (h:wc M1 fi25 Try.f25 args d):Ev M1 (.pure 25 args) d []:=pcl _ _ (by kernel_rfl) h
theorem call39 {args:List AV} {d:AV} (h:wc M1 fi39 Try.f39 args d):Ev M1 (.pure 39 args) d []:=pcl _ _ (by kernel_rfl) h
theorem kFaster1 (n u v:Int)  (dq:AV) (H :
  (-9223372036854775808 <= n * n /\ n * n <= 9223372036854775807) /\
  (-9223372036854775808 <= 2 * v /\ 2 * v <= 9223372036854775807) /\
  (-9223372036854775808 <= 2 * v * u /\ 2 * v * u <= 9223372036854775807) /\
  (-9223372036854775808 <= n * n + 2 * v * u /\ n * n + 2 * v * u <= 9223372036854775807) /\
  (Sp.okNs (n * n + 2 * v * u)) /\
  vi (Sp.sq (n * n + 2 * v * u)) = dq) :
 kFaster1_at n u v (PureQ dq):=by
 unfold kFaster1_at
 obtain ⟨k1,H⟩:=H
 have w2:wi (n * n) = n * n:=wI64 k1
 obtain ⟨k3,H⟩:=H
 have w4:wi (2 * v) = 2 * v:=wI64 k3
 obtain ⟨k5,H⟩:=H
 have w6:wi (2 * v * u) = 2 * v * u:=wI64 k5
 obtain ⟨k7,H⟩:=H
 have w8:wi (n * n + 2 * v * u) = n * n + 2 * v * u:=wI64 k7
 obtain ⟨k9,H⟩:=H
 exact path_re (G:=given kp25 [(1,8,.call (vi (Sp.sq (n * n + 2 * v * u))) none)] []) 1000 [] (calls:=[pc 33 [vi (wi (wi (n * n) + wi (wi (2 * v) * u)))] (vi (Sp.sq (n * n + 2 * v * u)))]) (vi (Sp.sq (n * n + 2 * v * u))) (by kernel_rfl) b0 q0 (ce (by (try rw [w2]);(try rw [w4]);(try rw [w6]);(try rw [w8]);all_goals exact (@ev33 (n * n + 2 * v * u) k9)) c0) H
noncomputable abbrev zNzD2 (x:Int) (y:Int) (m:Int) (n:Int):=Sp.qi (-2) * (Sp.qi x * Sp.qi y) / (Sp.qi m * Sp.qi n)
noncomputable abbrev zNzD4 (x:Int) (m:Int) (y:Int) (n:Int) (v:Int) (c:Int):=Sp.mkA (Sp.qf (x * x) m + Sp.qf (y * y) n) (zNzD2 x y m n) (Sp.qi m * Sp.qi n) * (Sp.qi v * Sp.qi v) + -(Sp.qi c * Sp.qi c)
noncomputable abbrev zNzD5 (x:Int) (y:Int) (m:Int) (n:Int) (v:Int):=Sp.mkB (zNzD2 x y m n) (Sp.qi m * Sp.qi n) * (Sp.qi v * Sp.qi v) + Sp.qi 0
noncomputable abbrev zNzD6 (x:Int) (y:Int) (m:Int) (n:Int) (v:Int):=Sp.mkB (zNzD2 x y m n) (Sp.qi m * Sp.qi n) * (Sp.qi v * Sp.qi v)
noncomputable abbrev zNzD7:=tu [ag [vb false,vf [],vb false,vf [],vb false,vf [],vb false,vf [],vb false,vf [],vb false,vf []],vi 7]
noncomputable abbrev zNzD8 (x:Int) (m:Int) (y:Int) (n:Int) (v:Int):=Sp.mkA (Sp.qf (x * x) m + Sp.qf (y * y) n) (zNzD2 x y m n) (Sp.qi m * Sp.qi n) * (Sp.qi v * Sp.qi v)
noncomputable abbrev zNzD9 (x:Int) (y:Int) (m:Int) (n:Int) (v:Int):=Sp.rad (zNzD6 x y m n v) (Sp.mkC (zNzD2 x y m n) (Sp.qi m * Sp.qi n))
noncomputable abbrev zNzD3 (x:Int) (y:Int) (m:Int) (n:Int) (v:Int):=Sp.rad (zNzD5 x y m n v) (Sp.com (zNzD6 x y m n v) (zNzD9 x y m n v) (Sp.qi 0))
noncomputable abbrev zNzD10 (x:Int) (m:Int) (y:Int) (n:Int):=Sp.mkA (Sp.qf (x * x) m + Sp.qf (y * y) n) (zNzD2 x y m n) (Sp.qi m * Sp.qi n)
theorem kAllow (v x y m n c:Int)  (dq:AV) (H :
  (Sp.inI m) /\
  (Sp.inI n) /\
  (Sp.okR (Sp.qi m) /\ Sp.okR (Sp.qi n)) /\
  (-9223372036854775808 <= x * x /\ x * x <= 9223372036854775807) /\
  (Sp.okF (x * x) m) /\
  (-9223372036854775808 <= y * y /\ y * y <= 9223372036854775807) /\
  (Sp.okF (y * y) n) /\
  (Sp.okR (Sp.qf (x * x) m) /\ Sp.okR (Sp.qf (y * y) n)) /\
  (Sp.inI (-2)) /\
  (Sp.inI x) /\
  (Sp.inI y) /\
  (Sp.okR (Sp.qi x) /\ Sp.okR (Sp.qi y)) /\
  (Sp.okR (Sp.qi (-2)) /\ Sp.okR (Sp.qi x * Sp.qi y)) /\
  (Sp.okR (Sp.qi (-2) * (Sp.qi x * Sp.qi y)) /\ Sp.okR (Sp.qi m * Sp.qi n) /\ (Sp.qi m * Sp.qi n).num ≠ 0) /\
  ((Sp.isNN (Sp.qi m * Sp.qi n)) -> (Sp.okO (Sp.qf (x * x) m + Sp.qf (y * y) n) (Sp.qi (-2) * (Sp.qi x * Sp.qi y) / (Sp.qi m * Sp.qi n)) (Sp.qi m * Sp.qi n)) /\
   (Sp.inI v) /\
   (Sp.okR (Sp.qi v) /\ Sp.okR (Sp.qi v)) /\
   (Sp.okP (Sp.mkA (Sp.qf (x * x) m + Sp.qf (y * y) n) (Sp.qi (-2) * (Sp.qi x * Sp.qi y) / (Sp.qi m * Sp.qi n)) (Sp.qi m * Sp.qi n)) (Sp.mkB (Sp.qi (-2) * (Sp.qi x * Sp.qi y) / (Sp.qi m * Sp.qi n)) (Sp.qi m * Sp.qi n)) /\ Sp.okR (Sp.qi v * Sp.qi v)) /\
   (Sp.inI c) /\
   (Sp.okR (Sp.qi c) /\ Sp.okR (Sp.qi c)) /\
   (Sp.okB (Sp.qi c * Sp.qi c).num) /\
   ((Sp.isCom (Sp.mkB (Sp.qi (-2) * (Sp.qi x * Sp.qi y) / (Sp.qi m * Sp.qi n)) (Sp.qi m * Sp.qi n) * (Sp.qi v * Sp.qi v)) (Sp.rad (Sp.mkB (Sp.qi (-2) * (Sp.qi x * Sp.qi y) / (Sp.qi m * Sp.qi n)) (Sp.qi m * Sp.qi n) * (Sp.qi v * Sp.qi v)) (Sp.mkC (Sp.qi (-2) * (Sp.qi x * Sp.qi y) / (Sp.qi m * Sp.qi n)) (Sp.qi m * Sp.qi n))) (Sp.qi 0) (Sp.qi 0)) -> (Sp.okO (Sp.mkA (Sp.qf (x * x) m + Sp.qf (y * y) n) (Sp.qi (-2) * (Sp.qi x * Sp.qi y) / (Sp.qi m * Sp.qi n)) (Sp.qi m * Sp.qi n) * (Sp.qi v * Sp.qi v)) (Sp.mkB (Sp.qi (-2) * (Sp.qi x * Sp.qi y) / (Sp.qi m * Sp.qi n)) (Sp.qi m * Sp.qi n) * (Sp.qi v * Sp.qi v)) (Sp.rad (Sp.mkB (Sp.qi (-2) * (Sp.qi x * Sp.qi y) / (Sp.qi m * Sp.qi n)) (Sp.qi m * Sp.qi n) * (Sp.qi v * Sp.qi v)) (Sp.mkC (Sp.qi (-2) * (Sp.qi x * Sp.qi y) / (Sp.qi m * Sp.qi n)) (Sp.qi m * Sp.qi n))) /\ Sp.okO (-(Sp.qi c * Sp.qi c)) (Sp.qi 0) (Sp.qi 0)) /\
    ((true = true) -> (Sp.okO (Sp.mkA (Sp.qf (x * x) m + Sp.qf (y * y) n) (Sp.qi (-2) * (Sp.qi x * Sp.qi y) / (Sp.qi m * Sp.qi n)) (Sp.qi m * Sp.qi n) * (Sp.qi v * Sp.qi v) + -(Sp.qi c * Sp.qi c)) (Sp.mkB (Sp.qi (-2) * (Sp.qi x * Sp.qi y) / (Sp.qi m * Sp.qi n)) (Sp.qi m * Sp.qi n) * (Sp.qi v * Sp.qi v) + Sp.qi 0) (Sp.rad (Sp.mkB (Sp.qi (-2) * (Sp.qi x * Sp.qi y) / (Sp.qi m * Sp.qi n)) (Sp.qi m * Sp.qi n) * (Sp.qi v * Sp.qi v) + Sp.qi 0) (Sp.com (Sp.mkB (Sp.qi (-2) * (Sp.qi x * Sp.qi y) / (Sp.qi m * Sp.qi n)) (Sp.qi m * Sp.qi n) * (Sp.qi v * Sp.qi v)) (Sp.rad (Sp.mkB (Sp.qi (-2) * (Sp.qi x * Sp.qi y) / (Sp.qi m * Sp.qi n)) (Sp.qi m * Sp.qi n) * (Sp.qi v * Sp.qi v)) (Sp.mkC (Sp.qi (-2) * (Sp.qi x * Sp.qi y) / (Sp.qi m * Sp.qi n)) (Sp.qi m * Sp.qi n))) (Sp.qi 0))))) /\
    vb (decide (Sp.sgO (Sp.mkA (Sp.qf (x * x) m + Sp.qf (y * y) n) (Sp.qi (-2) * (Sp.qi x * Sp.qi y) / (Sp.qi m * Sp.qi n)) (Sp.qi m * Sp.qi n) * (Sp.qi v * Sp.qi v) + -(Sp.qi c * Sp.qi c)) (Sp.mkB (Sp.qi (-2) * (Sp.qi x * Sp.qi y) / (Sp.qi m * Sp.qi n)) (Sp.qi m * Sp.qi n) * (Sp.qi v * Sp.qi v) + Sp.qi 0) (Sp.rad (Sp.mkB (Sp.qi (-2) * (Sp.qi x * Sp.qi y) / (Sp.qi m * Sp.qi n)) (Sp.qi m * Sp.qi n) * (Sp.qi v * Sp.qi v) + Sp.qi 0) (Sp.com (Sp.mkB (Sp.qi (-2) * (Sp.qi x * Sp.qi y) / (Sp.qi m * Sp.qi n)) (Sp.qi m * Sp.qi n) * (Sp.qi v * Sp.qi v)) (Sp.rad (Sp.mkB (Sp.qi (-2) * (Sp.qi x * Sp.qi y) / (Sp.qi m * Sp.qi n)) (Sp.qi m * Sp.qi n) * (Sp.qi v * Sp.qi v)) (Sp.mkC (Sp.qi (-2) * (Sp.qi x * Sp.qi y) / (Sp.qi m * Sp.qi n)) (Sp.qi m * Sp.qi n))) (Sp.qi 0))) <= 0)) = dq) /\
   (¬(Sp.isCom (Sp.mkB (Sp.qi (-2) * (Sp.qi x * Sp.qi y) / (Sp.qi m * Sp.qi n)) (Sp.qi m * Sp.qi n) * (Sp.qi v * Sp.qi v)) (Sp.rad (Sp.mkB (Sp.qi (-2) * (Sp.qi x * Sp.qi y) / (Sp.qi m * Sp.qi n)) (Sp.qi m * Sp.qi n) * (Sp.qi v * Sp.qi v)) (Sp.mkC (Sp.qi (-2) * (Sp.qi x * Sp.qi y) / (Sp.qi m * Sp.qi n)) (Sp.qi m * Sp.qi n))) (Sp.qi 0) (Sp.qi 0)) -> False)) /\
  (¬(Sp.isNN (Sp.qi m * Sp.qi n)) -> (Sp.okO (Sp.qf (x * x) m + Sp.qf (y * y) n) (Sp.qi (-2) * (Sp.qi x * Sp.qi y) / (Sp.qi m * Sp.qi n)) (Sp.qi m * Sp.qi n)) /\
   vb false = dq)) :
 kAllow_at v x y m n c (PureQ dq):=by
 unfold kAllow_at
 obtain ⟨k1,H⟩:=H
 obtain ⟨k2,H⟩:=H
 obtain ⟨k3,H⟩:=H
 obtain ⟨k4,H⟩:=H
 have w5:wi (x * x) = x * x:=wI64 k4
 obtain ⟨k6,H⟩:=H
 obtain ⟨k7,H⟩:=H
 have w8:wi (y * y) = y * y:=wI64 k7
 obtain ⟨k9,H⟩:=H
 obtain ⟨k10,H⟩:=H
 obtain ⟨k11,H⟩:=H
 obtain ⟨k12,H⟩:=H
 obtain ⟨k13,H⟩:=H
 obtain ⟨k14,H⟩:=H
 obtain ⟨k15,H⟩:=H
 obtain ⟨k16,H⟩:=H
 rcases xm (Sp.isNN (Sp.qi m * Sp.qi n)) with d17 | d17
 ·have H:=H.1 d17
  obtain ⟨k18,H⟩:=H
  obtain ⟨k19,H⟩:=H
  obtain ⟨k20,H⟩:=H
  obtain ⟨k21,H⟩:=H
  obtain ⟨k22,H⟩:=H
  obtain ⟨k23,H⟩:=H
  obtain ⟨k24,H⟩:=H
  rcases xm (Sp.isCom (zNzD6 x y m n v) (zNzD9 x y m n v) (Sp.qi 0) (Sp.qi 0)) with d25 | d25
  ·have H:=H.1 d25
   obtain ⟨k26,H⟩:=H
   obtain ⟨k28,H⟩:=H
   exact path_re (G:=given kp39 [(2,2,.call (ratA false false (Sp.qi m)) none),(2,5,.call (ratA false false (Sp.qi n)) none),(2,6,.call (ratA false false (Sp.qi m * Sp.qi n)) none),(3,4,.call (ratA false false (Sp.qf (x * x) m)) none),(3,9,.call (ratA false false (Sp.qf (y * y) n)) none),(3,10,.call (ratA false false (Sp.qf (x * x) m + Sp.qf (y * y) n)) none),(4,1,.call (ratA false false (Sp.qi (-2))) none),(4,4,.call (ratA false false (Sp.qi x)) none),(4,7,.call (ratA false false (Sp.qi y)) none),(4,8,.call (ratA false false (Sp.qi x * Sp.qi y)) none),(4,9,.call (ratA false false (Sp.qi (-2) * (Sp.qi x * Sp.qi y))) none),(4,11,.call (tu [ratA false false (zNzD2 x y m n),vi 0]) none),(7,3,.call (tu [rootF (zNzD10 x m y n) (Sp.mkB (zNzD2 x y m n) (Sp.qi m * Sp.qi n)) (Sp.mkC (zNzD2 x y m n) (Sp.qi m * Sp.qi n)),vi 0]) none),(10,3,.call (ratA false false (Sp.qi v)) none),(10,6,.call (ratA false false (Sp.qi v)) none),(10,7,.call (ratA false false (Sp.qi v * Sp.qi v)) none),(10,8,.call (rootF (zNzD8 x m y n v) (zNzD6 x y m n v) (zNzD9 x y m n v)) none),(11,3,.call (ratA false false (Sp.qi c)) none),(11,6,.call (ratA false false (Sp.qi c)) none),(11,7,.call (ratA false false (Sp.qi c * Sp.qi c)) none),(11,8,.call (ratA false false (-(Sp.qi c * Sp.qi c))) none),(11,9,.call (rootF (-(Sp.qi c * Sp.qi c)) (Sp.qi 0) (Sp.qi 0)) none),(11,10,.call (tu [rootF (zNzD4 x m y n v c) (zNzD5 x y m n v) (zNzD3 x y m n v),vi 0]) none),(12,4,.call (vi (Sp.sgO (zNzD4 x m y n v c) (zNzD5 x y m n v) (zNzD3 x y m n v))) none)] []) 1000 [false,false] (calls:=[⟨true,false,41,[vi m],[],ratA false false (Sp.qi m),[]⟩,⟨true,false,41,[vi n],[],ratA false false (Sp.qi n),[]⟩,⟨true,false,43,[ratA false false (Sp.qi m),ratA false false (Sp.qi n)],[],ratA false false (Sp.qi m * Sp.qi n),[]⟩,⟨true,false,40,[vi (wi (x * x)),vi m],[],ratA false false (Sp.qf (x * x) m),[]⟩,⟨true,false,40,[vi (wi (y * y)),vi n],[],ratA false false (Sp.qf (y * y) n),[]⟩,⟨true,false,44,[ratA false false (Sp.qf (x * x) m),ratA false false (Sp.qf (y * y) n)],[],ratA false false (Sp.qf (x * x) m + Sp.qf (y * y) n),[]⟩,⟨true,false,41,[vi (-2)],[],ratA false false (Sp.qi (-2)),[]⟩,⟨true,false,41,[vi x],[],ratA false false (Sp.qi x),[]⟩,⟨true,false,41,[vi y],[],ratA false false (Sp.qi y),[]⟩,⟨true,false,43,[ratA false false (Sp.qi x),ratA false false (Sp.qi y)],[],ratA false false (Sp.qi x * Sp.qi y),[]⟩,⟨true,false,43,[ratA false false (Sp.qi (-2)),ratA false false (Sp.qi x * Sp.qi y)],[],ratA false false (Sp.qi (-2) * (Sp.qi x * Sp.qi y)),[]⟩,⟨true,false,53,[ratA false false (Sp.qi (-2) * (Sp.qi x * Sp.qi y)),ratA false false (Sp.qi m * Sp.qi n)],[],tu [ratA false false (zNzD2 x y m n),vi 0],[]⟩,⟨true,false,54,[ratA false false (Sp.qf (x * x) m + Sp.qf (y * y) n),ratA false false (zNzD2 x y m n),ratA false false (Sp.qi m * Sp.qi n)],[],tu [rootF (zNzD10 x m y n) (Sp.mkB (zNzD2 x y m n) (Sp.qi m * Sp.qi n)) (Sp.mkC (zNzD2 x y m n) (Sp.qi m * Sp.qi n)),vi 0],[]⟩,⟨true,false,41,[vi v],[],ratA false false (Sp.qi v),[]⟩,⟨true,false,41,[vi v],[],ratA false false (Sp.qi v),[]⟩,⟨true,false,43,[ratA false false (Sp.qi v),ratA false false (Sp.qi v)],[],ratA false false (Sp.qi v * Sp.qi v),[]⟩,⟨true,false,55,[rootF (zNzD10 x m y n) (Sp.mkB (zNzD2 x y m n) (Sp.qi m * Sp.qi n)) (Sp.mkC (zNzD2 x y m n) (Sp.qi m * Sp.qi n)),ratA false false (Sp.qi v * Sp.qi v)],[],rootF (zNzD8 x m y n v) (zNzD6 x y m n v) (zNzD9 x y m n v),[]⟩,⟨true,false,41,[vi c],[],ratA false false (Sp.qi c),[]⟩,⟨true,false,41,[vi c],[],ratA false false (Sp.qi c),[]⟩,⟨true,false,43,[ratA false false (Sp.qi c),ratA false false (Sp.qi c)],[],ratA false false (Sp.qi c * Sp.qi c),[]⟩,⟨true,false,58,[ratA false false (Sp.qi c * Sp.qi c)],[],ratA false false (-(Sp.qi c * Sp.qi c)),[]⟩,⟨true,false,57,[ratA false false (-(Sp.qi c * Sp.qi c))],[],rootF (-(Sp.qi c * Sp.qi c)) (Sp.qi 0) (Sp.qi 0),[]⟩,⟨true,false,56,[rootF (zNzD8 x m y n v) (zNzD6 x y m n v) (zNzD9 x y m n v),rootF (-(Sp.qi c * Sp.qi c)) (Sp.qi 0) (Sp.qi 0)],[],tu [rootF (zNzD4 x m y n v c) (zNzD5 x y m n v) (zNzD3 x y m n v),vi 0],[]⟩,⟨true == true && true && true,false,59,[rootF (zNzD4 x m y n v c) (zNzD5 x y m n v) (zNzD3 x y m n v)],[],vi (Sp.sgO (zNzD4 x m y n v c) (zNzD5 x y m n v) (zNzD3 x y m n v)),[]⟩]) (vb (decide (Sp.sgO (zNzD4 x m y n v c) (zNzD5 x y m n v) (zNzD3 x y m n v) <= 0))) (by kernel_rfl) (bc rfl (bc rfl (bc rfl (bc rfl (bc rfl (bc rfl (bc rfl (bc rfl (bc rfl (bc rfl (bc rfl (bc rfl (bc rfl (bc rfl (bc rfl b0))))))))))))))) q0 (cc (fun _ => (@ev41 (m) k1)) (cc (fun _ => (@ev41 (n) k2)) (cc (fun _ => (@ev43 (false) (false) (false) (false) (Sp.qi m) (Sp.qi n) k3)) (cc (fun _ => (by (try rw [w5]);all_goals exact (@ev40 (x * x) (m) k6))) (cc (fun _ => (by (try rw [w8]);all_goals exact (@ev40 (y * y) (n) k9))) (cc (fun _ => (@ev44 (false) (false) (false) (false) (Sp.qf (x * x) m) (Sp.qf (y * y) n) k10)) (cc (fun _ => (@ev41 (-2) k11)) (cc (fun _ => (@ev41 (x) k12)) (cc (fun _ => (@ev41 (y) k13)) (cc (fun _ => (@ev43 (false) (false) (false) (false) (Sp.qi x) (Sp.qi y) k14)) (cc (fun _ => (@ev43 (false) (false) (false) (false) (Sp.qi (-2)) (Sp.qi x * Sp.qi y) k15)) (cc (fun _ => (@ev53 (false) (false) (false) (false) (Sp.qi (-2) * (Sp.qi x * Sp.qi y)) (Sp.qi m * Sp.qi n) k16)) (cc (fun _ => (@ev54_y (false) (false) (false) (false) (false) (false) (Sp.qf (x * x) m + Sp.qf (y * y) n) (zNzD2 x y m n) (Sp.qi m * Sp.qi n) k18 d17)) (cc (fun _ => (@ev41 (v) k19)) (cc (fun _ => (@ev41 (v) k19)) (cc (fun _ => (@ev43 (false) (false) (false) (false) (Sp.qi v) (Sp.qi v) k20)) (cc (fun _ => (@ev55 (false) (false) (false) (false) (false) (false) (false) (false) (zNzD10 x m y n) (Sp.mkB (zNzD2 x y m n) (Sp.qi m * Sp.qi n)) (Sp.mkC (zNzD2 x y m n) (Sp.qi m * Sp.qi n)) (Sp.qi v * Sp.qi v) k21)) (cc (fun _ => (@ev41 (c) k22)) (cc (fun _ => (@ev41 (c) k22)) (cc (fun _ => (@ev43 (false) (false) (false) (false) (Sp.qi c) (Sp.qi c) k23)) (cc (fun _ => (@ev58 (false) (false) (Sp.qi c * Sp.qi c) k24)) (cc (fun _ => (@ev57 (false) (false) (-(Sp.qi c * Sp.qi c)))) (cc (fun _ => (@ev56_y (false) (false) (false) (false) (false) (false) (false) (false) (false) (false) (false) (false) (zNzD8 x m y n v) (zNzD6 x y m n v) (zNzD9 x y m n v) (-(Sp.qi c * Sp.qi c)) (Sp.qi 0) (Sp.qi 0) k26 d25)) (cc (fun hc => ((@ev59 (false) (false) (false) (false) (false) (false) (zNzD4 x m y n v c) (zNzD5 x y m n v) (zNzD3 x y m n v) (k28 ((i_at (i_at (i_bt (i_var _)))).1 hc))):Ev M1 (Conf.pure 59 [rootF (zNzD4 x m y n v c) (zNzD5 x y m n v) (zNzD3 x y m n v)]) (vi (Sp.sgO (zNzD4 x m y n v c) (zNzD5 x y m n v) (zNzD3 x y m n v))) [])) c0)))))))))))))))))))))))) H
  ·have H:=H.2 d25
   exact False.elim H
 ·have H:=H.2 d17
  obtain ⟨k30,H⟩:=H
  exact path_re (G:=given kp39 [(2,2,.call (ratA false false (Sp.qi m)) none),(2,5,.call (ratA false false (Sp.qi n)) none),(2,6,.call (ratA false false (Sp.qi m * Sp.qi n)) none),(3,4,.call (ratA false false (Sp.qf (x * x) m)) none),(3,9,.call (ratA false false (Sp.qf (y * y) n)) none),(3,10,.call (ratA false false (Sp.qf (x * x) m + Sp.qf (y * y) n)) none),(4,1,.call (ratA false false (Sp.qi (-2))) none),(4,4,.call (ratA false false (Sp.qi x)) none),(4,7,.call (ratA false false (Sp.qi y)) none),(4,8,.call (ratA false false (Sp.qi x * Sp.qi y)) none),(4,9,.call (ratA false false (Sp.qi (-2) * (Sp.qi x * Sp.qi y))) none),(4,11,.call (tu [ratA false false (zNzD2 x y m n),vi 0]) none),(7,3,.call zNzD7 none)] []) 1000 [false,true] (calls:=[pc 41 [vi m] (ratA false false (Sp.qi m)),pc 41 [vi n] (ratA false false (Sp.qi n)),pc 43 [ratA false false (Sp.qi m),ratA false false (Sp.qi n)] (ratA false false (Sp.qi m * Sp.qi n)),pc 40 [vi (wi (x * x)),vi m] (ratA false false (Sp.qf (x * x) m)),pc 40 [vi (wi (y * y)),vi n] (ratA false false (Sp.qf (y * y) n)),pc 44 [ratA false false (Sp.qf (x * x) m),ratA false false (Sp.qf (y * y) n)] (ratA false false (Sp.qf (x * x) m + Sp.qf (y * y) n)),pc 41 [vi (-2)] (ratA false false (Sp.qi (-2))),pc 41 [vi x] (ratA false false (Sp.qi x)),pc 41 [vi y] (ratA false false (Sp.qi y)),pc 43 [ratA false false (Sp.qi x),ratA false false (Sp.qi y)] (ratA false false (Sp.qi x * Sp.qi y)),pc 43 [ratA false false (Sp.qi (-2)),ratA false false (Sp.qi x * Sp.qi y)] (ratA false false (Sp.qi (-2) * (Sp.qi x * Sp.qi y))),pc 53 [ratA false false (Sp.qi (-2) * (Sp.qi x * Sp.qi y)),ratA false false (Sp.qi m * Sp.qi n)] (tu [ratA false false (zNzD2 x y m n),vi 0]),pc 54 [ratA false false (Sp.qf (x * x) m + Sp.qf (y * y) n),ratA false false (zNzD2 x y m n),ratA false false (Sp.qi m * Sp.qi n)] zNzD7]) (vb false) (by kernel_rfl) (bc rfl (bc rfl (bc rfl (bc rfl (bc rfl (bc rfl (bc rfl (bc rfl (bc rfl (bc rfl b0)))))))))) q0 (ce (@ev41 (m) k1) (ce (@ev41 (n) k2) (ce (@ev43 (false) (false) (false) (false) (Sp.qi m) (Sp.qi n) k3) (ce (by (try rw [w5]);all_goals exact (@ev40 (x * x) (m) k6)) (ce (by (try rw [w8]);all_goals exact (@ev40 (y * y) (n) k9)) (ce (@ev44 (false) (false) (false) (false) (Sp.qf (x * x) m) (Sp.qf (y * y) n) k10) (ce (@ev41 (-2) k11) (ce (@ev41 (x) k12) (ce (@ev41 (y) k13) (ce (@ev43 (false) (false) (false) (false) (Sp.qi x) (Sp.qi y) k14) (ce (@ev43 (false) (false) (false) (false) (Sp.qi (-2)) (Sp.qi x * Sp.qi y) k15) (ce (@ev53 (false) (false) (false) (false) (Sp.qi (-2) * (Sp.qi x * Sp.qi y)) (Sp.qi m * Sp.qi n) k16) (ce (@ev54_n (false) (false) (false) (false) (false) (false) (Sp.qf (x * x) m + Sp.qf (y * y) n) (zNzD2 x y m n) (Sp.qi m * Sp.qi n) k30 d17) c0))))))))))))) H
noncomputable abbrev zNzD11 (t:Int) (a:Int) (v:Int):=Sp.sgnI ((Sp.qf t 1000 * Sp.qi a).num * (↑(Sp.qi v + Sp.qi v).den:Int) - (Sp.qi v + Sp.qi v).num * (↑(Sp.qf t 1000 * Sp.qi a).den:Int)) >= 0
noncomputable abbrev zNzD12:=ag [vb false,AV.vnil,vb false,AV.vnil]
theorem kReach (t v a:Int)  (dq:AV) (H :
  ((((¬(0 <= t /\ t <= 1000000000000)) \/ (¬(1 <= v /\ v <= 1000000))) \/ (¬(1 <= a /\ a <= 100000000))) -> Weak (tu [ag [vb false,AV.vnil,vb false,AV.vnil],vi 1]) dq) /\
  (¬(((¬(0 <= t /\ t <= 1000000000000)) \/ (¬(1 <= v /\ v <= 1000000))) \/ (¬(1 <= a /\ a <= 100000000))) -> (Sp.okF t 1000) /\
   (Sp.inI v) /\
   (Sp.inI a) /\
   (Sp.okR (Sp.qf t 1000) /\ Sp.okR (Sp.qi a)) /\
   (Sp.okR (Sp.qi v) /\ Sp.okR (Sp.qi v)) /\
   (Sp.okR (Sp.qf t 1000 * Sp.qi a) /\ Sp.okR (Sp.qi v + Sp.qi v)) /\
   ((Sp.sgnI ((Sp.qf t 1000 * Sp.qi a).num * (↑(Sp.qi v + Sp.qi v).den:Int) - (Sp.qi v + Sp.qi v).num * (↑(Sp.qf t 1000 * Sp.qi a).den:Int)) >= 0) -> (Sp.okR (Sp.qi v) /\ Sp.okR (Sp.qf t 1000)) /\
    (-9223372036854775808 <= v * v /\ v * v <= 9223372036854775807) /\
    (Sp.okF (v * v) a) /\
    (Sp.okR (Sp.qi v * Sp.qf t 1000) /\ Sp.okR (Sp.qf (v * v) a)) /\
    Weak (tu [ratA false false (Sp.qi v * Sp.qf t 1000 - Sp.qf (v * v) a),vi 0]) dq) /\
   (¬(Sp.sgnI ((Sp.qf t 1000 * Sp.qi a).num * (↑(Sp.qi v + Sp.qi v).den:Int) - (Sp.qi v + Sp.qi v).num * (↑(Sp.qf t 1000 * Sp.qi a).den:Int)) >= 0) -> (Sp.okF a 4) /\
    (Sp.okR (Sp.qf t 1000) /\ Sp.okR (Sp.qf t 1000)) /\
    (Sp.okR (Sp.qf a 4) /\ Sp.okR (Sp.qf t 1000 * Sp.qf t 1000)) /\
    Weak (tu [ratA false false (Sp.qf a 4 * (Sp.qf t 1000 * Sp.qf t 1000)),vi 0]) dq))) :
 kReach_at t v a (PureQ dq):=by
 unfold kReach_at
 refine path_wp (G:=given kp21 [(1,1,.call (vb (decide (0 <= t /\ t <= 1000000000000))) none),(1,5,.call (vb (decide (1 <= v /\ v <= 1000000))) none),(1,10,.call (vb (decide (1 <= a /\ a <= 100000000))) none)] []) 5 [] ⟨(atC (cd Try.f21) [1,0,1]),[(0,vi t),(1,vi v),(2,vi a),(6,AV.ptr 0 0 0 0),(23,vb (bif bif !decide (0 <= t /\ t <= 1000000000000) then true else !decide (1 <= v /\ v <= 1000000) then true else !decide (1 <= a /\ a <= 100000000)))],[⟨[zNzD12],4,0,false,false⟩],_,[],[⟨true,false,27,[vi t,vi 0,vi 1000000000000],[],vb (decide (0 <= t /\ t <= 1000000000000)),[]⟩,⟨(!decide (0 <= t /\ t <= 1000000000000)) == false && true && true,false,27,[vi v,vi 1,vi 1000000],[],vb (decide (1 <= v /\ v <= 1000000)),[]⟩,⟨(bif !decide (0 <= t /\ t <= 1000000000000) then true else !decide (1 <= v /\ v <= 1000000)) == false && true && true,false,27,[vi a,vi 1,vi 100000000],[],vb (decide (1 <= a /\ a <= 100000000)),[]⟩]⟩ (by kernel_rfl) b0 q0 (cc (fun _ => (@ev27 (t) (0) (1000000000000))) (cc (fun hc => ((@ev27 (v) (1) (1000000)):Ev M1 (Conf.pure 27 [vi v,vi 1,vi 1000000]) (vb (decide (1 <= v /\ v <= 1000000))) [])) (cc (fun hc => ((@ev27 (a) (1) (100000000)):Ev M1 (Conf.pure 27 [vi a,vi 1,vi 100000000]) (vb (decide (1 <= a /\ a <= 100000000))) [])) c0))) ?_
 rcases xm (((¬(0 <= t /\ t <= 1000000000000)) \/ (¬(1 <= v /\ v <= 1000000))) \/ (¬(1 <= a /\ a <= 100000000))) with d4 | d4
 ·have H:=H.1 d4
  exact path_rq (G:=given kp21 [] []) 1000 [true] (tu [zNzD12,vi 1]) (by kernel_rfl) (bc (beq_t ((i_bor (i_bor (i_not i_dec) (i_not i_dec)) (i_not i_dec)).2 d4)) (bc rfl b0)) q0 c0 H
 ·have H:=H.2 d4
  obtain ⟨k5,H⟩:=H
  obtain ⟨k6,H⟩:=H
  obtain ⟨k7,H⟩:=H
  obtain ⟨k8,H⟩:=H
  obtain ⟨k9,H⟩:=H
  obtain ⟨k10,H⟩:=H
  refine path_wp (G:=given kp21 [(3,1,.call (ratA false false (Sp.qf t 1000)) none),(3,3,.call (ratA false false (Sp.qi v)) none),(3,5,.call (ratA false false (Sp.qi a)) none),(4,2,.call (ratA false false (Sp.qf t 1000 * Sp.qi a)) none),(4,5,.call (ratA false false (Sp.qi v + Sp.qi v)) none),(4,6,.call (vi (Sp.sgnI ((Sp.qf t 1000 * Sp.qi a).num * (↑(Sp.qi v + Sp.qi v).den:Int) - (Sp.qi v + Sp.qi v).num * (↑(Sp.qf t 1000 * Sp.qi a).den:Int)))) none)] []) 7 [false] ⟨(atC (cd Try.f21) [1,1,1,0,1]),[(1,vi v),(2,vi a),(6,AV.ptr 0 0 0 0),(8,AV.ptr 1 0 0 0),(9,AV.ptr 2 0 0 0),(38,vb (decide (zNzD11 t a v)))],[⟨[zNzD12],4,0,false,false⟩,⟨[ratA false false (Sp.qf t 1000)],4,0,false,false⟩,⟨[ratA false false (Sp.qi v)],4,0,false,false⟩,⟨[ratA false false (Sp.qi a)],4,0,false,false⟩],_,[],_⟩ (by kernel_rfl) (bc (beq_f (fun h => d4 ((i_bor (i_bor (i_not i_dec) (i_not i_dec)) (i_not i_dec)).1 h))) (bc rfl (bc rfl (bc rfl (bc rfl (bc rfl (bc rfl (bc rfl b0)))))))) q0 (ce (@ev40 (t) (1000) k5) (ce (@ev41 (v) k6) (ce (@ev41 (a) k7) (ce (@ev43 (false) (false) (false) (false) (Sp.qf t 1000) (Sp.qi a) k8) (ce (@ev44 (false) (false) (false) (false) (Sp.qi v) (Sp.qi v) k9) (ce (@ev42 (false) (false) (false) (false) (Sp.qf t 1000 * Sp.qi a) (Sp.qi v + Sp.qi v) k10) c0)))))) ?_
  rcases xm (zNzD11 t a v) with d12 | d12
  ·have H:=H.1 d12
   obtain ⟨k13,H⟩:=H
   obtain ⟨k14,H⟩:=H
   have w15:wi (v * v) = v * v:=wI64 k14
   obtain ⟨k16,H⟩:=H
   obtain ⟨k17,H⟩:=H
   exact path_rq (G:=given kp21 [(5,2,.call (ratA false false (Sp.qi v * Sp.qf t 1000)) none),(5,7,.call (ratA false false (Sp.qf (v * v) a)) none),(5,8,.call (ratA false false (Sp.qi v * Sp.qf t 1000 - Sp.qf (v * v) a)) none)] []) 1000 [true] (calls:=[pc 43 [ratA false false (Sp.qi v),ratA false false (Sp.qf t 1000)] (ratA false false (Sp.qi v * Sp.qf t 1000)),pc 40 [vi (wi (v * v)),vi a] (ratA false false (Sp.qf (v * v) a)),pc 45 [ratA false false (Sp.qi v * Sp.qf t 1000),ratA false false (Sp.qf (v * v) a)] (ratA false false (Sp.qi v * Sp.qf t 1000 - Sp.qf (v * v) a))]) (tu [ratA false false (Sp.qi v * Sp.qf t 1000 - Sp.qf (v * v) a),vi 0]) (by kernel_rfl) (bc (beq_t (i_dec.2 d12)) (bc rfl (bc rfl (bc rfl b0)))) q0 (ce (@ev43 (false) (false) (false) (false) (Sp.qi v) (Sp.qf t 1000) k13) (ce (by (try rw [w15]);all_goals exact (@ev40 (v * v) (a) k16)) (ce (@ev45 (false) (false) (false) (false) (Sp.qi v * Sp.qf t 1000) (Sp.qf (v * v) a) k17) c0))) H
  ·have H:=H.2 d12
   obtain ⟨k18,H⟩:=H
   obtain ⟨k19,H⟩:=H
   obtain ⟨k20,H⟩:=H
   exact path_rq (G:=given kp21 [(6,1,.call (ratA false false (Sp.qf a 4)) none),(6,4,.call (ratA false false (Sp.qf t 1000 * Sp.qf t 1000)) none),(6,5,.call (ratA false false (Sp.qf a 4 * (Sp.qf t 1000 * Sp.qf t 1000))) none)] []) 1000 [false] (tu [ratA false false (Sp.qf a 4 * (Sp.qf t 1000 * Sp.qf t 1000)),vi 0]) (by kernel_rfl) (bc (beq_f (fun h => d12 (i_dec.1 h))) (bc rfl (bc rfl (bc rfl b0)))) q0 (ce (@ev40 (a) (4) k18) (ce (@ev43 (false) (false) (false) (false) (Sp.qf t 1000) (Sp.qf t 1000) k19) (ce (@ev43 (false) (false) (false) (false) (Sp.qf a 4) (Sp.qf t 1000 * Sp.qf t 1000) k20) c0))) H
end Go.Av

namespace Go.Av
open Go.Proofs
theorem ev25 (n u v:Int) (h:Sp.isV n /\ Sp.isLen u /\ Sp.isAcc v):Ev M1 (.pure 25 [.int .i64 n,.int .i64 u,.int .i64 v]) (.int .i64 (Sp.af (2 * v * u) n)) []:=by
 obtain ⟨a,b,c⟩:=af_ok h
 have c':=c
 unfold Sp.okNs at c'
 have d:=h.2.2
 unfold Sp.isAcc at d
 exact call25 (kFaster1 _ _ _ _ ⟨by omega,by omega,by omega,by omega,c,rfl⟩)
namespace Sp
noncomputable def alwA (x y m n:Int):Rat:=qf (x * x) m + qf (y * y) n
noncomputable def alwT (x y:Int):Rat:=qi (-2) * (qi x * qi y)
noncomputable def alw (v x y m n c:Int):Bool:=decide (sgO (alwA x y m n * (qi v * qi v) + -(qi c * qi c)) (alwT x y * (qi v * qi v)) (1 / (qi m * qi n)) <= 0)
def okQ (m:Int):Prop:=1 <= m /\ m <= 1200000000000000
def okAl (v x y m n c:Int):Prop:=(0 <= v /\ v <= 1000001) /\ (inM x /\ inM y) /\ (okQ m /\ okQ n) /\ isV c
end Sp
theorem qi_pos {m:Int} (h:1 <= m):0 < Sp.qi m:=by
 rw [qi_eq,<- Rat.intCast_zero]
 exact Rat.intCast_lt_intCast.2 (by omega)
theorem qi_0:Sp.qi 0 = 0:=by rw [qi_eq];rfl
theorem nn_pos {c:Rat} (h:0 < c):Sp.isNN c:=by
 unfold Sp.isNN
 apply Classical.byContradiction
 intro n
 have:=num_lt.1 (show c.num < 0 by omega)
 grind
theorem ev39 (v x y m n c:Int) (h:Sp.okAl v x y m n c):Ev M1 (.pure 39 [.int .i64 v,.int .i64 x,.int .i64 y,.int .i64 m,.int .i64 n,.int .i64 c]) (.bool (Sp.alw v x y m n c)) []:=by
 obtain ⟨hv,⟨hx,hy⟩,⟨hm,hn⟩,hc⟩:=h
 unfold Sp.okQ at hm hn
 have bx:=sq_bound (x:=x) (by unfold Sp.inM at hx;unfold Sp.inQ;omega)
 have by_:=sq_bound (x:=y) (by unfold Sp.inM at hy;unfold Sp.inQ;omega)
 unfold Sp.inM at hx hy
 unfold Sp.isV at hc
 have im:Sp.inI m:=by unfold Sp.inI;omega
 have iN:Sp.inI n:=by unfold Sp.inI;omega
 have ix:Sp.inI x:=by unfold Sp.inI;omega
 have iy:Sp.inI y:=by unfold Sp.inI;omega
 have iv:Sp.inI v:=by unfold Sp.inI;omega
 have ic:Sp.inI c:=by unfold Sp.inI;omega
 have i2:Sp.inI (-2):=by unfold Sp.inI;omega
 have fx:Sp.okF (x * x) m:=⟨by unfold Sp.inI;omega,im,by omega⟩
 have fy:Sp.okF (y * y) n:=⟨by unfold Sp.inI;omega,iN,by omega⟩
 have pm:=qi_pos hm.1
 have pn:=qi_pos hn.1
 have pk:=mul_pp pm pn
 have tm:=okT_int im
 have tn:=okT_int iN
 have tk:=okT_mul tm tn
 have ta:=okT_add (okT_qf fx) (okT_qf fy)
 have txy:=okT_mul (okT_int ix) (okT_int iy)
 have tt:=okT_mul (okT_int i2) txy
 have k0:(Sp.qi m * Sp.qi n).num ≠ 0:=fun e => by rw [Rat.num_eq_zero] at e;grind
 have tb:=okT_div tt tk k0
 have tv:=okT_mul (okT_int iv) (okT_int iv)
 have tc:=okT_mul (okT_int ic) (okT_int ic)
 have tA:=okT_mkA (okT_le ta (show 7 <= 20 by omega)) (okT_le tb (show 15 <= 20 by omega)) (okT_le tk (show 6 <= 20 by omega))
 have tB:=okT_mkB (c:=Sp.qi m * Sp.qi n) (okT_le tb (show 15 <= 20 by omega))
 have tC:=okT_mkC (b:=Sp.qi (-2) * (Sp.qi x * Sp.qi y) / (Sp.qi m * Sp.qi n)) (okT_le tk (show 6 <= 20 by omega))
 have uA:=okT_mul tA tv
 have uB:=okT_mul tB tv
 have uC:=okT_rad (b:=Sp.mkB (Sp.qi (-2) * (Sp.qi x * Sp.qi y) / (Sp.qi m * Sp.qi n)) (Sp.qi m * Sp.qi n) * (Sp.qi v * Sp.qi v)) tC
 have wA:=okT_add uA (okT_neg tc)
 have wB:=okT_add uB okT_q0
 have wC:=okT_rad (b:=Sp.mkB (Sp.qi (-2) * (Sp.qi x * Sp.qi y) / (Sp.qi m * Sp.qi n)) (Sp.qi m * Sp.qi n) * (Sp.qi v * Sp.qi v) + Sp.qi 0) (okT_com (b:=Sp.mkB (Sp.qi (-2) * (Sp.qi x * Sp.qi y) / (Sp.qi m * Sp.qi n)) (Sp.qi m * Sp.qi n) * (Sp.qi v * Sp.qi v)) uC (okT_le okT_q0 (show 1 <= 22 by omega)))
 refine call39 (kAllow _ _ _ _ _ _ _ ⟨im,iN,⟨okT_R tm (by omega),okT_R tn (by omega)⟩,by omega,fx,by omega,fy,⟨okT_R (okT_qf fx) (by omega),okT_R (okT_qf fy) (by omega)⟩,i2,ix,iy,⟨okT_R (okT_int ix) (by omega),okT_R (okT_int iy) (by omega)⟩,⟨okT_R (okT_int i2) (by omega),okT_R txy (by omega)⟩,⟨okT_R tt (by omega),okT_R tk (by omega),k0⟩,fun _ => ⟨okT_O (okT_le ta (show 7 <= 20 by omega)) (okT_le tb (show 15 <= 20 by omega)) (okT_le tk (show 6 <= 20 by omega)) (by omega),iv,⟨okT_R (okT_int iv) (by omega),okT_R (okT_int iv) (by omega)⟩,⟨⟨okT_le tA (by omega),okT_le tB (by omega)⟩,okT_R tv (by omega)⟩,ic,⟨okT_R (okT_int ic) (by omega),okT_R (okT_int ic) (by omega)⟩,?_,fun _ => ⟨⟨⟨okT_le uA (by omega),okT_le uB (by omega),okT_le uC (by omega)⟩,⟨okT_le (okT_neg tc) (by omega),okT_le okT_q0 (by omega),okT_le okT_q0 (by omega)⟩⟩,fun _ => ⟨okT_le wA (by omega),okT_le wB (by omega),okT_le wC (by omega)⟩,?_⟩,fun k => k (.inr (.inl qi_0))⟩,fun k => absurd (nn_pos pk) k⟩)
 ·have:=tc.1
  unfold Sp.okB;omega
 ·rw [sgO_prog pk,corner_eq pk];rfl
namespace Sp
def okRe (t v a:Int):Prop:=(0 <= t /\ t <= 1000000000000) /\ (1 <= v /\ v <= 1000000) /\ isAcc a
noncomputable def reR (t v a:Int):Rat:=rch (qf t 1000) (qi v) (qi a)
end Sp
instance (t v a:Int):Decidable (Sp.okRe t v a):=by unfold Sp.okRe;infer_instance
theorem sgnI_ge {n:Int}:Sp.sgnI n >= 0 ↔ 0 <= n:=by
 unfold Sp.sgnI
 (repeat' split) <;> omega
theorem cmp_ge {r s:Rat}:Sp.sgnI (r.num * (s.den:Int) - s.num * (r.den:Int)) >= 0 ↔ s <= r:=by
 rw [sgnI_ge,Rat.le_iff];omega
theorem qf_div (n:Int) {d:Int} (h:0 < d):Sp.qf n d = Sp.qi n / Sp.qi d:=by
 rw [qf_eq,qi_eq,qi_eq,Rat.divInt_eq_div]
theorem reach_y {t v a:Int} (h:0 < a) (k:Sp.qi v + Sp.qi v <= Sp.qf t 1000 * Sp.qi a):Sp.reR t v a = Sp.qi v * Sp.qf t 1000 - Sp.qf (v * v) a:=by
 unfold Sp.reR Sp.rch
 rw [if_pos k,qf_div _ h,<- qi_mul]
theorem reach_n {t v a:Int} (k:¬Sp.qi v + Sp.qi v <= Sp.qf t 1000 * Sp.qi a):Sp.reR t v a = Sp.qf a 4 * (Sp.qf t 1000 * Sp.qf t 1000):=by
 have e:Sp.qi 4 = (4:Rat):=by rw [qi_eq];rfl
 unfold Sp.reR Sp.rch
 rw [if_neg k,show Sp.qf a 4 = Sp.qi a / Sp.qi 4 from qf_div a (by omega),e]
theorem okT_re {t v a:Int} (h:Sp.okRe t v a):Sp.okT 13 (Sp.reR t v a):=by
 obtain ⟨h1,h2,h3⟩:=h
 unfold Sp.isAcc at h3
 have b:v * v <= 1000000 * 1000000:=sq_le_sq (by omega) (by omega)
 have b0:=nn_sq v
 have ia:Sp.inI a:=by unfold Sp.inI;omega
 have iv:Sp.inI v:=by unfold Sp.inI;omega
 have ft:Sp.okF t 1000:=⟨by unfold Sp.inI;omega,by unfold Sp.inI;omega,by omega⟩
 have fv:Sp.okF (v * v) a:=⟨by unfold Sp.inI;omega,ia,by omega⟩
 have fa:Sp.okF a 4:=⟨ia,by unfold Sp.inI;omega,by omega⟩
 by_cases k:Sp.qi v + Sp.qi v <= Sp.qf t 1000 * Sp.qi a
 ·rw [reach_y (by omega) k]
  exact okT_le (okT_sub (okT_mul (okT_int iv) (okT_qf ft)) (okT_qf fv)) (by omega)
 ·rw [reach_n k]
  exact okT_le (okT_mul (okT_qf fa) (okT_mul (okT_qf ft) (okT_qf ft))) (by omega)
theorem re_no {t v a:Int}:(((¬(0 <= t /\ t <= 1000000000000)) \/ (¬(1 <= v /\ v <= 1000000))) \/ (¬(1 <= a /\ a <= 100000000))) ↔ ¬Sp.okRe t v a:=by unfold Sp.okRe Sp.isAcc;omega
theorem ev21_y (t v a:Int) (k:Sp.okRe t v a):Ev M1 (.pure 21 [.int .i64 t,.int .i64 v,.int .i64 a]) (.tup [ratA false false (Sp.reR t v a),.int .i64 0]) []:=by
 have h:=k
 obtain ⟨h1,h2,h3⟩:=h
 unfold Sp.isAcc at h3
 have b:v * v <= 1000000 * 1000000:=sq_le_sq (by omega) (by omega)
 have b0:=nn_sq v
 have ia:Sp.inI a:=by unfold Sp.inI;omega
 have iv:Sp.inI v:=by unfold Sp.inI;omega
 have ft:Sp.okF t 1000:=⟨by unfold Sp.inI;omega,by unfold Sp.inI;omega,by omega⟩
 have fv:Sp.okF (v * v) a:=⟨by unfold Sp.inI;omega,ia,by omega⟩
 have fa:Sp.okF a 4:=⟨ia,by unfold Sp.inI;omega,by omega⟩
 have qt:=okT_qf ft
 have qv:=okT_int iv
 have qa:=okT_int ia
 refine call21 (kReach _ _ _ _ ⟨fun x => absurd k (re_no.1 x),fun _ => ⟨ft,iv,ia,⟨okT_R qt (by omega),okT_R qa (by omega)⟩,⟨okT_R qv (by omega),okT_R qv (by omega)⟩,⟨okT_R (okT_mul qt qa) (by omega),okT_R (okT_add qv qv) (by omega)⟩,fun x => ?_,fun x => ?_⟩⟩)
 ·rw [cmp_ge] at x
  rw [reach_y (by omega) x]
  exact ⟨⟨okT_R qv (by omega),okT_R qt (by omega)⟩,by omega,fv,⟨okT_R (okT_mul qv qt) (by omega),okT_R (okT_qf fv) (by omega)⟩,.refl _⟩
 ·rw [cmp_ge] at x
  rw [reach_n x]
  exact ⟨fa,⟨okT_R qt (by omega),okT_R qt (by omega)⟩,⟨okT_R (okT_qf fa) (by omega),okT_R (okT_mul qt qt) (by omega)⟩,.refl _⟩
theorem ev21_n (t v a:Int) (k:¬(Sp.okRe t v a)):Ev M1 (.pure 21 [.int .i64 t,.int .i64 v,.int .i64 a]) (.tup [noR,.int .i64 1]) []:=
 call21 (kReach _ _ _ _ ⟨fun _ => weak_two weak_nr (.refl _),fun x => absurd (re_no.2 k) x⟩)
end Go.Av

namespace Go.Av
open Go.Proofs
set_option maxRecDepth 100000
def fi8:Fi:=⟨88,[.tmp 4,.tmp 5]⟩
def kp8:List (Nat × List Nat):=[(0,[0,1]),(1,[0,1,6]),(2,[0,1,6,14]),(3,[4,5]),(4,[0,1,7]),(5,[0,1,7,8]),(6,[0,1,7,8,23]),(7,[0,1,7,8]),(8,[0,1,7,8]),(9,[0,1,7,9]),(10,[0,1,7,9,64]),(11,[0,1,7,9]),(12,[0,1,7,9]),(13,[4,5])]
def fi14:Fi:=⟨25,[.tmp 6,.tmp 7]⟩
def kp14:List (Nat × List Nat):=[(0,[0,1,2]),(1,[0,1,2,20]),(2,[6,7]),(3,[6,7])]
def fi38:Fi:=⟨45,[.tmp 7]⟩
def kp38:List (Nat × List Nat):=[(0,[0,1,2,3,4,5]),(1,[1,2,3,4,5,8]),(2,[7])]
def fi46:Fi:=⟨23,[.tmp 5]⟩
def kp46:List (Nat × List Nat):=[(0,[0,1,2,3]),(1,[3,6,7]),(2,[5])]
def kFaster_at (n u v:Int) (Q:AV -> Heap -> Prop):Prop:=Wp M1 (.run fi14 (atC (cd Try.f14) []) [(0,.int .i64 n),(1,.int .i64 u),(2,.int .i64 v)] []) Q
def kSp_at (fl:Bool) (l:List Pt) (a:Int) (Q:AV -> Heap -> Prop):Prop:=Wp M1 (.run fi8 (atC (cd Try.f8) []) [(0,.vec fl 3 (l.map Pt.a)),(1,.int .i64 a)] []) Q
def kSpA_at (fl:Bool) (l:List Pt) (a i:Int) (o:List Int) (Q:AV -> Heap -> Prop):Prop:=Wp M1 (.run fi8 (atC (cd Try.f8) [1,1,1,0,1,0,0]) [(0,.vec fl 3 (l.map Pt.a)),(1,.int .i64 a),(7,.row 0 0),(8,.int .i64 i)] [⟨o.map (.int .i64),1,0,false,true⟩]) Q
def kSpB_at (fl:Bool) (l:List Pt) (a i:Int) (o:List Int) (Q:AV -> Heap -> Prop):Prop:=Wp M1 (.run fi8 (atC (cd Try.f8) [1,1,1,1,0,1,0,0]) [(0,.vec fl 3 (l.map Pt.a)),(1,.int .i64 a),(7,.row 0 0),(9,.int .i64 i)] [⟨o.map (.int .i64),1,0,false,true⟩]) Q
def kCor1_at (ax ay az bx by_ bz m n c i:Int) (Q:AV -> Heap -> Prop):Prop:=Wp M1 (.run fi38 (atC (cd Try.f38) []) [(0,.int .i64 i),(1,.eptr 3 [.agg [.int .i64 ax,.int .i64 ay,.int .i64 az]] 0 0),(2,.eptr 3 [.agg [.int .i64 bx,.int .i64 by_,.int .i64 bz]] 0 0),(3,.eptr 1 [.int .i64 m] 0 0),(4,.eptr 1 [.int .i64 n] 0 0),(5,.eptr 1 [.int .i64 c] 0 0)] []) Q
def kStr1_at (f g:Bool) (v a i:Int) (r:Rat) (Q:AV -> Heap -> Prop):Prop:=Wp M1 (.run fi46 (atC (cd Try.f46) []) [(0,.int .i64 i),(1,.eptr 1 [.int .i64 v] 0 0),(2,.eptr 1 [.int .i64 a] 0 0),(3,.eptr 4 [ratA f g r] 0 0)] []) Q
theorem call8 {args:List AV} {d:AV} (h:wc M1 fi8 Try.f8 args d):Ev M1 (.pure 8 args) d []:=pcl _ _ (by kernel_rfl) h
theorem call14 {args:List AV} {d:AV} (h:wc M1 fi14 Try.f14 args d):Ev M1 (.pure 14 args) d []:=pcl _ _ (by kernel_rfl) h
theorem call38 {args:List AV} {d:AV} (h:wc M1 fi38 Try.f38 args d):Ev M1 (.pure 38 args) d []:=pcl _ _ (by kernel_rfl) h
theorem call46 {args:List AV} {d:AV} (h:wc M1 fi46 Try.f46 args d):Ev M1 (.pure 46 args) d []:=pcl _ _ (by kernel_rfl) h
theorem kFaster (n u v:Int)  (dq:AV) (H :
  ((((¬(0 <= n /\ n <= 1000000)) \/ (¬(0 <= u /\ u <= 100000000))) \/ (¬(1 <= v /\ v <= 100000000))) -> tu [vi 0,vi 1] = dq) /\
  (¬(((¬(0 <= n /\ n <= 1000000)) \/ (¬(0 <= u /\ u <= 100000000))) \/ (¬(1 <= v /\ v <= 100000000))) -> (Sp.isV n /\ Sp.isLen u /\ Sp.isAcc v) /\
   tu [vi (Sp.af (2 * v * u) n),vi 0] = dq)) :
 kFaster_at n u v (PureQ dq):=by
 unfold kFaster_at
 refine path_wp (G:=given kp14 [(1,1,.call (vb (decide (0 <= n /\ n <= 1000000))) none),(1,5,.call (vb (decide (0 <= u /\ u <= 100000000))) none),(1,10,.call (vb (decide (1 <= v /\ v <= 100000000))) none)] []) 5 [] ⟨(atC (cd Try.f14) [1,0,1]),[(0,vi n),(1,vi u),(2,vi v),(20,vb (bif bif !decide (0 <= n /\ n <= 1000000) then true else !decide (0 <= u /\ u <= 100000000) then true else !decide (1 <= v /\ v <= 100000000)))],[],_,[],[⟨true,false,27,[vi n,vi 0,vi 1000000],[],vb (decide (0 <= n /\ n <= 1000000)),[]⟩,⟨(!decide (0 <= n /\ n <= 1000000)) == false && true && true,false,27,[vi u,vi 0,vi 100000000],[],vb (decide (0 <= u /\ u <= 100000000)),[]⟩,⟨(bif !decide (0 <= n /\ n <= 1000000) then true else !decide (0 <= u /\ u <= 100000000)) == false && true && true,false,27,[vi v,vi 1,vi 100000000],[],vb (decide (1 <= v /\ v <= 100000000)),[]⟩]⟩ (by kernel_rfl) b0 q0 (cc (fun _ => (@ev27 (n) (0) (1000000))) (cc (fun hc => ((@ev27 (u) (0) (100000000)):Ev M1 (Conf.pure 27 [vi u,vi 0,vi 100000000]) (vb (decide (0 <= u /\ u <= 100000000))) [])) (cc (fun hc => ((@ev27 (v) (1) (100000000)):Ev M1 (Conf.pure 27 [vi v,vi 1,vi 100000000]) (vb (decide (1 <= v /\ v <= 100000000))) [])) c0))) ?_
 rcases xm (((¬(0 <= n /\ n <= 1000000)) \/ (¬(0 <= u /\ u <= 100000000))) \/ (¬(1 <= v /\ v <= 100000000))) with d4 | d4
 ·have H:=H.1 d4
  exact path_re (G:=given kp14 [] []) 1000 [true] (tu [vi 0,vi 1]) (by kernel_rfl) (bc (beq_t ((i_bor (i_bor (i_not i_dec) (i_not i_dec)) (i_not i_dec)).2 d4)) b0) q0 c0 H
 ·have H:=H.2 d4
  obtain ⟨k5,H⟩:=H
  exact path_re (G:=given kp14 [(3,3,.call (vi (Sp.af (2 * v * u) n)) none)] []) 1000 [false] (tu [vi (Sp.af (2 * v * u) n),vi 0]) (by kernel_rfl) (bc (beq_f (fun h => d4 ((i_bor (i_bor (i_not i_dec) (i_not i_dec)) (i_not i_dec)).1 h))) b0) q0 (ce (@ev25 (n) (u) (v) k5) c0) H
theorem kSp (fl:Bool) (l:List Pt) (a:Int)  (Q:AV -> Heap -> Prop) (H :
  ((¬Sp.validE l a = 0) -> Q (tu [AV.vnil,vi (Sp.validE l a)]) []) /\
  (¬(¬Sp.validE l a = 0) -> (-9223372036854775808 <= (↑l.length:Int) + 1 /\ (↑l.length:Int) + 1 <= 9223372036854775807) /\
   (0 <= (↑l.length:Int) + 1) /\
   (((↑l.length:Int) + 1) * 8 <= 1099511627776) /\
   ((↑l.length:Int) + 1 <= 1099511627776) /\
   kSpA_at (fl) (l) (a) (1) (List.replicate ((↑l.length:Int) + 1).toNat (0:Int)) Q)) :
 kSp_at fl l a Q:=by
 unfold kSp_at
 refine path_wp (G:=given kp8 [(1,2,.call (vi (Sp.validE l a)) none)] []) 7 [] ⟨(atC (cd Try.f8) [1,0,1,1]),[(0,AV.vec fl 3 (List.map Pt.a l)),(1,vi a),(6,vi (Sp.validE l a)),(14,vb (Sp.validE l a != 0))],[],_,[],_⟩ (by kernel_rfl) b0 q0 (ce (@ev11 (fl) (l) (a)) c0) ?_
 rcases xm (¬Sp.validE l a = 0) with d2 | d2
 ·have H:=H.1 d2
  exact path_ret (G:=given kp8 [] []) 1000 [true] (k:=((atC (cd Try.f8) [1,0,1,1,0,1])).tail) (env':=[(4,AV.vnil),(5,vi (Sp.validE l a))]) (L':=[]) (asm:=[(Sp.validE l a != 0) == true]) (eqs:=[]) (calls:=[]) (tu [AV.vnil,vi (Sp.validE l a)]) (by kernel_rfl) (by kernel_rfl) (allB_cons (beq_t (i_ne.2 d2)) allB_nil) allP_nil allC_nil H
 ·have H:=H.2 d2
  have w3:(List.map Pt.a l).length = l.length:=List.length_map ..
  obtain ⟨k4,H⟩:=H
  have w5:wi ((↑l.length:Int) + 1) = (↑l.length:Int) + 1:=wI64 k4
  have i6:(decide (0 <= wi ((↑(List.map Pt.a l).length:Int) + 1))) = true ↔ (0 <= (↑l.length:Int) + 1):=(by (try rw [w3]);(try rw [w5]);all_goals exact i_dec)
  obtain ⟨k7,H⟩:=H
  have i8:(decide (wi ((↑(List.map Pt.a l).length:Int) + 1) <= wi ((↑(List.map Pt.a l).length:Int) + 1))) = true ↔ ((↑l.length:Int) + 1 <= (↑l.length:Int) + 1):=(by (try rw [w3]);(try rw [w5]);all_goals exact i_dec)
  have i9:(decide (wi ((↑(List.map Pt.a l).length:Int) + 1) * 8 <= 1099511627776)) = true ↔ (((↑l.length:Int) + 1) * 8 <= 1099511627776):=(by (try rw [w3]);(try rw [w5]);all_goals exact i_dec)
  obtain ⟨k10,H⟩:=H
  have i11:(decide (wi ((↑(List.map Pt.a l).length:Int) + 1) <= 1099511627776)) = true ↔ ((↑l.length:Int) + 1 <= 1099511627776):=(by (try rw [w3]);(try rw [w5]);all_goals exact i_dec)
  obtain ⟨k12,H⟩:=H
  have w13:List.replicate ((↑l.length:Int) + 1).toNat (vi 0) = List.map (vi) (List.replicate ((↑l.length:Int) + 1).toNat (0:Int)):=(lm_rep rfl)
  exact path_wp (G:=given kp8 [] []) 1000 [false] ⟨(atC (cd Try.f8) [1,1,1,0,1,0,0]),[(0,AV.vec fl 3 (List.map Pt.a l)),(1,vi a),(7,AV.row 0 0),(8,vi 1)],[⟨List.replicate (wi ((↑(List.map Pt.a l).length:Int) + 1)).toNat (vi 0),1,0,false,true⟩],[(Sp.validE l a != 0) == false,decide (0 <= wi ((↑(List.map Pt.a l).length:Int) + 1)),decide (wi ((↑(List.map Pt.a l).length:Int) + 1) <= wi ((↑(List.map Pt.a l).length:Int) + 1)),decide (wi ((↑(List.map Pt.a l).length:Int) + 1) * 8 <= 1099511627776),decide (wi ((↑(List.map Pt.a l).length:Int) + 1) <= 1099511627776)],[],_⟩ (by kernel_rfl) (bc (beq_f (fun h => d2 (i_ne.1 h))) (bc (i6.2 k7) (bc (i8.2 (by omega)) (bc (i9.2 k10) (bc (i11.2 k12) b0))))) q0 c0 (by (try rw [w3]);(try rw [w5]);(try rw [w13]);all_goals exact H)
noncomputable abbrev zNzE1 (l:List Pt) (i:Int):=ag [vi (l.getD (i - 1).toNat default).len,vi (l.getD (i - 1).toNat default).spd,vi (l.getD (i - 1).toNat default).cor]
noncomputable abbrev zNzE2 (l:List Pt) (i:Int):=ag [vi (l.getD i.toNat default).len,vi (l.getD i.toNat default).spd,vi (l.getD i.toNat default).cor]
theorem kSpA (fl:Bool) (l:List Pt) (a i:Int) (o:List Int)  (Q:AV -> Heap -> Prop) (H :
  ((i < (↑l.length:Int)) -> (-9223372036854775808 <= i - 1 /\ i - 1 <= 9223372036854775807) /\
   (Sp.isV (o.getD (i - 1).toNat default) /\ Sp.isLen (l.getD (i - 1).toNat default).len /\ Sp.isAcc a) /\
   (0 <= i - 1) /\
   ((i - 1).toNat < l.length) /\
   (0 <= i) /\
   (i.toNat < l.length) /\
   ((i - 1).toNat < o.length) /\
   (i.toNat < o.length) /\
   (-9223372036854775808 <= i + 1 /\ i + 1 <= 9223372036854775807) /\
   kSpA_at (fl) (l) (a) (i + 1) (o.set i.toNat (if Sp.af (2 * a * (l.getD (i - 1).toNat default).len) (o.getD (i - 1).toNat default) < if (l.getD i.toNat default).spd < if (l.getD (i - 1).toNat default).cor < (l.getD (i - 1).toNat default).spd then (l.getD (i - 1).toNat default).cor else (l.getD (i - 1).toNat default).spd then (l.getD i.toNat default).spd else if (l.getD (i - 1).toNat default).cor < (l.getD (i - 1).toNat default).spd then (l.getD (i - 1).toNat default).cor else (l.getD (i - 1).toNat default).spd then Sp.af (2 * a * (l.getD (i - 1).toNat default).len) (o.getD (i - 1).toNat default) else if (l.getD i.toNat default).spd < if (l.getD (i - 1).toNat default).cor < (l.getD (i - 1).toNat default).spd then (l.getD (i - 1).toNat default).cor else (l.getD (i - 1).toNat default).spd then (l.getD i.toNat default).spd else if (l.getD (i - 1).toNat default).cor < (l.getD (i - 1).toNat default).spd then (l.getD (i - 1).toNat default).cor else (l.getD (i - 1).toNat default).spd)) Q) /\
  (¬(i < (↑l.length:Int)) -> (-9223372036854775808 <= (↑l.length:Int) - 1 /\ (↑l.length:Int) - 1 <= 9223372036854775807) /\
   kSpB_at (fl) (l) (a) ((↑l.length:Int) - 1) (o) Q)) :
 kSpA_at fl l a i o Q:=by
 unfold kSpA_at
 have w1:(List.map Pt.a l).length = l.length:=List.length_map ..
 have i2:(decide (i < (↑(List.map Pt.a l).length:Int))) = true ↔ (i < (↑l.length:Int)):=(by (try rw [w1]);all_goals exact i_dec)
 rcases xm (i < (↑l.length:Int)) with d3 | d3
 ·have H:=H.1 d3
  obtain ⟨k4,H⟩:=H
  have w5:wi (i - 1) = i - 1:=wI64 k4
  obtain ⟨k6,H⟩:=H
  have i7:(decide (0 <= wi (i - 1))) = true ↔ (0 <= i - 1):=(by (try rw [w5]);all_goals exact i_dec)
  obtain ⟨k8,H⟩:=H
  have i9:(decide ((wi (i - 1)).toNat < (List.map Pt.a l).length)) = true ↔ ((i - 1).toNat < l.length):=(by (try rw [w1]);(try rw [w5]);all_goals exact i_dec)
  obtain ⟨k10,H⟩:=H
  have i11:(decide (0 <= wi (i - 1))) = true ↔ (0 <= i - 1):=(by (try rw [w5]);all_goals exact i_dec)
  have i12:(decide ((wi (i - 1)).toNat < (List.map Pt.a l).length)) = true ↔ ((i - 1).toNat < l.length):=(by (try rw [w1]);(try rw [w5]);all_goals exact i_dec)
  obtain ⟨k14,H⟩:=H
  have i15:(decide (i.toNat < (List.map Pt.a l).length)) = true ↔ (i.toNat < l.length):=(by (try rw [w1]);all_goals exact i_dec)
  obtain ⟨k16,H⟩:=H
  have i17:(decide (0 <= wi (i - 1))) = true ↔ (0 <= i - 1):=(by (try rw [w5]);all_goals exact i_dec)
  have w18:(List.map (vi) o).length = o.length:=List.length_map ..
  have i19:(decide ((wi (i - 1)).toNat < (List.map (vi) o).length)) = true ↔ ((i - 1).toNat < o.length):=(by (try rw [w5]);(try rw [w18]);all_goals exact i_dec)
  obtain ⟨k20,H⟩:=H
  have i21:(decide (0 <= wi (i - 1))) = true ↔ (0 <= i - 1):=(by (try rw [w5]);all_goals exact i_dec)
  have i22:(decide ((wi (i - 1)).toNat < (List.map Pt.a l).length)) = true ↔ ((i - 1).toNat < l.length):=(by (try rw [w1]);(try rw [w5]);all_goals exact i_dec)
  have i24:(decide (i.toNat < (List.map (vi) o).length)) = true ↔ (i.toNat < o.length):=(by (try rw [w18]);all_goals exact i_dec)
  obtain ⟨k25,H⟩:=H
  have w26:(List.map (vi) o).set i.toNat (vi (if Sp.af (2 * a * (l.getD (i - 1).toNat default).len) (o.getD (i - 1).toNat default) < if (l.getD i.toNat default).spd < if (l.getD (i - 1).toNat default).cor < (l.getD (i - 1).toNat default).spd then (l.getD (i - 1).toNat default).cor else (l.getD (i - 1).toNat default).spd then (l.getD i.toNat default).spd else if (l.getD (i - 1).toNat default).cor < (l.getD (i - 1).toNat default).spd then (l.getD (i - 1).toNat default).cor else (l.getD (i - 1).toNat default).spd then Sp.af (2 * a * (l.getD (i - 1).toNat default).len) (o.getD (i - 1).toNat default) else if (l.getD i.toNat default).spd < if (l.getD (i - 1).toNat default).cor < (l.getD (i - 1).toNat default).spd then (l.getD (i - 1).toNat default).cor else (l.getD (i - 1).toNat default).spd then (l.getD i.toNat default).spd else if (l.getD (i - 1).toNat default).cor < (l.getD (i - 1).toNat default).spd then (l.getD (i - 1).toNat default).cor else (l.getD (i - 1).toNat default).spd)) = List.map (vi) (o.set i.toNat (if Sp.af (2 * a * (l.getD (i - 1).toNat default).len) (o.getD (i - 1).toNat default) < if (l.getD i.toNat default).spd < if (l.getD (i - 1).toNat default).cor < (l.getD (i - 1).toNat default).spd then (l.getD (i - 1).toNat default).cor else (l.getD (i - 1).toNat default).spd then (l.getD i.toNat default).spd else if (l.getD (i - 1).toNat default).cor < (l.getD (i - 1).toNat default).spd then (l.getD (i - 1).toNat default).cor else (l.getD (i - 1).toNat default).spd then Sp.af (2 * a * (l.getD (i - 1).toNat default).len) (o.getD (i - 1).toNat default) else if (l.getD i.toNat default).spd < if (l.getD (i - 1).toNat default).cor < (l.getD (i - 1).toNat default).spd then (l.getD (i - 1).toNat default).cor else (l.getD (i - 1).toNat default).spd then (l.getD i.toNat default).spd else if (l.getD (i - 1).toNat default).cor < (l.getD (i - 1).toNat default).spd then (l.getD (i - 1).toNat default).cor else (l.getD (i - 1).toNat default).spd)):=(lm_set rfl rfl)
  obtain ⟨k27,H⟩:=H
  have w28:wi (i + 1) = i + 1:=wI64 k27
  exact path_wp (G:=given kp8 [(8,7,.elem (zNzE1 l i)),(8,13,.elem (zNzE1 l i)),(8,18,.elem (zNzE2 l i)),(8,23,.elem (vi (o.getD (i - 1).toNat default))),(8,29,.elem (zNzE1 l i)),(8,31,.call (vi (Sp.af (2 * a * (l.getD (i - 1).toNat default).len) (o.getD (i - 1).toNat default))) none),(8,34,.elem (vi (o.getD i.toNat default)))] []) 1000 [true] ⟨(atC (cd Try.f8) [1,1,1,0,1,0,0]),[(0,AV.vec fl 3 (List.map Pt.a l)),(1,vi a),(7,AV.row 0 0),(8,vi (wi (i + 1)))],[⟨(List.map (vi) o).set i.toNat (vi (if Sp.af (2 * a * (l.getD (i - 1).toNat default).len) (o.getD (i - 1).toNat default) < if (l.getD i.toNat default).spd < if (l.getD (i - 1).toNat default).cor < (l.getD (i - 1).toNat default).spd then (l.getD (i - 1).toNat default).cor else (l.getD (i - 1).toNat default).spd then (l.getD i.toNat default).spd else if (l.getD (i - 1).toNat default).cor < (l.getD (i - 1).toNat default).spd then (l.getD (i - 1).toNat default).cor else (l.getD (i - 1).toNat default).spd then Sp.af (2 * a * (l.getD (i - 1).toNat default).len) (o.getD (i - 1).toNat default) else if (l.getD i.toNat default).spd < if (l.getD (i - 1).toNat default).cor < (l.getD (i - 1).toNat default).spd then (l.getD (i - 1).toNat default).cor else (l.getD (i - 1).toNat default).spd then (l.getD i.toNat default).spd else if (l.getD (i - 1).toNat default).cor < (l.getD (i - 1).toNat default).spd then (l.getD (i - 1).toNat default).cor else (l.getD (i - 1).toNat default).spd)),1,0,false,true⟩],_,[((List.map Pt.a l).get?Internal (wi (i - 1)).toNat = some (zNzE1 l i)),((List.map Pt.a l).get?Internal (wi (i - 1)).toNat = some (zNzE1 l i)),((List.map Pt.a l).get?Internal i.toNat = some (zNzE2 l i)),((List.map (vi) o).get?Internal (wi (i - 1)).toNat = some (vi (o.getD (i - 1).toNat default))),((List.map Pt.a l).get?Internal (wi (i - 1)).toNat = some (zNzE1 l i)),((List.map (vi) o).get?Internal i.toNat = some (vi (o.getD i.toNat default)))],_⟩ (by kernel_rfl) (bc (beq_t (i2.2 d3)) (bc (i7.2 k8) (bc (i9.2 k10) (bc (i11.2 k8) (bc (i12.2 k10) (bc (i_dec.2 k14) (bc (i15.2 k16) (bc rfl (bc (i17.2 k8) (bc (i19.2 k20) (bc rfl (bc (i21.2 k8) (bc (i22.2 k10) (bc rfl (bc (i_dec.2 k14) (bc (i24.2 k25) (bc rfl b0))))))))))))))))) (qc (by (try rw [w5]);all_goals exact (el_map k10)) (qc (by (try rw [w5]);all_goals exact (el_map k10)) (qc (el_map k16) (qc (by (try rw [w5]);all_goals exact (el_map k20)) (qc (by (try rw [w5]);all_goals exact (el_map k10)) (qc (el_map k25) q0)))))) (ce (@ev25 (o.getD (i - 1).toNat default) ((l.getD (i - 1).toNat default).len) (a) k6) c0) (by (try rw [w26]);(try rw [w28]);all_goals exact H)
 ·have H:=H.2 d3
  obtain ⟨k29,H⟩:=H
  have w30:wi ((↑l.length:Int) - 1) = (↑l.length:Int) - 1:=wI64 k29
  exact path_wp (G:=given kp8 [] []) 1000 [false] ⟨(atC (cd Try.f8) [1,1,1,1,0,1,0,0]),[(0,AV.vec fl 3 (List.map Pt.a l)),(1,vi a),(7,AV.row 0 0),(9,vi (wi ((↑(List.map Pt.a l).length:Int) - 1)))],[⟨List.map (vi) o,1,0,false,true⟩],_,[],_⟩ (by kernel_rfl) (bc (beq_f (fun h => d3 (i2.1 h))) b0) q0 c0 (by (try rw [w1]);(try rw [w30]);all_goals exact H)
noncomputable abbrev zNzE3 (l:List Pt) (i:Int):=ag [vi (l.getD i.toNat default).len,vi (l.getD i.toNat default).spd,vi (l.getD i.toNat default).cor]
theorem kSpB (fl:Bool) (l:List Pt) (a i:Int) (o:List Int)  (Q:AV -> Heap -> Prop) (H :
  ((i > 0) -> (-9223372036854775808 <= i + 1 /\ i + 1 <= 9223372036854775807) /\
   (Sp.isV (o.getD (i + 1).toNat default) /\ Sp.isLen (l.getD i.toNat default).len /\ Sp.isAcc a) /\
   (0 <= i) /\
   (i.toNat < o.length) /\
   (0 <= i + 1) /\
   ((i + 1).toNat < o.length) /\
   (i.toNat < l.length) /\
   (-9223372036854775808 <= i - 1 /\ i - 1 <= 9223372036854775807) /\
   kSpB_at (fl) (l) (a) (i - 1) (o.set i.toNat (if Sp.af (2 * a * (l.getD i.toNat default).len) (o.getD (i + 1).toNat default) < o.getD i.toNat default then Sp.af (2 * a * (l.getD i.toNat default).len) (o.getD (i + 1).toNat default) else o.getD i.toNat default)) Q) /\
  (¬(i > 0) -> Q (tu [AV.row 0 0,vi 0]) [{ elems:=List.map (vi) o,es:=1,ver:=0,frozen:=false,clean:=true }])) :
 kSpB_at fl l a i o Q:=by
 unfold kSpB_at
 rcases xm (i > 0) with d2 | d2
 ·have H:=H.1 d2
  obtain ⟨k3,H⟩:=H
  have w4:wi (i + 1) = i + 1:=wI64 k3
  obtain ⟨k5,H⟩:=H
  obtain ⟨k7,H⟩:=H
  have w8:(List.map (vi) o).length = o.length:=List.length_map ..
  have i9:(decide (i.toNat < (List.map (vi) o).length)) = true ↔ (i.toNat < o.length):=(by (try rw [w8]);all_goals exact i_dec)
  obtain ⟨k10,H⟩:=H
  have i11:(decide (0 <= wi (i + 1))) = true ↔ (0 <= i + 1):=(by (try rw [w4]);all_goals exact i_dec)
  obtain ⟨k12,H⟩:=H
  have i13:(decide ((wi (i + 1)).toNat < (List.map (vi) o).length)) = true ↔ ((i + 1).toNat < o.length):=(by (try rw [w4]);(try rw [w8]);all_goals exact i_dec)
  obtain ⟨k14,H⟩:=H
  have w16:(List.map Pt.a l).length = l.length:=List.length_map ..
  have i17:(decide (i.toNat < (List.map Pt.a l).length)) = true ↔ (i.toNat < l.length):=(by (try rw [w16]);all_goals exact i_dec)
  obtain ⟨k18,H⟩:=H
  have i20:(decide (i.toNat < (List.map (vi) o).length)) = true ↔ (i.toNat < o.length):=(by (try rw [w8]);all_goals exact i_dec)
  have w21:(List.map (vi) o).set i.toNat (vi (if Sp.af (2 * a * (l.getD i.toNat default).len) (o.getD (i + 1).toNat default) < o.getD i.toNat default then Sp.af (2 * a * (l.getD i.toNat default).len) (o.getD (i + 1).toNat default) else o.getD i.toNat default)) = List.map (vi) (o.set i.toNat (if Sp.af (2 * a * (l.getD i.toNat default).len) (o.getD (i + 1).toNat default) < o.getD i.toNat default then Sp.af (2 * a * (l.getD i.toNat default).len) (o.getD (i + 1).toNat default) else o.getD i.toNat default)):=(lm_set rfl rfl)
  obtain ⟨k22,H⟩:=H
  have w23:wi (i - 1) = i - 1:=wI64 k22
  exact path_wp (G:=given kp8 [(12,5,.elem (vi (o.getD i.toNat default))),(12,10,.elem (vi (o.getD (i + 1).toNat default))),(12,15,.elem (zNzE3 l i)),(12,17,.call (vi (Sp.af (2 * a * (l.getD i.toNat default).len) (o.getD (i + 1).toNat default))) none),(12,20,.elem (vi (o.getD i.toNat default)))] []) 1000 [true] ⟨(atC (cd Try.f8) [1,1,1,1,0,1,0,0]),[(0,AV.vec fl 3 (List.map Pt.a l)),(1,vi a),(7,AV.row 0 0),(9,vi (wi (i - 1)))],[⟨(List.map (vi) o).set i.toNat (vi (if Sp.af (2 * a * (l.getD i.toNat default).len) (o.getD (i + 1).toNat default) < o.getD i.toNat default then Sp.af (2 * a * (l.getD i.toNat default).len) (o.getD (i + 1).toNat default) else o.getD i.toNat default)),1,0,false,true⟩],_,[((List.map (vi) o).get?Internal i.toNat = some (vi (o.getD i.toNat default))),((List.map (vi) o).get?Internal (wi (i + 1)).toNat = some (vi (o.getD (i + 1).toNat default))),((List.map Pt.a l).get?Internal i.toNat = some (zNzE3 l i)),((List.map (vi) o).get?Internal i.toNat = some (vi (o.getD i.toNat default)))],_⟩ (by kernel_rfl) (bc (beq_t (i_dec.2 d2)) (bc rfl (bc (i_dec.2 k7) (bc (i9.2 k10) (bc rfl (bc rfl (bc (i11.2 k12) (bc (i13.2 k14) (bc rfl (bc (i_dec.2 k7) (bc (i17.2 k18) (bc rfl (bc (i_dec.2 k7) (bc (i20.2 k10) (bc rfl b0))))))))))))))) (qc (el_map k10) (qc (by (try rw [w4]);all_goals exact (el_map k14)) (qc (el_map k18) (qc (el_map k10) q0)))) (ce (@ev25 (o.getD (i + 1).toNat default) ((l.getD i.toNat default).len) (a) k5) c0) (by (try rw [w21]);(try rw [w23]);all_goals exact H)
 ·have H:=H.2 d2
  exact path_ret (G:=given kp8 [] []) 1000 [false] (k:=((atC (cd Try.f8) [1,1,1,1,1,1])).tail) (env':=[(4,AV.row 0 0),(5,vi 0)]) (L':=[⟨List.map (vi) o,1,0,false,true⟩]) (asm:=[(decide (i > 0)) == false]) (eqs:=[]) (calls:=[]) (tu [AV.row 0 0,vi 0]) (by kernel_rfl) (by kernel_rfl) (allB_cons (beq_f (fun h => d2 (i_dec.1 h))) allB_nil) allP_nil allC_nil H
theorem kCor1 (ax ay az bx by_ bz m n c i:Int)  (dq:AV) (H :
  (-9223372036854775808 <= i + 1 /\ i + 1 <= 9223372036854775807) /\
  (Sp.okAl (i + 1) ax bx m n c) /\
  ((¬(¬(Sp.alw (i + 1) ax bx m n c = true))) -> (Sp.okAl (i + 1) ay by_ m n c)) /\
  ((¬((¬(Sp.alw (i + 1) ax bx m n c = true)) \/ (¬(Sp.alw (i + 1) ay by_ m n c = true)))) -> (Sp.okAl (i + 1) az bz m n c)) /\
  (vb (bif bif !Sp.alw (i + 1) ax bx m n c then true else !Sp.alw (i + 1) ay by_ m n c then true else !Sp.alw (i + 1) az bz m n c)) = dq) :
 kCor1_at ax ay az bx by_ bz m n c i (PureQ dq):=by
 unfold kCor1_at
 obtain ⟨k1,H⟩:=H
 have w2:wi (i + 1) = i + 1:=wI64 k1
 obtain ⟨k3,H⟩:=H
 obtain ⟨k5,H⟩:=H
 obtain ⟨k7,H⟩:=H
 exact path_re (G:=given kp38 [(2,8,.call (vb (Sp.alw (i + 1) ax bx m n c)) none),(2,19,.call (vb (Sp.alw (i + 1) ay by_ m n c)) none),(2,31,.call (vb (Sp.alw (i + 1) az bz m n c)) none)] []) 1000 [] (calls:=[⟨true,false,39,[vi (wi (i + 1)),vi ax,vi bx,vi m,vi n,vi c],[],vb (Sp.alw (i + 1) ax bx m n c),[]⟩,⟨(!Sp.alw (i + 1) ax bx m n c) == false && true && true,false,39,[vi (wi (i + 1)),vi ay,vi by_,vi m,vi n,vi c],[],vb (Sp.alw (i + 1) ay by_ m n c),[]⟩,⟨(bif !Sp.alw (i + 1) ax bx m n c then true else !Sp.alw (i + 1) ay by_ m n c) == false && true && true,false,39,[vi (wi (i + 1)),vi az,vi bz,vi m,vi n,vi c],[],vb (Sp.alw (i + 1) az bz m n c),[]⟩]) (vb (bif bif !Sp.alw (i + 1) ax bx m n c then true else !Sp.alw (i + 1) ay by_ m n c then true else !Sp.alw (i + 1) az bz m n c)) (by kernel_rfl) b0 q0 (cc (fun _ => (by (try rw [w2]);all_goals exact (@ev39 (i + 1) (ax) (bx) (m) (n) (c) k3))) (cc (fun hc => ((by (try rw [w2]);all_goals exact (@ev39 (i + 1) (ay) (by_) (m) (n) (c) (k5 ((i_at (i_at (i_bf (i_not (i_var _))))).1 hc)))):Ev M1 (Conf.pure 39 [vi (wi (i + 1)),vi ay,vi by_,vi m,vi n,vi c]) (vb (Sp.alw (i + 1) ay by_ m n c)) [])) (cc (fun hc => ((by (try rw [w2]);all_goals exact (@ev39 (i + 1) (az) (bz) (m) (n) (c) (k7 ((i_at (i_at (i_bf (i_bor (i_not (i_var _)) (i_not (i_var _)))))).1 hc)))):Ev M1 (Conf.pure 39 [vi (wi (i + 1)),vi az,vi bz,vi m,vi n,vi c]) (vb (Sp.alw (i + 1) az bz m n c)) [])) c0))) H
noncomputable abbrev zNzE4:=ag [vb false,vf [],vb false,vf []]
noncomputable abbrev zNzE5 (i:Int) (v:Int) (a:Int) (r:Rat):=Sp.sgnI ((Sp.reR i v a).num * (↑r.den:Int) - r.num * (↑(Sp.reR i v a).den:Int))
theorem kStr1 (f g:Bool) (v a i:Int) (r:Rat)  (dq:AV) (H :
  ((Sp.okRe i v a) -> ((true = true) -> (Sp.okR (Sp.reR i v a) /\ Sp.okR r)) /\
   vb (decide (Sp.sgnI ((Sp.reR i v a).num * (↑r.den:Int) - r.num * (↑(Sp.reR i v a).den:Int)) >= 0)) = dq) /\
  (¬(Sp.okRe i v a) -> ∃ (n1:Int),
   ((false = true) -> (Ev M1 (Conf.pure 42 [ag [vb false,vf [],vb false,vf []],ratA f g r]) (vi n1) [])) /\
   vb false = dq)) :
 kStr1_at f g v a i r (PureQ dq):=by
 unfold kStr1_at
 rcases xm (Sp.okRe i v a) with d1 | d1
 ·have H:=H.1 d1
  obtain ⟨k3,H⟩:=H
  exact path_re (G:=given kp46 [(1,3,.call (tu [ratA false false (Sp.reR i v a),vi 0]) none),(2,5,.call (vi (zNzE5 i v a r)) none)] []) 1000 [] (calls:=[⟨true,false,21,[vi i,vi v,vi a],[],tu [ratA false false (Sp.reR i v a),vi 0],[]⟩,⟨true == true && true && true,false,42,[ratA false false (Sp.reR i v a),ratA f g r],[],vi (zNzE5 i v a r),[]⟩]) (vb (decide (Sp.sgnI ((Sp.reR i v a).num * (↑r.den:Int) - r.num * (↑(Sp.reR i v a).den:Int)) >= 0))) (by kernel_rfl) (bc rfl (bc rfl b0)) q0 (cc (fun _ => (@ev21_y (i) (v) (a) d1)) (cc (fun hc => ((@ev42 (false) (false) (f) (g) (Sp.reR i v a) (r) (k3 ((i_at (i_at (i_bt (i_var _)))).1 hc))):Ev M1 (Conf.pure 42 [ratA false false (Sp.reR i v a),ratA f g r]) (vi (zNzE5 i v a r)) [])) c0)) H
 ·have H:=H.2 d1
  obtain ⟨n1,H⟩:=H
  obtain ⟨k5,H⟩:=H
  exact path_re (G:=given kp46 [(1,3,.call (tu [zNzE4,vi 1]) none),(2,5,.call (vi n1) none)] []) 1000 [] (calls:=[⟨true,false,21,[vi i,vi v,vi a],[],tu [zNzE4,vi 1],[]⟩,⟨false == true && true && true,false,42,[zNzE4,ratA f g r],[],vi n1,[]⟩]) (vb false) (by kernel_rfl) (bc rfl (bc rfl b0)) q0 (cc (fun _ => (@ev21_n (i) (v) (a) d1)) (cc (fun hc => ((k5 ((i_at (i_at (i_bt (i_var _)))).1 hc)):Ev M1 (Conf.pure 42 [zNzE4,ratA f g r]) (vi n1) [])) c0)) H
end Go.Av

namespace Go.Av
open Go.Proofs
theorem ev14 (n u v:Int):Ev M1 (.pure 14 [.int .i64 n,.int .i64 u,.int .i64 v]) (.tup [.int .i64 (Sp.fastV n u v),.int .i64 (Sp.fastE n u v)]) []:=by
 have e:(((¬(0 <= n /\ n <= 1000000)) \/ (¬(0 <= u /\ u <= 100000000))) \/ (¬(1 <= v /\ v <= 100000000))) ↔ ¬(Sp.isV n /\ Sp.isLen u /\ Sp.isAcc v):=by unfold Sp.isV Sp.isLen Sp.isAcc;omega
 refine call14 (kFaster _ _ _ _ ⟨fun x => ?_,fun x => ?_⟩)
 ·have y:=e.1 x
  unfold Sp.fastV Sp.fastE
  rw [if_neg y,if_neg y]
 ·have y:=Classical.not_not.1 (mt e.2 x)
  unfold Sp.fastV Sp.fastE
  rw [if_pos y,if_pos y]
  exact ⟨y,rfl⟩
theorem spF_le {l:List Pt} {a:Int} (h:Sp.okPts l a):∀ i,i < l.length -> 0 <= Sp.spF l a i /\ Sp.spF l a i <= 1000000
 | 0,_ => by unfold Sp.spF;omega
 | i + 1,hi => by
  have a1:=cap_nn h (i + 1)
  have b:=@af_nn (Sp.kA l a i) (Sp.spF l a i) (kA_nn h i (by omega)).1
  unfold Sp.spF
  omega
theorem spF_step {l:List Pt} {a:Int} {i:Nat} (h:0 < i):Sp.spF l a i = min (Sp.cap l i) (Sp.af (Sp.kA l a (i - 1)) (Sp.spF l a (i - 1))):=by
 obtain ⟨j,rfl⟩:∃ j,i = j + 1:=⟨i - 1,by omega⟩
 rw [Nat.add_sub_cancel];rfl
theorem spAt_step {l:List Pt} {a:Int} {i:Nat} (h1:0 < i) (h2:i < l.length):Sp.spAt l a i = min (Sp.spF l a i) (Sp.af (Sp.kA l a i) (Sp.spAt l a (i + 1))):=by
 obtain ⟨d,hd⟩:∃ d,l.length - i = d + 1:=⟨l.length - i - 1,by omega⟩
 unfold Sp.spAt
 rw [hd,Sp.spG,if_neg (by omega),show l.length - (d + 1) = i by omega,show l.length - (i + 1) = d by omega]
theorem spAt_zero {l:List Pt} {a:Int}:Sp.spAt l a 0 = 0:=by
 unfold Sp.spAt
 rw [Nat.sub_zero]
 rcases e:l.length with _ | d
 ·rfl
 ·rw [Sp.spG,if_pos e]
theorem spAt_end {l:List Pt} {a:Int}:Sp.spAt l a l.length = 0:=by
 unfold Sp.spAt
 rw [Nat.sub_self];rfl
theorem spds_of {l:List Pt} {a:Int} {o:List Int} (ho:o.length = l.length + 1) (hv:∀ j,j <= l.length -> o.getD j default = Sp.spAt l a j):o = Sp.spds l a:=by
 rw [rm_of o,ho]
 exact rm_congr fun i hi => hv i (by omega)
theorem spB_loop {fl:Bool} {l:List Pt} {a:Int} {Q:AV -> Heap -> Prop} (hl:(l.length:Int) <= 2000) (h:Sp.okPts l a) (hq:Q (.tup [.row 0 0,.int .i64 0]) [⟨(Sp.spds l a).map (.int .i64),1,0,false,true⟩]) :
  ∀ (i:Nat) (o:List Int),i < l.length -> o.length = l.length + 1 -> (∀ j,j <= l.length -> o.getD j default = if j <= i then Sp.spF l a j else Sp.spAt l a j) -> kSpB_at fl l a i o Q
 | 0,o,hi,ho,hv => by
  refine kSpB _ _ _ _ _ _ ⟨fun x => by omega,fun _ => ?_⟩
  rw [spds_of (a:=a) ho fun j hj => by
   rw [hv j hj]
   by_cases e:j = 0
   ·subst e;rw [if_pos (Nat.le_refl _),spAt_zero];rfl
   ·rw [if_neg (by omega)]]
  exact hq
 | i + 1,o,hi,ho,hv => by
  have e1:=hv (i + 1) (by omega)
  have e2:=hv (i + 1 + 1) (by omega)
  rw [if_pos (Nat.le_refl _)] at e1
  rw [if_neg (by omega)] at e2
  have b2:=spAt_le h (i:=i + 1 + 1) (by omega)
  have p:=pt_at h hi
  refine kSpB _ _ _ _ _ _ ⟨fun _ => ?_,fun x => by omega⟩
  rw [show ((i + 1:Nat):Int).toNat = i + 1 by omega,show (((i + 1:Nat):Int) + 1).toNat = i + 1 + 1 by omega,show ((i + 1:Nat):Int) - 1 = (i:Int) by omega]
  simp only [min_if]
  rw [e1,e2]
  refine ⟨by omega,⟨by unfold Sp.isV;omega,p.1,h.1⟩,by omega,by omega,by omega,by omega,by omega,by omega,?_⟩
  rw [show min (Sp.spF l a (i + 1)) (Sp.af (2 * a * (l.getD (i + 1) default).len) (Sp.spAt l a (i + 1 + 1))) = Sp.spAt l a (i + 1) from (spAt_step (by omega) hi).symm]
  refine spB_loop hl h hq i _ (by omega) (by simp [ho]) fun j hj => ?_
  rw [getD_set' (by omega)]
  by_cases e:i + 1 = j
  ·subst e;rw [if_pos rfl,if_neg (by omega)]
  ·rw [if_neg e,hv j hj]
   by_cases k:j <= i
   ·rw [if_pos k,if_pos (by omega)]
   ·rw [if_neg k,if_neg (by omega)]
theorem spA_loop {fl:Bool} {l:List Pt} {a:Int} {Q:AV -> Heap -> Prop} (hl:(l.length:Int) <= 2000) (h:Sp.okPts l a) (hq:Q (.tup [.row 0 0,.int .i64 0]) [⟨(Sp.spds l a).map (.int .i64),1,0,false,true⟩]) :
  ∀ (k i:Nat) (o:List Int),l.length <= i + k -> 0 < i -> o.length = l.length + 1 -> (∀ j,j <= l.length -> o.getD j default = if j < i /\ j < l.length then Sp.spF l a j else 0) -> kSpA_at fl l a i o Q
 | 0,i,o,hk,h0,ho,hv => by
  refine kSpA _ _ _ _ _ _ ⟨fun x => by omega,fun _ => ⟨by omega,?_⟩⟩
  by_cases n:l.length = 0
  ·refine kSpB _ _ _ _ _ _ ⟨fun x => by omega,fun _ => ?_⟩
   rw [spds_of (a:=a) ho fun j hj => by
    rw [hv j hj,if_neg (by omega),show j = 0 by omega,spAt_zero]]
   exact hq
  ·rw [show (l.length:Int) - 1 = ((l.length - 1:Nat):Int) by omega]
   refine spB_loop hl h hq (l.length - 1) o (by omega) ho fun j hj => ?_
   rw [hv j hj]
   by_cases e:j <= l.length - 1
   ·rw [if_pos e,if_pos (by omega)]
   ·rw [if_neg e,if_neg (by omega),show j = l.length by omega,spAt_end]
 | k + 1,i,o,hk,h0,ho,hv => by
  by_cases x:i < l.length
  ·have e1:=hv (i - 1) (by omega)
   rw [if_pos (by omega)] at e1
   have b1:=spF_le h (i - 1) (by omega)
   have p:=pt_at h (i:=i - 1) (by omega)
   refine kSpA _ _ _ _ _ _ ⟨fun _ => ?_,fun y => by omega⟩
   rw [Int.toNat_natCast,show ((i:Int) - 1).toNat = i - 1 by omega,show (i:Int) + 1 = ((i + 1:Nat):Int) by omega]
   simp only [min_if]
   rw [e1]
   refine ⟨by omega,⟨by unfold Sp.isV;omega,p.1,h.1⟩,by omega,by omega,by omega,by omega,by omega,by omega,by omega,?_⟩
   have hc:Sp.cap l i = min (min (l.getD (i - 1) default).spd (l.getD (i - 1) default).cor) (l.getD i default).spd:=if_neg (by omega)
   rw [<- hc,show min (Sp.cap l i) (Sp.af (2 * a * (l.getD (i - 1) default).len) (Sp.spF l a (i - 1))) = Sp.spF l a i from (spF_step h0).symm]
   refine spA_loop hl h hq k (i + 1) _ (by omega) (by omega) (by simp [ho]) fun j hj => ?_
   rw [getD_set' (by omega)]
   by_cases e:i = j
   ·subst e;rw [if_pos rfl,if_pos (by omega)]
   ·rw [if_neg e,hv j hj]
    by_cases m:j < i /\ j < l.length
    ·rw [if_pos m,if_pos (by omega)]
    ·rw [if_neg m,if_neg (by omega)]
  ·exact spA_loop hl h hq 0 i o (by omega) h0 ho hv
theorem sp_run {fl:Bool} {l:List Pt} {a:Int} {Q:AV -> Heap -> Prop} (v:Sp.validE l a = 0) (hq:Q (.tup [.row 0 0,.int .i64 0]) [⟨(Sp.spds l a).map (.int .i64),1,0,false,true⟩]):kSp_at fl l a Q:=by
 obtain ⟨hl,h⟩:=validE_ok v
 refine kSp _ _ _ _ ⟨fun x => absurd v x,fun x => ⟨by omega,by omega,by omega,by omega,?_⟩⟩
 rw [show ((l.length:Int) + 1).toNat = l.length + 1 by omega]
 refine spA_loop hl h hq l.length 1 _ (by omega) (by omega) (by simp) fun j hj => ?_
 have e:(List.replicate (l.length + 1) (0:Int)).getD j default = 0:=by simp [List.getD_eq_getElem?_getD,List.getElem?_replicate,show j < l.length + 1 by omega]
 rw [e]
 split
 ·rw [show j = 0 by omega];rfl
 ·rfl
theorem ev8 (fl:Bool) (l:List Pt) (a:Int):Ev M1 (.pure 8 [.vec fl 3 (l.map Pt.a),.int .i64 a]) (.tup [.vec false 1 ((Sp.spdV l a).map (.int .i64)),.int .i64 (Sp.validE l a)]) []:=by
 by_cases v:Sp.validE l a = 0
 ·rw [show Sp.spdV l a = Sp.spds l a from if_pos v,v]
  exact call8 (sp_run v (pq_of rfl rfl ⟨rfl,trivial⟩ rfl rfl))
 ·rw [show Sp.spdV l a = [] from if_neg v]
  exact call8 (kSp _ _ _ _ ⟨fun _ => pq_weak rfl rfl trivial rfl weak_nil2,fun x => absurd v x⟩)
namespace Sp
noncomputable def corP (ax ay az bx by_ bz m n c i:Int):Bool:=bif bif !alw (i + 1) ax bx m n c then true else !alw (i + 1) ay by_ m n c then true else !alw (i + 1) az bz m n c
def okCr (ax ay az bx by_ bz m n c:Int):Prop:=inP ax ay az /\ inP bx by_ bz /\ okQ m /\ okQ n /\ isV c
def inS (h i:Int):Prop:=0 <= i /\ i <= h
noncomputable def strP (v a:Int) (r:Rat) (i:Int):Bool:=decide (r <= reR i v a)
def okSt (v a:Int) (r:Rat):Prop:=(1 <= v /\ v <= 1000000) /\ isAcc a /\ okR r
end Sp
theorem ev38 (ax ay az bx by_ bz m n c i:Int) (h:Sp.okCr ax ay az bx by_ bz m n c /\ Sp.inS 1000000 i):Ev M1 (.pure 38 [.int .i64 i,.eptr 3 [.agg [.int .i64 ax,.int .i64 ay,.int .i64 az]] 0 0,.eptr 3 [.agg [.int .i64 bx,.int .i64 by_,.int .i64 bz]] 0 0,.eptr 1 [.int .i64 m] 0 0,.eptr 1 [.int .i64 n] 0 0,.eptr 1 [.int .i64 c] 0 0]) (.bool (Sp.corP ax ay az bx by_ bz m n c i)) []:=by
 obtain ⟨⟨⟨a1,a2,a3⟩,⟨b1,b2,b3⟩,hm,hn,hc⟩,hi⟩:=h
 unfold Sp.inS at hi
 have v:0 <= i + 1 /\ i + 1 <= 1000001:=by omega
 exact call38 (kCor1 _ _ _ _ _ _ _ _ _ _ _ ⟨by omega,⟨v,⟨a1,b1⟩,⟨hm,hn⟩,hc⟩,fun _ => ⟨v,⟨a2,b2⟩,⟨hm,hn⟩,hc⟩,fun _ => ⟨v,⟨a3,b3⟩,⟨hm,hn⟩,hc⟩,rfl⟩)
theorem ev46 (f g:Bool) (v a i:Int) (r:Rat) (h:Sp.okSt v a r /\ Sp.inS 1000000000000 i):Ev M1 (.pure 46 [.int .i64 i,.eptr 1 [.int .i64 v] 0 0,.eptr 1 [.int .i64 a] 0 0,.eptr 4 [ratA f g r] 0 0]) (.bool (Sp.strP v a r i)) []:=by
 obtain ⟨⟨hv,ha,hr⟩,hi⟩:=h
 have k:Sp.okRe i v a:=⟨hi,hv,ha⟩
 refine call46 (kStr1 _ _ _ _ _ _ _ ⟨fun _ => ⟨fun _ => ⟨okT_R (okT_re k) (by omega),hr⟩,?_⟩,fun x => absurd k x⟩)
 unfold Sp.strP
 congr 1
 exact dec_iff cmp_ge
end Go.Av

namespace Go.Av
open Go.Proofs
set_option maxRecDepth 100000
def fi37:Fi:=⟨26,[.tmp 4]⟩
def kp37:List (Nat × List Nat):=[(0,[0,1]),(1,[1,5,6]),(2,[1,5,6,11]),(3,[1,5,6,7]),(4,[1,5,6,7,21]),(5,[1,5,6]),(6,[1,5,6]),(7,[4])]
def kSeC_at (ax ay az bx by_ bz m n c:Int) (Q:AV -> Heap -> Prop):Prop:=Wp M1 (.run fi37 (atC (cd Try.f37) []) [(0,.int .i64 1000000),(1,.func (.func 38) [] [.eptr 3 [.agg [.int .i64 ax,.int .i64 ay,.int .i64 az]] 0 0,.eptr 3 [.agg [.int .i64 bx,.int .i64 by_,.int .i64 bz]] 0 0,.eptr 1 [.int .i64 m] 0 0,.eptr 1 [.int .i64 n] 0 0,.eptr 1 [.int .i64 c] 0 0])] []) Q
def kSeCH_at (ax ay az bx by_ bz m n c:Int) (i j:Int) (Q:AV -> Heap -> Prop):Prop:=Wp M1 (.run fi37 (atC (cd Try.f37) [1,1,0,0,0]) [(1,.func (.func 38) [] [.eptr 3 [.agg [.int .i64 ax,.int .i64 ay,.int .i64 az]] 0 0,.eptr 3 [.agg [.int .i64 bx,.int .i64 by_,.int .i64 bz]] 0 0,.eptr 1 [.int .i64 m] 0 0,.eptr 1 [.int .i64 n] 0 0,.eptr 1 [.int .i64 c] 0 0]),(5,.int .i64 i),(6,.int .i64 j)] []) Q
def kSeS_at (f g:Bool) (v a:Int) (r:Rat) (Q:AV -> Heap -> Prop):Prop:=Wp M1 (.run fi37 (atC (cd Try.f37) []) [(0,.int .i64 1000000000000),(1,.func (.func 46) [] [.eptr 1 [.int .i64 v] 0 0,.eptr 1 [.int .i64 a] 0 0,.eptr 4 [ratA f g r] 0 0])] []) Q
def kSeSH_at (f g:Bool) (v a:Int) (r:Rat) (i j:Int) (Q:AV -> Heap -> Prop):Prop:=Wp M1 (.run fi37 (atC (cd Try.f37) [1,1,0,0,0]) [(1,.func (.func 46) [] [.eptr 1 [.int .i64 v] 0 0,.eptr 1 [.int .i64 a] 0 0,.eptr 4 [ratA f g r] 0 0]),(5,.int .i64 i),(6,.int .i64 j)] []) Q
theorem call37 {args:List AV} {d:AV} (h:wc M1 fi37 Try.f37 args d):Ev M1 (.pure 37 args) d []:=pcl _ _ (by kernel_rfl) h
theorem kSeC (ax ay az bx by_ bz m n c:Int)  (dq:AV) (H :
  kSeCH_at (ax) (ay) (az) (bx) (by_) (bz) (m) (n) (c) (0) (1000000) (PureQ dq)) :
 kSeC_at ax ay az bx by_ bz m n c (PureQ dq):=by
 unfold kSeC_at
 exact path_wp (G:=given kp37 [] []) 1000 [] ⟨(atC (cd Try.f37) [1,1,0,0,0]),[(1,AV.func (Fn.func 38) [] [AV.eptr 3 [ag [vi ax,vi ay,vi az]] 0 0,AV.eptr 3 [ag [vi bx,vi by_,vi bz]] 0 0,AV.eptr 1 [vi m] 0 0,AV.eptr 1 [vi n] 0 0,AV.eptr 1 [vi c] 0 0]),(5,vi 0),(6,vi 1000000)],[],_,[],_⟩ (by kernel_rfl) b0 q0 c0 (H)
noncomputable abbrev zNzF1 (ax:Int) (ay:Int) (az:Int):=ag [vi ax,vi ay,vi az]
noncomputable abbrev zNzF2 (bx:Int) (by_:Int) (bz:Int):=ag [vi bx,vi by_,vi bz]
theorem kSeCH (ax ay az bx by_ bz m n c:Int) (i j:Int)  (dq:AV) (H :
  ((i < j) -> (-9223372036854775808 <= i + j /\ i + j <= 9223372036854775807) /\
   (0 <= i + j /\ i + j <= 18446744073709551615) /\
   (-9223372036854775808 <= (i + j).fdiv (2 ^ min (Int.toNat 1) IntKind.u64.bits) /\ (i + j).fdiv (2 ^ min (Int.toNat 1) IntKind.u64.bits) <= 9223372036854775807) /\
   (Sp.okCr ax ay az bx by_ bz m n c /\ Sp.inS 1000000 ((i + j).fdiv (2 ^ min (Int.toNat 1) IntKind.u64.bits))) /\
   ((¬(Sp.corP ax ay az bx by_ bz m n c ((i + j).fdiv (2 ^ min (Int.toNat 1) IntKind.u64.bits)) = true)) -> (-9223372036854775808 <= (i + j).fdiv (2 ^ min (Int.toNat 1) IntKind.u64.bits) + 1 /\ (i + j).fdiv (2 ^ min (Int.toNat 1) IntKind.u64.bits) + 1 <= 9223372036854775807) /\
    kSeCH_at (ax) (ay) (az) (bx) (by_) (bz) (m) (n) (c) ((i + j).fdiv (2 ^ min (Int.toNat 1) IntKind.u64.bits) + 1) (j) (PureQ dq)) /\
   (¬(¬(Sp.corP ax ay az bx by_ bz m n c ((i + j).fdiv (2 ^ min (Int.toNat 1) IntKind.u64.bits)) = true)) -> kSeCH_at (ax) (ay) (az) (bx) (by_) (bz) (m) (n) (c) (i) ((i + j).fdiv (2 ^ min (Int.toNat 1) IntKind.u64.bits)) (PureQ dq))) /\
  (¬(i < j) -> vi i = dq)) :
 kSeCH_at ax ay az bx by_ bz m n c i j (PureQ dq):=by
 unfold kSeCH_at
 rcases xm (i < j) with d2 | d2
 ·have H:=H.1 d2
  obtain ⟨k3,H⟩:=H
  have w4:wi (i + j) = i + j:=wI64 k3
  obtain ⟨k5,H⟩:=H
  have w6:wu (i + j) = i + j:=wU64 k5
  obtain ⟨k7,H⟩:=H
  have w8:wi ((i + j).fdiv (2 ^ min (Int.toNat 1) IntKind.u64.bits)) = (i + j).fdiv (2 ^ min (Int.toNat 1) IntKind.u64.bits):=wI64 k7
  obtain ⟨k9,H⟩:=H
  refine path_wp (G:=given kp37 [(4,2,.call (vb (Sp.corP ax ay az bx by_ bz m n c ((i + j).fdiv (2 ^ min (Int.toNat 1) IntKind.u64.bits)))) none)] []) 10 [true] ⟨(atC (cd Try.f37) [1,1,0,0,0,1,0,1,1]),[(1,AV.func (Fn.func 38) [] [AV.eptr 3 [(zNzF1 ax ay az)] 0 0,AV.eptr 3 [(zNzF2 bx by_ bz)] 0 0,AV.eptr 1 [vi m] 0 0,AV.eptr 1 [vi n] 0 0,AV.eptr 1 [vi c] 0 0]),(5,vi i),(6,vi j),(7,vi (wi ((wu (wi (i + j))).fdiv (2 ^ min (Int.toNat 1) IntKind.u64.bits)))),(21,vb !Sp.corP ax ay az bx by_ bz m n c ((i + j).fdiv (2 ^ min (Int.toNat 1) IntKind.u64.bits)))],[],_,[],[pc 38 [vi (wi ((wu (wi (i + j))).fdiv (2 ^ min (Int.toNat 1) IntKind.u64.bits))),AV.eptr 3 [(zNzF1 ax ay az)] 0 0,AV.eptr 3 [(zNzF2 bx by_ bz)] 0 0,AV.eptr 1 [vi m] 0 0,AV.eptr 1 [vi n] 0 0,AV.eptr 1 [vi c] 0 0] (vb (Sp.corP ax ay az bx by_ bz m n c ((i + j).fdiv (2 ^ min (Int.toNat 1) IntKind.u64.bits))))]⟩ (by kernel_rfl) (bc (beq_t (i_dec.2 d2)) (bc rfl b0)) q0 (ce (by (try rw [w4]);(try rw [w6]);(try rw [w8]);all_goals exact (@ev38 (ax) (ay) (az) (bx) (by_) (bz) (m) (n) (c) ((i + j).fdiv (2 ^ min (Int.toNat 1) IntKind.u64.bits)) k9)) c0) ?_
  rcases xm (¬(Sp.corP ax ay az bx by_ bz m n c ((i + j).fdiv (2 ^ min (Int.toNat 1) IntKind.u64.bits)) = true)) with d11 | d11
  ·have H:=H.1 d11
   obtain ⟨k12,H⟩:=H
   have w13:wi ((i + j).fdiv (2 ^ min (Int.toNat 1) IntKind.u64.bits) + 1) = (i + j).fdiv (2 ^ min (Int.toNat 1) IntKind.u64.bits) + 1:=wI64 k12
   exact path_wp (G:=given kp37 [] []) 1000 [true] ⟨(atC (cd Try.f37) [1,1,0,0,0]),[(1,AV.func (Fn.func 38) [] [AV.eptr 3 [(zNzF1 ax ay az)] 0 0,AV.eptr 3 [(zNzF2 bx by_ bz)] 0 0,AV.eptr 1 [vi m] 0 0,AV.eptr 1 [vi n] 0 0,AV.eptr 1 [vi c] 0 0]),(5,vi (wi (wi ((wu (wi (i + j))).fdiv (2 ^ min (Int.toNat 1) IntKind.u64.bits)) + 1))),(6,vi j)],[],[(!Sp.corP ax ay az bx by_ bz m n c ((i + j).fdiv (2 ^ min (Int.toNat 1) IntKind.u64.bits))) == true],[],_⟩ (by kernel_rfl) (bc (beq_t ((i_not (i_var _)).2 d11)) b0) q0 c0 (by (try rw [w4]);(try rw [w6]);(try rw [w8]);(try rw [w13]);all_goals exact H)
  ·have H:=H.2 d11
   exact path_wp (G:=given kp37 [] []) 1000 [false] ⟨(atC (cd Try.f37) [1,1,0,0,0]),[(1,AV.func (Fn.func 38) [] [AV.eptr 3 [(zNzF1 ax ay az)] 0 0,AV.eptr 3 [(zNzF2 bx by_ bz)] 0 0,AV.eptr 1 [vi m] 0 0,AV.eptr 1 [vi n] 0 0,AV.eptr 1 [vi c] 0 0]),(5,vi i),(6,vi (wi ((wu (wi (i + j))).fdiv (2 ^ min (Int.toNat 1) IntKind.u64.bits))))],[],[(!Sp.corP ax ay az bx by_ bz m n c ((i + j).fdiv (2 ^ min (Int.toNat 1) IntKind.u64.bits))) == false],[],_⟩ (by kernel_rfl) (bc (beq_f (fun h => d11 ((i_not (i_var _)).1 h))) b0) q0 c0 (by (try rw [w4]);(try rw [w6]);(try rw [w8]);all_goals exact H)
 ·have H:=H.2 d2
  exact path_re (G:=given kp37 [] []) 1000 [false] (vi i) (by kernel_rfl) (bc (beq_f (fun h => d2 (i_dec.1 h))) b0) q0 c0 H
theorem kSeS (f g:Bool) (v a:Int) (r:Rat)  (dq:AV) (H :
  kSeSH_at (f) (g) (v) (a) (r) (0) (1000000000000) (PureQ dq)) :
 kSeS_at f g v a r (PureQ dq):=by
 unfold kSeS_at
 exact path_wp (G:=given kp37 [] []) 1000 [] ⟨(atC (cd Try.f37) [1,1,0,0,0]),[(1,AV.func (Fn.func 46) [] [AV.eptr 1 [vi v] 0 0,AV.eptr 1 [vi a] 0 0,AV.eptr 4 [ratA f g r] 0 0]),(5,vi 0),(6,vi 1000000000000)],[],_,[],_⟩ (by kernel_rfl) b0 q0 c0 (H)
theorem kSeSH (f g:Bool) (v a:Int) (r:Rat) (i j:Int)  (dq:AV) (H :
  ((i < j) -> (-9223372036854775808 <= i + j /\ i + j <= 9223372036854775807) /\
   (0 <= i + j /\ i + j <= 18446744073709551615) /\
   (-9223372036854775808 <= (i + j).fdiv (2 ^ min (Int.toNat 1) IntKind.u64.bits) /\ (i + j).fdiv (2 ^ min (Int.toNat 1) IntKind.u64.bits) <= 9223372036854775807) /\
   (Sp.okSt v a r /\ Sp.inS 1000000000000 ((i + j).fdiv (2 ^ min (Int.toNat 1) IntKind.u64.bits))) /\
   ((¬(Sp.strP v a r ((i + j).fdiv (2 ^ min (Int.toNat 1) IntKind.u64.bits)) = true)) -> (-9223372036854775808 <= (i + j).fdiv (2 ^ min (Int.toNat 1) IntKind.u64.bits) + 1 /\ (i + j).fdiv (2 ^ min (Int.toNat 1) IntKind.u64.bits) + 1 <= 9223372036854775807) /\
    kSeSH_at (f) (g) (v) (a) (r) ((i + j).fdiv (2 ^ min (Int.toNat 1) IntKind.u64.bits) + 1) (j) (PureQ dq)) /\
   (¬(¬(Sp.strP v a r ((i + j).fdiv (2 ^ min (Int.toNat 1) IntKind.u64.bits)) = true)) -> kSeSH_at (f) (g) (v) (a) (r) (i) ((i + j).fdiv (2 ^ min (Int.toNat 1) IntKind.u64.bits)) (PureQ dq))) /\
  (¬(i < j) -> vi i = dq)) :
 kSeSH_at f g v a r i j (PureQ dq):=by
 unfold kSeSH_at
 rcases xm (i < j) with d2 | d2
 ·have H:=H.1 d2
  obtain ⟨k3,H⟩:=H
  have w4:wi (i + j) = i + j:=wI64 k3
  obtain ⟨k5,H⟩:=H
  have w6:wu (i + j) = i + j:=wU64 k5
  obtain ⟨k7,H⟩:=H
  have w8:wi ((i + j).fdiv (2 ^ min (Int.toNat 1) IntKind.u64.bits)) = (i + j).fdiv (2 ^ min (Int.toNat 1) IntKind.u64.bits):=wI64 k7
  obtain ⟨k9,H⟩:=H
  refine path_wp (G:=given kp37 [(4,2,.call (vb (Sp.strP v a r ((i + j).fdiv (2 ^ min (Int.toNat 1) IntKind.u64.bits)))) none)] []) 10 [true] ⟨(atC (cd Try.f37) [1,1,0,0,0,1,0,1,1]),[(1,AV.func (Fn.func 46) [] [AV.eptr 1 [vi v] 0 0,AV.eptr 1 [vi a] 0 0,AV.eptr 4 [ratA f g r] 0 0]),(5,vi i),(6,vi j),(7,vi (wi ((wu (wi (i + j))).fdiv (2 ^ min (Int.toNat 1) IntKind.u64.bits)))),(21,vb !Sp.strP v a r ((i + j).fdiv (2 ^ min (Int.toNat 1) IntKind.u64.bits)))],[],_,[],[pc 46 [vi (wi ((wu (wi (i + j))).fdiv (2 ^ min (Int.toNat 1) IntKind.u64.bits))),AV.eptr 1 [vi v] 0 0,AV.eptr 1 [vi a] 0 0,AV.eptr 4 [ratA f g r] 0 0] (vb (Sp.strP v a r ((i + j).fdiv (2 ^ min (Int.toNat 1) IntKind.u64.bits))))]⟩ (by kernel_rfl) (bc (beq_t (i_dec.2 d2)) (bc rfl b0)) q0 (ce (by (try rw [w4]);(try rw [w6]);(try rw [w8]);all_goals exact (@ev46 (f) (g) (v) (a) ((i + j).fdiv (2 ^ min (Int.toNat 1) IntKind.u64.bits)) (r) k9)) c0) ?_
  rcases xm (¬(Sp.strP v a r ((i + j).fdiv (2 ^ min (Int.toNat 1) IntKind.u64.bits)) = true)) with d11 | d11
  ·have H:=H.1 d11
   obtain ⟨k12,H⟩:=H
   have w13:wi ((i + j).fdiv (2 ^ min (Int.toNat 1) IntKind.u64.bits) + 1) = (i + j).fdiv (2 ^ min (Int.toNat 1) IntKind.u64.bits) + 1:=wI64 k12
   exact path_wp (G:=given kp37 [] []) 1000 [true] ⟨(atC (cd Try.f37) [1,1,0,0,0]),[(1,AV.func (Fn.func 46) [] [AV.eptr 1 [vi v] 0 0,AV.eptr 1 [vi a] 0 0,AV.eptr 4 [ratA f g r] 0 0]),(5,vi (wi (wi ((wu (wi (i + j))).fdiv (2 ^ min (Int.toNat 1) IntKind.u64.bits)) + 1))),(6,vi j)],[],[(!Sp.strP v a r ((i + j).fdiv (2 ^ min (Int.toNat 1) IntKind.u64.bits))) == true],[],_⟩ (by kernel_rfl) (bc (beq_t ((i_not (i_var _)).2 d11)) b0) q0 c0 (by (try rw [w4]);(try rw [w6]);(try rw [w8]);(try rw [w13]);all_goals exact H)
  ·have H:=H.2 d11
   exact path_wp (G:=given kp37 [] []) 1000 [false] ⟨(atC (cd Try.f37) [1,1,0,0,0]),[(1,AV.func (Fn.func 46) [] [AV.eptr 1 [vi v] 0 0,AV.eptr 1 [vi a] 0 0,AV.eptr 4 [ratA f g r] 0 0]),(5,vi i),(6,vi (wi ((wu (wi (i + j))).fdiv (2 ^ min (Int.toNat 1) IntKind.u64.bits))))],[],[(!Sp.strP v a r ((i + j).fdiv (2 ^ min (Int.toNat 1) IntKind.u64.bits))) == false],[],_⟩ (by kernel_rfl) (bc (beq_f (fun h => d11 ((i_not (i_var _)).1 h))) b0) q0 c0 (by (try rw [w4]);(try rw [w6]);(try rw [w8]);all_goals exact H)
 ·have H:=H.2 d2
  exact path_re (G:=given kp37 [] []) 1000 [false] (vi i) (by kernel_rfl) (bc (beq_f (fun h => d2 (i_dec.1 h))) b0) q0 c0 H
end Go.Av

namespace Go.Av
open Go.Proofs
theorem half_fdiv {x:Int} (h:0 <= x):x.fdiv (2 ^ min (Int.toNat 1) IntKind.u64.bits) = x / 2:=by
 have e:(2:Int) ^ min (Int.toNat 1) IntKind.u64.bits = 2:=rfl
 rw [e,Int.fdiv_eq_ediv_of_nonneg x (by omega)]
theorem seC_loop {ax ay az bx by_ bz m n c:Int} {dq:AV} (h:Sp.okCr ax ay az bx by_ bz m n c):∀ (k:Nat) (i j:Int),j - i < 2 ^ k -> 0 <= i -> i <= j -> j <= 1000000 -> AV.int .i64 (Sp.bs (Sp.corP ax ay az bx by_ bz m n c) k i j) = dq -> kSeCH_at ax ay az bx by_ bz m n c i j (PureQ dq)
 | 0,i,j,hk,h0,h1,h2,hq => by
  refine kSeCH _ _ _ _ _ _ _ _ _ _ _ _ ⟨fun x => by omega,fun x => hq⟩
 | k + 1,i,j,hk,h0,h1,h2,hq => by
  by_cases x:i < j
  ·rw [Int.pow_succ] at hk
   refine kSeCH _ _ _ _ _ _ _ _ _ _ _ _ ⟨fun _ => ?_,fun y => absurd x y⟩
   rw [half_fdiv (by omega)]
   rw [bs_step x] at hq
   refine ⟨by omega,by omega,by omega,⟨h,by unfold Sp.inS;omega⟩,fun y => ⟨by omega,?_⟩,fun y => ?_⟩
   ·rw [(Bool.not_eq_true _).mp y,cond_false] at hq
    exact seC_loop h k _ _ (by omega) (by omega) (by omega) (by omega) hq
   ·rw [Classical.not_not.1 y,cond_true] at hq
    exact seC_loop h k _ _ (by omega) (by omega) (by omega) (by omega) hq
  ·rw [bs_done x] at hq
   exact kSeCH _ _ _ _ _ _ _ _ _ _ _ _ ⟨fun y => absurd y x,fun _ => hq⟩
theorem seS_loop {f g:Bool} {v a:Int} {r:Rat} {dq:AV} (h:Sp.okSt v a r):∀ (k:Nat) (i j:Int),j - i < 2 ^ k -> 0 <= i -> i <= j -> j <= 1000000000000 -> AV.int .i64 (Sp.bs (Sp.strP v a r) k i j) = dq -> kSeSH_at f g v a r i j (PureQ dq)
 | 0,i,j,hk,h0,h1,h2,hq => by
  refine kSeSH _ _ _ _ _ _ _ _ ⟨fun x => by omega,fun x => hq⟩
 | k + 1,i,j,hk,h0,h1,h2,hq => by
  by_cases x:i < j
  ·rw [Int.pow_succ] at hk
   refine kSeSH _ _ _ _ _ _ _ _ ⟨fun _ => ?_,fun y => absurd x y⟩
   rw [half_fdiv (by omega)]
   rw [bs_step x] at hq
   refine ⟨by omega,by omega,by omega,⟨h,by unfold Sp.inS;omega⟩,fun y => ⟨by omega,?_⟩,fun y => ?_⟩
   ·rw [(Bool.not_eq_true _).mp y,cond_false] at hq
    exact seS_loop h k _ _ (by omega) (by omega) (by omega) (by omega) hq
   ·rw [Classical.not_not.1 y,cond_true] at hq
    exact seS_loop h k _ _ (by omega) (by omega) (by omega) (by omega) hq
  ·rw [bs_done x] at hq
   exact kSeSH _ _ _ _ _ _ _ _ ⟨fun y => absurd y x,fun _ => hq⟩
namespace Sp
noncomputable def corV (ax ay az bx by_ bz m n c:Int):Int:=bs (corP ax ay az bx by_ bz m n c) 40 0 1000000
noncomputable def strV (v a:Int) (r:Rat):Int:=bs (strP v a r) 40 0 1000000000000
end Sp
theorem ev37_c (ax ay az bx by_ bz m n c:Int) (h:Sp.okCr ax ay az bx by_ bz m n c):Ev M1 (.pure 37 [.int .i64 1000000,.func (.func 38) [] [.eptr 3 [.agg [.int .i64 ax,.int .i64 ay,.int .i64 az]] 0 0,.eptr 3 [.agg [.int .i64 bx,.int .i64 by_,.int .i64 bz]] 0 0,.eptr 1 [.int .i64 m] 0 0,.eptr 1 [.int .i64 n] 0 0,.eptr 1 [.int .i64 c] 0 0]]) (.int .i64 (Sp.corV ax ay az bx by_ bz m n c)) []:=
 call37 (kSeC _ _ _ _ _ _ _ _ _ _ (seC_loop h 40 0 1000000 (by decide) (by decide) (by decide) (by decide) rfl))
theorem ev37_s (f g:Bool) (v a:Int) (r:Rat) (h:Sp.okSt v a r):Ev M1 (.pure 37 [.int .i64 1000000000000,.func (.func 46) [] [.eptr 1 [.int .i64 v] 0 0,.eptr 1 [.int .i64 a] 0 0,.eptr 4 [ratA f g r] 0 0]]) (.int .i64 (Sp.strV v a r)) []:=
 call37 (kSeS _ _ _ _ _ _ (seS_loop h 40 0 1000000000000 (by decide) (by decide) (by decide) (by decide) rfl))
end Go.Av

namespace Go.Av
open Go.Proofs
set_option maxRecDepth 100000
def fi20:Fi:=⟨35,[.tmp 6,.tmp 7]⟩
def kp20:List (Nat × List Nat):=[(0,[3,4,5]),(1,[3,4,5,11]),(2,[6,7]),(3,[3,4,5,15]),(4,[6,7]),(5,[3,4,5,8,9]),(6,[3,4,5,8,9,31]),(7,[6,7]),(8,[10]),(9,[6,7])]
def fi22:Fi:=⟨28,[.tmp 6,.tmp 7]⟩
def kp22:List (Nat × List Nat):=[(0,[0,4,5]),(1,[0,4,5,22]),(2,[6,7]),(3,[4,5,8]),(4,[9]),(5,[6,7])]
def kCorner_at (ax ay az bx by_ bz c:Int) (Q:AV -> Heap -> Prop):Prop:=Wp M1 (.run fi20 (atC (cd Try.f20) []) [(0,.agg [.int .i64 ax,.int .i64 ay,.int .i64 az]),(1,.agg [.int .i64 bx,.int .i64 by_,.int .i64 bz]),(2,.int .i64 c)] []) Q
def kStraight_at (n u v:Int) (Q:AV -> Heap -> Prop):Prop:=Wp M1 (.run fi22 (atC (cd Try.f22) []) [(0,.int .i64 n),(1,.int .i64 u),(2,.int .i64 v)] []) Q
theorem call20 {args:List AV} {d:AV} (h:wc M1 fi20 Try.f20 args d):Ev M1 (.pure 20 args) d []:=pcl _ _ (by kernel_rfl) h
theorem call22 {args:List AV} {d:AV} (h:wc M1 fi22 Try.f22 args d):Ev M1 (.pure 22 args) d []:=pcl _ _ (by kernel_rfl) h
noncomputable abbrev zNzG1 (bx:Int) (by_:Int) (bz:Int):=ag [vi bx,vi by_,vi bz]
noncomputable abbrev zNzG2 (ax:Int) (ay:Int) (az:Int):=ag [vi ax,vi ay,vi az]
theorem kCorner (ax ay az bx by_ bz c:Int)  (dq:AV) (H :
  ((¬(0 <= c /\ c <= 1000000)) -> tu [vi 0,vi 1] = dq) /\
  (¬(¬(0 <= c /\ c <= 1000000)) -> (((¬Sp.inP ax ay az) \/ (¬Sp.inP bx by_ bz)) -> tu [vi 0,vi 11] = dq) /\
   (¬((¬Sp.inP ax ay az) \/ (¬Sp.inP bx by_ bz)) -> (Sp.inQ ax /\ Sp.inQ ay /\ Sp.inQ az) /\
    (Sp.inQ bx /\ Sp.inQ by_ /\ Sp.inQ bz) /\
    (((Sp.sqr ax ay az = 0) \/ (Sp.sqr bx by_ bz = 0)) -> tu [vi 0,vi 6] = dq) /\
    (¬((Sp.sqr ax ay az = 0) \/ (Sp.sqr bx by_ bz = 0)) -> (Sp.okCr ax ay az bx by_ bz (Sp.sqr ax ay az) (Sp.sqr bx by_ bz) c) /\
     tu [vi (Sp.corV ax ay az bx by_ bz (Sp.sqr ax ay az) (Sp.sqr bx by_ bz) c),vi 0] = dq)))) :
 kCorner_at ax ay az bx by_ bz c (PureQ dq):=by
 unfold kCorner_at
 refine path_wp (G:=given kp20 [(1,1,.call (vb (decide (0 <= c /\ c <= 1000000))) none)] []) 6 [] ⟨(atC (cd Try.f20) [1,0,0,1]),[(3,AV.ptr 0 0 0 0),(4,AV.ptr 1 0 0 0),(5,AV.ptr 2 0 0 0),(11,vb !decide (0 <= c /\ c <= 1000000))],[⟨[(zNzG2 ax ay az)],3,0,false,false⟩,⟨[(zNzG1 bx by_ bz)],3,0,false,false⟩,⟨[vi c],1,0,false,false⟩],_,[],_⟩ (by kernel_rfl) (bc rfl b0) q0 (ce (@ev27 (c) (0) (1000000)) c0) ?_
 rcases xm (¬(0 <= c /\ c <= 1000000)) with d2 | d2
 ·have H:=H.1 d2
  exact path_re (G:=given kp20 [] []) 1000 [true] (tu [vi 0,vi 1]) (by kernel_rfl) (bc (beq_t ((i_not i_dec).2 d2)) b0) q0 c0 H
 ·have H:=H.2 d2
  refine path_wp (G:=given kp20 [(3,1,.call (vb (decide ¬Sp.inP ax ay az)) none),(3,4,.call (vb (decide ¬Sp.inP bx by_ bz)) none)] []) 3 [false] ⟨(atC (cd Try.f20) [1,0,0,1,1,1]),[(3,AV.ptr 0 0 0 0),(4,AV.ptr 1 0 0 0),(5,AV.ptr 2 0 0 0),(15,vb (bif decide ¬Sp.inP ax ay az then true else decide ¬Sp.inP bx by_ bz))],[⟨[(zNzG2 ax ay az)],3,0,false,false⟩,⟨[(zNzG1 bx by_ bz)],3,0,false,false⟩,⟨[vi c],1,0,false,false⟩],[(!decide (0 <= c /\ c <= 1000000)) == false,true,!((decide ¬Sp.inP ax ay az) == false && true) || true],[],[⟨true,false,31,[(zNzG2 ax ay az)],[],vb (decide ¬Sp.inP ax ay az),[]⟩,⟨(decide ¬Sp.inP ax ay az) == false && true && true,false,31,[(zNzG1 bx by_ bz)],[],vb (decide ¬Sp.inP bx by_ bz),[]⟩]⟩ (by kernel_rfl) (bc (beq_f (fun h => d2 ((i_not i_dec).1 h))) (bc rfl (bc (Bool.or_true _) b0))) q0 (cc (fun _ => (@ev31 (ax) (ay) (az))) (cc (fun hc => ((@ev31 (bx) (by_) (bz)):Ev M1 (Conf.pure 31 [(zNzG1 bx by_ bz)]) (vb (decide ¬Sp.inP bx by_ bz)) [])) c0)) ?_
  rcases xm ((¬Sp.inP ax ay az) \/ (¬Sp.inP bx by_ bz)) with d5 | d5
  ·have H:=H.1 d5
   exact path_re (G:=given kp20 [] []) 1000 [true] (tu [vi 0,vi 11]) (by kernel_rfl) (bc (beq_t ((i_bor i_dec i_dec).2 d5)) b0) q0 c0 H
  ·have H:=H.2 d5
   obtain ⟨k6,H⟩:=H
   obtain ⟨k7,H⟩:=H
   refine path_wp (G:=given kp20 [(5,1,.call (vi (Sp.sqr ax ay az)) none),(5,3,.call (vi (Sp.sqr bx by_ bz)) none)] []) 4 [false] ⟨(atC (cd Try.f20) [1,1,0]),[(3,AV.ptr 0 0 0 0),(4,AV.ptr 1 0 0 0),(5,AV.ptr 2 0 0 0),(15,vb (bif decide ¬Sp.inP ax ay az then true else decide ¬Sp.inP bx by_ bz))],[⟨[(zNzG2 ax ay az)],3,0,false,false⟩,⟨[(zNzG1 bx by_ bz)],3,0,false,false⟩,⟨[vi c],1,0,false,false⟩],_,[],_⟩ (by kernel_rfl) (bc (beq_f (fun h => d5 ((i_bor i_dec i_dec).1 h))) b0) q0 c0 (wp_both (G:=given kp20 [(5,1,.call (vi (Sp.sqr ax ay az)) none),(5,3,.call (vi (Sp.sqr bx by_ bz)) none)] []) [0,1,2,4,3] 4 (e1:=[(3,AV.ptr 0 0 0 0),(4,AV.ptr 1 0 0 0),(5,AV.ptr 2 0 0 0),(8,AV.ptr 3 0 0 0),(9,AV.ptr 4 0 0 0)]) (L1:=[⟨[(zNzG2 ax ay az)],3,0,false,false⟩,⟨[(zNzG1 bx by_ bz)],3,0,false,false⟩,⟨[vi c],1,0,false,false⟩,⟨[vi (Sp.sqr ax ay az)],1,0,false,false⟩,⟨[vi (Sp.sqr bx by_ bz)],1,0,false,false⟩]) (a:=[true,true,true,true]) (q:=[]) (cs:=[⟨true,false,32,[(zNzG2 ax ay az)],[],vi (Sp.sqr ax ay az),[]⟩,⟨true,false,32,[(zNzG1 bx by_ bz)],[],vi (Sp.sqr bx by_ bz),[]⟩]) (by kernel_rfl) (by kernel_rfl) (allB_cons rfl (allB_cons rfl (allB_cons rfl (allB_cons rfl allB_nil)))) allP_nil (allC_cons (fun _ => (@ev32 (ax) (ay) (az) k6)) (allC_cons (fun _ => (@ev32 (bx) (by_) (bz) k7)) allC_nil)) ?_)
   rcases xm ((Sp.sqr ax ay az = 0) \/ (Sp.sqr bx by_ bz = 0)) with d9 | d9
   ·have H:=H.1 d9
    exact path_re (G:=given kp20 [] []) 1000 [true] (asm:=[true,!((Sp.sqr ax ay az == 0) == false && true) || true,(bif Sp.sqr ax ay az == 0 then true else Sp.sqr bx by_ bz == 0) == true]) (tu [vi 0,vi 6]) (by kernel_rfl) (bc rfl (bc (Bool.or_true _) (bc (beq_t ((i_bor i_eq i_eq).2 d9)) b0))) q0 c0 H
   ·have H:=H.2 d9
    obtain ⟨k10,H⟩:=H
    exact path_re (G:=given kp20 [(8,1,.call (vi (Sp.corV ax ay az bx by_ bz (Sp.sqr ax ay az) (Sp.sqr bx by_ bz) c)) none)] []) 1000 [false] (asm:=[true,!((Sp.sqr ax ay az == 0) == false && true) || true,(bif Sp.sqr ax ay az == 0 then true else Sp.sqr bx by_ bz == 0) == false,true,true,true,true,true]) (tu [vi (Sp.corV ax ay az bx by_ bz (Sp.sqr ax ay az) (Sp.sqr bx by_ bz) c),vi 0]) (by kernel_rfl) (bc rfl (bc (Bool.or_true _) (bc (beq_f (fun h => d9 ((i_bor i_eq i_eq).1 h))) (bc rfl (bc rfl (bc rfl (bc rfl (bc rfl b0)))))))) q0 (ce (@ev37_c (ax) (ay) (az) (bx) (by_) (bz) (Sp.sqr ax ay az) (Sp.sqr bx by_ bz) (c) k10) c0) H
theorem kStraight (n u v:Int)  (dq:AV) (H :
  ((((¬(0 <= n /\ n <= 100000000)) \/ (¬(1 <= u /\ u <= 1000000))) \/ (¬(1 <= v /\ v <= 100000000))) -> tu [vi 0,vi 1] = dq) /\
  (¬(((¬(0 <= n /\ n <= 100000000)) \/ (¬(1 <= u /\ u <= 1000000))) \/ (¬(1 <= v /\ v <= 100000000))) -> (Sp.inI n) /\
   (Sp.okSt u v (Sp.qi n)) /\
   tu [vi (Sp.strV u v (Sp.qi n)),vi 0] = dq)) :
 kStraight_at n u v (PureQ dq):=by
 unfold kStraight_at
 refine path_wp (G:=given kp22 [(1,1,.call (vb (decide (0 <= n /\ n <= 100000000))) none),(1,5,.call (vb (decide (1 <= u /\ u <= 1000000))) none),(1,10,.call (vb (decide (1 <= v /\ v <= 100000000))) none)] []) 5 [] ⟨(atC (cd Try.f22) [1,0,1]),[(0,vi n),(4,AV.ptr 0 0 0 0),(5,AV.ptr 1 0 0 0),(22,vb (bif bif !decide (0 <= n /\ n <= 100000000) then true else !decide (1 <= u /\ u <= 1000000) then true else !decide (1 <= v /\ v <= 100000000)))],[⟨[vi u],1,0,false,false⟩,⟨[vi v],1,0,false,false⟩],[!((!decide (0 <= n /\ n <= 100000000)) == false && true) || true,!((bif !decide (0 <= n /\ n <= 100000000) then true else !decide (1 <= u /\ u <= 1000000)) == false && true) || true],[],[⟨true,false,27,[vi n,vi 0,vi 100000000],[],vb (decide (0 <= n /\ n <= 100000000)),[]⟩,⟨(!decide (0 <= n /\ n <= 100000000)) == false && true && true,false,27,[vi u,vi 1,vi 1000000],[],vb (decide (1 <= u /\ u <= 1000000)),[]⟩,⟨(bif !decide (0 <= n /\ n <= 100000000) then true else !decide (1 <= u /\ u <= 1000000)) == false && true && true,false,27,[vi v,vi 1,vi 100000000],[],vb (decide (1 <= v /\ v <= 100000000)),[]⟩]⟩ (by kernel_rfl) (bc (Bool.or_true _) (bc (Bool.or_true _) b0)) q0 (cc (fun _ => (@ev27 (n) (0) (100000000))) (cc (fun hc => ((@ev27 (u) (1) (1000000)):Ev M1 (Conf.pure 27 [vi u,vi 1,vi 1000000]) (vb (decide (1 <= u /\ u <= 1000000))) [])) (cc (fun hc => ((@ev27 (v) (1) (100000000)):Ev M1 (Conf.pure 27 [vi v,vi 1,vi 100000000]) (vb (decide (1 <= v /\ v <= 100000000))) [])) c0))) ?_
 rcases xm (((¬(0 <= n /\ n <= 100000000)) \/ (¬(1 <= u /\ u <= 1000000))) \/ (¬(1 <= v /\ v <= 100000000))) with d4 | d4
 ·have H:=H.1 d4
  exact path_re (G:=given kp22 [] []) 1000 [true] (tu [vi 0,vi 1]) (by kernel_rfl) (bc (beq_t ((i_bor (i_bor (i_not i_dec) (i_not i_dec)) (i_not i_dec)).2 d4)) b0) q0 c0 H
 ·have H:=H.2 d4
  obtain ⟨k5,H⟩:=H
  obtain ⟨k6,H⟩:=H
  exact path_re (G:=given kp22 [(3,1,.call (ratA false false (Sp.qi n)) none),(4,1,.call (vi (Sp.strV u v (Sp.qi n))) none)] []) 1000 [false] (tu [vi (Sp.strV u v (Sp.qi n)),vi 0]) (by kernel_rfl) (bc (beq_f (fun h => d4 ((i_bor (i_bor (i_not i_dec) (i_not i_dec)) (i_not i_dec)).1 h))) (bc rfl (bc rfl (bc rfl (bc rfl b0))))) q0 (ce (@ev41 (n) k5) (ce (@ev37_s (false) (false) (u) (v) (Sp.qi n) k6) c0)) H
end Go.Av

namespace Go.Av
open Go.Proofs
namespace Sp
def corE (ax ay az bx by_ bz c:Int):Int:=if isV c then (if inP ax ay az /\ inP bx by_ bz then (if sqr ax ay az = 0 \/ sqr bx by_ bz = 0 then 6 else 0) else 11) else 1
noncomputable def cor (ax ay az bx by_ bz c:Int):Int:=if corE ax ay az bx by_ bz c = 0 then corV ax ay az bx by_ bz (sqr ax ay az) (sqr bx by_ bz) c else 0
def isSt (n u v:Int):Prop:=isLen n /\ (1 <= u /\ u <= 1000000) /\ isAcc v
end Sp
instance (n u v:Int):Decidable (Sp.isSt n u v):=by unfold Sp.isSt;infer_instance
namespace Sp
def strE (n u v:Int):Int:=if isSt n u v then 0 else 1
noncomputable def str (n u v:Int):Int:=if isSt n u v then strV u v (qi n) else 0
end Sp
theorem okCr_of {ax ay az bx by_ bz c:Int} (h1:Sp.isV c) (h2:Sp.inP ax ay az /\ Sp.inP bx by_ bz) (h3:¬(Sp.sqr ax ay az = 0 \/ Sp.sqr bx by_ bz = 0)):Sp.okCr ax ay az bx by_ bz (Sp.sqr ax ay az) (Sp.sqr bx by_ bz) c /\ (Sp.inQ ax /\ Sp.inQ ay /\ Sp.inQ az) /\ Sp.inQ bx /\ Sp.inQ by_ /\ Sp.inQ bz:=by
 have q:=h2
 unfold Sp.inP Sp.inM at q
 have qa:Sp.inQ ax /\ Sp.inQ ay /\ Sp.inQ az:=by unfold Sp.inQ;omega
 have qb:Sp.inQ bx /\ Sp.inQ by_ /\ Sp.inQ bz:=by unfold Sp.inQ;omega
 have a:=sqr_bound qa.1 qa.2.1 qa.2.2
 have b:=sqr_bound qb.1 qb.2.1 qb.2.2
 exact ⟨⟨h2.1,h2.2,by unfold Sp.okQ;omega,by unfold Sp.okQ;omega,h1⟩,qa,qb⟩
theorem ev20 (ax ay az bx by_ bz c:Int):Ev M1 (.pure 20 [.agg [.int .i64 ax,.int .i64 ay,.int .i64 az],.agg [.int .i64 bx,.int .i64 by_,.int .i64 bz],.int .i64 c]) (.tup [.int .i64 (Sp.cor ax ay az bx by_ bz c),.int .i64 (Sp.corE ax ay az bx by_ bz c)]) []:=by
 refine call20 (kCorner _ _ _ _ _ _ _ _ ⟨fun x => ?_,fun x => ⟨fun y => ?_,fun y => ?_⟩⟩)
 ·have e:Sp.corE ax ay az bx by_ bz c = 1:=if_neg x
  unfold Sp.cor;rw [e];rfl
 ·have x:Sp.isV c:=Classical.not_not.1 x
  have e:Sp.corE ax ay az bx by_ bz c = 11:=by unfold Sp.corE;rw [if_pos x,if_neg fun z => y.elim (fun w => w z.1) fun w => w z.2]
  unfold Sp.cor;rw [e];rfl
 ·have x:Sp.isV c:=Classical.not_not.1 x
  have y:Sp.inP ax ay az /\ Sp.inP bx by_ bz:=⟨Classical.not_not.1 fun z => y (.inl z),Classical.not_not.1 fun z => y (.inr z)⟩
  have q:=y
  unfold Sp.inP Sp.inM at q
  refine ⟨by unfold Sp.inQ;omega,by unfold Sp.inQ;omega,fun z => ?_,fun z => ?_⟩
  ·have e:Sp.corE ax ay az bx by_ bz c = 6:=by unfold Sp.corE;rw [if_pos x,if_pos y,if_pos z]
   unfold Sp.cor;rw [e];rfl
  ·have e:Sp.corE ax ay az bx by_ bz c = 0:=by unfold Sp.corE;rw [if_pos x,if_pos y,if_neg z]
   unfold Sp.cor;rw [e,if_pos rfl]
   exact ⟨(okCr_of x y z).1,rfl⟩
theorem ev22 (n u v:Int):Ev M1 (.pure 22 [.int .i64 n,.int .i64 u,.int .i64 v]) (.tup [.int .i64 (Sp.str n u v),.int .i64 (Sp.strE n u v)]) []:=by
 have e:(((¬(0 <= n /\ n <= 100000000)) \/ (¬(1 <= u /\ u <= 1000000))) \/ (¬(1 <= v /\ v <= 100000000))) ↔ ¬Sp.isSt n u v:=by unfold Sp.isSt Sp.isLen Sp.isAcc;omega
 refine call22 (kStraight _ _ _ _ ⟨fun x => ?_,fun x => ?_⟩)
 ·unfold Sp.str Sp.strE
  rw [if_neg (e.1 x),if_neg (e.1 x)]
 ·have y:=Classical.not_not.1 (mt e.2 x)
  unfold Sp.str Sp.strE
  rw [if_pos y,if_pos y]
  have z:=y.1
  unfold Sp.isLen at z
  have i:Sp.inI n:=by unfold Sp.inI;omega
  exact ⟨i,⟨y.2.1,y.2.2,okT_R (okT_int i) (by omega)⟩,rfl⟩
end Go.Av

namespace Go.Av
open Go.Proofs
set_option maxRecDepth 100000
def fi24:Fi:=⟨6,[.cell 2 54]⟩
def kp24:List (Nat × List Nat):=[(0,[0,2]),(1,[2])]
def kWhole_at (n:Int) (Q:AV -> Heap -> Prop):Prop:=Wp M1 (.run fi24 (atC (cd Try.f24) []) [(0,.int .i64 n)] []) Q
theorem call24 {args:List AV} {d:AV} (h:wc M1 fi24 Try.f24 args d):Ev M1 (.pure 24 args) d []:=pcl _ _ (by kernel_rfl) h
theorem kWhole (n:Int)  (dq:AV) (H :
  (Sp.inI n) /\
  Weak (ratA false false (Sp.qi n)) dq) :
 kWhole_at n (PureQ dq):=by
 unfold kWhole_at
 obtain ⟨k1,H⟩:=H
 exact path_rq (G:=given kp24 [(1,1,.call (bigA false n) none),(1,2,.call (ratA false false (Sp.qi n)) none)] []) 1000 [] (ratA false false (Sp.qi n)) (by kernel_rfl) (bc rfl b0) q0 (ce (@ev49 (n) k1) (ce (@ev48 (false) (n)) c0)) H
end Go.Av

namespace Go.Av
open Go.Proofs
theorem ev24 (n:Int) (h:Sp.inI n):Ev M1 (.pure 24 [.int .i64 n]) (ratA false false (Sp.qi n)) []:=
 call24 (kWhole _ _ ⟨h,.refl _⟩)
theorem qf_lt {i j d:Int} (hd:0 < d) (h:i < j):Sp.qf i d < Sp.qf j d:=by
 rw [qf_div _ hd,qf_div _ hd,Rat.div_def,Rat.div_def]
 have p:0 < Sp.qi d:=qi_pos (by omega)
 have e:Sp.qi d * (Sp.qi d)⁻¹ = 1:=Rat.mul_inv_cancel _ (by grind)
 have k:Sp.qi i < Sp.qi j:=by rw [qi_eq,qi_eq];exact Rat.intCast_lt_intCast.2 h
 have q:0 < (Sp.qi d)⁻¹:=by
  rcases tri ((Sp.qi d)⁻¹) with t | t | t
  ·have:=mul_pp p (show 0 < -(Sp.qi d)⁻¹ by grind);grind
  ·rw [t] at e;grind
  ·exact t
 have:=mul_pp (show 0 < Sp.qi j - Sp.qi i by grind) q
 grind
theorem qf_zero (d:Int):Sp.qf 0 d = 0:=by rw [qf_eq];exact Rat.zero_divInt d
theorem qf_nn {i d:Int} (hd:0 < d) (h:0 <= i):0 <= Sp.qf i d:=by
 rcases Int.lt_or_eq_of_le h with k | k
 ·have:=qf_lt hd k;rw [qf_zero] at this;grind
 ·rw [<- k,qf_zero];grind
theorem reR_lt {i j v a:Int} (hv:1 <= v) (ha:1 <= a) (h0:0 <= i) (h:i < j):Sp.reR i v a < Sp.reR j v a:=
 rch_lt (qi_pos ha) (qi_pos hv) (qf_nn (by omega) h0) (qf_lt (by omega) h)
theorem reR_le {i j v a:Int} (hv:1 <= v) (ha:1 <= a) (h0:0 <= i) (h:i <= j):Sp.reR i v a <= Sp.reR j v a:=by
 rcases Int.lt_or_eq_of_le h with k | k
 ·have:=reR_lt hv ha h0 k;grind
 ·rw [k];grind
theorem ex_fast:Sp.fastV 0 500 1000 = 1000 /\ Sp.fastE 0 500 1000 = 0:=by
 have h:Sp.isV 0 /\ Sp.isLen 500 /\ Sp.isAcc 1000:=by unfold Sp.isV Sp.isLen Sp.isAcc;omega
 unfold Sp.fastV Sp.fastE
 rw [if_pos h,if_pos h]
 exact ⟨(sq_unique (by decide) (by decide) (by decide)).symm,rfl⟩
def exL:List Pt:=[⟨500,2000,600⟩,⟨500,2000,2000⟩]
theorem ex_valid:Sp.validE exL 1000 = 0:=by
 have h:Sp.okPts exL 1000:=⟨by unfold Sp.isAcc;omega,fun p hp => by
  simp only [exL,List.mem_cons,List.not_mem_nil,or_false] at hp
  rcases hp with rfl | rfl <;> (unfold Sp.okPt Sp.isLen Sp.isV;decide)⟩
 unfold Sp.validE
 rw [if_neg (by decide),if_pos h]
theorem ex_spds:Sp.spdV exL 1000 = [0,600,0]:=by
 rw [show Sp.spdV exL 1000 = Sp.spds exL 1000 from if_pos ex_valid]
 have e:Sp.sq (0 * 0 + 2 * 1000 * 500) = 1000:=(sq_unique (by decide) (by decide) (by decide)).symm
 have f1:Sp.spF exL 1000 1 = 600:=by
  show min (min (min (2000:Int) 600) 2000) (Sp.sq (0 * 0 + 2 * 1000 * 500)) = 600
  rw [e];decide
 have g1:Sp.spAt exL 1000 1 = 600:=by
  show min (Sp.spF exL 1000 1) (Sp.sq (0 * 0 + 2 * 1000 * 500)) = 600
  rw [e,f1];decide
 show [Sp.spAt exL 1000 0,Sp.spAt exL 1000 1,Sp.spAt exL 1000 exL.length] = _
 rw [spAt_zero,g1,spAt_end]
theorem qi1:Sp.qi 1 = 1:=by rw [qi_eq];rfl
theorem sgR_le {a:Rat}:Sp.sgR a <= 0 ↔ a <= 0:=by
 rcases tri a with k | k | k
 ·rw [sgR_neg k];constructor
  ·intro _;grind
  ·intro _;omega
 ·subst k;rw [sgR_zero];constructor
  ·intro _;grind
  ·intro _;omega
 ·rw [sgR_pos k];constructor
  ·intro h;omega
  ·intro h;grind
theorem alw_ex {v x y:Int} (h:x * y = 0) (k:Sp.alwA x y 1 1 = Sp.qi (x * x + y * y)):Sp.alw v x y 1 1 500 = decide ((x * x + y * y) * (v * v) <= 250000):=by
 have t:Sp.alwT x y * (Sp.qi v * Sp.qi v) = Sp.qi 0:=by
  unfold Sp.alwT
  rw [qi_mul x y,h,qi_0];grind
 unfold Sp.alw
 rw [t,sgO_b0,k,qi_mul,qi_mul,qi_mul]
 refine dec_iff ?_
 rw [sgR_le]
 have e:Sp.qi ((x * x + y * y) * (v * v)) + -Sp.qi (500 * 500) <= 0 ↔ Sp.qi ((x * x + y * y) * (v * v)) <= Sp.qi (500 * 500):=by constructor <;> intro _ <;> grind
 rw [e,qi_eq,qi_eq,Rat.intCast_le_intCast]
 exact Iff.rfl
theorem qf1 (n:Int):Sp.qf n 1 = Sp.qi n:=by rw [qf_div n (by omega),qi1,Rat.div_def];grind
theorem ex_cor:Sp.cor 1 0 0 0 1 0 500 = 500 /\ Sp.corE 1 0 0 0 1 0 500 = 0:=by
 have e:Sp.corE 1 0 0 0 1 0 500 = 0:=by
  unfold Sp.corE
  rw [if_pos (by unfold Sp.isV;omega),if_pos (by unfold Sp.inP Sp.inM;omega),if_neg (by decide)]
 refine ⟨?_,e⟩
 unfold Sp.cor
 rw [if_pos e]
 show Sp.corV 1 0 0 0 1 0 1 1 500 = 500
 have p:∀ i:Int,0 <= i -> Sp.corP 1 0 0 0 1 0 1 1 500 i = decide (500 <= i):=by
  intro i hi
  have a1:Sp.alwA 1 0 1 1 = Sp.qi (1 * 1 + 0 * 0):=by unfold Sp.alwA;rw [qf1,qf1];show Sp.qi 1 + Sp.qi 0 = Sp.qi 1;rw [qi_0];grind
  have a2:Sp.alwA 0 1 1 1 = Sp.qi (0 * 0 + 1 * 1):=by unfold Sp.alwA;rw [qf1,qf1];show Sp.qi 0 + Sp.qi 1 = Sp.qi 1;rw [qi_0];grind
  have a3:Sp.alwA 0 0 1 1 = Sp.qi (0 * 0 + 0 * 0):=by unfold Sp.alwA;rw [qf1];show Sp.qi 0 + Sp.qi 0 = Sp.qi 0;rw [qi_0];grind
  have s1:(1 * 1 + 0 * 0:Int) * ((i + 1) * (i + 1)) <= 250000 ↔ ¬500 <= i:=by
   have m1:500 <= i -> 501 * 501 <= (i + 1) * (i + 1):=fun k => sq_le_sq (by omega) (by omega)
   have m2:¬500 <= i -> (i + 1) * (i + 1) <= 500 * 500:=fun k => sq_le_sq (by omega) (by omega)
   omega
  have s2:(0 * 0 + 1 * 1:Int) * ((i + 1) * (i + 1)) <= 250000 ↔ ¬500 <= i:=s1
  have s3:(0 * 0 + 0 * 0:Int) * ((i + 1) * (i + 1)) <= 250000 ↔ True:=by
   rw [show (0 * 0 + 0 * 0:Int) = 0 from rfl,Int.zero_mul];decide
  unfold Sp.corP
  rw [alw_ex (by decide) a1,alw_ex (by decide) a2,alw_ex (by decide) a3,dec_iff s1,dec_iff s2,dec_iff s3]
  by_cases k:500 <= i <;> simp [k]
 obtain ⟨r0,r1,r2,r3⟩:=bs_all (p:=Sp.corP 1 0 0 0 1 0 1 1 500) (h:=1000000) (by decide) (by decide)
 unfold Sp.corV
 generalize Sp.bs (Sp.corP 1 0 0 0 1 0 1 1 500) 40 0 1000000 = r at *
 rw [p r r0] at r3
 have r2':r = 0 \/ ¬500 <= r - 1:=by
  rcases r2 with k | k
  ·exact .inl k
  ·by_cases z:r = 0
   ·exact .inl z
   ·rw [p (r - 1) (by omega)] at k
    exact .inr (of_decide_eq_false k)
 have r3':r = 1000000 \/ 500 <= r:=r3.imp id of_decide_eq_true
 omega
theorem ex_re:Sp.reR 2000 1000 1000 = Sp.qi 1000:=by
 have t:Sp.qf 2000 1000 = 2:=by rw [qf_eq];decide +kernel
 have e:Sp.qi 1000 = 1000:=by rw [qi_eq];rfl
 have i:(1000:Rat) * 1000⁻¹ = 1:=Rat.mul_inv_cancel _ (by decide +kernel)
 unfold Sp.reR Sp.rch
 rw [t,e,if_pos (by decide +kernel),Rat.div_def]
 grind
theorem ex_okRe:Sp.okRe 2000 1000 1000:=by unfold Sp.okRe Sp.isAcc;omega
theorem ex_str:Sp.str 1000 1000 1000 = 2000 /\ Sp.strE 1000 1000 1000 = 0:=by
 have h:Sp.isSt 1000 1000 1000:=by unfold Sp.isSt Sp.isLen Sp.isAcc;omega
 unfold Sp.str Sp.strE
 rw [if_pos h,if_pos h]
 refine ⟨?_,rfl⟩
 obtain ⟨r0,r1,r2,r3⟩:=bs_all (p:=Sp.strP 1000 1000 (Sp.qi 1000)) (h:=1000000000000) (by decide) (by decide)
 unfold Sp.strV
 generalize Sp.bs (Sp.strP 1000 1000 (Sp.qi 1000)) 40 0 1000000000000 = r at *
 unfold Sp.strP at r2 r3
 have a:¬r < 2000:=fun k => by
  rcases r3 with z | z
  ·omega
  ·have:=of_decide_eq_true z
   have:=reR_lt (v:=1000) (a:=1000) (by omega) (by omega) r0 k
   rw [ex_re] at this
   grind
 have b:¬2000 < r:=fun k => by
  rcases r2 with z | z
  ·omega
  ·have:=of_decide_eq_false z
   have:=reR_le (v:=1000) (a:=1000) (i:=2000) (j:=r - 1) (by omega) (by omega) (by omega) (by omega)
   rw [ex_re] at this
   grind
 omega
end Go.Av

namespace Go.Av
open Go.Proofs
set_option maxRecDepth 100000
def fi7:Fi:=⟨76,[.tmp 0]⟩
def kp7:List (Nat × List Nat):=[(0,[]),(1,[1,2]),(2,[1,2,3,4]),(3,[1,2,3,4,5,6]),(4,[1,2,3,4,5,6,7,8]),(5,[1,2,3,4,5,6,7,8,9,10]),(6,[0])]
def kAwake_at  (Q:AV -> Heap -> Prop):Prop:=Wp M1 (.run fi7 (atC (cd Try.f7) []) [] []) Q
theorem call7 {args:List AV} {d:AV} (h:wc M1 fi7 Try.f7 args d):Ev M1 (.pure 7 args) d []:=pcl _ _ (by kernel_rfl) h
noncomputable abbrev zNzJ1:=ag [vb (Sp.isNeg (Sp.reR 2000 1000 1000).num),vf (us (Sp.limI (Sp.reR 2000 1000 1000).num)),vb false,vf (us (Sp.limI (↑(Sp.reR 2000 1000 1000).den:Int)))]
noncomputable abbrev zNzJ2 (n1:Int) (b3:Bool):=bif bif bif bif bif bif n1 == 0 then true else false then false else false then true else false then Sp.fastV 0 500 1000 == 1000 else false then b3 else false then Sp.cor 1 0 0 0 1 0 500 == 500 else false
noncomputable abbrev zNzJ3 (n1:Int) (b1:Bool):=bif bif bif bif bif bif n1 == 0 then true else false then true else false then true else false then Sp.fastV 0 500 1000 == 1000 else false then b1 else false then Sp.cor 1 0 0 0 1 0 500 == 500 else false
noncomputable abbrev zNzJ4:=ag [vb false,vf [],vb false,vf []]
noncomputable abbrev zNzJ5:=tu [vi (Sp.cor 1 0 0 0 1 0 500),vi 0]
noncomputable abbrev zNzJ6:=tu [vi (Sp.str 1000 1000 1000),vi 0]
noncomputable abbrev zNzJ7:=tu [vi (Sp.fastV 0 500 1000),vi 0]
noncomputable abbrev zNzJ8 (l1:List (Int)) (n1:Int):=tu [vf (List.map (vi) l1),vi n1]
theorem kAwake   (dq:AV) (H :
  ∃ (l1:List (Int)) (n1:Int),
  (Ev M1 (Conf.pure 8 [AV.vec true 3 [ag [vi 500,vi 2000,vi 600],ag [vi 500,vi 2000,vi 2000]],vi 1000]) (tu [vf (List.map (vi) l1),vi n1]) []) /\
  ((Sp.okRe 2000 1000 1000) -> ∃ (b1:Bool),
   ((((((n1 = 0) \/ (false = true)) \/ (false = true)) \/ (false = true)) /\ (Sp.fastV 0 500 1000 = 1000)) -> (Ev M1 (Conf.pure 13 [vf (List.map (vi) l1),AV.vec true 1 [vi 0,vi 600,vi 0]]) (vb b1) [])) /\
   ((((((((n1 = 0) \/ (false = true)) \/ (false = true)) \/ (false = true)) /\ (Sp.fastV 0 500 1000 = 1000)) /\ (b1 = true)) /\ (Sp.cor 1 0 0 0 1 0 500 = 500)) -> (Sp.inI 1000)) /\
   ∃ (b2:Bool),
   ((((((((n1 = 0) \/ (false = true)) \/ (false = true)) \/ (false = true)) /\ (Sp.fastV 0 500 1000 = 1000)) /\ (b1 = true)) /\ (Sp.cor 1 0 0 0 1 0 500 = 500)) -> (Ev M1 (Conf.pure 23 [ag [vb (Sp.isNeg (Sp.reR 2000 1000 1000).num),vf (us (Sp.limI (Sp.reR 2000 1000 1000).num)),vb false,vf (us (Sp.limI (↑(Sp.reR 2000 1000 1000).den:Int)))],ratA false false (Sp.qi 1000)]) (vb b2) [])) /\
   vb (bif bif bif bif bif bif bif bif n1 == 0 then true else false then true else false then true else false then Sp.fastV 0 500 1000 == 1000 else false then b1 else false then Sp.cor 1 0 0 0 1 0 500 == 500 else false then b2 else false then Sp.str 1000 1000 1000 == 2000 else false) = dq) /\
  (¬(Sp.okRe 2000 1000 1000) -> ∃ (b3:Bool),
   ((((((n1 = 0) \/ (false = true)) /\ (false = true)) \/ (false = true)) /\ (Sp.fastV 0 500 1000 = 1000)) -> (Ev M1 (Conf.pure 13 [vf (List.map (vi) l1),AV.vec true 1 [vi 0,vi 600,vi 0]]) (vb b3) [])) /\
   ((((((((n1 = 0) \/ (false = true)) /\ (false = true)) \/ (false = true)) /\ (Sp.fastV 0 500 1000 = 1000)) /\ (b3 = true)) /\ (Sp.cor 1 0 0 0 1 0 500 = 500)) -> (Sp.inI 1000)) /\
   ∃ (b4:Bool),
   ((((((((n1 = 0) \/ (false = true)) /\ (false = true)) \/ (false = true)) /\ (Sp.fastV 0 500 1000 = 1000)) /\ (b3 = true)) /\ (Sp.cor 1 0 0 0 1 0 500 = 500)) -> (Ev M1 (Conf.pure 23 [ag [vb false,vf [],vb false,vf []],ratA false false (Sp.qi 1000)]) (vb b4) [])) /\
   vb (bif bif bif bif bif bif bif bif n1 == 0 then true else false then false else false then true else false then Sp.fastV 0 500 1000 == 1000 else false then b3 else false then Sp.cor 1 0 0 0 1 0 500 == 500 else false then b4 else false then Sp.str 1000 1000 1000 == 2000 else false) = dq)) :
 kAwake_at  (PureQ dq):=by
 unfold kAwake_at
 obtain ⟨l1,n1,H⟩:=H
 obtain ⟨k1,H⟩:=H
 rcases xm (Sp.okRe 2000 1000 1000) with d2 | d2
 ·have H:=H.1 d2
  obtain ⟨b1,H⟩:=H
  obtain ⟨k4,H⟩:=H
  obtain ⟨k6,H⟩:=H
  obtain ⟨b2,H⟩:=H
  obtain ⟨k8,H⟩:=H
  exact path_re (G:=given kp7 [(1,0,.call (zNzJ7) none),(2,3,.call ((zNzJ8 l1 n1)) none),(3,2,.call (zNzJ5) none),(4,0,.call (tu [zNzJ1,vi 0]) none),(5,0,.call (zNzJ6) none),(6,25,.call (vb b1) none),(6,33,.call (ratA false false (Sp.qi 1000)) none),(6,34,.call (vb b2) none)] []) 1000 [] (asm:=[true,!((zNzJ3 n1 b1) == true && true) || true]) (calls:=[⟨true,false,14,[vi 0,vi 500,vi 1000],[],zNzJ7,[]⟩,⟨true,false,8,[AV.vec true 3 [ag [vi 500,vi 2000,vi 600],ag [vi 500,vi 2000,vi 2000]],vi 1000],[],(zNzJ8 l1 n1),[]⟩,⟨true,false,20,[ag [vi 1,vi 0,vi 0],ag [vi 0,vi 1,vi 0],vi 500],[],zNzJ5,[]⟩,⟨true,false,21,[vi 2000,vi 1000,vi 1000],[],tu [zNzJ1,vi 0],[]⟩,⟨true,false,22,[vi 1000,vi 1000,vi 1000],[],zNzJ6,[]⟩,⟨(bif bif bif bif n1 == 0 then true else false then true else false then true else false then Sp.fastV 0 500 1000 == 1000 else false) == true && true && true,false,13,[vf (List.map (vi) l1),AV.vec true 1 [vi 0,vi 600,vi 0]],[],vb b1,[]⟩,⟨(zNzJ3 n1 b1) == true && true && true,false,24,[vi 1000],[],ratA false false (Sp.qi 1000),[]⟩,⟨(zNzJ3 n1 b1) == true && true && true,false,23,[zNzJ1,ratA false false (Sp.qi 1000)],[],vb b2,[]⟩]) (vb (bif bif bif bif bif bif bif bif n1 == 0 then true else false then true else false then true else false then Sp.fastV 0 500 1000 == 1000 else false then b1 else false then Sp.cor 1 0 0 0 1 0 500 == 500 else false then b2 else false then Sp.str 1000 1000 1000 == 2000 else false)) (by kernel_rfl) (bc rfl (bc (Bool.or_true _) b0)) q0 (cc (fun _ => (@ev14 (0) (500) (1000))) (cc (fun _ => k1) (cc (fun _ => (@ev20 (1) (0) (0) (0) (1) (0) (500))) (cc (fun _ => (@ev21_y (2000) (1000) (1000) d2)) (cc (fun _ => (@ev22 (1000) (1000) (1000))) (cc (fun hc => ((k4 ((i_at (i_at (i_bt (i_band (i_bor (i_bor (i_bor i_eq (i_var _)) (i_var _)) (i_var _)) i_eq)))).1 hc)):Ev M1 (Conf.pure 13 [vf (List.map (vi) l1),AV.vec true 1 [vi 0,vi 600,vi 0]]) (vb b1) [])) (cc (fun hc => ((@ev24 (1000) (k6 ((i_at (i_at (i_bt (i_band (i_band (i_band (i_bor (i_bor (i_bor i_eq (i_var _)) (i_var _)) (i_var _)) i_eq) (i_var _)) i_eq)))).1 hc))):Ev M1 (Conf.pure 24 [vi 1000]) (ratA false false (Sp.qi 1000)) [])) (cc (fun hc => ((k8 ((i_at (i_at (i_bt (i_band (i_band (i_band (i_bor (i_bor (i_bor i_eq (i_var _)) (i_var _)) (i_var _)) i_eq) (i_var _)) i_eq)))).1 hc)):Ev M1 (Conf.pure 23 [zNzJ1,ratA false false (Sp.qi 1000)]) (vb b2) [])) c0)))))))) H
 ·have H:=H.2 d2
  obtain ⟨b3,H⟩:=H
  obtain ⟨k10,H⟩:=H
  obtain ⟨k12,H⟩:=H
  obtain ⟨b4,H⟩:=H
  obtain ⟨k14,H⟩:=H
  exact path_re (G:=given kp7 [(1,0,.call (zNzJ7) none),(2,3,.call ((zNzJ8 l1 n1)) none),(3,2,.call (zNzJ5) none),(4,0,.call (tu [zNzJ4,vi 1]) none),(5,0,.call (zNzJ6) none),(6,25,.call (vb b3) none),(6,33,.call (ratA false false (Sp.qi 1000)) none),(6,34,.call (vb b4) none)] []) 1000 [] (asm:=[true,!((zNzJ2 n1 b3) == true && true) || true]) (calls:=[⟨true,false,14,[vi 0,vi 500,vi 1000],[],zNzJ7,[]⟩,⟨true,false,8,[AV.vec true 3 [ag [vi 500,vi 2000,vi 600],ag [vi 500,vi 2000,vi 2000]],vi 1000],[],(zNzJ8 l1 n1),[]⟩,⟨true,false,20,[ag [vi 1,vi 0,vi 0],ag [vi 0,vi 1,vi 0],vi 500],[],zNzJ5,[]⟩,⟨true,false,21,[vi 2000,vi 1000,vi 1000],[],tu [zNzJ4,vi 1],[]⟩,⟨true,false,22,[vi 1000,vi 1000,vi 1000],[],zNzJ6,[]⟩,⟨(bif bif bif bif n1 == 0 then true else false then false else false then true else false then Sp.fastV 0 500 1000 == 1000 else false) == true && true && true,false,13,[vf (List.map (vi) l1),AV.vec true 1 [vi 0,vi 600,vi 0]],[],vb b3,[]⟩,⟨(zNzJ2 n1 b3) == true && true && true,false,24,[vi 1000],[],ratA false false (Sp.qi 1000),[]⟩,⟨(zNzJ2 n1 b3) == true && true && true,false,23,[zNzJ4,ratA false false (Sp.qi 1000)],[],vb b4,[]⟩]) (vb (bif bif bif bif bif bif bif bif n1 == 0 then true else false then false else false then true else false then Sp.fastV 0 500 1000 == 1000 else false then b3 else false then Sp.cor 1 0 0 0 1 0 500 == 500 else false then b4 else false then Sp.str 1000 1000 1000 == 2000 else false)) (by kernel_rfl) (bc rfl (bc (Bool.or_true _) b0)) q0 (cc (fun _ => (@ev14 (0) (500) (1000))) (cc (fun _ => k1) (cc (fun _ => (@ev20 (1) (0) (0) (0) (1) (0) (500))) (cc (fun _ => (@ev21_n (2000) (1000) (1000) d2)) (cc (fun _ => (@ev22 (1000) (1000) (1000))) (cc (fun hc => ((k10 ((i_at (i_at (i_bt (i_band (i_bor (i_band (i_bor i_eq (i_var _)) (i_var _)) (i_var _)) i_eq)))).1 hc)):Ev M1 (Conf.pure 13 [vf (List.map (vi) l1),AV.vec true 1 [vi 0,vi 600,vi 0]]) (vb b3) [])) (cc (fun hc => ((@ev24 (1000) (k12 ((i_at (i_at (i_bt (i_band (i_band (i_band (i_bor (i_band (i_bor i_eq (i_var _)) (i_var _)) (i_var _)) i_eq) (i_var _)) i_eq)))).1 hc))):Ev M1 (Conf.pure 24 [vi 1000]) (ratA false false (Sp.qi 1000)) [])) (cc (fun hc => ((k14 ((i_at (i_at (i_bt (i_band (i_band (i_band (i_bor (i_band (i_bor i_eq (i_var _)) (i_var _)) (i_var _)) i_eq) (i_var _)) i_eq)))).1 hc)):Ev M1 (Conf.pure 23 [zNzJ4,ratA false false (Sp.qi 1000)]) (vb b4) [])) c0)))))))) H
end Go.Av

namespace Go.Av
open Go.Proofs
theorem ev7:Ev M1 (.pure 7 []) (.bool true) []:=by
 have s:=ev8 true exL 1000
 rw [ex_valid,ex_spds] at s
 have q:=ev13 false true [0,600,0] [0,600,0] (by decide)
 rw [decide_eq_true rfl] at q
 have k:=ev23 false false false false (Sp.reR 2000 1000 1000) (Sp.qi 1000) ⟨okT_R (okT_re ex_okRe) (by omega),okT_R (okT_int (by unfold Sp.inI;omega)) (by omega)⟩
 rw [decide_eq_true ex_re] at k
 refine call7 (kAwake _ ⟨[0,600,0],0,s,fun _ => ⟨true,fun _ => q,fun _ => by unfold Sp.inI;omega,true,fun _ => k,?_⟩,fun x => absurd ex_okRe x⟩)
 rw [ex_fast.1,ex_cor.1,ex_str.1]
 rfl
end Go.Av

namespace Go.Av
open Go.Proofs
set_option maxRecDepth 100000
def fi3:Fi:=⟨50,[.tmp 4]⟩
def kp3:List (Nat × List Nat):=[(0,[0,1]),(1,[0,1,10]),(2,[4]),(3,[0,1,18]),(4,[4]),(5,[0,1,5,6]),(6,[0,1,5,6,7,8]),(7,[4])]
def lSpeeds_at (fl:Bool) (l:List Pt) (a:Int) (Q:AV -> Heap -> Prop):Prop:=Wp M1 (.run fi3 (atC (cd Try.f3) []) [(0,.vec fl 3 (l.map Pt.a)),(1,.int .i64 a)] []) Q
theorem call3 {args:List AV} {d:AV} (h:wc M1 fi3 Try.f3 args d):Ev M1 (.pure 3 args) d []:=pcl _ _ (by kernel_rfl) h
noncomputable abbrev zNzK1 (l:List Pt) (a:Int):=tu [vf (List.map (vi) (Sp.spdV l a)),vi (Sp.validE l a)]
theorem lSpeeds (fl:Bool) (l:List Pt) (a:Int)  (dq:AV) (H :
  ((((↑l.length:Int) > 60) /\ ((↑l.length:Int) <= 2000)) -> vb true = dq) /\
  (¬(((↑l.length:Int) > 60) /\ ((↑l.length:Int) <= 2000)) -> ((↑l.length:Int) <= 1000000000) /\
   (((Sp.validE l a = Sp.validE l a) /\ (Sp.validE l a = Sp.validE l a)) -> ((↑(Sp.spdV l a).length:Int) <= 1000000000)) /\
   vb (bif bif Sp.validE l a == Sp.validE l a then Sp.validE l a == Sp.validE l a else false then decide (Sp.spdV l a = Sp.spdV l a) else false) = dq)) :
 lSpeeds_at fl l a (PureQ dq):=by
 unfold lSpeeds_at
 have w1:(List.map Pt.a l).length = l.length:=List.length_map ..
 have i2:(bif decide ((↑(List.map Pt.a l).length:Int) > 60) then decide ((↑(List.map Pt.a l).length:Int) <= 2000) else false) = true ↔ (((↑l.length:Int) > 60) /\ ((↑l.length:Int) <= 2000)):=(by (try rw [w1]);all_goals exact (i_band i_dec i_dec))
 refine path_wp (G:=given kp3 [(1,0,.call (vb true) none)] []) 10 [false] ⟨(atC (cd Try.f3) [1,1,0,1]),[(0,AV.vec fl 3 (List.map Pt.a l)),(1,vi a),(18,vb (bif decide ((↑(List.map Pt.a l).length:Int) > 60) then decide ((↑(List.map Pt.a l).length:Int) <= 2000) else false))],[],_,[],_⟩ (by kernel_rfl) (bc rfl b0) q0 (ce (@ev7 ) c0) ?_
 rcases xm (((↑l.length:Int) > 60) /\ ((↑l.length:Int) <= 2000)) with d3 | d3
 ·have H:=H.1 d3
  exact path_re (G:=given kp3 [] []) 1000 [true] (vb true) (by kernel_rfl) (bc (beq_t (i2.2 d3)) b0) q0 c0 H
 ·have H:=H.2 d3
  obtain ⟨k4,H⟩:=H
  obtain ⟨k6,H⟩:=H
  exact path_re (G:=given kp3 [(5,1,.call (AV.vec false 3 (List.map Pt.a l)) none),(5,3,.call ((zNzK1 l a)) none),(6,2,.call ((zNzK1 l a)) none),(7,1,.call (AV.vec false 3 (List.map Pt.a l)) none),(7,3,.call (vi (Sp.validE l a)) none),(7,6,.call (vi (Sp.validE l a)) none),(7,16,.call (vb (decide (Sp.spdV l a = Sp.spdV l a))) none)] []) 1000 [false] (calls:=[⟨true,false,9,[AV.vec fl 3 (List.map Pt.a l)],[],AV.vec false 3 (List.map Pt.a l),[]⟩,⟨true,false,8,[AV.vec false 3 (List.map Pt.a l),vi a],[],(zNzK1 l a),[]⟩,⟨true,false,10,[AV.vec fl 3 (List.map Pt.a l),vi a],[],(zNzK1 l a),[]⟩,⟨true,false,9,[AV.vec fl 3 (List.map Pt.a l)],[],AV.vec false 3 (List.map Pt.a l),[]⟩,⟨true,false,11,[AV.vec false 3 (List.map Pt.a l),vi a],[],vi (Sp.validE l a),[]⟩,⟨true,false,12,[AV.vec fl 3 (List.map Pt.a l),vi a],[],vi (Sp.validE l a),[]⟩,⟨(bif Sp.validE l a == Sp.validE l a then Sp.validE l a == Sp.validE l a else false) == true && true && true,false,13,[vf (List.map (vi) (Sp.spdV l a)),vf (List.map (vi) (Sp.spdV l a))],[],vb (decide (Sp.spdV l a = Sp.spdV l a)),[]⟩]) (vb (bif bif Sp.validE l a == Sp.validE l a then Sp.validE l a == Sp.validE l a else false then decide (Sp.spdV l a = Sp.spdV l a) else false)) (by kernel_rfl) (bc (beq_f (fun h => d3 (i2.1 h))) b0) q0 (cc (fun _ => (@ev9 (fl) (l) k4)) (cc (fun _ => (@ev8 (false) (l) (a))) (cc (fun _ => (@ev10 (fl) (l) (a))) (cc (fun _ => (@ev9 (fl) (l) k4)) (cc (fun _ => (@ev11 (false) (l) (a))) (cc (fun _ => (@ev12 (fl) (l) (a))) (cc (fun hc => ((@ev13 (false) (false) (Sp.spdV l a) (Sp.spdV l a) (k6 ((i_at (i_at (i_bt (i_band i_eq i_eq)))).1 hc))):Ev M1 (Conf.pure 13 [vf (List.map (vi) (Sp.spdV l a)),vf (List.map (vi) (Sp.spdV l a))]) (vb (decide (Sp.spdV l a = Sp.spdV l a))) [])) c0))))))) H
end Go.Av

namespace Go.Av
open Go.Proofs
theorem spds_len (l:List Pt) (a:Int):(Sp.spds l a).length = l.length + 1:=rm_len
theorem spdV_len (l:List Pt) (a:Int):(Sp.spdV l a).length <= l.length + 1:=by
 unfold Sp.spdV
 split
 ·rw [spds_len];exact Nat.le_refl _
 ·simp
theorem ev3 (fl:Bool) (l:List Pt) (a:Int) (h:(l.length:Int) <= 2000000):Ev M1 (.pure 3 [.vec fl 3 (l.map Pt.a),.int .i64 a]) (.bool true) []:=by
 refine call3 (lSpeeds _ _ _ _ ⟨fun _ => rfl,fun x => ?_⟩)
 have k:=spdV_len l a
 refine ⟨by omega,fun _ => by omega,?_⟩
 simp only [beq_self_eq_true,cond_true,decide_true]
end Go.Av
