/- PART 6 of the texts of a claim, joined by a program: what each part shows stands at its head. -/
import Derived.Test.YtmbncgcjilkajaaGreatPartad02be29c6

namespace Go.Av
open Go.Proofs
theorem num_lt {r:Rat}:r.num < 0 ↔ r < 0:=by
 have h:=@Rat.num_nonneg r
 constructor
 ·intro k
  apply Classical.byContradiction
  intro n
  have:0 <= r:=by grind
  have:=h.2 this
  omega
 ·intro k
  apply Classical.byContradiction
  intro n
  have:0 <= r:=h.1 (by omega)
  grind
theorem num_gt {r:Rat}:0 < r.num ↔ 0 < r:=by
 have h:=@num_lt r
 have h0:=@Rat.num_eq_zero r
 constructor
 ·intro k
  have h1:¬r < 0:=fun x => by have:=h.2 x;omega
  have h2:r ≠ 0:=fun x => by have:=h0.2 x;omega
  grind
 ·intro k
  have h1:¬r.num < 0:=fun x => by have:=h.1 x;grind
  have h2:r.num ≠ 0:=fun x => by have:=h0.1 x;grind
  omega
theorem sgR_pos {r:Rat} (h:0 < r):Sp.sgR r = 1:=by
 have:=num_gt.2 h
 unfold Sp.sgR Sp.sgnI;rw [if_neg (by omega),if_pos this]
theorem sgR_neg {r:Rat} (h:r < 0):Sp.sgR r = -1:=by
 have:=num_lt.2 h
 unfold Sp.sgR Sp.sgnI;rw [if_pos this]
theorem sgR_zero:Sp.sgR 0 = 0:=rfl
theorem tri (r:Rat):r < 0 \/ r = 0 \/ 0 < r:=by grind
theorem sgR_iff {r:Rat}:(Sp.sgR r = 1 ↔ 0 < r) /\ (Sp.sgR r = 0 ↔ r = 0) /\ (Sp.sgR r = -1 ↔ r < 0):=by
 rcases tri r with h | h | h
 ·rw [sgR_neg h]
  exact ⟨⟨fun x => absurd x (by decide),fun x => by grind⟩,⟨fun x => absurd x (by decide),fun x => by grind⟩,⟨fun _ => h,fun _ => rfl⟩⟩
 ·subst h
  exact ⟨⟨fun x => absurd x (by decide),fun x => by grind⟩,⟨fun _ => rfl,fun _ => rfl⟩,⟨fun x => absurd x (by decide),fun x => by grind⟩⟩
 ·rw [sgR_pos h]
  exact ⟨⟨fun _ => h,fun _ => rfl⟩,⟨fun x => absurd x (by decide),fun x => by grind⟩,⟨fun x => absurd x (by decide),fun x => by grind⟩⟩
theorem mul_pp {p q:Rat} (h1:0 < p) (h2:0 < q):0 < p * q:=Rat.mul_pos h1 h2
theorem mul_nn {p q:Rat} (h1:p < 0) (h2:q < 0):0 < p * q:=by
 have:=Rat.mul_pos (show 0 < -p by grind) (show 0 < -q by grind)
 grind
theorem mul_pn {p q:Rat} (h1:0 < p) (h2:q < 0):p * q < 0:=by
 have:=Rat.mul_pos h1 (show 0 < -q by grind)
 grind
theorem mul_np {p q:Rat} (h1:p < 0) (h2:0 < q):p * q < 0:=by
 have:=Rat.mul_pos (show 0 < -p by grind) h2
 grind
theorem sgR_mul (p q:Rat):Sp.sgR (p * q) = Sp.sgR p * Sp.sgR q:=by
 rcases tri p with h | h | h
 ·rcases tri q with k | k | k
  ·rw [sgR_neg h,sgR_neg k,sgR_pos (mul_nn h k)];rfl
  ·subst k;rw [Rat.mul_zero,sgR_zero,Int.mul_zero]
  ·rw [sgR_neg h,sgR_pos k,sgR_neg (mul_np h k)];rfl
 ·subst h;rw [Rat.zero_mul,sgR_zero,Int.zero_mul]
 ·rcases tri q with k | k | k
  ·rw [sgR_pos h,sgR_neg k,sgR_neg (mul_pn h k)];rfl
  ·subst k;rw [Rat.mul_zero,sgR_zero,Int.mul_zero]
  ·rw [sgR_pos h,sgR_pos k,sgR_pos (mul_pp h k)];rfl
theorem sq_nn (a:Rat):0 <= a * a:=by
 rcases tri a with h | h | h
 ·have:=mul_nn h h;grind
 ·subst h;grind
 ·have:=mul_pp h h;grind
theorem sq_pos {a:Rat} (h:a ≠ 0):0 < a * a:=by
 rcases tri a with k | k | k
 ·exact mul_nn k k
 ·exact absurd k h
 ·exact mul_pp k k
theorem mul_ge {p q:Rat} (h1:0 <= p) (h2:0 <= q):0 <= p * q:=Rat.mul_nonneg h1 h2
def Sp.okC (c:Rat):Prop:=0 < c /\ ¬Sp.rsq c
theorem norm_ne {a b c:Rat} (hc:Sp.okC c) (h:¬(a = 0 /\ b = 0)):a * a - b * b * c ≠ 0:=by
 intro e
 by_cases hb:b = 0
 ·subst hb
  have ha:a ≠ 0:=fun x => h ⟨x,rfl⟩
  have:=sq_pos ha
  grind
 ·apply hc.2
  have hi:b * b⁻¹ = 1:=Rat.mul_inv_cancel b hb
  refine rsq_of (s:=a * b⁻¹) ?_
  have e2:a * a = b * b * c:=by grind
  have:a * b⁻¹ * (a * b⁻¹) = (a * a) * (b⁻¹ * b⁻¹):=by grind
  rw [this,e2]
  have:b * b * c * (b⁻¹ * b⁻¹) = (b * b⁻¹) * (b * b⁻¹) * c:=by grind
  rw [this,hi];grind
noncomputable def Sp.sgP0 (a b c:Rat):Int:=if Sp.sgR a = Sp.sgR b \/ Sp.sgR b = 0 then Sp.sgR a else if Sp.sgR a = 0 then Sp.sgR b else if Sp.sgR (a * a - b * b * c) > 0 then Sp.sgR a else Sp.sgR b
theorem sgO_pos {a b c:Rat} (hc:0 < c) (h:0 < a * a - b * b * c):Sp.sgO a b c = Sp.sgR a:=by
 unfold Sp.sgO
 rw [sgR_pos h]
 split
 ·rfl
 ·split
  ·rename_i h0
   have ha:=sgR_iff.2.1.1 h0
   subst ha
   have:=mul_ge (sq_nn b) (show 0 <= c by grind)
   grind
  ·rw [Int.mul_one]
theorem sgO_neg {a b c:Rat} (h:a * a - b * b * c < 0):Sp.sgO a b c = Sp.sgR b:=by
 have hb:b ≠ 0:=by
  intro e;subst e
  have:=sq_nn a
  grind
 unfold Sp.sgO
 rw [sgR_neg h]
 rcases tri a with ha | ha | ha
 ·rcases tri b with kb | kb | kb
  ·rw [sgR_neg ha,sgR_neg kb];rfl
  ·exact absurd kb hb
  ·rw [sgR_neg ha,sgR_pos kb];rfl
 ·subst ha
  rcases tri b with kb | kb | kb
  ·rw [sgR_neg kb,sgR_zero];rfl
  ·exact absurd kb hb
  ·rw [sgR_pos kb,sgR_zero];rfl
 ·rcases tri b with kb | kb | kb
  ·rw [sgR_pos ha,sgR_neg kb];rfl
  ·exact absurd kb hb
  ·rw [sgR_pos ha,sgR_pos kb];rfl
theorem sgO_00 (c:Rat):Sp.sgO 0 0 c = 0:=by
 unfold Sp.sgO
 rw [sgR_zero];rfl
theorem sgP_eq {a b c:Rat} (hc:Sp.okC c):Sp.sgP0 a b c = Sp.sgO a b c:=by
 by_cases h:a = 0 /\ b = 0
 ·obtain ⟨rfl,rfl⟩:=h
  rw [sgO_00];unfold Sp.sgP0;rw [sgR_zero];rfl
 ·have hn:=norm_ne hc h
  unfold Sp.sgP0
  rcases tri (a * a - b * b * c) with k | k | k
  ·rw [sgO_neg k]
   split
   ·rename_i e
    rcases e with e | e
    ·exact e
    ·have hb:=sgR_iff.2.1.1 e
     subst hb
     have:=sq_nn a
     grind
   ·split
    ·rfl
    ·rw [sgR_neg k,if_neg (by decide)]
  ·exact absurd k hn
  ·rw [sgO_pos hc.1 k]
   split
   ·rfl
   ·split
    ·rename_i e
     have ha:=sgR_iff.2.1.1 e
     subst ha
     have:=mul_ge (sq_nn b) (show 0 <= c by have:=hc.1;grind)
     grind
    ·rw [sgR_pos k,if_pos (by decide)]
theorem sgO_scale {a b c r:Rat} (hc:Sp.okC c):Sp.sgO (a * r) (b * r) c = Sp.sgO a b c * Sp.sgR r:=by
 by_cases hr:r = 0
 ·subst hr;rw [Rat.mul_zero,Rat.mul_zero,sgO_00,sgR_zero,Int.mul_zero]
 ·have h2:=sq_pos hr
  have e:a * r * (a * r) - b * r * (b * r) * c = (a * a - b * b * c) * (r * r):=by grind
  by_cases h:a = 0 /\ b = 0
  ·obtain ⟨rfl,rfl⟩:=h
   rw [Rat.zero_mul,sgO_00,Int.zero_mul]
  ·rcases tri (a * a - b * b * c) with k | k | k
   ·rw [sgO_neg k,sgO_neg (by rw [e];exact mul_np k h2),sgR_mul]
   ·exact absurd k (norm_ne hc h)
   ·rw [sgO_pos hc.1 k,sgO_pos hc.1 (by rw [e];exact mul_pp k h2),sgR_mul]
end Go.Av

namespace Go.Av
open Go.Proofs
set_option maxRecDepth 100000
end Go.Av

namespace Go.Av
open Go.Proofs
def Sp.okQ (a b c r:Rat):Prop:=Sp.okT 4000 a /\ Sp.okT 4000 r /\ Sp.okT 9000 b /\ Sp.okT 9000 c
theorem ev16 (f1 f2 f3 f4 f5 f6 k l:Bool) (a b c r:Rat) (h:Sp.okQ a b c r):Ev M1 (.pure 16 [rootA f1 f2 f3 f4 f5 f6 a b c,ratA k l r]) (.int .i64 (Sp.sgP (a + -r) b c)) []:=by
 obtain ⟨ha,hr,hb,hc⟩:=h
 have:=hr.1
 exact call16 (pCmpRat _ _ _ _ _ _ _ _ _ _ _ _ _ ⟨by unfold Sp.ok;omega,⟨okT_R ha (by omega),okT_R (okT_neg hr) (by omega)⟩,⟨okT_le (okT_add ha (okT_neg hr)) (by omega),hb,hc⟩,rfl⟩)
theorem hi_ex (n:Int):∃ m:Int,m = n:=⟨n,rfl⟩
noncomputable def Sp.hi (n:Int):Int:=Classical.choose (hi_ex n)
theorem hi_eq (n:Int):Sp.hi n = n:=Classical.choose_spec (hi_ex n)
theorem ev55_b (n:Int) (h:Sp.inI n):Ev M1 (.pure 55 [.int .i64 n]) (bigA false (Sp.hi n)) []:=by
 rw [hi_eq];exact ev55 n h
end Go.Av

namespace Go.Av
open Go.Proofs
set_option maxRecDepth 100000
def fi28:Fi:=⟨56,[.cell 4 49,.tmp 5]⟩
def kp28:List (Nat × List Nat):=[(0,[1,2,4]),(1,[1,2,4,19]),(2,[4,5]),(3,[1,2,4,6]),(4,[2,4,6,22,23]),(5,[2,4,6,22,23,24]),(6,[2,4,6,22,23]),(7,[2,4,6,22,23]),(8,[2,4,6,7]),(9,[4,6,9]),(10,[4,6,9,10]),(11,[4,10,12]),(12,[4,5])]
def fi33:Fi:=⟨15,[.cell 2 26]⟩
def kp33:List (Nat × List Nat):=[(0,[0,2]),(1,[0,2,3]),(2,[0,2,3,4]),(3,[0,2,3,4,8]),(4,[0,2,3,4]),(5,[0,2,3,4]),(6,[2])]
def oEnc_at (f1 f2 f3 f4 f5 f6:Bool) (a b c:Rat) (n:Int) (Q:AV -> Heap -> Prop):Prop:=Wp M1 (.run fi28 (atC (cd Tryz.f28) []) [(0,rootA f1 f2 f3 f4 f5 f6 a b c),(1,.int .i64 n)] []) Q
def oEncH_at (f1 f2 f3 f4 f5 f6:Bool) (a b c:Rat) (n i v:Int) (Q:AV -> Heap -> Prop):Prop:=Wp M1 (.run fi28 (atC (cd Tryz.f28) [1,1,1,0,1,0,0]) [(2,.ptr 0 0 0 0),(4,.ptr 1 0 0 0),(6,.ptr 2 0 0 0),(22,.int .i64 n),(23,.int .i64 i)] [⟨[rootA f1 f2 f3 f4 f5 f6 a b c],12,0,false,false⟩,⟨[.agg [.bool false,.vnil,.bool false,.vnil,.bool false,.vnil,.bool false,.vnil]],8,0,false,false⟩,⟨[bigA false v],2,0,false,false⟩]) Q
def pPow_at (n:Int) (Q:AV -> Heap -> Prop):Prop:=Wp M1 (.run fi33 (atC (cd Tryz.f33) []) [(0,.int .i64 n)] []) Q
def pPowH_at (n i:Int) (r:Rat) (Q:AV -> Heap -> Prop):Prop:=Wp M1 (.run fi33 (atC (cd Tryz.f33) [1,1,0,1,0,0]) [(0,.int .i64 n),(2,.ptr 0 0 0 0),(3,.ptr 1 0 0 0),(4,.int .i64 i)] [⟨[.agg [.bool false,.vnil,.bool false,.vnil]],4,0,false,false⟩,⟨[ratA false false r],4,0,false,false⟩]) Q
theorem call28 {args:List AV} {d:AV} (h:wc M1 fi28 Tryz.f28 args d):Ev M1 (.pure 28 args) d []:=pcl _ _ (by kernel_rfl) h
theorem call33 {args:List AV} {d:AV} (h:wc M1 fi33 Tryz.f33 args d):Ev M1 (.pure 33 args) d []:=pcl _ _ (by kernel_rfl) h
noncomputable abbrev zNyE7:=ag [vb false,AV.vnil,vb false,AV.vnil,vb false,AV.vnil,vb false,AV.vnil]
theorem oEnc (f1 f2 f3 f4 f5 f6:Bool) (a b c:Rat) (n:Int)  (dq:AV) (H :
  (((n < 0) \/ (n > 256)) -> Weak (tu [ag [vb false,AV.vnil,vb false,AV.vnil,vb false,AV.vnil,vb false,AV.vnil],vi 1]) dq) /\
  (¬((n < 0) \/ (n > 256)) -> (Sp.inI 1) /\
   oEncH_at (f1) (f2) (f3) (f4) (f5) (f6) (a) (b) (c) (n) (0) (Sp.hi 1) (PureQ dq))) :
 oEnc_at f1 f2 f3 f4 f5 f6 a b c n (PureQ dq):=by
 unfold oEnc_at
 rcases xm ((n < 0) \/ (n > 256)) with d2 | d2
 ·have H:=H.1 d2
  exact path_rq (G:=given kp28 [] []) 1000 [true] (tu [zNyE7,vi 1]) (by kernel_rfl) (bc (beq_t ((i_bor i_dec i_dec).2 d2)) (bc rfl b0)) q0 c0 H
 ·have H:=H.2 d2
  obtain ⟨k3,H⟩:=H
  exact path_wp (G:=given kp28 [(3,0,.call (bigA false (Sp.hi 1)) none)] []) 1000 [false] ⟨(atC (cd Tryz.f28) [1,1,1,0,1,0,0]),[(2,AV.ptr 0 0 0 0),(4,AV.ptr 1 0 0 0),(6,AV.ptr 2 0 0 0),(22,vi n),(23,vi 0)],[⟨[rootA f1 f2 f3 f4 f5 f6 a b c],12,0,false,false⟩,⟨[zNyE7],8,0,false,false⟩,⟨[bigA false (Sp.hi 1)],2,0,false,false⟩],_,[],_⟩ (by kernel_rfl) (bc (beq_f (fun h => d2 ((i_bor i_dec i_dec).1 h))) (bc rfl b0)) q0 (ce (@ev55_b (1) k3) c0) (H)
noncomputable abbrev zNyE8 (a:Rat) (v:Int) (b:Rat) (c:Rat):=Sp.fl (a * Rat.divInt v (Sp.hi 1)) (b * Rat.divInt v (Sp.hi 1)) (Sp.rad (b * Rat.divInt v (Sp.hi 1)) c)
noncomputable abbrev zNyE9 (a:Rat) (v:Int) (b:Rat) (c:Rat):=Sp.fl (a * Rat.divInt v (Sp.hi 1)) (b * Rat.divInt v (Sp.hi 1)) (Sp.rad (b * Rat.divInt v (Sp.hi 1)) c) + Sp.hi 1
theorem oEncH (f1 f2 f3 f4 f5 f6:Bool) (a b c:Rat) (n i v:Int)  (dq:AV) (H :
  ((i < n) -> (Sp.okB v /\ Sp.okB v) /\
   (-9223372036854775808 <= i + 1 /\ i + 1 <= 9223372036854775807) /\
   oEncH_at (f1) (f2) (f3) (f4) (f5) (f6) (a) (b) (c) (n) (i + 1) (v + v) (PureQ dq)) /\
  (¬(i < n) -> (Sp.inI 1) /\
   (Sp.okB v /\ Sp.okB (Sp.hi 1) /\ Sp.hi 1 ≠ 0) /\
   (Sp.okP a b /\ Sp.okR (Rat.divInt v (Sp.hi 1))) /\
   (Sp.okO (a * Rat.divInt v (Sp.hi 1)) (b * Rat.divInt v (Sp.hi 1)) (Sp.rad (b * Rat.divInt v (Sp.hi 1)) c)) /\
   (Sp.okB (Sp.fl (a * Rat.divInt v (Sp.hi 1)) (b * Rat.divInt v (Sp.hi 1)) (Sp.rad (b * Rat.divInt v (Sp.hi 1)) c)) /\ Sp.okB v /\ v ≠ 0) /\
   (Sp.okB (Sp.fl (a * Rat.divInt v (Sp.hi 1)) (b * Rat.divInt v (Sp.hi 1)) (Sp.rad (b * Rat.divInt v (Sp.hi 1)) c)) /\ Sp.okB (Sp.hi 1)) /\
   (Sp.okB (Sp.fl (a * Rat.divInt v (Sp.hi 1)) (b * Rat.divInt v (Sp.hi 1)) (Sp.rad (b * Rat.divInt v (Sp.hi 1)) c) + Sp.hi 1) /\ Sp.okB v /\ v ≠ 0) /\
   Weak (tu [ag [vb (Sp.isNeg (Rat.divInt (Sp.fl (a * Rat.divInt v (Sp.hi 1)) (b * Rat.divInt v (Sp.hi 1)) (Sp.rad (b * Rat.divInt v (Sp.hi 1)) c)) v).num),vf (us (Sp.limI (Rat.divInt (Sp.fl (a * Rat.divInt v (Sp.hi 1)) (b * Rat.divInt v (Sp.hi 1)) (Sp.rad (b * Rat.divInt v (Sp.hi 1)) c)) v).num)),vb (Sp.isNeg (↑(Rat.divInt (Sp.fl (a * Rat.divInt v (Sp.hi 1)) (b * Rat.divInt v (Sp.hi 1)) (Sp.rad (b * Rat.divInt v (Sp.hi 1)) c)) v).den:Int)),vf (us (Sp.limI (↑(Rat.divInt (Sp.fl (a * Rat.divInt v (Sp.hi 1)) (b * Rat.divInt v (Sp.hi 1)) (Sp.rad (b * Rat.divInt v (Sp.hi 1)) c)) v).den:Int))),vb (Sp.isNeg (Rat.divInt (Sp.fl (a * Rat.divInt v (Sp.hi 1)) (b * Rat.divInt v (Sp.hi 1)) (Sp.rad (b * Rat.divInt v (Sp.hi 1)) c) + Sp.hi 1) v).num),vf (us (Sp.limI (Rat.divInt (Sp.fl (a * Rat.divInt v (Sp.hi 1)) (b * Rat.divInt v (Sp.hi 1)) (Sp.rad (b * Rat.divInt v (Sp.hi 1)) c) + Sp.hi 1) v).num)),vb (Sp.isNeg (↑(Rat.divInt (Sp.fl (a * Rat.divInt v (Sp.hi 1)) (b * Rat.divInt v (Sp.hi 1)) (Sp.rad (b * Rat.divInt v (Sp.hi 1)) c) + Sp.hi 1) v).den:Int)),vf (us (Sp.limI (↑(Rat.divInt (Sp.fl (a * Rat.divInt v (Sp.hi 1)) (b * Rat.divInt v (Sp.hi 1)) (Sp.rad (b * Rat.divInt v (Sp.hi 1)) c) + Sp.hi 1) v).den:Int)))],vi 0]) dq)) :
 oEncH_at f1 f2 f3 f4 f5 f6 a b c n i v (PureQ dq):=by
 unfold oEncH_at
 rcases xm (i < n) with d2 | d2
 ·have H:=H.1 d2
  obtain ⟨k3,H⟩:=H
  obtain ⟨k4,H⟩:=H
  have w5:wi (i + 1) = i + 1:=wI64 k4
  exact path_wp (G:=given kp28 [(6,2,.call (bigA false (v + v)) none)] []) 1000 [true] ⟨(atC (cd Tryz.f28) [1,1,1,0,1,0,0]),[(2,AV.ptr 0 0 0 0),(4,AV.ptr 1 0 0 0),(6,AV.ptr 2 0 0 0),(22,vi n),(23,vi (wi (i + 1)))],[⟨[rootA f1 f2 f3 f4 f5 f6 a b c],12,0,false,false⟩,⟨[ag [vb false,AV.vnil,vb false,AV.vnil,vb false,AV.vnil,vb false,AV.vnil]],8,0,false,false⟩,⟨[bigA false (v + v)],2,0,false,false⟩],_,[],_⟩ (by kernel_rfl) (bc (beq_t (i_dec.2 d2)) (bc rfl (bc rfl (bc rfl b0)))) q0 (ce (@ev54 (false) (false) (v) (v) k3) c0) (by (try rw [w5]);all_goals exact H)
 ·have H:=H.2 d2
  obtain ⟨k6,H⟩:=H
  obtain ⟨k7,H⟩:=H
  obtain ⟨k8,H⟩:=H
  obtain ⟨k9,H⟩:=H
  obtain ⟨k10,H⟩:=H
  obtain ⟨k11,H⟩:=H
  obtain ⟨k12,H⟩:=H
  exact path_rq (G:=given kp28 [(8,1,.call (bigA false (Sp.hi 1)) none),(8,2,.call (tu [ratA false false (Rat.divInt v (Sp.hi 1)),vi 0]) none),(9,2,.call (rootF (a * Rat.divInt v (Sp.hi 1)) (b * Rat.divInt v (Sp.hi 1)) (Sp.rad (b * Rat.divInt v (Sp.hi 1)) c)) none),(9,3,.call (bigA false (zNyE8 a v b c)) none),(10,2,.call (tu [ratA false false (Rat.divInt (zNyE8 a v b c) v),vi 0]) none),(11,1,.call (bigA false (Sp.hi 1)) none),(11,2,.call (bigA false (zNyE9 a v b c)) none),(11,4,.call (tu [ratA false false (Rat.divInt (zNyE9 a v b c) v),vi 0]) none)] []) 1000 [false] (tu [ag [vb (Sp.isNeg (Rat.divInt (zNyE8 a v b c) v).num),vf (us (Sp.limI (Rat.divInt (zNyE8 a v b c) v).num)),vb (Sp.isNeg (↑(Rat.divInt (zNyE8 a v b c) v).den:Int)),vf (us (Sp.limI (↑(Rat.divInt (zNyE8 a v b c) v).den:Int))),vb (Sp.isNeg (Rat.divInt (zNyE9 a v b c) v).num),vf (us (Sp.limI (Rat.divInt (zNyE9 a v b c) v).num)),vb (Sp.isNeg (↑(Rat.divInt (zNyE9 a v b c) v).den:Int)),vf (us (Sp.limI (↑(Rat.divInt (zNyE9 a v b c) v).den:Int)))],vi 0]) (by kernel_rfl) (bc (beq_f (fun h => d2 (i_dec.1 h))) (bc rfl (bc rfl (bc rfl (bc rfl (bc rfl (bc rfl (bc rfl (bc rfl (bc rfl (bc rfl (bc rfl (bc rfl (bc rfl (bc rfl b0))))))))))))))) q0 (ce (@ev55_b (1) k6) (ce (@ev78 (false) (false) (v) (Sp.hi 1) k7) (ce (@ev25 (f1) (f2) (f3) (f4) (f5) (f6) (false) (false) (a) (b) (c) (Rat.divInt v (Sp.hi 1)) k8) (ce (@ev11 (false) (false) (false) (false) (false) (false) (a * Rat.divInt v (Sp.hi 1)) (b * Rat.divInt v (Sp.hi 1)) (Sp.rad (b * Rat.divInt v (Sp.hi 1)) c) k9) (ce (@ev78 (false) (false) (zNyE8 a v b c) (v) k10) (ce (@ev55_b (1) k6) (ce (@ev54 (false) (false) (zNyE8 a v b c) (Sp.hi 1) k11) (ce (@ev78 (false) (false) (zNyE9 a v b c) (v) k12) c0)))))))) H
theorem pPow (n:Int)  (dq:AV) (H :
  pPowH_at (n) (0) (Sp.qi 1) (PureQ dq)) :
 pPow_at n (PureQ dq):=by
 unfold pPow_at
 exact path_wp (G:=given kp33 [(1,0,.call (ratA false false (Sp.qi 1)) none)] []) 1000 [] ⟨(atC (cd Tryz.f33) [1,1,0,1,0,0]),[(0,vi n),(2,AV.ptr 0 0 0 0),(3,AV.ptr 1 0 0 0),(4,vi 0)],[⟨[ag [vb false,AV.vnil,vb false,AV.vnil]],4,0,false,false⟩,⟨[ratA false false (Sp.qi 1)],4,0,false,false⟩],_,[],_⟩ (by kernel_rfl) (bc rfl b0) q0 (ce (@ev82 ) c0) (H)
theorem pPowH (n i:Int) (r:Rat)  (dq:AV) (H :
  ((i < n) -> (Sp.okR r /\ Sp.okR r) /\
   (-9223372036854775808 <= i + 1 /\ i + 1 <= 9223372036854775807) /\
   pPowH_at (n) (i + 1) (r + r) (PureQ dq)) /\
  (¬(i < n) -> Weak (ratA false false r) dq)) :
 pPowH_at n i r (PureQ dq):=by
 unfold pPowH_at
 rcases xm (i < n) with d2 | d2
 ·have H:=H.1 d2
  obtain ⟨k3,H⟩:=H
  obtain ⟨k4,H⟩:=H
  have w5:wi (i + 1) = i + 1:=wI64 k4
  exact path_wp (G:=given kp33 [(5,2,.call (ratA false false (r + r)) none)] []) 1000 [true] ⟨(atC (cd Tryz.f33) [1,1,0,1,0,0]),[(0,vi n),(2,AV.ptr 0 0 0 0),(3,AV.ptr 1 0 0 0),(4,vi (wi (i + 1)))],[⟨[ag [vb false,AV.vnil,vb false,AV.vnil]],4,0,false,false⟩,⟨[ratA false false (r + r)],4,0,false,false⟩],_,[],_⟩ (by kernel_rfl) (bc (beq_t (i_dec.2 d2)) (bc rfl (bc rfl (bc rfl b0)))) q0 (ce (@ev17 (false) (false) (false) (false) (r) (r) k3) c0) (by (try rw [w5]);all_goals exact H)
 ·have H:=H.2 d2
  exact path_rq (G:=given kp33 [] []) 1000 [false] (ratA false false r) (by kernel_rfl) (bc (beq_f (fun h => d2 (i_dec.1 h))) (bc rfl (bc rfl b0))) q0 c0 H
end Go.Av

namespace Go.Av
open Go.Proofs
end Go.Av

namespace Go.Av
open Go.Proofs
theorem okC_two:Sp.okC (Sp.qi 2):=by
 refine ⟨?_,nsq_int (n:=2) (r:=1) (by decide) (by decide)⟩
 have:=(qi_num 2).1
 exact num_gt.1 (by omega)
theorem rad_zero (c:Rat):Sp.rad 0 c = 0:=by unfold Sp.rad;rw [if_pos rfl,qi_zero]
theorem vroot_zero {b c:Rat} (h:Sp.vroot b c = true) (hb:b = 0):c = 0:=by
 unfold Sp.vroot at h
 rw [if_pos hb] at h
 exact of_decide_eq_true h
theorem vroot_pos {b c:Rat} (h:Sp.vroot b c = true) (hb:b ≠ 0):Sp.okC c:=by
 unfold Sp.vroot at h
 rw [if_neg hb] at h
 simp only [decide_eq_true_eq] at h
 exact ⟨num_gt.1 h.1,h.2⟩
theorem vroot_ok {b c:Rat} (h:Sp.vroot b c = true):∃ C,Sp.okC C /\ c = Sp.rad b C:=by
 by_cases hb:b = 0
 ·refine ⟨_,okC_two,?_⟩
  rw [vroot_zero h hb,hb,rad_zero]
 ·exact ⟨c,vroot_pos h hb,(if_neg hb).symm⟩
theorem sq_rad (b c:Rat):b * b * Sp.rad b c = b * b * c:=by
 by_cases h:b = 0
 ·subst h;grind
 ·rw [show Sp.rad b c = c from if_neg h]
theorem sgP_rad {a b c:Rat} (h:Sp.okC c):Sp.sgP a b (Sp.rad b c) = Sp.sgO a b c:=by
 rw [<- sgP_eq h]
 unfold Sp.sgP Sp.sgP0;rw [sq_rad]
end Go.Av

namespace Go.Av
open Go.Proofs
theorem qi_pos {n:Int} (h:0 < n):0 < Sp.qi n:=num_gt.1 (by have:=(qi_num n).1;omega)
theorem den_pos' (r:Rat):0 < (r.den:Int):=by have:=r.den_pos;omega
theorem den_mul (a:Rat):a * Sp.qi (a.den:Int) = Sp.qi a.num:=by
 have hd:Sp.qi (a.den:Int) ≠ 0:=qi_ne (den_ne a)
 have e:a = Sp.qi a.num * (Sp.qi (a.den:Int))⁻¹:=by
  have:=Rat.num_divInt_den a
  rw [Rat.divInt_eq_div,Rat.div_def] at this
  rw [qi_eq,qi_eq];exact this.symm
 have h:=Rat.mul_inv_cancel _ hd
 generalize Sp.qi (a.den:Int) = d at *
 generalize Sp.qi a.num = n at *
 rw [e]
 grind
theorem fl_sg {A E:Rat} {u:Int} (hE:0 < E) (hA:A * E = Sp.qi u):Sp.sgR A = Sp.sgnI u:=by
 have:=sgR_mul A E
 rw [hA,sgR_int,sgR_pos hE,Int.mul_one] at this
 exact this.symm
theorem fl_norm {A m E:Rat} {u Y:Int} (hE:0 < E) (hA:A * E = Sp.qi u) (hY:m * (E * E) = Sp.qi Y):Sp.sgR (A * A - m) = Sp.sgnI (u * u - Y):=by
 have e:(A * A - m) * (E * E) = Sp.qi (u * u - Y):=by
  rw [<- qi_sub,<- qi_mul,<- hA,<- hY];grind
 exact fl_sg (mul_pp hE hE) e
theorem fl_over {A b c E:Rat} {u Y:Int} (hc:0 < c) (hE:0 < E) (hA:A * E = Sp.qi u) (hY:b * b * c * (E * E) = Sp.qi Y) (h:Y < u * u):Sp.sgO A b c = Sp.sgnI u:=by
 have hn:=fl_norm hE hA hY
 have:Sp.sgnI (u * u - Y) = 1:=by unfold Sp.sgnI;rw [if_neg (by omega),if_pos (by omega)]
 rw [this] at hn
 rw [sgO_pos hc (sgR_iff.1.1 hn),fl_sg hE hA]
theorem fl_under {A b c E:Rat} {u Y:Int} (hc:Sp.okC c) (hb:b ≠ 0) (hE:0 < E) (hA:A * E = Sp.qi u) (hY:b * b * c * (E * E) = Sp.qi Y) (h:u * u <= Y):Sp.sgO A b c = Sp.sgR b:=by
 have hn:=fl_norm hE hA hY
 have h0:A * A - b * b * c ≠ 0:=norm_ne hc fun x => hb x.2
 refine sgO_neg ?_
 rcases tri (A * A - b * b * c) with k | k | k
 ·exact k
 ·exact absurd k h0
 ·rw [sgR_pos k] at hn
  unfold Sp.sgnI at hn
  rw [if_neg (by omega:¬u * u - Y > 0)] at hn
  split at hn <;> omega
theorem sgO_same {a b c:Rat} (h:Sp.sgR b ≠ 0) (h2:Sp.sgR a = Sp.sgR b \/ Sp.sgR a = 0):Sp.sgO a b c = Sp.sgR b:=by
 unfold Sp.sgO
 rcases h2 with h2 | h2
 ·rw [if_pos (.inr h2),h2]
 ·rw [if_neg (fun x => by rcases x with x | x;exact h x;exact h (by rw [<- x,h2])),if_pos h2]
theorem sq_lo {Y:Int} (h:0 <= Y):Sp.sq Y * Sp.sq Y <= Y /\ Y < (Sp.sq Y + 1) * (Sp.sq Y + 1) /\ 0 <= Sp.sq Y:=by
 obtain ⟨h1,h2⟩:=isqrt_spec Y.natAbs
 unfold Sp.sq
 rw [if_neg (by omega)]
 have e:((Y.natAbs:Nat):Int) = Y:=by omega
 generalize Sp.isqrt Y.natAbs = w at *
 refine ⟨?_,?_,by omega⟩
 ·have:((w * w:Nat):Int) <= ((Y.natAbs:Nat):Int):=by omega
  rw [e,Int.natCast_mul] at this;exact this
 ·have:((Y.natAbs:Nat):Int) < (((w + 1) * (w + 1):Nat):Int):=by omega
  rw [e,Int.natCast_mul] at this;exact this
theorem le_sq {u w:Int} (h1:-w <= u) (h2:u <= w):u * u <= w * w:=by
 have h:0 <= (w - u) * (w + u):=Int.mul_nonneg (by omega) (by omega)
 grind
theorem lt_sq {u w:Int} (hw:0 <= w) (h:w <= u \/ u <= -w):w * w <= u * u:=by
 rcases h with h | h
 ·have h:0 <= (u - w) * (u + w):=Int.mul_nonneg (by omega) (by omega)
  grind
 ·have h:0 <= (-u - w) * (-u + w):=Int.mul_nonneg (by omega) (by omega)
  grind
theorem fl_spec {a b c:Rat} (hc:Sp.okC c):0 <= Sp.sgO (a + -Sp.qi (Sp.fl a b c)) b c /\ Sp.sgO (a + -(Sp.qi (Sp.fl a b c) + Sp.qi 1)) b c < 0:=by
 by_cases hb:b = 0
 ·subst hb
  have e0:∀ A:Rat,Sp.sgO A 0 c = Sp.sgR A:=by
   intro A;unfold Sp.sgO;rw [sgR_zero,if_pos (.inl rfl)]
  have hf:Sp.fl a 0 c = a.num / (a.den:Int):=by
   unfold Sp.fl;rw [if_pos rfl,flo_pos (den_ne a)]
  have hd:=den_pos' a
  have m1:=Int.mul_ediv_add_emod a.num (a.den:Int)
  have m2:=Int.emod_nonneg a.num (den_ne a)
  have m3:=Int.emod_lt_of_pos a.num hd
  rw [hf,e0,e0]
  generalize hn:a.num / (a.den:Int) = n at *
  have hE:=qi_pos hd
  have k1:(a + -Sp.qi n) * Sp.qi (a.den:Int) = Sp.qi (a.num - n * (a.den:Int)):=by
   rw [<- qi_sub,<- qi_mul,<- den_mul];grind
  have k2:(a + -(Sp.qi n + Sp.qi 1)) * Sp.qi (a.den:Int) = Sp.qi (a.num - (n + 1) * (a.den:Int)):=by
   rw [<- qi_sub,<- qi_mul,<- den_mul,<- qi_add];grind
  rw [fl_sg hE k1,fl_sg hE k2]
  have j1:0 <= a.num - n * (a.den:Int):=by grind
  have j2:a.num - (n + 1) * (a.den:Int) < 0:=by grind
  unfold Sp.sgnI
  rw [if_neg (by omega),if_pos j2]
  constructor
  ·split <;> omega
  ·omega
 ·have hm:0 < b * b * c:=mul_pp (sq_pos hb) hc.1
  have hd:=den_pos' a
  have hq:=den_pos' (b * b * c)
  have hEp:0 < (a.den:Int) * ((b * b * c).den:Int):=Int.mul_pos hd hq
  have hE:=qi_pos hEp
  have hY:b * b * c * (Sp.qi ((a.den:Int) * ((b * b * c).den:Int)) * Sp.qi ((a.den:Int) * ((b * b * c).den:Int))) = Sp.qi ((a.den:Int) * (a.den:Int) * ((b * b * c).num * ((b * b * c).den:Int))):=by
   rw [<- qi_mul,<- qi_mul,<- qi_mul,<- qi_mul,<- den_mul (b * b * c)];grind
  have hY0:0 <= (a.den:Int) * (a.den:Int) * ((b * b * c).num * ((b * b * c).den:Int)):=by
   have:=num_gt.2 hm
   exact Int.mul_nonneg (Int.mul_nonneg (by omega) (by omega)) (Int.mul_nonneg (by omega) (by omega))
  obtain ⟨w1,w2,w3⟩:=sq_lo hY0
  have hf:Sp.fl a b c = (a.num * ((b * b * c).den:Int) + (if b.num < 0 then -(Sp.flW a b c + 1) else Sp.flW a b c)) / ((a.den:Int) * ((b * b * c).den:Int)):=by
   unfold Sp.fl
   rw [if_neg hb]
   unfold Sp.flo
   rw [if_pos hEp]
  have hW:Sp.flW a b c = Sp.sq ((a.den:Int) * (a.den:Int) * ((b * b * c).num * ((b * b * c).den:Int))):=rfl
  rw [<- hW] at w1 w2 w3
  have kA:∀ n:Int,(a + -Sp.qi n) * Sp.qi ((a.den:Int) * ((b * b * c).den:Int)) = Sp.qi (a.num * ((b * b * c).den:Int) - n * ((a.den:Int) * ((b * b * c).den:Int))):=by
   intro n
   rw [<- qi_sub,<- qi_mul a.num,<- den_mul a,<- qi_mul n,<- qi_mul (a.den:Int)];grind
  generalize (a.den:Int) * (a.den:Int) * ((b * b * c).num * ((b * b * c).den:Int)) = Y at *
  generalize Sp.flW a b c = W at *
  generalize (a.den:Int) * ((b * b * c).den:Int) = E at *
  generalize a.num * ((b * b * c).den:Int) = X at *
  rw [hf]
  have m1:=Int.mul_ediv_add_emod (X + (if b.num < 0 then -(W + 1) else W)) E
  have m2:=Int.emod_nonneg (X + (if b.num < 0 then -(W + 1) else W)) (show E ≠ 0 by omega)
  have m3:=Int.emod_lt_of_pos (X + (if b.num < 0 then -(W + 1) else W)) hEp
  generalize (X + (if b.num < 0 then -(W + 1) else W)) % E = R at *
  generalize (X + (if b.num < 0 then -(W + 1) else W)) / E = n at *
  have k1:=kA n
  have k2:=kA (n + 1)
  rw [<- qi_add] at k2
  have hs:Sp.sgR b ≠ 0:=fun x => hb (sgR_iff.2.1.1 x)
  by_cases hneg:b.num < 0
  ·rw [if_pos hneg] at m1
   have sb:=sgR_neg (num_lt.1 hneg)
   have u1:W + 1 <= X - n * E:=by grind
   have u2:X - (n + 1) * E <= W:=by grind
   constructor
   ·have:=lt_sq (show 0 <= W + 1 by omega) (.inl u1)
    rw [fl_over hc.1 hE k1 hY (by omega)]
    unfold Sp.sgnI;rw [if_neg (by omega)];split <;> omega
   ·by_cases hu:X - (n + 1) * E <= 0
    ·have:=fl_sg hE k2
     have hlt:Sp.sgO (a + -(Sp.qi n + Sp.qi 1)) b c = Sp.sgR b:=by
      refine sgO_same hs ?_
      rw [this,sb]
      unfold Sp.sgnI
      by_cases h0:X - (n + 1) * E < 0
      ·rw [if_pos h0];exact .inl rfl
      ·rw [if_neg h0,if_neg (by omega)];exact .inr rfl
     rw [hlt,sb];decide
    ·have:=le_sq (show -W <= X - (n + 1) * E by omega) u2
     rw [fl_under hc hb hE k2 hY (by omega),sb];decide
  ·rw [if_neg hneg] at m1
   have hbp:0 < b:=by
    have:¬b < 0:=fun x => hneg (num_lt.2 x)
    grind
   have sb:=sgR_pos hbp
   have u1:-W <= X - n * E:=by grind
   have u2:X - (n + 1) * E <= -(W + 1):=by grind
   constructor
   ·by_cases hu:0 <= X - n * E
    ·have:=fl_sg hE k1
     have hlt:Sp.sgO (a + -Sp.qi n) b c = Sp.sgR b:=by
      refine sgO_same hs ?_
      rw [this,sb]
      unfold Sp.sgnI
      by_cases h0:0 < X - n * E
      ·rw [if_neg (by omega),if_pos h0];exact .inl rfl
      ·rw [if_neg (by omega),if_neg (by omega)];exact .inr rfl
     rw [hlt,sb];decide
    ·have:=le_sq u1 (show X - n * E <= W by omega)
     rw [fl_under hc hb hE k1 hY (by omega),sb];decide
   ·have:=lt_sq (show 0 <= W + 1 by omega) (.inr u2)
    rw [fl_over hc.1 hE k2 hY (by omega)]
    unfold Sp.sgnI;rw [if_pos (by omega)];decide
end Go.Av

namespace Go.Av
open Go.Proofs
theorem fl_rad (a b c:Rat):Sp.fl a b (Sp.rad b c) = Sp.fl a b c:=by
 unfold Sp.fl Sp.flW;rw [sq_rad]
theorem fl_cnt {k:Nat} {a b c:Rat} (ha:Sp.okT k a) (hb:Sp.okT k b) (hc:Sp.okT k c):Sp.cnt (Sp.fl a b c).natAbs <= 8 * k + 2:=by
 have bbc:=okT_mul (okT_mul hb hb) hc
 obtain ⟨a1,a2⟩:=ha
 obtain ⟨s1,s2⟩:=bbc
 have a2':=cnt_den a2
 have s2':=cnt_den s2
 have m3:=cnt_mulI (cnt_mulI a2' a2') (cnt_mulI s1 s2')
 have w:=cnt_sqI m3
 have m4:=cnt_mulI a1 s2'
 have hflo:∀ X E:Int,0 < E -> (Sp.flo X E).natAbs <= X.natAbs:=by
  intro X E hE
  unfold Sp.flo
  rw [if_pos hE]
  exact Int.natAbs_ediv_le_natAbs X E
 unfold Sp.fl
 split
 ·exact Nat.le_trans (cnt_mono (hflo _ _ (by have:=a.den_pos;omega))) (by omega)
 ·have hE:0 < (a.den:Int) * ((b * b * c).den:Int):=Int.mul_pos (by have:=a.den_pos;omega) (by have:=(b * b * c).den_pos;omega)
  refine Nat.le_trans (cnt_mono (hflo _ _ hE)) ?_
  have hw:Sp.cnt (if b.num < 0 then -(Sp.flW a b c + 1) else Sp.flW a b c).natAbs <= k + k + (k + k + k + (k + k + k)) + 1:=by
   split
   ·rw [Int.natAbs_neg]
    by_cases h0:k = 0
    ·subst h0
     have e:Sp.flW a b c = 0:=by
      have:Sp.cnt (Sp.flW a b c).natAbs = 0:=by unfold Sp.flW;omega
      have:=cnt_eq_zero.1 this
      omega
     rw [e];exact Nat.le_trans cnt_one (by omega)
    ·exact cnt_addI w (Nat.le_trans cnt_one (by omega))
   ·exact Nat.le_trans w (by omega)
  have:=cnt_addI (Nat.le_trans m4 (show k + (k + k + k) <= k + k + (k + k + k + (k + k + k)) + 1 by omega)) hw
  omega
theorem okT_qi {k:Nat} {n:Int} (h:Sp.cnt n.natAbs <= k) (hk:1 <= k):Sp.okT k (Sp.qi n):=by
 obtain ⟨e1,e2⟩:=qi_num n
 have e3:(Sp.qi n).den = 1:=by omega
 have h1:=cnt_small (n:=1) (by decide)
 unfold Sp.okT
 rw [e1,e3]
 omega
end Go.Av

namespace Go.Av
open Go.Proofs
noncomputable def Sp.pw (n:Int):Int:=Sp.hi ((2 ^ n.toNat:Nat):Int)
theorem pw_eq (n:Int):Sp.pw n = ((2 ^ n.toNat:Nat):Int):=hi_eq _
theorem cnt_pw {i:Nat} (h:i <= 257):Sp.cnt (((2 ^ i:Nat):Int)).natAbs <= 9:=by
 rw [Int.natAbs_natCast]
 refine fits_cnt.1 ?_
 unfold Sp.fits
 rw [show i = min i 128 + (i - min i 128) by omega,Nat.pow_add]
 have h1:2 ^ (min i 128) <= 2 ^ 128:=Nat.pow_le_pow_right (by decide) (by omega)
 have h2:2 ^ (i - min i 128) <= 2 ^ 129:=Nat.pow_le_pow_right (by decide) (by omega)
 exact Nat.lt_of_le_of_lt (Nat.mul_le_mul h1 h2) (by decide)
theorem pw_pos (i:Nat):0 < ((2 ^ i:Nat):Int):=by
 have:=Nat.pow_pos (n:=i) (show 0 < 2 by omega)
 omega
theorem pw_two (i:Nat):((2 ^ i:Nat):Int) + ((2 ^ i:Nat):Int) = ((2 ^ (i + 1):Nat):Int):=by
 rw [Nat.pow_succ];omega
noncomputable def Sp.enF (a b c:Rat) (n:Int):Int:=Sp.fl (a * Sp.qi (Sp.pw n)) (b * Sp.qi (Sp.pw n)) (Sp.rad (b * Sp.qi (Sp.pw n)) c)
noncomputable def Sp.enL (a b c:Rat) (n:Int):Rat:=Sp.hid (Rat.divInt (Sp.enF a b c n) (Sp.pw n))
noncomputable def Sp.enH (a b c:Rat) (n:Int):Rat:=Sp.hid (Rat.divInt (Sp.enF a b c n + 1) (Sp.pw n))
abbrev ivA (r s:Rat):AV:=.agg [.bool (Sp.isNeg r.num),.vec false 1 ((Sp.limI r.num).map (.int .u32)),.bool (Sp.isNeg (r.den:Int)),.vec false 1 ((Sp.limI (r.den:Int)).map (.int .u32)),.bool (Sp.isNeg s.num),.vec false 1 ((Sp.limI s.num).map (.int .u32)),.bool (Sp.isNeg (s.den:Int)),.vec false 1 ((Sp.limI (s.den:Int)).map (.int .u32))]
abbrev noI:AV:=.agg [.bool false,.vec false 1 [],.bool false,.vec false 1 [],.bool false,.vec false 1 [],.bool false,.vec false 1 []]
theorem weak_ni:Weak (.agg [.bool false,.vnil,.bool false,.vnil,.bool false,.vnil,.bool false,.vnil]) noI:=by
 refine .agg _ _ rfl fun i x y hx hy => ?_
 match i with
 | 0 => simp at hx hy;subst hx;subst hy;exact .refl _
 | 1 => simp at hx hy;subst hx;subst hy;exact weak_vnil1
 | 2 => simp at hx hy;subst hx;subst hy;exact .refl _
 | 3 => simp at hx hy;subst hx;subst hy;exact weak_vnil1
 | 4 => simp at hx hy;subst hx;subst hy;exact .refl _
 | 5 => simp at hx hy;subst hx;subst hy;exact weak_vnil1
 | 6 => simp at hx hy;subst hx;subst hy;exact .refl _
 | 7 => simp at hx hy;subst hx;subst hy;exact weak_vnil1
 | i + 8 => simp at hx
def Sp.okW (a b c:Rat):Prop:=Sp.okT 4 a /\ Sp.okT 4 b /\ Sp.okT 4 c
theorem enc_sz {a b c:Rat} {s:Rat} (h:Sp.okW a b c) (hs:Sp.okT 9 s):Sp.okT 13 (a * s) /\ Sp.okT 13 (b * s) /\ Sp.okT 13 (Sp.rad (b * s) c):=
 ⟨okT_mul h.1 hs,okT_mul h.2.1 hs,okT_le (okT_rad h.2.2) (by omega)⟩
theorem encH (f1 f2 f3 f4 f5 f6:Bool) {a b c:Rat} (h:Sp.okW a b c) {n:Nat} (hn:n <= 256):∀ (m i:Nat),i + m = n ->
  oEncH_at f1 f2 f3 f4 f5 f6 a b c n i ((2 ^ i:Nat):Int) (PureQ (.tup [ivA (Sp.enL a b c n) (Sp.enH a b c n),.int .i64 0]))
 | 0,i,hi => by
  have e:i = n:=by omega
  subst e
  have h1:Sp.hi 1 = 1:=hi_eq 1
  have hp:=pw_pos i
  have hc:=cnt_pw (i:=i) (by omega)
  have hq:=okT_qi hc (by omega)
  obtain ⟨t1,t2,t3⟩:=enc_sz h hq
  have hf:=fl_cnt t1 t2 t3
  have hV:Sp.pw (i:Int) = ((2 ^ i:Nat):Int):=by rw [pw_eq,Int.toNat_natCast]
  have c1:=cnt_one
  have hf1:=cnt_addI hf (Nat.le_trans c1 (by omega))
  have eL:Sp.enL a b c i = Rat.divInt (Sp.fl (a * Sp.qi ((2 ^ i:Nat):Int)) (b * Sp.qi ((2 ^ i:Nat):Int)) (Sp.rad (b * Sp.qi ((2 ^ i:Nat):Int)) c)) ((2 ^ i:Nat):Int):=by
   unfold Sp.enL Sp.enF;rw [hid_eq,hV]
  have eH:Sp.enH a b c i = Rat.divInt (Sp.fl (a * Sp.qi ((2 ^ i:Nat):Int)) (b * Sp.qi ((2 ^ i:Nat):Int)) (Sp.rad (b * Sp.qi ((2 ^ i:Nat):Int)) c) + 1) ((2 ^ i:Nat):Int):=by
   unfold Sp.enH Sp.enF;rw [hid_eq,hV]
  refine oEncH _ _ _ _ _ _ _ _ _ _ _ _ _ ⟨fun k => by omega,fun _ => ?_⟩
  rw [h1,divInt_one,eL,eH]
  exact ⟨by unfold Sp.inI;omega,⟨by unfold Sp.okB;omega,by unfold Sp.okB;omega,by decide⟩,⟨⟨okT_le h.1 (by omega),okT_le h.2.1 (by omega)⟩,okT_R hq (by omega)⟩,⟨okT_le t1 (by omega),okT_le t2 (by omega),okT_le t3 (by omega)⟩,⟨by unfold Sp.okB;omega,by unfold Sp.okB;omega,by omega⟩,⟨by unfold Sp.okB;omega,by unfold Sp.okB;omega⟩,⟨by unfold Sp.okB;omega,by unfold Sp.okB;omega,by omega⟩,.refl _⟩
 | m + 1,i,hi => by
  have hc:=cnt_pw (i:=i) (by omega)
  refine oEncH _ _ _ _ _ _ _ _ _ _ _ _ _ ⟨fun _ => ⟨⟨by unfold Sp.okB;omega,by unfold Sp.okB;omega⟩,by omega,?_⟩,fun k => by omega⟩
  rw [pw_two]
  have:=encH f1 f2 f3 f4 f5 f6 h hn m (i + 1) (by omega)
  rwa [show ((i + 1:Nat):Int) = (i:Int) + 1 by omega] at this
theorem ev28_y (f1 f2 f3 f4 f5 f6:Bool) (a b c:Rat) (n:Int) (h:Sp.okW a b c) (k:(n < 0) \/ (n > 256)):Ev M1 (.pure 28 [rootA f1 f2 f3 f4 f5 f6 a b c,.int .i64 n]) (.tup [noI,.int .i64 1]) []:=
 call28 (oEnc _ _ _ _ _ _ _ _ _ _ _ ⟨fun _ => weak_two weak_ni (.refl _),fun x => absurd k x⟩)
theorem ev28_n (f1 f2 f3 f4 f5 f6:Bool) (a b c:Rat) (n:Int) (h:Sp.okW a b c) (k:¬((n < 0) \/ (n > 256))):Ev M1 (.pure 28 [rootA f1 f2 f3 f4 f5 f6 a b c,.int .i64 n]) (.tup [ivA (Sp.enL a b c n) (Sp.enH a b c n),.int .i64 0]) []:=by
 have hn:((n.toNat:Nat):Int) = n:=by omega
 refine call28 (oEnc _ _ _ _ _ _ _ _ _ _ _ ⟨fun x => absurd x k,fun _ => ⟨by unfold Sp.inI;omega,?_⟩⟩)
 have:=encH f1 f2 f3 f4 f5 f6 h (n:=n.toNat) (by omega) n.toNat 0 (by omega)
 rw [hn] at this
 rw [hi_eq]
 exact this
def Sp.okX (n:Int):Prop:=0 <= n /\ n <= 256
theorem powH {n:Nat} (hn:n <= 256):∀ (m i:Nat),i + m = n -> pPowH_at n i (Sp.qi ((2 ^ i:Nat):Int)) (PureQ (ratA false false (Sp.qi (Sp.pw n))))
 | 0,i,hi => by
  have e:i = n:=by omega
  subst e
  have hV:Sp.pw (i:Int) = ((2 ^ i:Nat):Int):=by rw [pw_eq,Int.toNat_natCast]
  refine pPowH _ _ _ _ ⟨fun k => by omega,fun _ => ?_⟩
  rw [hV];exact .refl _
 | m + 1,i,hi => by
  have hq:=okT_qi (cnt_pw (i:=i) (by omega)) (by omega)
  refine pPowH _ _ _ _ ⟨fun _ => ⟨⟨okT_R hq (by omega),okT_R hq (by omega)⟩,by omega,?_⟩,fun k => by omega⟩
  rw [qi_add,pw_two]
  have:=powH hn m (i + 1) (by omega)
  rwa [show ((i + 1:Nat):Int) = (i:Int) + 1 by omega] at this
theorem ev33 (n:Int) (h:Sp.okX n):Ev M1 (.pure 33 [.int .i64 n]) (ratA false false (Sp.qi (Sp.pw n))) []:=by
 obtain ⟨h1,h2⟩:=h
 have hn:((n.toNat:Nat):Int) = n:=by omega
 have:=powH (n:=n.toNat) (by omega) n.toNat 0 (by omega)
 rw [hn] at this
 exact call33 (pPow _ _ this)
end Go.Av

namespace Go.Av
open Go.Proofs
theorem fl_eq {a b c d:Rat} (h:b * b * c = b * b * d):Sp.fl a b c = Sp.fl a b d:=by
 unfold Sp.fl Sp.flW;rw [h]
theorem divInt_mul {x v:Int} (hv:v ≠ 0):Rat.divInt x v * Sp.qi v = Sp.qi x:=by
 rw [Rat.divInt_eq_div,Rat.div_def,<- qi_eq,<- qi_eq]
 have:=Rat.mul_inv_cancel _ (qi_ne hv)
 generalize Sp.qi v = q at *
 grind
theorem pw_pos' (n:Int):0 < Sp.pw n:=by rw [pw_eq];exact pw_pos _
theorem enL_mul (a b c:Rat) (n:Int):Sp.enL a b c n * Sp.qi (Sp.pw n) = Sp.qi (Sp.enF a b c n):=by
 unfold Sp.enL;rw [hid_eq];exact divInt_mul (by have:=pw_pos' n;omega)
theorem enH_mul (a b c:Rat) (n:Int):Sp.enH a b c n * Sp.qi (Sp.pw n) = Sp.qi (Sp.enF a b c n) + Sp.qi 1:=by
 unfold Sp.enH;rw [hid_eq,qi_add];exact divInt_mul (by have:=pw_pos' n;omega)
theorem enc_spec {a b C:Rat} (hC:Sp.okC C) (n:Int):0 <= Sp.sgO (a + -Sp.enL a b (Sp.rad b C) n) b C /\ Sp.sgO (a + -Sp.enH a b (Sp.rad b C) n) b C < 0:=by
 have hs:=qi_pos (pw_pos' n)
 have h1:=enL_mul a b (Sp.rad b C) n
 have h2:=enH_mul a b (Sp.rad b C) n
 have hF:Sp.enF a b (Sp.rad b C) n = Sp.fl (a * Sp.qi (Sp.pw n)) (b * Sp.qi (Sp.pw n)) C:=by
  unfold Sp.enF
  rw [fl_rad]
  have:=sq_rad b C
  exact fl_eq (by grind)
 obtain ⟨k1,k2⟩:=fl_spec (a:=a * Sp.qi (Sp.pw n)) (b:=b * Sp.qi (Sp.pw n)) hC
 rw [<- hF] at k1 k2
 generalize Sp.enF a b (Sp.rad b C) n = F at *
 generalize Sp.enL a b (Sp.rad b C) n = lo at *
 generalize Sp.enH a b (Sp.rad b C) n = hi at *
 generalize Sp.qi (Sp.pw n) = s at *
 have e1:a * s + -Sp.qi F = (a + -lo) * s:=by rw [<- h1];grind
 have e2:a * s + -(Sp.qi F + Sp.qi 1) = (a + -hi) * s:=by rw [<- h2];grind
 rw [e1,sgO_scale hC,sgR_pos hs,Int.mul_one] at k1
 rw [e2,sgO_scale hC,sgR_pos hs,Int.mul_one] at k2
 exact ⟨k1,k2⟩
theorem enc_width (a b c:Rat) (n:Int):(Sp.enH a b c n - Sp.enL a b c n) * Sp.qi (Sp.pw n) = Sp.qi 1:=by
 have h1:=enL_mul a b c n
 have h2:=enH_mul a b c n
 grind
theorem enc_okT {a b c:Rat} (h:Sp.okW a b c) {n:Int} (hn:n <= 256):Sp.okT 110 (Sp.enL a b c n) /\ Sp.okT 110 (Sp.enH a b c n) /\ Sp.okT 9 (Sp.qi (Sp.pw n)):=by
 have hp:Sp.cnt (Sp.pw n).natAbs <= 9:=by rw [pw_eq];exact cnt_pw (by omega)
 have hq:=okT_qi hp (by omega)
 obtain ⟨t1,t2,t3⟩:=enc_sz h hq
 have hf:=fl_cnt t1 t2 t3
 have hf1:=cnt_addI hf (Nat.le_trans cnt_one (by omega))
 have hne:Sp.pw n ≠ 0:=by have:=pw_pos' n;omega
 obtain ⟨a1,a2⟩:=divInt_le (p:=Sp.enF a b c n) hne
 obtain ⟨b1,b2⟩:=divInt_le (p:=Sp.enF a b c n + 1) hne
 unfold Sp.enL Sp.enH
 rw [hid_eq,hid_eq]
 refine ⟨⟨?_,?_⟩,⟨?_,?_⟩,hq⟩
 ·exact Nat.le_trans (cnt_mono a1) (Nat.le_trans hf (by omega))
 ·exact Nat.le_trans (cnt_mono a2) (by omega)
 ·exact Nat.le_trans (cnt_mono b1) (Nat.le_trans hf1 (by omega))
 ·exact Nat.le_trans (cnt_mono b2) (by omega)
end Go.Av

namespace Go.Av
open Go.Proofs
set_option maxRecDepth 100000
def fi5:Fi:=⟨85,[.tmp 4]⟩
def kp5:List (Nat × List Nat):=[(0,[1,2]),(1,[1,2,15]),(2,[4]),(3,[1,2,5,6]),(4,[1,2,5,6,28]),(5,[4]),(6,[1,2,5,58]),(7,[4]),(8,[1,2,5,7]),(9,[4])]
def lwEnc_at (f1 f2 f3 f4 f5 f6:Bool) (a b c:Rat) (n:Int) (Q:AV -> Heap -> Prop):Prop:=Wp M1 (.run fi5 (atC (cd Tryz.f5) []) [(0,rootA f1 f2 f3 f4 f5 f6 a b c),(1,.int .i64 n)] []) Q
def lwEncR_at (s1 t1 f1 g1 s2 t2 f2 g2 s3 t3 f3 g3:Bool) (x1 y1 x2 y2 x3 y3:List Int) (n:Int) (Q:AV -> Heap -> Prop):Prop:=Wp M1 (.run fi5 (atC (cd Tryz.f5) []) [(0,.agg [.bool s1,.vec f1 1 (x1.map (.int .u32)),.bool t1,.vec g1 1 (y1.map (.int .u32)),.bool s2,.vec f2 1 (x2.map (.int .u32)),.bool t2,.vec g2 1 (y2.map (.int .u32)),.bool s3,.vec f3 1 (x3.map (.int .u32)),.bool t3,.vec g3 1 (y3.map (.int .u32))]),(1,.int .i64 n)] []) Q
theorem call5 {args:List AV} {d:AV} (h:wc M1 fi5 Tryz.f5 args d):Ev M1 (.pure 5 args) d []:=pcl _ _ (by kernel_rfl) h
noncomputable abbrev zNyF1 (a:Rat) (b:Rat) (c:Rat) (n:Int):=ag [vb (Sp.isNeg (Sp.enL a b c n).num),vf (us (Sp.limI (Sp.enL a b c n).num)),vb (Sp.isNeg (↑(Sp.enL a b c n).den:Int)),vf (us (Sp.limI (↑(Sp.enL a b c n).den:Int))),vb (Sp.isNeg (Sp.enH a b c n).num),vf (us (Sp.limI (Sp.enH a b c n).num)),vb (Sp.isNeg (↑(Sp.enH a b c n).den:Int)),vf (us (Sp.limI (↑(Sp.enH a b c n).den:Int)))]
noncomputable abbrev zNyF2 (a:Rat) (b:Rat) (c:Rat) (n:Int):=bif !Sp.valB (Sp.isNeg (Sp.enL a b c n).num) (Sp.limI (Sp.enL a b c n).num) (Sp.isNeg (↑(Sp.enL a b c n).den:Int)) (Sp.limI (↑(Sp.enL a b c n).den:Int)) then true else !Sp.valB (Sp.isNeg (Sp.enH a b c n).num) (Sp.limI (Sp.enH a b c n).num) (Sp.isNeg (↑(Sp.enH a b c n).den:Int)) (Sp.limI (↑(Sp.enH a b c n).den:Int))
noncomputable abbrev zNyF3 (a:Rat) (b:Rat) (c:Rat) (n:Int):=bif decide (Sp.sgP (a + -Sp.enL a b c n) b c >= 0) then decide (Sp.sgP (a + -Sp.enH a b c n) b c <= 0) else false
noncomputable abbrev zNyF4 (a:Rat) (b:Rat) (c:Rat) (n:Int):=Sp.sgnI (((Sp.enH a b c n - Sp.enL a b c n) * Sp.qi (Sp.pw n)).num * (↑(Sp.qi 1).den:Int) - (Sp.qi 1).num * (↑((Sp.enH a b c n - Sp.enL a b c n) * Sp.qi (Sp.pw n)).den:Int))
noncomputable abbrev zNyF5 (a:Rat) (b:Rat) (c:Rat) (n:Int):=Sp.valB (Sp.isNeg (Sp.enL a b c n).num) (Sp.limI (Sp.enL a b c n).num) (Sp.isNeg (↑(Sp.enL a b c n).den:Int)) (Sp.limI (↑(Sp.enL a b c n).den:Int))
noncomputable abbrev zNyF6 (a:Rat) (b:Rat) (c:Rat) (n:Int):=Sp.valB (Sp.isNeg (Sp.enH a b c n).num) (Sp.limI (Sp.enH a b c n).num) (Sp.isNeg (↑(Sp.enH a b c n).den:Int)) (Sp.limI (↑(Sp.enH a b c n).den:Int))
noncomputable abbrev zNyF7:=ag [vb false,vf [],vb false,vf []]
noncomputable abbrev zNyF8:=ag [vb false,vf [],vb false,vf [],vb false,vf [],vb false,vf []]
theorem lwEnc (f1 f2 f3 f4 f5 f6:Bool) (a b c:Rat) (n:Int)  (dq:AV) (H :
  ((¬(Sp.smR a b c = true)) -> vb true = dq) /\
  (¬(¬(Sp.smR a b c = true)) -> ((n < 0 \/ n > 256) -> (Sp.okW a b c) /\
    (((n < 0) \/ (n > 256)) -> vb true = dq) /\
    (¬((n < 0) \/ (n > 256)) -> ∃ (b1:Bool),
     ((¬(true = true)) -> (Ev M1 (Conf.pure 29 [ag [vb false,vf [],vb false,vf []]]) (vb b1) [])) /\
     ∃ (b2:Bool),
     ((false = true) -> (Ev M1 (Conf.pure 29 [ag [vb false,vf [],vb false,vf []]]) (vb b2) [])) /\
     vb false = dq)) /\
   (¬(n < 0 \/ n > 256) -> (Sp.okW a b c) /\
    (((n < 0) \/ (n > 256)) -> vb false = dq) /\
    (¬((n < 0) \/ (n > 256)) -> ((¬(false = true)) -> (Sp.okA (Sp.limI (Sp.enL a b c n).num) (Sp.limI (↑(Sp.enL a b c n).den:Int)))) /\
     ((¬(¬(Sp.valB (Sp.isNeg (Sp.enL a b c n).num) (Sp.limI (Sp.enL a b c n).num) (Sp.isNeg (↑(Sp.enL a b c n).den:Int)) (Sp.limI (↑(Sp.enL a b c n).den:Int)) = true))) -> (Sp.okA (Sp.limI (Sp.enH a b c n).num) (Sp.limI (↑(Sp.enH a b c n).den:Int)))) /\
     (((¬(Sp.valB (Sp.isNeg (Sp.enL a b c n).num) (Sp.limI (Sp.enL a b c n).num) (Sp.isNeg (↑(Sp.enL a b c n).den:Int)) (Sp.limI (↑(Sp.enL a b c n).den:Int)) = true)) \/ (¬(Sp.valB (Sp.isNeg (Sp.enH a b c n).num) (Sp.limI (Sp.enH a b c n).num) (Sp.isNeg (↑(Sp.enH a b c n).den:Int)) (Sp.limI (↑(Sp.enH a b c n).den:Int)) = true))) -> vb false = dq) /\
     (¬((¬(Sp.valB (Sp.isNeg (Sp.enL a b c n).num) (Sp.limI (Sp.enL a b c n).num) (Sp.isNeg (↑(Sp.enL a b c n).den:Int)) (Sp.limI (↑(Sp.enL a b c n).den:Int)) = true)) \/ (¬(Sp.valB (Sp.isNeg (Sp.enH a b c n).num) (Sp.limI (Sp.enH a b c n).num) (Sp.isNeg (↑(Sp.enH a b c n).den:Int)) (Sp.limI (↑(Sp.enH a b c n).den:Int)) = true))) -> (Sp.okR (Sp.enH a b c n) /\ Sp.okR (Sp.enL a b c n)) /\
      (Sp.okQ a b c (Sp.enL a b c n)) /\
      ((Sp.sgP (a + -Sp.enL a b c n) b c >= 0) -> (Sp.okQ a b c (Sp.enH a b c n))) /\
      (((Sp.sgP (a + -Sp.enL a b c n) b c >= 0) /\ (Sp.sgP (a + -Sp.enH a b c n) b c <= 0)) -> (Sp.okX n)) /\
      (((Sp.sgP (a + -Sp.enL a b c n) b c >= 0) /\ (Sp.sgP (a + -Sp.enH a b c n) b c <= 0)) -> (Sp.okR (Sp.enH a b c n - Sp.enL a b c n) /\ Sp.okR (Sp.qi (Sp.pw n)))) /\
      (((Sp.sgP (a + -Sp.enL a b c n) b c >= 0) /\ (Sp.sgP (a + -Sp.enH a b c n) b c <= 0)) -> (Sp.inI 1)) /\
      (((Sp.sgP (a + -Sp.enL a b c n) b c >= 0) /\ (Sp.sgP (a + -Sp.enH a b c n) b c <= 0)) -> (Sp.okR ((Sp.enH a b c n - Sp.enL a b c n) * Sp.qi (Sp.pw n)) /\ Sp.okR (Sp.qi 1))) /\
      vb (bif bif decide (Sp.sgP (a + -Sp.enL a b c n) b c >= 0) then decide (Sp.sgP (a + -Sp.enH a b c n) b c <= 0) else false then decide (Sp.sgnI (((Sp.enH a b c n - Sp.enL a b c n) * Sp.qi (Sp.pw n)).num * (↑(Sp.qi 1).den:Int) - (Sp.qi 1).num * (↑((Sp.enH a b c n - Sp.enL a b c n) * Sp.qi (Sp.pw n)).den:Int)) <= 0) else false) = dq))))) :
 lwEnc_at f1 f2 f3 f4 f5 f6 a b c n (PureQ dq):=by
 unfold lwEnc_at
 refine path_wp (G:=given kp5 [(1,0,.call (vb true) none),(1,5,.call (vb (Sp.smR a b c)) none)] []) 5 [] ⟨(atC (cd Tryz.f5) [1,0,1]),[(1,vi n),(2,AV.ptr 0 0 0 0),(15,vb !Sp.smR a b c)],[⟨[rootA f1 f2 f3 f4 f5 f6 a b c],12,0,false,false⟩],_,[],_⟩ (by kernel_rfl) (bc rfl b0) q0 (ce (@ev9 ) (ce (@ev10 (true) (f1) (f2) (f3) (f4) (f5) (f6) (a) (b) (c)) c0)) ?_
 rcases xm (¬(Sp.smR a b c = true)) with d2 | d2
 ·have H:=H.1 d2
  exact path_re (G:=given kp5 [(2,0,.call (vb true) none)] []) 1000 [true] (asm:=[(!Sp.smR a b c) == true]) (vb true) (by kernel_rfl) (bc (beq_t ((i_not (i_var _)).2 d2)) b0) q0 (ce (@ev9 ) c0) H
 ·have H:=H.2 d2
  rcases xm (n < 0 \/ n > 256) with d3 | d3
  ·have H:=H.1 d3
   obtain ⟨k4,H⟩:=H
   refine path_wp (G:=given kp5 [(3,2,.call (tu [zNyF8,vi 1]) none)] []) 7 [false] ⟨(atC (cd Tryz.f5) [1,1,1,0,1]),[(1,vi n),(2,AV.ptr 0 0 0 0),(5,AV.ptr 1 0 0 0),(6,vi 1),(28,vb (bif decide (n < 0) then true else decide (n > 256)))],[⟨[rootA f1 f2 f3 f4 f5 f6 a b c],12,0,false,false⟩,⟨[zNyF8],8,0,false,false⟩],[(!Sp.smR a b c) == false,true,true],[],_⟩ (by kernel_rfl) (bc (beq_f (fun h => d2 ((i_not (i_var _)).1 h))) (bc rfl (bc rfl b0))) q0 (ce (@ev28_y (f1) (f2) (f3) (f4) (f5) (f6) (a) (b) (c) (n) k4 d3) c0) ?_
   rcases xm ((n < 0) \/ (n > 256)) with d6 | d6
   ·have H:=H.1 d6
    exact path_re (G:=given kp5 [] []) 1000 [true] (vb true) (by kernel_rfl) (bc (beq_t ((i_bor i_dec i_dec).2 d6)) (bc rfl (bc rfl b0))) q0 c0 H
   ·have H:=H.2 d6
    obtain ⟨b1,H⟩:=H
    obtain ⟨k8,H⟩:=H
    obtain ⟨b2,H⟩:=H
    obtain ⟨k10,H⟩:=H
    exact path_re (G:=given kp5 [(6,5,.call (vb b1) none),(6,11,.call (vb b2) none)] []) 1000 [false,true] (calls:=[⟨true == false && true && true,false,29,[zNyF7],[],vb b1,[]⟩,⟨false,false,29,[zNyF7],[],vb b2,[]⟩]) (vb false) (by kernel_rfl) (bc (beq_f (fun h => d6 ((i_bor i_dec i_dec).1 h))) (bc rfl (bc rfl (bc rfl b0)))) q0 (cc (fun hc => ((k8 ((i_at (i_at (i_bf (i_var _)))).1 hc)):Ev M1 (Conf.pure 29 [zNyF7]) (vb b1) [])) (cc (fun hc => ((k10 ((i_var _).1 hc)):Ev M1 (Conf.pure 29 [zNyF7]) (vb b2) [])) c0)) H
  ·have H:=H.2 d3
   obtain ⟨k11,H⟩:=H
   refine path_wp (G:=given kp5 [(3,2,.call (tu [(zNyF1 a b c n),vi 0]) none)] []) 7 [false] ⟨(atC (cd Tryz.f5) [1,1,1,0,1]),[(1,vi n),(2,AV.ptr 0 0 0 0),(5,AV.ptr 1 0 0 0),(6,vi 0),(28,vb (bif decide (n < 0) then true else decide (n > 256)))],[⟨[rootA f1 f2 f3 f4 f5 f6 a b c],12,0,false,false⟩,⟨[(zNyF1 a b c n)],8,0,false,false⟩],[(!Sp.smR a b c) == false,true,true],[],_⟩ (by kernel_rfl) (bc (beq_f (fun h => d2 ((i_not (i_var _)).1 h))) (bc rfl (bc rfl b0))) q0 (ce (@ev28_n (f1) (f2) (f3) (f4) (f5) (f6) (a) (b) (c) (n) k11 d3) c0) ?_
   rcases xm ((n < 0) \/ (n > 256)) with d13 | d13
   ·have H:=H.1 d13
    exact path_re (G:=given kp5 [] []) 1000 [true] (vb false) (by kernel_rfl) (bc (beq_t ((i_bor i_dec i_dec).2 d13)) (bc rfl (bc rfl b0))) q0 c0 H
   ·have H:=H.2 d13
    obtain ⟨k15,H⟩:=H
    obtain ⟨k17,H⟩:=H
    refine path_wp (G:=given kp5 [(6,5,.call (vb (zNyF5 a b c n)) none),(6,11,.call (vb (zNyF6 a b c n)) none)] []) 5 [false] ⟨(atC (cd Tryz.f5) [1,1,1,1,0,1]),[(1,vi n),(2,AV.ptr 0 0 0 0),(5,AV.ptr 1 0 0 0),(58,vb (zNyF2 a b c n))],[⟨[rootA f1 f2 f3 f4 f5 f6 a b c],12,0,false,false⟩,⟨[(zNyF1 a b c n)],8,0,false,false⟩],[(bif decide (n < 0) then true else decide (n > 256)) == false,true,!((!Sp.valB (Sp.isNeg (Sp.enL a b c n).num) (Sp.limI (Sp.enL a b c n).num) (Sp.isNeg (↑(Sp.enL a b c n).den:Int)) (Sp.limI (↑(Sp.enL a b c n).den:Int))) == false && true) || true],[],[⟨false == false && true && true,false,29,[ratA false false (Sp.enL a b c n)],[],vb (zNyF5 a b c n),[]⟩,⟨(!Sp.valB (Sp.isNeg (Sp.enL a b c n).num) (Sp.limI (Sp.enL a b c n).num) (Sp.isNeg (↑(Sp.enL a b c n).den:Int)) (Sp.limI (↑(Sp.enL a b c n).den:Int))) == false && true && true,false,29,[ratA false false (Sp.enH a b c n)],[],vb (zNyF6 a b c n),[]⟩]⟩ (by kernel_rfl) (bc (beq_f (fun h => d13 ((i_bor i_dec i_dec).1 h))) (bc rfl (bc (Bool.or_true _) b0))) q0 (cc (fun hc => ((@ev29 (Sp.isNeg (Sp.enL a b c n).num) (false) (Sp.isNeg (↑(Sp.enL a b c n).den:Int)) (false) (Sp.limI (Sp.enL a b c n).num) (Sp.limI (↑(Sp.enL a b c n).den:Int)) (k15 ((i_at (i_at (i_bf (i_var _)))).1 hc))):Ev M1 (Conf.pure 29 [ratA false false (Sp.enL a b c n)]) (vb (zNyF5 a b c n)) [])) (cc (fun hc => ((@ev29 (Sp.isNeg (Sp.enH a b c n).num) (false) (Sp.isNeg (↑(Sp.enH a b c n).den:Int)) (false) (Sp.limI (Sp.enH a b c n).num) (Sp.limI (↑(Sp.enH a b c n).den:Int)) (k17 ((i_at (i_at (i_bf (i_not (i_var _))))).1 hc))):Ev M1 (Conf.pure 29 [ratA false false (Sp.enH a b c n)]) (vb (zNyF6 a b c n)) [])) c0)) ?_
    rcases xm ((¬(Sp.valB (Sp.isNeg (Sp.enL a b c n).num) (Sp.limI (Sp.enL a b c n).num) (Sp.isNeg (↑(Sp.enL a b c n).den:Int)) (Sp.limI (↑(Sp.enL a b c n).den:Int)) = true)) \/ (¬(Sp.valB (Sp.isNeg (Sp.enH a b c n).num) (Sp.limI (Sp.enH a b c n).num) (Sp.isNeg (↑(Sp.enH a b c n).den:Int)) (Sp.limI (↑(Sp.enH a b c n).den:Int)) = true))) with d19 | d19
    ·have H:=H.1 d19
     exact path_re (G:=given kp5 [] []) 1000 [true] (asm:=[(zNyF2 a b c n) == true]) (vb false) (by kernel_rfl) (bc (beq_t ((i_bor (i_not (i_var _)) (i_not (i_var _))).2 d19)) b0) q0 c0 H
    ·have H:=H.2 d19
     obtain ⟨k20,H⟩:=H
     obtain ⟨k21,H⟩:=H
     obtain ⟨k23,H⟩:=H
     obtain ⟨k25,H⟩:=H
     obtain ⟨k27,H⟩:=H
     obtain ⟨k29,H⟩:=H
     obtain ⟨k31,H⟩:=H
     exact path_re (G:=given kp5 [(8,4,.call (ratA false false (Sp.enH a b c n - Sp.enL a b c n)) none),(9,3,.call (vi (Sp.sgP (a + -Sp.enL a b c n) b c)) none),(9,9,.call (vi (Sp.sgP (a + -Sp.enH a b c n) b c)) none),(9,15,.call (ratA false false (Sp.qi (Sp.pw n))) none),(9,16,.call (ratA false false ((Sp.enH a b c n - Sp.enL a b c n) * Sp.qi (Sp.pw n))) none),(9,17,.call (ratA false false (Sp.qi 1)) none),(9,18,.call (vi (zNyF4 a b c n)) none)] []) 1000 [false] (asm:=[(zNyF2 a b c n) == false,true,true,true,true,true,!(decide (Sp.sgP (a + -Sp.enL a b c n) b c >= 0) == true && true) || true,!(decide (Sp.sgP (a + -Sp.enL a b c n) b c >= 0) == true && true) || true,!((zNyF3 a b c n) == true && true) || true]) (calls:=[⟨true,false,30,[ratA false false (Sp.enH a b c n),ratA false false (Sp.enL a b c n)],[],ratA false false (Sp.enH a b c n - Sp.enL a b c n),[]⟩,⟨true,false,16,[rootA f1 f2 f3 f4 f5 f6 a b c,ratA false false (Sp.enL a b c n)],[],vi (Sp.sgP (a + -Sp.enL a b c n) b c),[]⟩,⟨decide (Sp.sgP (a + -Sp.enL a b c n) b c >= 0) == true && true && true,false,16,[rootA f1 f2 f3 f4 f5 f6 a b c,ratA false false (Sp.enH a b c n)],[],vi (Sp.sgP (a + -Sp.enH a b c n) b c),[]⟩,⟨(zNyF3 a b c n) == true && true && true,false,33,[vi n],[],ratA false false (Sp.qi (Sp.pw n)),[]⟩,⟨(zNyF3 a b c n) == true && true && true,false,32,[ratA false false (Sp.enH a b c n - Sp.enL a b c n),ratA false false (Sp.qi (Sp.pw n))],[],ratA false false ((Sp.enH a b c n - Sp.enL a b c n) * Sp.qi (Sp.pw n)),[]⟩,⟨(zNyF3 a b c n) == true && true && true,false,18,[vi 1],[],ratA false false (Sp.qi 1),[]⟩,⟨(zNyF3 a b c n) == true && true && true,false,31,[ratA false false ((Sp.enH a b c n - Sp.enL a b c n) * Sp.qi (Sp.pw n)),ratA false false (Sp.qi 1)],[],vi (zNyF4 a b c n),[]⟩]) (vb (bif bif decide (Sp.sgP (a + -Sp.enL a b c n) b c >= 0) then decide (Sp.sgP (a + -Sp.enH a b c n) b c <= 0) else false then decide (Sp.sgnI (((Sp.enH a b c n - Sp.enL a b c n) * Sp.qi (Sp.pw n)).num * (↑(Sp.qi 1).den:Int) - (Sp.qi 1).num * (↑((Sp.enH a b c n - Sp.enL a b c n) * Sp.qi (Sp.pw n)).den:Int)) <= 0) else false)) (by kernel_rfl) (bc (beq_f (fun h => d19 ((i_bor (i_not (i_var _)) (i_not (i_var _))).1 h))) (bc rfl (bc rfl (bc rfl (bc rfl (bc rfl (bc (Bool.or_true _) (bc (Bool.or_true _) (bc (Bool.or_true _) b0))))))))) q0 (cc (fun _ => (@ev30 (false) (false) (false) (false) (Sp.enH a b c n) (Sp.enL a b c n) k20)) (cc (fun _ => (@ev16 (f1) (f2) (f3) (f4) (f5) (f6) (false) (false) (a) (b) (c) (Sp.enL a b c n) k21)) (cc (fun hc => ((@ev16 (f1) (f2) (f3) (f4) (f5) (f6) (false) (false) (a) (b) (c) (Sp.enH a b c n) (k23 ((i_at (i_at (i_bt i_dec))).1 hc))):Ev M1 (Conf.pure 16 [rootA f1 f2 f3 f4 f5 f6 a b c,ratA false false (Sp.enH a b c n)]) (vi (Sp.sgP (a + -Sp.enH a b c n) b c)) [])) (cc (fun hc => ((@ev33 (n) (k25 ((i_at (i_at (i_bt (i_band i_dec i_dec)))).1 hc))):Ev M1 (Conf.pure 33 [vi n]) (ratA false false (Sp.qi (Sp.pw n))) [])) (cc (fun hc => ((@ev32 (false) (false) (false) (false) (Sp.enH a b c n - Sp.enL a b c n) (Sp.qi (Sp.pw n)) (k27 ((i_at (i_at (i_bt (i_band i_dec i_dec)))).1 hc))):Ev M1 (Conf.pure 32 [ratA false false (Sp.enH a b c n - Sp.enL a b c n),ratA false false (Sp.qi (Sp.pw n))]) (ratA false false ((Sp.enH a b c n - Sp.enL a b c n) * Sp.qi (Sp.pw n))) [])) (cc (fun hc => ((@ev18 (1) (k29 ((i_at (i_at (i_bt (i_band i_dec i_dec)))).1 hc))):Ev M1 (Conf.pure 18 [vi 1]) (ratA false false (Sp.qi 1)) [])) (cc (fun hc => ((@ev31 (false) (false) (false) (false) ((Sp.enH a b c n - Sp.enL a b c n) * Sp.qi (Sp.pw n)) (Sp.qi 1) (k31 ((i_at (i_at (i_bt (i_band i_dec i_dec)))).1 hc))):Ev M1 (Conf.pure 31 [ratA false false ((Sp.enH a b c n - Sp.enL a b c n) * Sp.qi (Sp.pw n)),ratA false false (Sp.qi 1)]) (vi (zNyF4 a b c n)) [])) c0))))))) H
theorem lwEncR (s1 t1 f1 g1 s2 t2 f2 g2 s3 t3 f3 g3:Bool) (x1 y1 x2 y2 x3 y3:List Int) (n:Int)  (dq:AV) (H :
  (Sp.okU3 4 x1 y1 x2 y2 x3 y3) /\
  ((¬(Sp.smOB 4 s1 x1 t1 y1 s2 x2 t2 y2 s3 x3 t3 y3 = true)) -> vb true = dq) /\
  (¬(¬(Sp.smOB 4 s1 x1 t1 y1 s2 x2 t2 y2 s3 x3 t3 y3 = true)) -> False)) :
 lwEncR_at s1 t1 f1 g1 s2 t2 f2 g2 s3 t3 f3 g3 x1 y1 x2 y2 x3 y3 n (PureQ dq):=by
 unfold lwEncR_at
 obtain ⟨k1,H⟩:=H
 refine path_wp (G:=given kp5 [(1,0,.call (vb true) none),(1,5,.call (vb (Sp.smOB 4 s1 x1 t1 y1 s2 x2 t2 y2 s3 x3 t3 y3)) none)] []) 5 [] ⟨(atC (cd Tryz.f5) [1,0,1]),[(1,vi n),(2,AV.ptr 0 0 0 0),(15,vb !Sp.smOB 4 s1 x1 t1 y1 s2 x2 t2 y2 s3 x3 t3 y3)],[⟨[ag [vb s1,AV.vec f1 1 (us x1),vb t1,AV.vec g1 1 (us y1),vb s2,AV.vec f2 1 (us x2),vb t2,AV.vec g2 1 (us y2),vb s3,AV.vec f3 1 (us x3),vb t3,AV.vec g3 1 (us y3)]],12,0,false,false⟩],_,[],_⟩ (by kernel_rfl) (bc rfl b0) q0 (ce (@ev9 ) (ce (@ev10_r (true) (s1) (t1) (f1) (g1) (s2) (t2) (f2) (g2) (s3) (t3) (f3) (g3) (x1) (y1) (x2) (y2) (x3) (y3) k1) c0)) ?_
 rcases xm (¬(Sp.smOB 4 s1 x1 t1 y1 s2 x2 t2 y2 s3 x3 t3 y3 = true)) with d3 | d3
 ·have H:=H.1 d3
  exact path_re (G:=given kp5 [(2,0,.call (vb true) none)] []) 1000 [true] (asm:=[(!Sp.smOB 4 s1 x1 t1 y1 s2 x2 t2 y2 s3 x3 t3 y3) == true]) (vb true) (by kernel_rfl) (bc (beq_t ((i_not (i_var _)).2 d3)) b0) q0 (ce (@ev9 ) c0) H
 ·have H:=H.2 d3
  exact False.elim H
end Go.Av

namespace Go.Av
open Go.Proofs
theorem enc_ok {a b c:Rat} (ha:Sp.okT 4 a /\ Sp.okT 4 b /\ Sp.okT 4 c) (hv:Sp.vroot b c = true) (f1 f2 f3 f4 f5 f6:Bool) (n:Int) :
  Ev M1 (.pure 5 [rootA f1 f2 f3 f4 f5 f6 a b c,.int .i64 n]) (.bool true) []:=by
 refine call5 (lwEnc _ _ _ _ _ _ _ _ _ _ _ ⟨fun _ => rfl,fun _ => ⟨fun k => ⟨ha,fun _ => rfl,fun x => absurd k x⟩,fun k => ⟨ha,fun x => absurd x k,fun _ => ?_⟩⟩⟩)
 obtain ⟨s1,s2,s3⟩:=enc_okT (n:=n) ha (by omega)
 obtain ⟨C,hC,hcC⟩:=vroot_ok hv
 have sp:=enc_spec (a:=a) (b:=b) hC n
 have e1:∀ A,Sp.sgP A b c = Sp.sgO A b C:=fun A => by rw [hcC,sgP_rad hC]
 rw [<- hcC] at sp
 have w:=enc_width a b c n
 have t1:=valB_rat (Sp.enL a b c n)
 have t2:=valB_rat (Sp.enH a b c n)
 have qr {x:Rat} (h:Sp.okT 110 x):Sp.okQ a b c x:=⟨okT_le ha.1 (by omega),okT_le h (by omega),okT_le ha.2.1 (by omega),okT_le ha.2.2 (by omega)⟩
 refine ⟨fun _ => okA_rat s1 (by omega),fun _ => okA_rat s2 (by omega),fun x => ?_,fun _ => ⟨⟨okT_R s2 (by omega),okT_R s1 (by omega)⟩,qr s1,fun _ => qr s2,fun _ => by unfold Sp.okX;omega,fun _ => ⟨okT_R (okT_sub s2 s1) (by omega),okT_R s3 (by omega)⟩,fun _ => by unfold Sp.inI;omega,fun _ => ⟨okT_R (okT_mul (okT_sub s2 s1) s3) (by omega),okT_R (okT_int (by unfold Sp.inI;omega)) (by omega)⟩,?_⟩⟩
 ·rcases x with x | x
  ·exact absurd t1 x
  ·exact absurd t2 x
 ·have z:=(cross (c:=(Sp.enH a b c n - Sp.enL a b c n) * Sp.qi (Sp.pw n)) (z:=Sp.qi 1)).2 w
  rw [e1,e1,z,decide_eq_true sp.1,decide_eq_true (show Sp.sgO (a + -Sp.enH a b c n) b C <= 0 by have:=sp.2;omega)]
  rfl
theorem ev5 (s1 t1 f1 g1 s2 t2 f2 g2 s3 t3 f3 g3:Bool) (x1 y1 x2 y2 x3 y3:List Int) (n:Int) (h:Sp.okU3 4 x1 y1 x2 y2 x3 y3):Ev M1 (.pure 5 [.agg [.bool s1,.vec f1 1 (x1.map (.int .u32)),.bool t1,.vec g1 1 (y1.map (.int .u32)),.bool s2,.vec f2 1 (x2.map (.int .u32)),.bool t2,.vec g2 1 (y2.map (.int .u32)),.bool s3,.vec f3 1 (x3.map (.int .u32)),.bool t3,.vec g3 1 (y3.map (.int .u32))],.int .i64 n]) (.bool true) []:=by
 by_cases k1:Sp.smOB 4 s1 x1 t1 y1 s2 x2 t2 y2 s3 x3 t3 y3 = true
 ·obtain ⟨a,b,c,ha,va,⟨rfl,rfl,rfl,rfl⟩,⟨rfl,rfl,rfl,rfl⟩,rfl,rfl,rfl,rfl⟩:=smOB_rat k1
  exact enc_ok ha va _ _ _ _ _ _ _
 ·exact call5 (lwEncR _ _ _ _ _ _ _ _ _ _ _ _ _ _ _ _ _ _ _ _ ⟨h,fun _ => rfl,fun k => absurd k1 k⟩)
end Go.Av
