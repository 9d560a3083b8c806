/- PART 5 of the texts of a claim, joined by a program: what each part shows stands at its head. -/
import Derived.Test.YtmkjjnbbbabnhaaGreatPart714784a87a

namespace Go.Av
open Go.Proofs
theorem partsN (fa fb:Bool) (A D:Nat) (hD:D ≠ 0) (hA:Sp.cnt A <= 399000) (hd:Sp.cnt D <= 399000):Ev M1 (.pure 82 [usA fa (Sp.lim A),usA fb (Sp.lim D)]) (.tup [usA false (Sp.lim (A / D)),usA false (Sp.lim (A % D))]) []:=by
 obtain ⟨m1,m2,m3⟩:=top_facts hD
 obtain ⟨s1,s2,s3,s4,s5⟩:=scl_facts1 m1
 refine call82 (rParts _ _ _ _ _ ⟨fun h => ?_,fun h => ?_⟩)
 ·rw [lim_len,lim_len] at h
  have f1:=fits_mono (fits_self A) (show Sp.cnt A <= 2 by omega)
  have hA2:A < 1000000000000000000:=by unfold Sp.fits at f1;simpa using f1
  have f2:=fits_mono (fits_self D) (show Sp.cnt D <= 2 by omega)
  have hD2:D < 1000000000000000000:=by unfold Sp.fits at f2;simpa using f2
  have c1:(A:Int).tdiv D = ((A / D:Nat):Int):=(Int.ofNat_tdiv _ _).symm
  have c2:(A:Int).tmod D = ((A % D:Nat):Int):=(Int.ofNat_tmod _ _).symm
  have d1:=Nat.div_le_self A D
  have d2:=Nat.mod_lt A (Nat.pos_of_ne_zero hD)
  rw [c1,c2,Int.toNat_natCast,Int.toNat_natCast]
  exact ⟨by omega,by omega,le8 (by omega),le8 (by omega),by omega,.refl _⟩
 ·have e0:((Sp.cnt D:Int) - 1).toNat = Sp.cnt D - 1:=by omega
  have gD:(Sp.lim D).getD (Sp.cnt D - 1) default = ((D / 1000000000 ^ (Sp.cnt D - 1):Nat):Int):=by
   have:=limN_getD (n:=Sp.cnt D) D (show Sp.cnt D - 1 < Sp.cnt D by omega)
   rw [Nat.mod_eq_of_lt s5] at this
   exact this
  have hs:Int.tdiv 1000000000 ((Sp.lim D).getD (Sp.cnt D - 1) default + 1) = (Sp.scl D:Int):=by
   rw [gD]
   unfold Sp.scl
   generalize D / 1000000000 ^ (Sp.cnt D - 1) = t
   have:((t:Int) + 1) = ((t + 1:Nat):Int):=by omega
   rw [this]
   exact (Int.ofNat_tdiv 1000000000 (t + 1)).symm
  have hV:D * Sp.scl D ≠ 0:=Nat.mul_ne_zero hD (by omega)
  obtain ⟨v1,v2,v3⟩:=top_facts hV
  have hcV:Sp.cnt (D * Sp.scl D) <= Sp.cnt D:=fits_cnt.1 s3
  have f1:Sp.fits 1 (Sp.scl D):=by unfold Sp.fits;omega
  have hcU:Sp.cnt (A * Sp.scl D) <= Sp.cnt A + 1:=fits_cnt.1 (fits_prod (fits_self A) f1)
  have e1:((Sp.cnt (D * Sp.scl D):Int) - 1).toNat = Sp.cnt (D * Sp.scl D) - 1:=by omega
  have gV:(Sp.lim (D * Sp.scl D)).getD (Sp.cnt (D * Sp.scl D) - 1) default = ((D * Sp.scl D / 1000000000 ^ (Sp.cnt (D * Sp.scl D) - 1):Nat):Int):=by
   have:=limN_getD (n:=Sp.cnt (D * Sp.scl D)) (D * Sp.scl D) (show Sp.cnt (D * Sp.scl D) - 1 < Sp.cnt (D * Sp.scl D) by omega)
   rw [Nat.mod_eq_of_lt v3] at this
   exact this
  have okD:Sp.okB (D:Int):=by unfold Sp.okB;rw [Int.natAbs_natCast];omega
  have okA:Sp.okB (A:Int):=by unfold Sp.okB;rw [Int.natAbs_natCast];omega
  have dg:Sp.dig (Sp.scl D:Int):=by unfold Sp.dig;omega
  obtain ⟨q1,q2⟩:=div_scale (A:=A) (D:=D) s1
  simp only [lim_len,e0,hs,Int.toNat_natCast,e1,gV,Nat.sub_zero]
  have go:rPartsA0_at (D * Sp.scl D) (A * Sp.scl D) (Sp.scl D:Int) ((D * Sp.scl D / 1000000000 ^ (Sp.cnt (D * Sp.scl D) - 1):Nat):Int) ((Sp.cnt (A * Sp.scl D):Int) - 1) (Sp.cnt (A * Sp.scl D)) (List.replicate ((Sp.cnt A:Int) + 1).toNat 0) (PureQ (.tup [usA false (Sp.lim (A / D)),usA false (Sp.lim (A % D))])):=by
   have eL:((Sp.cnt A:Int) + 1).toNat = Sp.cnt A + 1:=by omega
   rw [eL]
   by_cases hz:Sp.cnt (A * Sp.scl D) = 0
   ·have hU:=cnt_eq_zero.1 hz
    have hA0:A = 0:=by
     rcases Nat.mul_eq_zero.1 hU with h | h
     ·exact h
     ·omega
    subst hA0
    rw [hz]
    have l0:Sp.lim 0 = []:=lim_zero
    have tr:=rtrimN false 0 0 ⟨by unfold Sp.short;omega,fits_zero.2 rfl⟩
    rw [l0] at tr
    refine rPartsA0 _ _ _ _ _ _ _ 0 _ ⟨fun h => by omega,fun _ => rPartsL0 _ _ _ _ ⟨by simp [Sp.short],[],tr,?_⟩⟩
    rw [Nat.zero_div,Nat.zero_mod,l0]
    exact .refl _
   ·obtain ⟨j,hj⟩:∃ j,Sp.cnt (A * Sp.scl D) = j + 1:=⟨Sp.cnt (A * Sp.scl D) - 1,by omega⟩
    have hn:j + 1 = Sp.cnt (A * Sp.scl D):=hj.symm
    have hc1:Sp.cnt (D * Sp.scl D) <= 400000:=by omega
    have hU5:j + 1 <= 500000:=by omega
    have hj0:j <= j + 1:=by omega
    have hj1:j < j + 1:=by omega
    have hol:j + 1 <= (List.replicate (Sp.cnt A + 1) (0:Int)).length:=by simp;omega
    have hzero:A * Sp.scl D / 1000000000 ^ (j + 1) = 0:=fits_div (fits_self _) (by omega)
    have hx:A * Sp.scl D / 1000000000 ^ j % 1000000000 < 1000000000:=Nat.mod_lt _ (by omega)
    obtain ⟨b1,b2,b3⟩:=byWord_step (A * Sp.scl D / 1000000000 ^ (j + 1)) (A * Sp.scl D / 1000000000 ^ j % 1000000000) (D * Sp.scl D) hx (Nat.pos_of_ne_zero hV)
    have hsp:=digit_split (A * Sp.scl D) j
    have hs':A * Sp.scl D / 1000000000 ^ j % 1000000000 + 1000000000 * (A * Sp.scl D / 1000000000 ^ (j + 1)) = A * Sp.scl D / 1000000000 ^ j:=by omega
    have ih:=loopHR (V:=D * Sp.scl D) (U:=A * Sp.scl D) (s:=Sp.scl D) hV hc1 hn hU5 rfl ⟨s1,s2⟩ j ((List.replicate (Sp.cnt A + 1) (0:Int)).set j ((A * Sp.scl D / 1000000000 ^ j % 1000000000 + 1000000000 * (A * Sp.scl D / 1000000000 ^ (j + 1) % (D * Sp.scl D))) / (D * Sp.scl D):Nat)) hj0 (by simpa using hol) (by
     rw [take_drop_set hj1 hol,show j + 1 - j = 0 + 1 by omega,limN_succ,List.drop_of_length_le (by simp;omega)]
     rw [hs'] at b1
     rw [hzero] at b1 b3 ⊢
     rw [Nat.zero_div,Nat.zero_mod] at b1
     rw [Nat.zero_mod] at b3 ⊢
     rw [b1]
     have e5:0 * 1000000000 + A * Sp.scl D / 1000000000 ^ j % 1000000000 = A * Sp.scl D / 1000000000 ^ j % 1000000000 + 1000000000 * 0:=by simp only [Nat.zero_mul,Nat.mul_zero,Nat.zero_add,Nat.add_zero]
     rw [e5] at b3 ⊢
     rw [Nat.mul_zero,Nat.zero_add,Nat.mod_eq_of_lt b3];rfl)
    obtain ⟨k1,_⟩:=stepH (s:=Sp.scl D) hV hc1 hn hU5 rfl hj1 hol ih
    have:=(k1 (by rw [hzero,Nat.zero_mod])).2
    rw [q1,q2] at this
    rw [hj,show (((j + 1:Nat):Int) - 1) = (j:Nat) by omega]
    exact this
  have hscl:(Sp.scl D:Int) <= 4294967295:=by omega
  have hb1:D / 1000000000 ^ (Sp.cnt D - 1) < 1000000000:=s5
  rw [gD]
  generalize D / 1000000000 ^ (Sp.cnt D - 1) = T at hb1 ⊢
  generalize D * Sp.scl D / 1000000000 ^ (Sp.cnt (D * Sp.scl D) - 1) = T2 at v3 go ⊢
  exact ⟨by omega,by omega,by omega,by omega,by omega,by omega,by omega,by omega,⟨okD,dg⟩,by omega,by omega,by omega,by omega,by omega,by omega,by omega,by omega,⟨okA,dg⟩,by omega,by omega,by rw [List.length_replicate];omega,by omega,go⟩
theorem ev82 (fa fb:Bool) (A D:Nat) (h:Sp.cnt A <= 399000 /\ Sp.cnt D <= 399000 /\ D ≠ 0):Ev M1 (.pure 82 [usA fa (Sp.lim A),usA fb (Sp.lim D)]) (.tup [usA false (Sp.lim (A / D)),usA false (Sp.lim (A % D))]) []:=partsN fa fb A D h.2.2 h.1 h.2.1
theorem ev82_a (fa fb:Bool) (v w:Int) (h:Sp.cnt v.natAbs <= 399000 /\ Sp.cnt w.natAbs <= 399000 /\ w ≠ 0):Ev M1 (.pure 82 [usA fa (Sp.limI v),usA fb (Sp.limI w)]) (.tup [usA false (Sp.lim (v.natAbs / w.natAbs)),usA false (Sp.lim (v.natAbs % w.natAbs))]) []:=partsN fa fb _ _ (by have:=h.2.2;omega) h.1 h.2.1
end Go.Av

namespace Go.Av
open Go.Proofs
set_option maxRecDepth 100000
def fi45:Fi:=⟨54,[.cell 4 34]⟩
def kp45:List (Nat × List Nat):=[(0,[2,3,4]),(1,[4,5,6]),(2,[4,5,6,27]),(3,[4,6,8]),(4,[4,5,6]),(5,[4,5,6,38]),(6,[4]),(7,[4,9,10]),(8,[4,9,10,46]),(9,[4,9,10]),(10,[4])]
def fi121:Fi:=⟨54,[.cell 4 34,.cell 5 34,.tmp 6]⟩
def kp121:List (Nat × List Nat):=[(0,[2,3,4,5]),(1,[2,3,4,5,14]),(2,[4,5,6]),(3,[2,3,4,5,7,8]),(4,[2,3,4,5,8,9,10]),(5,[3,4,5,9,10,45]),(6,[4,5,9,10]),(7,[4,5,6])]
def rDivMod_at (fa fb:Bool) (a b:Int) (Q:AV -> Heap -> Prop):Prop:=Wp M1 (.run fi121 (atC (cd Tryz.f121) []) [(0,bigA fa a),(1,bigA fb b)] []) Q
def rGCD_at (fa fb:Bool) (a b:Int) (Q:AV -> Heap -> Prop):Prop:=Wp M1 (.run fi45 (atC (cd Tryz.f45) []) [(0,bigA fa a),(1,bigA fb b)] []) Q
def rGCDH_at (fx fy:Bool) (x y:Nat) (Q:AV -> Heap -> Prop):Prop:=Wp M1 (.run fi45 (atC (cd Tryz.f45) [1,1,0,0,0]) [(4,.ptr 0 0 0 0),(5,.vec fx 1 ((Sp.lim x).map (.int .u32))),(6,.vec fy 1 ((Sp.lim y).map (.int .u32)))] [⟨[.agg [.bool false,.vnil]],2,0,false,false⟩]) Q
def rGCDW_at (u v:Int) (Q:AV -> Heap -> Prop):Prop:=Wp M1 (.run fi45 (atC (cd Tryz.f45) [1,1,1,1,1,0,0,0]) [(4,.ptr 0 0 0 0),(9,.int .u64 u),(10,.int .u64 v)] [⟨[.agg [.bool false,.vnil]],2,0,false,false⟩]) Q
theorem call45 {args:List AV} {d:AV} (h:wc M1 fi45 Tryz.f45 args d):Ev M1 (.pure 45 args) d []:=pcl _ _ (by kernel_rfl) h
theorem call121 {args:List AV} {d:AV} (h:wc M1 fi121 Tryz.f121 args d):Ev M1 (.pure 121 args) d []:=pcl _ _ (by kernel_rfl) h
noncomputable abbrev zNwE1 (a:Int) (b:Int):=Sp.sg (!Sp.isNeg a == Sp.isNeg b) (a.natAbs / b.natAbs)
noncomputable abbrev zNwE2 (a:Int) (b:Int):=tu [vf (us (Sp.lim (a.natAbs / b.natAbs))),vf (us (Sp.lim (a.natAbs % b.natAbs)))]
theorem rDivMod (fa fb:Bool) (a b:Int)  (dq:AV) (H :
  (((↑(Sp.limI b).length:Int) = 0) -> Weak (tu [ag [vb false,AV.vnil],ag [vb false,AV.vnil],vi 6]) dq) /\
  (¬((↑(Sp.limI b).length:Int) = 0) -> (Sp.cnt a.natAbs <= 399000 /\ Sp.cnt b.natAbs <= 399000 /\ b ≠ 0) /\
   (Sp.short (Sp.cnt (a.natAbs / b.natAbs))) /\
   (Sp.short (Sp.cnt (a.natAbs % b.natAbs))) /\
   ((((↑(Sp.lim (a.natAbs % b.natAbs)).length:Int) > 0) /\ (¬(Sp.isNeg a = Sp.isNeg b))) -> (Sp.inI 1) /\
    (Sp.okB (Sp.sg (!Sp.isNeg a == Sp.isNeg b) (a.natAbs / b.natAbs))) /\
    (Sp.okB (Sp.sg (Sp.isNeg a) (a.natAbs % b.natAbs)) /\ Sp.okB b) /\
    Weak (tu [bigA false (Sp.sg (!Sp.isNeg a == Sp.isNeg b) (a.natAbs / b.natAbs) - 1),bigA false (Sp.sg (Sp.isNeg a) (a.natAbs % b.natAbs) + b),vi 0]) dq) /\
   (¬(((↑(Sp.lim (a.natAbs % b.natAbs)).length:Int) > 0) /\ (¬(Sp.isNeg a = Sp.isNeg b))) -> Weak (tu [bigA false (Sp.sg (!Sp.isNeg a == Sp.isNeg b) (a.natAbs / b.natAbs)),bigA false (Sp.sg (Sp.isNeg a) (a.natAbs % b.natAbs)),vi 0]) dq))) :
 rDivMod_at fa fb a b (PureQ dq):=by
 unfold rDivMod_at
 have w1:(us (Sp.limI b)).length = (Sp.limI b).length:=List.length_map ..
 have i2:((↑(us (Sp.limI b)).length:Int) == 0) = true ↔ ((↑(Sp.limI b).length:Int) = 0):=(by (try rw [w1]);all_goals exact i_eq)
 rcases xm ((↑(Sp.limI b).length:Int) = 0) with d3 | d3
 ·have H:=H.1 d3
  exact path_rq (G:=given kp121 [] []) 1000 [true] (tu [ag [vb false,AV.vnil],ag [vb false,AV.vnil],vi 6]) (by kernel_rfl) (bc rfl (bc (beq_t (i2.2 d3)) (bc rfl (bc rfl b0)))) q0 c0 H
 ·have H:=H.2 d3
  obtain ⟨k4,H⟩:=H
  obtain ⟨k5,H⟩:=H
  obtain ⟨k6,H⟩:=H
  refine path_wp (G:=given kp121 [(3,4,.call (zNwE2 a b) none),(4,6,.call (bigA false (zNwE1 a b)) none),(4,10,.call (bigA false (Sp.sg (Sp.isNeg a) (a.natAbs % b.natAbs))) none)] []) 10 [false] ⟨(atC (cd Tryz.f121) [1,1,1,0]),[(2,AV.ptr 0 0 0 0),(3,AV.ptr 1 0 0 0),(4,AV.ptr 2 0 0 0),(5,AV.ptr 3 0 0 0),(7,vf (us (Sp.lim (a.natAbs / b.natAbs)))),(8,vf (us (Sp.lim (a.natAbs % b.natAbs))))],[⟨[bigA fa a],2,0,false,false⟩,⟨[bigA fb b],2,0,false,false⟩,⟨[ag [vb false,AV.vnil]],2,0,false,false⟩,⟨[ag [vb false,AV.vnil]],2,0,false,false⟩],_,[],_⟩ (by kernel_rfl) (bc rfl (bc (beq_f (fun h => d3 (i2.1 h))) (bc rfl (bc rfl b0)))) q0 (ce (@ev82_a (fa) (fb) (a) (b) k4) c0) (wp_both (G:=given kp121 [(3,4,.call (zNwE2 a b) none),(4,6,.call (bigA false (zNwE1 a b)) none),(4,10,.call (bigA false (Sp.sg (Sp.isNeg a) (a.natAbs % b.natAbs))) none)] []) [0,1,2,3,5,4] 11 (e1:=[(2,AV.ptr 0 0 0 0),(3,AV.ptr 1 0 0 0),(4,AV.ptr 2 0 0 0),(5,AV.ptr 3 0 0 0),(8,vf (us (Sp.lim (a.natAbs % b.natAbs)))),(9,AV.ptr 4 0 0 0),(10,AV.ptr 5 0 0 0)]) (L1:=[⟨[bigA fa a],2,0,false,false⟩,⟨[bigA fb b],2,0,false,false⟩,⟨[ag [vb false,AV.vnil]],2,0,false,false⟩,⟨[ag [vb false,AV.vnil]],2,0,false,false⟩,⟨[bigA false (zNwE1 a b)],2,0,false,false⟩,⟨[bigA false (Sp.sg (Sp.isNeg a) (a.natAbs % b.natAbs))],2,0,false,false⟩]) (a:=[true,true,true,true,true]) (q:=[]) (cs:=[⟨true,false,83,[vb !Sp.isNeg a == Sp.isNeg b,vf (us (Sp.lim (a.natAbs / b.natAbs)))],[],bigA false (zNwE1 a b),[]⟩,⟨true,false,83,[vb (Sp.isNeg a),vf (us (Sp.lim (a.natAbs % b.natAbs)))],[],bigA false (Sp.sg (Sp.isNeg a) (a.natAbs % b.natAbs)),[]⟩]) (by kernel_rfl) (by kernel_rfl) (allB_cons rfl (allB_cons rfl (allB_cons rfl (allB_cons rfl (allB_cons rfl allB_nil))))) allP_nil (allC_cons (fun _ => (@ev83_b (!Sp.isNeg a == Sp.isNeg b) (false) (a.natAbs / b.natAbs) k5)) (allC_cons (fun _ => (@ev83_b (Sp.isNeg a) (false) (a.natAbs % b.natAbs) k6)) allC_nil)) ?_)
  have w7:(us (Sp.lim (a.natAbs % b.natAbs))).length = (Sp.lim (a.natAbs % b.natAbs)).length:=List.length_map ..
  have i8:(bif decide ((↑(us (Sp.lim (a.natAbs % b.natAbs))).length:Int) > 0) then !Sp.isNeg a == Sp.isNeg b else false) = true ↔ (((↑(Sp.lim (a.natAbs % b.natAbs)).length:Int) > 0) /\ (¬(Sp.isNeg a = Sp.isNeg b))):=(by (try rw [w7]);all_goals exact (i_band i_dec (i_not i_eq)))
  rcases xm (((↑(Sp.lim (a.natAbs % b.natAbs)).length:Int) > 0) /\ (¬(Sp.isNeg a = Sp.isNeg b))) with d9 | d9
  ·have H:=H.1 d9
   obtain ⟨k10,H⟩:=H
   obtain ⟨k11,H⟩:=H
   obtain ⟨k12,H⟩:=H
   exact path_rq (G:=given kp121 [(6,1,.call (ag [vb false,vf (us (Sp.limI 1))]) none),(6,2,.call (bigA false (Sp.sg (!Sp.isNeg a == Sp.isNeg b) (a.natAbs / b.natAbs) - 1)) none),(6,5,.call (bigA false (Sp.sg (Sp.isNeg a) (a.natAbs % b.natAbs) + b)) none)] [(7,[5003,4002,7001,6000])]) 1000 [true] (asm:=[!(decide ((↑(us (Sp.lim (a.natAbs % b.natAbs))).length:Int) > 0) == true && true) || true,!(decide ((↑(us (Sp.lim (a.natAbs % b.natAbs))).length:Int) > 0) == true && true) || true,(bif decide ((↑(us (Sp.lim (a.natAbs % b.natAbs))).length:Int) > 0) then !Sp.isNeg a == Sp.isNeg b else false) == true,true,true,true,true,true,true,true,true,true]) (tu [bigA false (Sp.sg (!Sp.isNeg a == Sp.isNeg b) (a.natAbs / b.natAbs) - 1),bigA false (Sp.sg (Sp.isNeg a) (a.natAbs % b.natAbs) + b),vi 0]) (by kernel_rfl) (bc (Bool.or_true _) (bc (Bool.or_true _) (bc (beq_t (i8.2 d9)) (bc rfl (bc rfl (bc rfl (bc rfl (bc rfl (bc rfl (bc rfl (bc rfl (bc rfl b0)))))))))))) q0 (ce (@ev57 (1) k10) (ce (@ev131_a (false) (zNwE1 a b) k11) (ce (@ev96 (false) (fb) (Sp.sg (Sp.isNeg a) (a.natAbs % b.natAbs)) (b) k12) c0))) H
  ·have H:=H.2 d9
   exact path_rq (G:=given kp121 [] [(7,[5003,4002,7001,6000])]) 1000 [false] (asm:=[!(decide ((↑(us (Sp.lim (a.natAbs % b.natAbs))).length:Int) > 0) == true && true) || true,!(decide ((↑(us (Sp.lim (a.natAbs % b.natAbs))).length:Int) > 0) == true && true) || true,(bif decide ((↑(us (Sp.lim (a.natAbs % b.natAbs))).length:Int) > 0) then !Sp.isNeg a == Sp.isNeg b else false) == false,true,true,true,true]) (tu [bigA false (zNwE1 a b),bigA false (Sp.sg (Sp.isNeg a) (a.natAbs % b.natAbs)),vi 0]) (by kernel_rfl) (bc (Bool.or_true _) (bc (Bool.or_true _) (bc (beq_f (fun h => d9 (i8.1 h))) (bc rfl (bc rfl (bc rfl (bc rfl b0))))))) q0 c0 H
theorem rGCD (fa fb:Bool) (a b:Int)  (dq:AV) (H :
  Wp M1 (.run fi45 (atC (cd Tryz.f45) [1,1,0,0,0]) [(4,AV.ptr 0 0 0 0),(5,AV.vec fa 1 (us (Sp.limI a))),(6,AV.vec fb 1 (us (Sp.limI b)))] [{ elems:=[ag [vb false,AV.vnil]],es:=2,ver:=0,frozen:=false,clean:=false }]) (PureQ dq)) :
 rGCD_at fa fb a b (PureQ dq):=by
 unfold rGCD_at
 exact path_wp (G:=given kp45 [] []) 1000 [] ⟨(atC (cd Tryz.f45) [1,1,0,0,0]),[(4,AV.ptr 2 0 0 0),(5,AV.vec fa 1 (us (Sp.limI a))),(6,AV.vec fb 1 (us (Sp.limI b)))],[⟨[bigA fa a],2,0,false,false⟩,⟨[bigA fb b],2,0,false,false⟩,⟨[ag [vb false,AV.vnil]],2,0,false,false⟩],_,[],_⟩ (by kernel_rfl) (bc rfl (bc rfl b0)) q0 c0 (wp_narrow [2] (by kernel_rfl) H)
theorem rGCDH (fx fy:Bool) (x y:Nat)  (dq:AV) (H :
  ((((↑(Sp.lim y).length:Int) > 0) /\ (((↑(Sp.lim x).length:Int) > 2) \/ ((↑(Sp.lim y).length:Int) > 2))) -> (Sp.cnt x <= 399000 /\ Sp.cnt y <= 399000 /\ y ≠ 0) /\
   rGCDH_at (fy) (false) (y) (x % y) (PureQ dq)) /\
  (¬(((↑(Sp.lim y).length:Int) > 0) /\ (((↑(Sp.lim x).length:Int) > 2) \/ ((↑(Sp.lim y).length:Int) > 2))) -> (((↑(Sp.lim y).length:Int) = 0) -> (Sp.short (Sp.cnt x)) /\
    Weak (bigA false (Sp.sg false x)) dq) /\
   (¬((↑(Sp.lim y).length:Int) = 0) -> (Sp.cnt x <= 2) /\
    (Sp.cnt y <= 2) /\
    rGCDW_at ((↑x:Int)) ((↑y:Int)) (PureQ dq)))) :
 rGCDH_at fx fy x y (PureQ dq):=by
 unfold rGCDH_at
 have w1:(us (Sp.lim y)).length = (Sp.lim y).length:=List.length_map ..
 have w2:(us (Sp.lim x)).length = (Sp.lim x).length:=List.length_map ..
 have i3:(bif decide ((↑(us (Sp.lim y)).length:Int) > 0) then bif decide ((↑(us (Sp.lim x)).length:Int) > 2) then true else decide ((↑(us (Sp.lim y)).length:Int) > 2) else false) = true ↔ (((↑(Sp.lim y).length:Int) > 0) /\ (((↑(Sp.lim x).length:Int) > 2) \/ ((↑(Sp.lim y).length:Int) > 2))):=(by (try rw [w1]);(try rw [w2]);all_goals exact (i_band i_dec (i_bor i_dec i_dec)))
 rcases xm (((↑(Sp.lim y).length:Int) > 0) /\ (((↑(Sp.lim x).length:Int) > 2) \/ ((↑(Sp.lim y).length:Int) > 2))) with d4 | d4
 ·have H:=H.1 d4
  obtain ⟨k5,H⟩:=H
  exact path_wp (G:=given kp45 [(3,2,.call (tu [vf (us (Sp.lim (x / y))),vf (us (Sp.lim (x % y)))]) none)] []) 1000 [true] ⟨(atC (cd Tryz.f45) [1,1,0,0,0]),[(4,AV.ptr 0 0 0 0),(5,AV.vec fy 1 (us (Sp.lim y))),(6,vf (us (Sp.lim (x % y))))],[⟨[ag [vb false,AV.vnil]],2,0,false,false⟩],_,[],_⟩ (by kernel_rfl) (bc (beq_t (i3.2 d4)) b0) q0 (ce (@ev82 (fx) (fy) (x) (y) k5) c0) (H)
 ·have H:=H.2 d4
  have i6:((↑(us (Sp.lim y)).length:Int) == 0) = true ↔ ((↑(Sp.lim y).length:Int) = 0):=(by (try rw [w1]);all_goals exact i_eq)
  rcases xm ((↑(Sp.lim y).length:Int) = 0) with d7 | d7
  ·have H:=H.1 d7
   obtain ⟨k8,H⟩:=H
   exact path_rq (G:=given kp45 [(6,1,.call (bigA false (Sp.sg false x)) none)] []) 1000 [false,true] (bigA false (Sp.sg false x)) (by kernel_rfl) (bc (beq_f (fun h => d4 (i3.1 h))) (bc (beq_t (i6.2 d7)) (bc rfl b0))) q0 (ce (@ev83_b (false) (fx) (x) k8) c0) H
  ·have H:=H.2 d7
   obtain ⟨k9,H⟩:=H
   obtain ⟨k10,H⟩:=H
   exact path_wp (G:=given kp45 [(7,1,.call (vw (↑x:Int)) none),(7,3,.call (vw (↑y:Int)) none)] []) 1000 [false,false] ⟨(atC (cd Tryz.f45) [1,1,1,1,1,0,0,0]),[(4,AV.ptr 0 0 0 0),(9,vw (↑x:Int)),(10,vw (↑y:Int))],[⟨[ag [vb false,AV.vnil]],2,0,false,false⟩],_,[],_⟩ (by kernel_rfl) (bc (beq_f (fun h => d4 (i3.1 h))) (bc (beq_f (fun h => d7 (i6.1 h))) b0)) q0 (ce (@ev84 (fx) (x) k9) (ce (@ev84 (fy) (y) k10) c0)) (H)
theorem rGCDW (u v:Int)  (dq:AV) (H :
  ((v > 0) -> (¬v = 0) /\
   rGCDW_at (v) (u.tmod v) (PureQ dq)) /\
  (¬(v > 0) -> (0 <= u /\ u <= 18446744073709551615) /\
   (Sp.short (Sp.cnt u.toNat)) /\
   Weak (bigA false (Sp.sg false u.toNat)) dq)) :
 rGCDW_at u v (PureQ dq):=by
 unfold rGCDW_at
 rcases xm (v > 0) with d2 | d2
 ·have H:=H.1 d2
  obtain ⟨k4,H⟩:=H
  exact path_wp (G:=given kp45 [] []) 1000 [true] ⟨(atC (cd Tryz.f45) [1,1,1,1,1,0,0,0]),[(4,AV.ptr 0 0 0 0),(9,vw v),(10,vw (u.tmod v))],[⟨[ag [vb false,AV.vnil]],2,0,false,false⟩],_,[],_⟩ (by kernel_rfl) (bc (beq_t (i_dec.2 d2)) (bc (i_neq.2 k4) b0)) q0 c0 (H)
 ·have H:=H.2 d2
  obtain ⟨k5,H⟩:=H
  obtain ⟨k6,H⟩:=H
  exact path_rq (G:=given kp45 [(10,1,.call (vf (us (Sp.lim u.toNat))) none),(10,2,.call (bigA false (Sp.sg false u.toNat)) none)] []) 1000 [false] (bigA false (Sp.sg false u.toNat)) (by kernel_rfl) (bc (beq_f (fun h => d2 (i_dec.1 h))) (bc rfl b0)) q0 (ce (@ev85 (u) k5) (ce (@ev83_b (false) (false) (u.toNat) k6) c0)) H
end Go.Av

namespace Go.Av
open Go.Proofs
theorem ev121 (fa fb:Bool) (a b:Int) (h:Sp.cnt a.natAbs <= 399000 /\ Sp.cnt b.natAbs <= 399000 /\ b ≠ 0):Ev M1 (.pure 121 [bigA fa a,bigA fb b]) (.tup [bigA false (Sp.flo a b),bigA false (Sp.flr a b),.int .i64 0]) []:=by
 obtain ⟨ha,hb,h0⟩:=h
 have hl:=limI_len b
 have hd0:b.natAbs ≠ 0:=by omega
 have hm:=Nat.mod_lt a.natAbs (Nat.pos_of_ne_zero hd0)
 have heq:=sg_div (a:=a) h0
 have hc1:=cnt_mono (Nat.le_of_lt hm)
 have hc2:=cnt_mono (Nat.div_le_self a.natAbs b.natAbs)
 have okb:Sp.okB b:=by unfold Sp.okB;omega
 have okr:Sp.okB (Sp.sg (Sp.isNeg a) (a.natAbs % b.natAbs)):=by unfold Sp.okB;rw [sg_natAbs];omega
 have okq:Sp.okB (Sp.sg (!(Sp.isNeg a == Sp.isNeg b)) (a.natAbs / b.natAbs)):=by unfold Sp.okB;rw [sg_natAbs];omega
 have hra:(Sp.sg (Sp.isNeg a) (a.natAbs % b.natAbs)).natAbs = a.natAbs % b.natAbs:=sg_natAbs _ _
 have hrl:=lim_len (a.natAbs % b.natAbs)
 have hrc:=cnt_eq_zero (v:=a.natAbs % b.natAbs)
 have hneg:(Sp.isNeg a = true -> Sp.sg (Sp.isNeg a) (a.natAbs % b.natAbs) <= 0) /\ (¬Sp.isNeg a = true -> 0 <= Sp.sg (Sp.isNeg a) (a.natAbs % b.natAbs)):=by
  unfold Sp.sg
  exact ⟨fun h => by rw [if_pos h];omega,fun h => by rw [if_neg h];omega⟩
 refine call121 (rDivMod _ _ _ _ _ ⟨fun h => ?_,fun _ => ⟨⟨ha,hb,h0⟩,by unfold Sp.short;omega,by unfold Sp.short;omega,fun k => ⟨by unfold Sp.inI;omega,okq,⟨okr,okb⟩,?_⟩,fun k => ?_⟩⟩)
 ·have:=cnt_eq_zero (v:=b.natAbs)
  omega
 ·obtain ⟨k1,k2⟩:=k
  have hne:a.natAbs % b.natAbs ≠ 0:=by omega
  generalize Sp.sg (Sp.isNeg a) (a.natAbs % b.natAbs) = r at *
  generalize Sp.sg (!(Sp.isNeg a == Sp.isNeg b)) (a.natAbs / b.natAbs) = q at *
  have hs:(r < 0 /\ 0 < b) \/ (0 < r /\ b < 0):=by
   by_cases ka:Sp.isNeg a = true
   ·have:=hneg.1 ka
    have kb:¬b < 0:=fun x => k2 (by rw [ka,isNeg_iff.2 x])
    exact .inl ⟨by omega,by omega⟩
   ·have:=hneg.2 ka
    by_cases kb:b < 0
    ·exact .inr ⟨by omega,kb⟩
    ·exact absurd (by rw [Bool.eq_false_iff.2 ka,isNeg_false kb]) k2
  obtain ⟨e1,e2⟩:=flo_unique (a:=a) (b:=b) (q:=q - 1) (r:=r + b) (by grind) (by omega)
  rw [e1,e2]
  exact .refl _
 ·generalize hr:Sp.sg (Sp.isNeg a) (a.natAbs % b.natAbs) = r at *
  generalize Sp.sg (!(Sp.isNeg a == Sp.isNeg b)) (a.natAbs / b.natAbs) = q at *
  have hs:r = 0 \/ (r < 0 /\ b < 0) \/ (0 < r /\ 0 < b):=by
   by_cases hz:a.natAbs % b.natAbs = 0
   ·left;omega
   ·right
    have k:Sp.isNeg a = Sp.isNeg b:=Classical.byContradiction fun k2 => k ⟨by omega,k2⟩
    by_cases ka:Sp.isNeg a = true
    ·have:=hneg.1 ka
     exact .inl ⟨by omega,isNeg_iff.1 (k ▸ ka)⟩
    ·have:=hneg.2 ka
     have:¬b < 0:=fun x => ka (by rw [k];exact isNeg_iff.2 x)
     exact .inr ⟨by omega,by omega⟩
  obtain ⟨e1,e2⟩:=flo_unique (a:=a) (b:=b) (q:=q) (r:=r) heq (by omega)
  rw [e1,e2]
  exact .refl _
theorem gcd_step (x y:Nat):Nat.gcd y (x % y) = Nat.gcd x y:=by rw [Nat.gcd_comm x y,Nat.gcd_rec y x,Nat.gcd_comm]
theorem rgcdW (n:Nat):∀ u v:Nat,v <= n -> u <= 18446744073709551615 -> v <= 18446744073709551615 -> rGCDW_at u v (PureQ (bigA false (Nat.gcd u v:Nat))):=by
 have base:∀ u:Nat,u <= 18446744073709551615 -> rGCDW_at u (0:Nat) (PureQ (bigA false (Nat.gcd u 0:Nat))):=by
  intro u hu
  refine rGCDW _ _ _ ⟨fun h => by omega,fun _ => ⟨by omega,by have:=cnt_u64 (u:=u) hu;rw [Int.toNat_natCast];unfold Sp.short;omega,?_⟩⟩
  rw [Int.toNat_natCast,sg_false,Nat.gcd_zero_right];exact .refl _
 induction n with
 | zero =>
  intro u v hv hu hv2
  have:v = 0:=by omega
  subst this
  exact base u hu
 | succ n ih =>
  intro u v hv hu hv2
  by_cases h0:v = 0
  ·subst h0;exact base u hu
  ·refine rGCDW _ _ _ ⟨fun h => ⟨by omega,?_⟩,fun h => absurd h (by omega)⟩
   rw [<- Int.ofNat_tmod]
   have hlt:=Nat.mod_lt u (show 0 < v by omega)
   have:=ih v (u % v) (by omega) hv2 (by omega)
   rwa [gcd_step] at this
theorem rgcdH (n:Nat):∀ (fx fy:Bool) (x y:Nat),y <= n -> Sp.cnt x <= 399000 -> Sp.cnt y <= 399000 -> rGCDH_at fx fy x y (PureQ (bigA false (Nat.gcd x y:Nat))):=by
 have small:∀ x:Nat,Sp.cnt x <= 2 -> x <= 18446744073709551615:=by
  intro x h
  have f:=fits_mono (fits_self x) h
  have:x < 1000000000000000000:=by unfold Sp.fits at f;simpa using f
  omega
 induction n with
 | zero =>
  intro fx fy x y hy hx hcy
  have:y = 0:=by omega
  subst this
  refine rGCDH _ _ _ _ _ ⟨fun h => ?_,fun _ => ⟨fun _ => ⟨by unfold Sp.short;omega,?_⟩,fun h => ?_⟩⟩
  ·have:=h.1
   rw [lim_len,cnt_zero] at this;omega
  ·rw [sg_false,Nat.gcd_zero_right];exact .refl _
  ·rw [lim_len,cnt_zero] at h;omega
 | succ n ih =>
  intro fx fy x y hy hx hcy
  have hc:=cnt_eq_zero (v:=y)
  refine rGCDH _ _ _ _ _ ⟨fun h => ?_,fun h => ⟨fun k => ⟨by unfold Sp.short;omega,?_⟩,fun k => ?_⟩⟩
  ·rw [lim_len,lim_len] at h
   have h0:y ≠ 0:=fun e => by have:=hc.2 e;omega
   have hlt:=Nat.mod_lt x (show 0 < y by omega)
   have:=ih fy false y (x % y) (by omega) hcy (by have:=cnt_mono (Nat.le_of_lt hlt);omega)
   rw [gcd_step] at this
   exact ⟨⟨hx,hcy,h0⟩,this⟩
  ·rw [lim_len] at k
   have:y = 0:=hc.1 (by omega)
   rw [this,sg_false,Nat.gcd_zero_right];exact .refl _
  ·rw [lim_len,lim_len] at h
   rw [lim_len] at k
   exact ⟨by omega,by omega,rgcdW y x y (Nat.le_refl _) (small x (by omega)) (small y (by omega))⟩
theorem ev45 (fa fb:Bool) (a b:Int) (h:Sp.cnt a.natAbs <= 399000 /\ Sp.cnt b.natAbs <= 399000):Ev M1 (.pure 45 [bigA fa a,bigA fb b]) (bigA false (Int.gcd a b:Nat)) []:=
 call45 (rGCD _ _ _ _ _ (rgcdH b.natAbs fa fb a.natAbs b.natAbs (Nat.le_refl _) h.1 h.2))
end Go.Av

namespace Go.Av
open Go.Proofs
end Go.Av

namespace Go.Av
open Go.Proofs
set_option maxRecDepth 100000
end Go.Av

namespace Go.Av
open Go.Proofs
set_option maxRecDepth 100000
def fi106:Fi:=⟨2,[.cell 0 34]⟩
def kp106:List (Nat × List Nat):=[(0,[0]),(1,[0])]
def fi107:Fi:=⟨16,[.cell 4 34]⟩
def kp107:List (Nat × List Nat):=[(0,[2,3,4]),(1,[4,5]),(2,[4])]
def vUnit_at  (Q:AV -> Heap -> Prop):Prop:=Wp M1 (.run fi106 (atC (cd Tryz.f106) []) [] []) Q
def vExact_at (fa fb:Bool) (a b:Int) (Q:AV -> Heap -> Prop):Prop:=Wp M1 (.run fi107 (atC (cd Tryz.f107) []) [(0,bigA fa a),(1,bigA fb b)] []) Q
theorem call106 {args:List AV} {d:AV} (h:wc M1 fi106 Tryz.f106 args d):Ev M1 (.pure 106 args) d []:=pcl _ _ (by kernel_rfl) h
theorem call107 {args:List AV} {d:AV} (h:wc M1 fi107 Tryz.f107 args d):Ev M1 (.pure 107 args) d []:=pcl _ _ (by kernel_rfl) h
theorem vUnit   (dq:AV) (H :
  (Sp.inI 1) /\
  Weak (ag [vb false,vf (us (Sp.limI 1))]) dq) :
 vUnit_at  (PureQ dq):=by
 unfold vUnit_at
 obtain ⟨k1,H⟩:=H
 exact path_rq (G:=given kp106 [(1,0,.call (ag [vb false,vf (us (Sp.limI 1))]) none)] []) 1000 [] (ag [vb false,vf (us (Sp.limI 1))]) (by kernel_rfl) (bc rfl b0) q0 (ce (@ev72 (1) k1) c0) H
theorem vExact (fa fb:Bool) (a b:Int)  (dq:AV) (H :
  (Sp.okB a /\ Sp.okB b /\ b ≠ 0) /\
  Weak (bigA false (Sp.flo a b)) dq) :
 vExact_at fa fb a b (PureQ dq):=by
 unfold vExact_at
 obtain ⟨k1,H⟩:=H
 exact path_rq (G:=given kp107 [(1,2,.call (tu [bigA false (Sp.flo a b),bigA false (Sp.flr a b),vi 0]) none)] []) 1000 [] (bigA false (Sp.flo a b)) (by kernel_rfl) (bc rfl (bc rfl (bc rfl (bc rfl (bc rfl (bc rfl b0)))))) q0 (ce (@ev129 (fa) (fb) (a) (b) k1) c0) H
end Go.Av

namespace Go.Av
open Go.Proofs
theorem ev106:Ev M1 (.pure 106 []) (.agg [.bool false,.vec false 1 ((Sp.limI 1).map (.int .u32))]) []:=
 call106 (vUnit _ ⟨by unfold Sp.inI;omega,.refl _⟩)
theorem ev107 (fa fb:Bool) (a b:Int) (h:Sp.okB a /\ Sp.okB b /\ b ≠ 0):Ev M1 (.pure 107 [bigA fa a,bigA fb b]) (bigA false (Sp.flo a b)) []:=
 call107 (vExact _ _ _ _ _ ⟨h,.refl _⟩)
theorem ev76_a (fa:Bool) (a:Int) (h:Sp.okB a):Ev M1 (.pure 76 [bigA fa a,.agg [.bool false,.vec false 1 ((Sp.limI 1).map (.int .u32))]]) (.int .i64 (Sp.sgnI (a - 1))) []:=
 ev76 fa false a 1 ⟨h,okB_small (by decide)⟩
end Go.Av

namespace Go.Av
open Go.Proofs
set_option maxRecDepth 100000
def fi63:Fi:=⟨9,[.cell 2 36]⟩
def kp63:List (Nat × List Nat):=[(0,[1,2]),(1,[2])]
def fi71:Fi:=⟨29,[.cell 4 36]⟩
def kp71:List (Nat × List Nat):=[(0,[2,3,4]),(1,[2,3,4,8]),(2,[2,3,4]),(3,[2,3,4,5]),(4,[2,3,4,5,19]),(5,[2,3,4]),(6,[4])]
def fi73:Fi:=⟨6,[.cell 2 36]⟩
def kp73:List (Nat × List Nat):=[(0,[1,2]),(1,[2])]
def fi75:Fi:=⟨6,[.tmp 2]⟩
def kp75:List (Nat × List Nat):=[(0,[1]),(1,[2])]
def fi119:Fi:=⟨22,[.cell 2 34,.tmp 3]⟩
def kp119:List (Nat × List Nat):=[(0,[1,2]),(1,[1,2,4,5]),(2,[2,3])]
def vWhole_at (fa:Bool) (a:Int) (Q:AV -> Heap -> Prop):Prop:=Wp M1 (.run fi73 (atC (cd Tryz.f73) []) [(0,bigA fa a)] []) Q
def vReduce_at (fa fb:Bool) (a b:Int) (Q:AV -> Heap -> Prop):Prop:=Wp M1 (.run fi71 (atC (cd Tryz.f71) []) [(0,bigA fa a),(1,bigA fb b)] []) Q
def vRSign_at (fa ga:Bool) (p q:Int) (Q:AV -> Heap -> Prop):Prop:=Wp M1 (.run fi75 (atC (cd Tryz.f75) []) [(0,.agg [.bool (Sp.isNeg p),.vec fa 1 ((Sp.limI p).map (.int .u32)),.bool (Sp.isNeg q),.vec ga 1 ((Sp.limI q).map (.int .u32))])] []) Q
def vRNeg_at (fa ga:Bool) (p q:Int) (Q:AV -> Heap -> Prop):Prop:=Wp M1 (.run fi63 (atC (cd Tryz.f63) []) [(0,.agg [.bool (Sp.isNeg p),.vec fa 1 ((Sp.limI p).map (.int .u32)),.bool (Sp.isNeg q),.vec ga 1 ((Sp.limI q).map (.int .u32))])] []) Q
def vSide_at (fa:Bool) (a:Int) (Q:AV -> Heap -> Prop):Prop:=Wp M1 (.run fi119 (atC (cd Tryz.f119) []) [(0,bigA fa a)] []) Q
theorem call63 {args:List AV} {d:AV} (h:wc M1 fi63 Tryz.f63 args d):Ev M1 (.pure 63 args) d []:=pcl _ _ (by kernel_rfl) h
theorem call71 {args:List AV} {d:AV} (h:wc M1 fi71 Tryz.f71 args d):Ev M1 (.pure 71 args) d []:=pcl _ _ (by kernel_rfl) h
theorem call73 {args:List AV} {d:AV} (h:wc M1 fi73 Tryz.f73 args d):Ev M1 (.pure 73 args) d []:=pcl _ _ (by kernel_rfl) h
theorem call75 {args:List AV} {d:AV} (h:wc M1 fi75 Tryz.f75 args d):Ev M1 (.pure 75 args) d []:=pcl _ _ (by kernel_rfl) h
theorem call119 {args:List AV} {d:AV} (h:wc M1 fi119 Tryz.f119 args d):Ev M1 (.pure 119 args) d []:=pcl _ _ (by kernel_rfl) h
theorem vWhole (fa:Bool) (a:Int)  (dq:AV) (H :
  Weak (ag [vb (Sp.isNeg a),AV.vec fa 1 (us (Sp.limI a)),vb false,vf (us (Sp.limI 1))]) dq) :
 vWhole_at fa a (PureQ dq):=by
 unfold vWhole_at
 exact path_rq (G:=given kp73 [(1,1,.call (ag [vb false,vf (us (Sp.limI 1))]) none)] []) 1000 [] (ag [vb (Sp.isNeg a),AV.vec fa 1 (us (Sp.limI a)),vb false,vf (us (Sp.limI 1))]) (by kernel_rfl) (bc rfl (bc rfl b0)) q0 (ce (@ev106 ) c0) H
noncomputable abbrev zNvJ1:=ag [vb false,AV.vnil,vb false,AV.vnil]
theorem vReduce (fa fb:Bool) (a b:Int)  (dq:AV) (H :
  ((Sp.sgnI b < 0) -> (Sp.okB a) /\
   (Sp.okB b) /\
   (Sp.okB (-a) /\ Sp.okB (-b)) /\
   (Sp.okB (↑((-a).gcd (-b)):Int)) /\
   ((¬Sp.sgnI ((↑((-a).gcd (-b)):Int) - 1) = 0) -> (Sp.okB (-a) /\ Sp.okB (↑((-a).gcd (-b)):Int) /\ (↑((-a).gcd (-b)):Int) ≠ 0) /\
    (Sp.okB (-b) /\ Sp.okB (↑((-a).gcd (-b)):Int) /\ (↑((-a).gcd (-b)):Int) ≠ 0) /\
    Weak (ag [vb (Sp.isNeg (Sp.flo (-a) (↑((-a).gcd (-b)):Int))),vf (us (Sp.limI (Sp.flo (-a) (↑((-a).gcd (-b)):Int)))),vb (Sp.isNeg (Sp.flo (-b) (↑((-a).gcd (-b)):Int))),vf (us (Sp.limI (Sp.flo (-b) (↑((-a).gcd (-b)):Int))))]) dq) /\
   (¬(¬Sp.sgnI ((↑((-a).gcd (-b)):Int) - 1) = 0) -> Weak (ag [vb (Sp.isNeg (-a)),vf (us (Sp.limI (-a))),vb (Sp.isNeg (-b)),vf (us (Sp.limI (-b)))]) dq)) /\
  (¬(Sp.sgnI b < 0) -> (Sp.okB a /\ Sp.okB b) /\
   (Sp.okB (↑(a.gcd b):Int)) /\
   ((¬Sp.sgnI ((↑(a.gcd b):Int) - 1) = 0) -> (Sp.okB a /\ Sp.okB (↑(a.gcd b):Int) /\ (↑(a.gcd b):Int) ≠ 0) /\
    (Sp.okB b /\ Sp.okB (↑(a.gcd b):Int) /\ (↑(a.gcd b):Int) ≠ 0) /\
    Weak (ag [vb (Sp.isNeg (Sp.flo a (↑(a.gcd b):Int))),vf (us (Sp.limI (Sp.flo a (↑(a.gcd b):Int)))),vb (Sp.isNeg (Sp.flo b (↑(a.gcd b):Int))),vf (us (Sp.limI (Sp.flo b (↑(a.gcd b):Int))))]) dq) /\
   (¬(¬Sp.sgnI ((↑(a.gcd b):Int) - 1) = 0) -> Weak (ag [vb (Sp.isNeg a),AV.vec fa 1 (us (Sp.limI a)),vb (Sp.isNeg b),AV.vec fb 1 (us (Sp.limI b))]) dq))) :
 vReduce_at fa fb a b (PureQ dq):=by
 unfold vReduce_at
 refine path_wp (G:=given kp71 [(1,1,.call (vi (Sp.sgnI b)) none)] []) 5 [] ⟨(atC (cd Tryz.f71) [1,0,1]),[(2,AV.ptr 0 0 0 0),(3,AV.ptr 1 0 0 0),(4,AV.ptr 2 0 0 0),(8,vb (decide (Sp.sgnI b < 0)))],[⟨[bigA fa a],2,0,false,false⟩,⟨[bigA fb b],2,0,false,false⟩,⟨[zNvJ1],4,0,false,false⟩],_,[],_⟩ (by kernel_rfl) (bc rfl b0) q0 (ce (@ev104 (fb) (b)) c0) ?_
 rcases xm (Sp.sgnI b < 0) with d2 | d2
 ·have H:=H.1 d2
  obtain ⟨k3,H⟩:=H
  obtain ⟨k4,H⟩:=H
  obtain ⟨k5,H⟩:=H
  obtain ⟨k6,H⟩:=H
  refine path_wp (G:=given kp71 [(2,1,.call (bigA false (-a)) none),(2,3,.call (bigA false (-b)) none),(3,2,.call (bigA false (↑((-a).gcd (-b)):Int)) none),(4,1,.call (ag [vb false,vf (us (Sp.limI 1))]) none),(4,2,.call (vi (Sp.sgnI ((↑((-a).gcd (-b)):Int) - 1))) none)] []) 7 [true] ⟨(atC (cd Tryz.f71) [1,1,0,1,1]),[(2,AV.ptr 0 0 0 0),(3,AV.ptr 1 0 0 0),(4,AV.ptr 2 0 0 0),(5,AV.ptr 3 0 0 0),(19,vb (Sp.sgnI ((↑((-a).gcd (-b)):Int) - 1) != 0))],[⟨[bigA false (-a)],2,0,false,false⟩,⟨[bigA false (-b)],2,0,false,false⟩,⟨[zNvJ1],4,0,false,false⟩,⟨[bigA false (↑((-a).gcd (-b)):Int)],2,0,false,false⟩],_,[],_⟩ (by kernel_rfl) (bc (beq_t (i_dec.2 d2)) (bc rfl (bc rfl (bc rfl (bc rfl (bc rfl (bc rfl (bc rfl (bc rfl b0))))))))) q0 (ce (@ev93 (fa) (a) k3) (ce (@ev93 (fb) (b) k4) (ce (@ev105 (false) (false) (-a) (-b) k5) (ce (@ev106 ) (ce (@ev76_a (false) ((↑((-a).gcd (-b)):Int)) k6) c0))))) ?_
  rcases xm (¬Sp.sgnI ((↑((-a).gcd (-b)):Int) - 1) = 0) with d8 | d8
  ·have H:=H.1 d8
   obtain ⟨k9,H⟩:=H
   obtain ⟨k10,H⟩:=H
   exact path_rq (G:=given kp71 [(5,2,.call (bigA false (Sp.flo (-a) (↑((-a).gcd (-b)):Int))) none),(5,5,.call (bigA false (Sp.flo (-b) (↑((-a).gcd (-b)):Int))) none)] []) 1000 [true] (ag [vb (Sp.isNeg (Sp.flo (-a) (↑((-a).gcd (-b)):Int))),vf (us (Sp.limI (Sp.flo (-a) (↑((-a).gcd (-b)):Int)))),vb (Sp.isNeg (Sp.flo (-b) (↑((-a).gcd (-b)):Int))),vf (us (Sp.limI (Sp.flo (-b) (↑((-a).gcd (-b)):Int))))]) (by kernel_rfl) (bc (beq_t (i_ne.2 d8)) (bc rfl (bc rfl (bc rfl (bc rfl (bc rfl (bc rfl (bc rfl (bc rfl (bc rfl b0)))))))))) q0 (ce (@ev107 (false) (false) (-a) ((↑((-a).gcd (-b)):Int)) k9) (ce (@ev107 (false) (false) (-b) ((↑((-a).gcd (-b)):Int)) k10) c0)) H
  ·have H:=H.2 d8
   exact path_rq (G:=given kp71 [] []) 1000 [false] (ag [vb (Sp.isNeg (-a)),vf (us (Sp.limI (-a))),vb (Sp.isNeg (-b)),vf (us (Sp.limI (-b)))]) (by kernel_rfl) (bc (beq_f (fun h => d8 (i_ne.1 h))) (bc rfl (bc rfl (bc rfl b0)))) q0 c0 H
 ·have H:=H.2 d2
  obtain ⟨k11,H⟩:=H
  obtain ⟨k12,H⟩:=H
  refine path_wp (G:=given kp71 [(3,2,.call (bigA false (↑(a.gcd b):Int)) none),(4,1,.call (ag [vb false,vf (us (Sp.limI 1))]) none),(4,2,.call (vi (Sp.sgnI ((↑(a.gcd b):Int) - 1))) none)] []) 7 [false] ⟨(atC (cd Tryz.f71) [1,1,0,1,1]),[(2,AV.ptr 0 0 0 0),(3,AV.ptr 1 0 0 0),(4,AV.ptr 2 0 0 0),(5,AV.ptr 3 0 0 0),(19,vb (Sp.sgnI ((↑(a.gcd b):Int) - 1) != 0))],[⟨[bigA fa a],2,0,false,false⟩,⟨[bigA fb b],2,0,false,false⟩,⟨[zNvJ1],4,0,false,false⟩,⟨[bigA false (↑(a.gcd b):Int)],2,0,false,false⟩],_,[],_⟩ (by kernel_rfl) (bc (beq_f (fun h => d2 (i_dec.1 h))) (bc rfl (bc rfl (bc rfl (bc rfl b0))))) q0 (ce (@ev105 (fa) (fb) (a) (b) k11) (ce (@ev106 ) (ce (@ev76_a (false) ((↑(a.gcd b):Int)) k12) c0))) ?_
  rcases xm (¬Sp.sgnI ((↑(a.gcd b):Int) - 1) = 0) with d14 | d14
  ·have H:=H.1 d14
   obtain ⟨k15,H⟩:=H
   obtain ⟨k16,H⟩:=H
   exact path_rq (G:=given kp71 [(5,2,.call (bigA false (Sp.flo a (↑(a.gcd b):Int))) none),(5,5,.call (bigA false (Sp.flo b (↑(a.gcd b):Int))) none)] []) 1000 [true] (ag [vb (Sp.isNeg (Sp.flo a (↑(a.gcd b):Int))),vf (us (Sp.limI (Sp.flo a (↑(a.gcd b):Int)))),vb (Sp.isNeg (Sp.flo b (↑(a.gcd b):Int))),vf (us (Sp.limI (Sp.flo b (↑(a.gcd b):Int))))]) (by kernel_rfl) (bc (beq_t (i_ne.2 d14)) (bc rfl (bc rfl (bc rfl (bc rfl (bc rfl (bc rfl (bc rfl (bc rfl (bc rfl b0)))))))))) q0 (ce (@ev107 (fa) (false) (a) ((↑(a.gcd b):Int)) k15) (ce (@ev107 (fb) (false) (b) ((↑(a.gcd b):Int)) k16) c0)) H
  ·have H:=H.2 d14
   exact path_rq (G:=given kp71 [] []) 1000 [false] (ag [vb (Sp.isNeg a),AV.vec fa 1 (us (Sp.limI a)),vb (Sp.isNeg b),AV.vec fb 1 (us (Sp.limI b))]) (by kernel_rfl) (bc (beq_f (fun h => d14 (i_ne.1 h))) (bc rfl (bc rfl (bc rfl b0)))) q0 c0 H
theorem vRSign (fa ga:Bool) (p q:Int)  (dq:AV) (H :
  vi (Sp.sgnI p) = dq) :
 vRSign_at fa ga p q (PureQ dq):=by
 unfold vRSign_at
 exact path_re (G:=given kp75 [(1,2,.call (vi (Sp.sgnI p)) none)] []) 1000 [] (vi (Sp.sgnI p)) (by kernel_rfl) (bc rfl b0) q0 (ce (@ev104 (fa) (p)) c0) H
theorem vRNeg (fa ga:Bool) (p q:Int)  (dq:AV) (H :
  (Sp.okB p) /\
  Weak (ag [vb (Sp.isNeg (-p)),vf (us (Sp.limI (-p))),vb (Sp.isNeg q),AV.vec ga 1 (us (Sp.limI q))]) dq) :
 vRNeg_at fa ga p q (PureQ dq):=by
 unfold vRNeg_at
 obtain ⟨k1,H⟩:=H
 exact path_rq (G:=given kp63 [(1,2,.call (bigA false (-p)) none)] []) 1000 [] (ag [vb (Sp.isNeg (-p)),vf (us (Sp.limI (-p))),vb (Sp.isNeg q),AV.vec ga 1 (us (Sp.limI q))]) (by kernel_rfl) (bc rfl (bc rfl (bc rfl b0))) q0 (ce (@ev93 (fa) (p) k1) c0) H
theorem vSide (fa:Bool) (a:Int)  (dq:AV) (H :
  (Sp.okS a) /\
  ((Sp.sqe a = 0) -> (Sp.okB (Sp.sq a) /\ Sp.okB (Sp.sq a))) /\
  ((Sp.sqe a = 0) -> (Sp.okB (Sp.sq a * Sp.sq a) /\ Sp.okB a)) /\
  Weak (tu [bigA false (Sp.sq a),vb (bif Sp.sqe a == 0 then Sp.sgnI (Sp.sq a * Sp.sq a - a) == 0 else false)]) dq) :
 vSide_at fa a (PureQ dq):=by
 unfold vSide_at
 obtain ⟨k1,H⟩:=H
 obtain ⟨k3,H⟩:=H
 obtain ⟨k5,H⟩:=H
 exact path_rq (G:=given kp119 [(1,1,.call (tu [bigA false (Sp.sq a),vi (Sp.sqe a)]) none),(2,6,.call (bigA false (Sp.sq a * Sp.sq a)) none),(2,8,.call (vi (Sp.sgnI (Sp.sq a * Sp.sq a - a))) none)] []) 1000 [] (asm:=[true,true,true,!((Sp.sqe a == 0) == true && true) || true,!((Sp.sqe a == 0) == true && true) || true,!((Sp.sqe a == 0) == true && true) || true,true]) (calls:=[⟨true,false,117,[bigA fa a],[],tu [bigA false (Sp.sq a),vi (Sp.sqe a)],[]⟩,⟨(Sp.sqe a == 0) == true && true && true,false,77,[bigA false (Sp.sq a),bigA false (Sp.sq a)],[],bigA false (Sp.sq a * Sp.sq a),[]⟩,⟨(Sp.sqe a == 0) == true && true && true,false,76,[bigA false (Sp.sq a * Sp.sq a),bigA fa a],[],vi (Sp.sgnI (Sp.sq a * Sp.sq a - a)),[]⟩]) (tu [bigA false (Sp.sq a),vb (bif Sp.sqe a == 0 then Sp.sgnI (Sp.sq a * Sp.sq a - a) == 0 else false)]) (by kernel_rfl) (bc rfl (bc rfl (bc rfl (bc (Bool.or_true _) (bc (Bool.or_true _) (bc (Bool.or_true _) (bc rfl b0))))))) q0 (cc (fun _ => (@ev117 (fa) (a) k1)) (cc (fun hc => ((@ev77 (false) (false) (Sp.sq a) (Sp.sq a) (k3 ((i_at (i_at (i_bt i_eq))).1 hc))):Ev M1 (Conf.pure 77 [bigA false (Sp.sq a),bigA false (Sp.sq a)]) (bigA false (Sp.sq a * Sp.sq a)) [])) (cc (fun hc => ((@ev76 (false) (fa) (Sp.sq a * Sp.sq a) (a) (k5 ((i_at (i_at (i_bt i_eq))).1 hc))):Ev M1 (Conf.pure 76 [bigA false (Sp.sq a * Sp.sq a),bigA fa a]) (vi (Sp.sgnI (Sp.sq a * Sp.sq a - a))) [])) c0))) H
end Go.Av

namespace Go.Av
open Go.Proofs
abbrev ratA (f g:Bool) (r:Rat):AV:=.agg [.bool (Sp.isNeg r.num),.vec f 1 ((Sp.limI r.num).map (.int .u32)),.bool (Sp.isNeg (r.den:Int)),.vec g 1 ((Sp.limI (r.den:Int)).map (.int .u32))]
theorem weak_rat (b d f g:Bool) (xs ys:List AV):Weak (.agg [.bool b,.vec f 1 xs,.bool d,.vec g 1 ys]) (.agg [.bool b,.vec false 1 xs,.bool d,.vec false 1 ys]):=by
 refine .agg _ _ rfl fun i x y hx hy => ?_
 match i with
 | 0 => simp at hx hy;subst hx;subst hy;exact .refl _
 | 1 => simp at hx hy;subst hx;subst hy;exact weak_vec _ _ _
 | 2 => simp at hx hy;subst hx;subst hy;exact .refl _
 | 3 => simp at hx hy;subst hx;subst hy;exact weak_vec _ _ _
 | i + 4 => simp at hx
theorem rat_neg {a b:Int} (h:b < 0):(Rat.divInt a b).num = (-a) / (((-a).gcd (-b):Nat):Int) /\ ((Rat.divInt a b).den:Int) = (-b) / (((-a).gcd (-b):Nat):Int):=by
 have e:(-a).gcd (-b) = b.gcd a:=by rw [Int.neg_gcd,Int.gcd_neg,Int.gcd_comm]
 rw [e,Rat.num_divInt,Rat.den_divInt,if_neg (by omega),Int.sign_eq_neg_one_of_neg h]
 refine ⟨by rw [Int.neg_mul,Int.one_mul],?_⟩
 have e2:((b.natAbs / b.gcd a:Nat):Int) = (b.natAbs:Int) / (b.gcd a:Int):=rfl
 rw [e2]
 congr 1;omega
theorem rat_pos {a b:Int} (h:0 < b):(Rat.divInt a b).num = a / ((a.gcd b:Nat):Int) /\ ((Rat.divInt a b).den:Int) = b / ((a.gcd b:Nat):Int):=by
 have e:a.gcd b = b.gcd a:=Int.gcd_comm _ _
 rw [e,Rat.num_divInt,Rat.den_divInt,if_neg (by omega),Int.sign_eq_one_of_pos h]
 refine ⟨by rw [Int.one_mul],?_⟩
 have e2:((b.natAbs / b.gcd a:Nat):Int) = (b.natAbs:Int) / (b.gcd a:Int):=rfl
 rw [e2]
 congr 1;omega
theorem gcd_okB {a b:Int} (hb:b ≠ 0) (h:Sp.okB b):Sp.okB ((a.gcd b:Nat):Int) /\ ((a.gcd b:Nat):Int) ≠ 0:=by
 have h1:0 < a.gcd b:=Int.gcd_pos_of_ne_zero_right _ hb
 have h2:a.gcd b <= b.natAbs:=Nat.le_of_dvd (by omega) (Int.gcd_dvd_natAbs_right a b)
 have:=cnt_mono h2
 refine ⟨?_,by omega⟩
 unfold Sp.okB at *
 rw [Int.natAbs_natCast];omega
theorem flo_pos {a:Int} {g:Nat} (h:(g:Int) ≠ 0):Sp.flo a (g:Int) = a / (g:Int):=by
 unfold Sp.flo
 rw [if_pos (by omega)]
theorem ev71 (fa fb:Bool) (a b:Int) (h:Sp.okB a /\ Sp.okB b /\ b ≠ 0):Ev M1 (.pure 71 [bigA fa a,bigA fb b]) (ratA false false (Rat.divInt a b)) []:=by
 obtain ⟨ha,hb,h0⟩:=h
 have hna:Sp.okB (-a):=by unfold Sp.okB at *;rwa [Int.natAbs_neg]
 have hnb:Sp.okB (-b):=by unfold Sp.okB at *;rwa [Int.natAbs_neg]
 refine call71 (vReduce _ _ _ _ _ ⟨fun k => ?_,fun k => ?_⟩)
 ·rw [sgnI_lt] at k
  obtain ⟨g1,g2⟩:=gcd_okB (a:=-a) (b:=-b) (by omega) hnb
  obtain ⟨r1,r2⟩:=rat_neg (a:=a) k
  refine ⟨ha,hb,⟨hna,hnb⟩,g1,fun _ => ⟨⟨hna,g1,g2⟩,⟨hnb,g1,g2⟩,?_⟩,fun k2 => ?_⟩
  ·show Weak _ (AV.agg [.bool (Sp.isNeg (Rat.divInt a b).num),.vec false 1 ((Sp.limI (Rat.divInt a b).num).map (.int .u32)),.bool (Sp.isNeg ((Rat.divInt a b).den:Int)),.vec false 1 ((Sp.limI ((Rat.divInt a b).den:Int)).map (.int .u32))])
   rw [r1,r2,flo_pos g2,flo_pos g2];exact .refl _
  ·have k2:=sgnI_zero.1 (Classical.not_not.1 k2)
   have e:(((-a).gcd (-b):Nat):Int) = 1:=by omega
   show Weak _ (AV.agg [.bool (Sp.isNeg (Rat.divInt a b).num),.vec false 1 ((Sp.limI (Rat.divInt a b).num).map (.int .u32)),.bool (Sp.isNeg ((Rat.divInt a b).den:Int)),.vec false 1 ((Sp.limI ((Rat.divInt a b).den:Int)).map (.int .u32))])
   rw [r1,r2,e,Int.ediv_one,Int.ediv_one];exact weak_rat _ _ _ _ _ _
 ·rw [sgnI_lt] at k
  obtain ⟨g1,g2⟩:=gcd_okB (a:=a) (b:=b) h0 hb
  obtain ⟨r1,r2⟩:=rat_pos (a:=a) (show 0 < b by omega)
  refine ⟨⟨ha,hb⟩,g1,fun _ => ⟨⟨ha,g1,g2⟩,⟨hb,g1,g2⟩,?_⟩,fun k2 => ?_⟩
  ·show Weak _ (AV.agg [.bool (Sp.isNeg (Rat.divInt a b).num),.vec false 1 ((Sp.limI (Rat.divInt a b).num).map (.int .u32)),.bool (Sp.isNeg ((Rat.divInt a b).den:Int)),.vec false 1 ((Sp.limI ((Rat.divInt a b).den:Int)).map (.int .u32))])
   rw [r1,r2,flo_pos g2,flo_pos g2];exact .refl _
  ·have k2:=sgnI_zero.1 (Classical.not_not.1 k2)
   have e:((a.gcd b:Nat):Int) = 1:=by omega
   show Weak _ (AV.agg [.bool (Sp.isNeg (Rat.divInt a b).num),.vec false 1 ((Sp.limI (Rat.divInt a b).num).map (.int .u32)),.bool (Sp.isNeg ((Rat.divInt a b).den:Int)),.vec false 1 ((Sp.limI ((Rat.divInt a b).den:Int)).map (.int .u32))])
   rw [r1,r2,e,Int.ediv_one,Int.ediv_one];exact weak_rat _ _ _ _ _ _
theorem ev75 (fa ga:Bool) (p q:Int):Ev M1 (.pure 75 [.agg [.bool (Sp.isNeg p),.vec fa 1 ((Sp.limI p).map (.int .u32)),.bool (Sp.isNeg q),.vec ga 1 ((Sp.limI q).map (.int .u32))]]) (.int .i64 (Sp.sgnI p)) []:=
 call75 (vRSign _ _ _ _ _ rfl)
end Go.Av

namespace Go.Av
open Go.Proofs
theorem ev63 (fa ga:Bool) (r:Rat) (h:Sp.okB r.num):Ev M1 (.pure 63 [ratA fa ga r]) (ratA false false (-r)) []:=by
 refine call63 (vRNeg _ _ _ _ _ ⟨h,?_⟩)
 show Weak _ (AV.agg [.bool (Sp.isNeg (-r).num),.vec false 1 ((Sp.limI (-r).num).map (.int .u32)),.bool (Sp.isNeg ((-r).den:Int)),.vec false 1 ((Sp.limI ((-r).den:Int)).map (.int .u32))])
 rw [Rat.neg_num,Rat.neg_den]
 exact weak_rat _ _ _ _ _ _
namespace Sp
noncomputable def isSq (a:Int):Bool:=bif sqe a == 0 then sgnI (sq a * sq a - a) == 0 else false
end Sp
theorem sq_le {a:Int} (h:0 <= a):(Sp.sq a).natAbs * (Sp.sq a).natAbs <= a.natAbs /\ (Sp.sq a).natAbs <= a.natAbs:=by
 have:=isqrt_spec a.natAbs
 unfold Sp.sq
 rw [if_neg (by omega),Int.natAbs_natCast]
 refine ⟨this.1,?_⟩
 have h1:=this.1
 by_cases hz:Sp.isqrt a.natAbs = 0
 ·omega
 ·have:=Nat.le_mul_of_pos_left (Sp.isqrt a.natAbs) (Nat.pos_of_ne_zero hz)
  omega
theorem ev119 (fa:Bool) (a:Int) (h:Sp.okS a):Ev M1 (.pure 119 [bigA fa a]) (.tup [bigA false (Sp.sq a),.bool (Sp.isSq a)]) []:=by
 have ha:Sp.okB a:=by unfold Sp.okS at h;unfold Sp.okB;omega
 have hk:Sp.sqe a = 0 -> 0 <= a:=by
  intro k
  unfold Sp.sqe at k
  split at k <;> omega
 refine call119 (vSide _ _ _ ⟨h,fun k => ?_,fun k => ⟨?_,ha⟩,.refl _⟩)
 ·have:=cnt_mono (sq_le (hk k)).2
  unfold Sp.okS at h
  unfold Sp.okB
  omega
 ·have:=cnt_mono (sq_le (hk k)).1
  unfold Sp.okS at h
  unfold Sp.okB
  rw [Int.natAbs_mul];omega
theorem ev73 (fa:Bool) (a:Int):Ev M1 (.pure 73 [bigA fa a]) (ratA false false (a:Rat)) []:=by
 refine call73 (vWhole _ _ _ ?_)
 show Weak _ (AV.agg [.bool (Sp.isNeg (a:Rat).num),.vec false 1 ((Sp.limI (a:Rat).num).map (.int .u32)),.bool (Sp.isNeg ((a:Rat).den:Int)),.vec false 1 ((Sp.limI ((a:Rat).den:Int)).map (.int .u32))])
 rw [Rat.num_intCast,Rat.den_intCast]
 exact weak_rat _ _ _ _ _ _
end Go.Av

namespace Go.Av
open Go.Proofs
set_option maxRecDepth 100000
def fi35:Fi:=⟨6,[.cell 2 36]⟩
def kp35:List (Nat × List Nat):=[(0,[0,2]),(1,[2])]
def fi36:Fi:=⟨25,[.tmp 4]⟩
def kp36:List (Nat × List Nat):=[(0,[2,3]),(1,[2,3,5]),(2,[2,3,5,12]),(3,[4]),(4,[4])]
def fi37:Fi:=⟨16,[.cell 4 36]⟩
def kp37:List (Nat × List Nat):=[(0,[2,3,4]),(1,[4])]
def fi38:Fi:=⟨36,[.cell 4 36]⟩
def kp38:List (Nat × List Nat):=[(0,[2,3,4]),(1,[2,3,4,10]),(2,[4]),(3,[4])]
def fi58:Fi:=⟨21,[.cell 4 36,.tmp 5]⟩
def kp58:List (Nat × List Nat):=[(0,[2,3,4]),(1,[2,3,4,8]),(2,[4,5]),(3,[4,5])]
def fi89:Fi:=⟨26,[.cell 2 36,.tmp 3]⟩
def kp89:List (Nat × List Nat):=[(0,[1,2]),(1,[1,2,4,5]),(2,[1,2,4,14]),(3,[2,4,6,7]),(4,[2,4,6,21]),(5,[2,3]),(6,[2,3])]
def vRAdd_at (fa ga fb gb:Bool) (r s:Rat) (Q:AV -> Heap -> Prop):Prop:=Wp M1 (.run fi38 (atC (cd Tryz.f38) []) [(0,ratA fa ga r),(1,ratA fb gb s)] []) Q
def vRMul_at (fa ga fb gb:Bool) (r s:Rat) (Q:AV -> Heap -> Prop):Prop:=Wp M1 (.run fi37 (atC (cd Tryz.f37) []) [(0,ratA fa ga r),(1,ratA fb gb s)] []) Q
def vRDiv_at (fa ga fb gb:Bool) (r s:Rat) (Q:AV -> Heap -> Prop):Prop:=Wp M1 (.run fi58 (atC (cd Tryz.f58) []) [(0,ratA fa ga r),(1,ratA fb gb s)] []) Q
def vRCmp_at (fa ga fb gb:Bool) (r s:Rat) (Q:AV -> Heap -> Prop):Prop:=Wp M1 (.run fi36 (atC (cd Tryz.f36) []) [(0,ratA fa ga r),(1,ratA fb gb s)] []) Q
def vRFrom_at (n:Int) (Q:AV -> Heap -> Prop):Prop:=Wp M1 (.run fi35 (atC (cd Tryz.f35) []) [(0,.int .i64 n)] []) Q
def vRSqrt_at (fa ga:Bool) (r:Rat) (Q:AV -> Heap -> Prop):Prop:=Wp M1 (.run fi89 (atC (cd Tryz.f89) []) [(0,ratA fa ga r)] []) Q
theorem call35 {args:List AV} {d:AV} (h:wc M1 fi35 Tryz.f35 args d):Ev M1 (.pure 35 args) d []:=pcl _ _ (by kernel_rfl) h
theorem call36 {args:List AV} {d:AV} (h:wc M1 fi36 Tryz.f36 args d):Ev M1 (.pure 36 args) d []:=pcl _ _ (by kernel_rfl) h
theorem call37 {args:List AV} {d:AV} (h:wc M1 fi37 Tryz.f37 args d):Ev M1 (.pure 37 args) d []:=pcl _ _ (by kernel_rfl) h
theorem call38 {args:List AV} {d:AV} (h:wc M1 fi38 Tryz.f38 args d):Ev M1 (.pure 38 args) d []:=pcl _ _ (by kernel_rfl) h
theorem call58 {args:List AV} {d:AV} (h:wc M1 fi58 Tryz.f58 args d):Ev M1 (.pure 58 args) d []:=pcl _ _ (by kernel_rfl) h
theorem call89 {args:List AV} {d:AV} (h:wc M1 fi89 Tryz.f89 args d):Ev M1 (.pure 89 args) d []:=pcl _ _ (by kernel_rfl) h
theorem vRAdd (fa ga fb gb:Bool) (r s:Rat)  (dq:AV) (H :
  (Sp.okB (↑r.den:Int) /\ Sp.okB (↑s.den:Int)) /\
  ((Sp.sgnI ((↑r.den:Int) - (↑s.den:Int)) = 0) -> (Sp.okB r.num /\ Sp.okB s.num) /\
   (Sp.okB (r.num + s.num) /\ Sp.okB (↑r.den:Int) /\ (↑r.den:Int) ≠ 0) /\
   Weak (ratA false false (Rat.divInt (r.num + s.num) (↑r.den:Int))) dq) /\
  (¬(Sp.sgnI ((↑r.den:Int) - (↑s.den:Int)) = 0) -> (Sp.okB r.num /\ Sp.okB (↑s.den:Int)) /\
   (Sp.okB s.num /\ Sp.okB (↑r.den:Int)) /\
   (Sp.okB (r.num * (↑s.den:Int)) /\ Sp.okB (s.num * (↑r.den:Int))) /\
   (Sp.okB (r.num * (↑s.den:Int) + s.num * (↑r.den:Int)) /\ Sp.okB ((↑r.den:Int) * (↑s.den:Int)) /\ (↑r.den:Int) * (↑s.den:Int) ≠ 0) /\
   Weak (ratA false false (Rat.divInt (r.num * (↑s.den:Int) + s.num * (↑r.den:Int)) ((↑r.den:Int) * (↑s.den:Int)))) dq)) :
 vRAdd_at fa ga fb gb r s (PureQ dq):=by
 unfold vRAdd_at
 obtain ⟨k1,H⟩:=H
 refine path_wp (G:=given kp38 [(1,4,.call (vi (Sp.sgnI ((↑r.den:Int) - (↑s.den:Int)))) none)] []) 5 [] ⟨(atC (cd Tryz.f38) [1,0,1]),[(2,AV.ptr 0 0 0 0),(3,AV.ptr 1 0 0 0),(4,AV.ptr 2 0 0 0),(10,vb (Sp.sgnI ((↑r.den:Int) - (↑s.den:Int)) == 0))],[⟨[ratA fa ga r],4,0,false,false⟩,⟨[ratA fb gb s],4,0,false,false⟩,⟨[ag [vb false,AV.vnil,vb false,AV.vnil]],4,0,false,false⟩],_,[],_⟩ (by kernel_rfl) (bc rfl (bc rfl b0)) q0 (ce (@ev76 (ga) (gb) ((↑r.den:Int)) ((↑s.den:Int)) k1) c0) ?_
 rcases xm (Sp.sgnI ((↑r.den:Int) - (↑s.den:Int)) = 0) with d3 | d3
 ·have H:=H.1 d3
  obtain ⟨k4,H⟩:=H
  obtain ⟨k5,H⟩:=H
  exact path_rq (G:=given kp38 [(2,4,.call (bigA false (r.num + s.num)) none),(2,7,.call (ratA false false (Rat.divInt (r.num + s.num) (↑r.den:Int))) none)] []) 1000 [true] (ratA false false (Rat.divInt (r.num + s.num) (↑r.den:Int))) (by kernel_rfl) (bc (beq_t (i_eq.2 d3)) (bc rfl (bc rfl (bc rfl (bc rfl b0))))) q0 (ce (@ev78 (fa) (fb) (r.num) (s.num) k4) (ce (@ev71 (false) (ga) (r.num + s.num) ((↑r.den:Int)) k5) c0)) H
 ·have H:=H.2 d3
  obtain ⟨k6,H⟩:=H
  obtain ⟨k7,H⟩:=H
  obtain ⟨k8,H⟩:=H
  obtain ⟨k9,H⟩:=H
  exact path_rq (G:=given kp38 [(3,4,.call (bigA false (r.num * (↑s.den:Int))) none),(3,9,.call (bigA false (s.num * (↑r.den:Int))) none),(3,10,.call (bigA false (r.num * (↑s.den:Int) + s.num * (↑r.den:Int))) none),(3,15,.call (bigA false ((↑r.den:Int) * (↑s.den:Int))) none),(3,16,.call (ratA false false (Rat.divInt (r.num * (↑s.den:Int) + s.num * (↑r.den:Int)) ((↑r.den:Int) * (↑s.den:Int)))) none)] []) 1000 [false] (ratA false false (Rat.divInt (r.num * (↑s.den:Int) + s.num * (↑r.den:Int)) ((↑r.den:Int) * (↑s.den:Int)))) (by kernel_rfl) (bc (beq_f (fun h => d3 (i_eq.1 h))) (bc rfl (bc rfl (bc rfl (bc rfl (bc rfl (bc rfl (bc rfl b0)))))))) q0 (ce (@ev77 (fa) (gb) (r.num) ((↑s.den:Int)) k6) (ce (@ev77 (fb) (ga) (s.num) ((↑r.den:Int)) k7) (ce (@ev78 (false) (false) (r.num * (↑s.den:Int)) (s.num * (↑r.den:Int)) k8) (ce (@ev77 (ga) (gb) ((↑r.den:Int)) ((↑s.den:Int)) k1) (ce (@ev71 (false) (false) (r.num * (↑s.den:Int) + s.num * (↑r.den:Int)) ((↑r.den:Int) * (↑s.den:Int)) k9) c0))))) H
theorem vRMul (fa ga fb gb:Bool) (r s:Rat)  (dq:AV) (H :
  (Sp.okB r.num /\ Sp.okB s.num) /\
  (Sp.okB (↑r.den:Int) /\ Sp.okB (↑s.den:Int)) /\
  (Sp.okB (r.num * s.num) /\ Sp.okB ((↑r.den:Int) * (↑s.den:Int)) /\ (↑r.den:Int) * (↑s.den:Int) ≠ 0) /\
  Weak (ratA false false (Rat.divInt (r.num * s.num) ((↑r.den:Int) * (↑s.den:Int)))) dq) :
 vRMul_at fa ga fb gb r s (PureQ dq):=by
 unfold vRMul_at
 obtain ⟨k1,H⟩:=H
 obtain ⟨k2,H⟩:=H
 obtain ⟨k3,H⟩:=H
 exact path_rq (G:=given kp37 [(1,4,.call (bigA false (r.num * s.num)) none),(1,9,.call (bigA false ((↑r.den:Int) * (↑s.den:Int))) none),(1,10,.call (ratA false false (Rat.divInt (r.num * s.num) ((↑r.den:Int) * (↑s.den:Int)))) none)] []) 1000 [] (ratA false false (Rat.divInt (r.num * s.num) ((↑r.den:Int) * (↑s.den:Int)))) (by kernel_rfl) (bc rfl (bc rfl (bc rfl (bc rfl (bc rfl b0))))) q0 (ce (@ev77 (fa) (fb) (r.num) (s.num) k1) (ce (@ev77 (ga) (gb) ((↑r.den:Int)) ((↑s.den:Int)) k2) (ce (@ev71 (false) (false) (r.num * s.num) ((↑r.den:Int) * (↑s.den:Int)) k3) c0))) H
theorem vRDiv (fa ga fb gb:Bool) (r s:Rat)  (dq:AV) (H :
  ((Sp.sgnI s.num = 0) -> Weak (tu [ag [vb false,AV.vnil,vb false,AV.vnil],vi 6]) dq) /\
  (¬(Sp.sgnI s.num = 0) -> (Sp.okB r.num /\ Sp.okB (↑s.den:Int)) /\
   (Sp.okB (↑r.den:Int) /\ Sp.okB s.num) /\
   (Sp.okB (r.num * (↑s.den:Int)) /\ Sp.okB ((↑r.den:Int) * s.num) /\ (↑r.den:Int) * s.num ≠ 0) /\
   Weak (tu [ratA false false (Rat.divInt (r.num * (↑s.den:Int)) ((↑r.den:Int) * s.num)),vi 0]) dq)) :
 vRDiv_at fa ga fb gb r s (PureQ dq):=by
 unfold vRDiv_at
 refine path_wp (G:=given kp58 [(1,1,.call (vi (Sp.sgnI s.num)) none)] []) 5 [] ⟨(atC (cd Tryz.f58) [1,0,1]),[(2,AV.ptr 0 0 0 0),(3,AV.ptr 1 0 0 0),(4,AV.ptr 2 0 0 0),(8,vb (Sp.sgnI s.num == 0))],[⟨[ratA fa ga r],4,0,false,false⟩,⟨[ratA fb gb s],4,0,false,false⟩,⟨[ag [vb false,AV.vnil,vb false,AV.vnil]],4,0,false,false⟩],_,[],_⟩ (by kernel_rfl) (bc rfl b0) q0 (ce (@ev75 (fb) (gb) (s.num) ((↑s.den:Int))) c0) ?_
 rcases xm (Sp.sgnI s.num = 0) with d2 | d2
 ·have H:=H.1 d2
  exact path_rq (G:=given kp58 [] []) 1000 [true] (tu [ag [vb false,AV.vnil,vb false,AV.vnil],vi 6]) (by kernel_rfl) (bc (beq_t (i_eq.2 d2)) (bc rfl b0)) q0 c0 H
 ·have H:=H.2 d2
  obtain ⟨k3,H⟩:=H
  obtain ⟨k4,H⟩:=H
  obtain ⟨k5,H⟩:=H
  exact path_rq (G:=given kp58 [(3,4,.call (bigA false (r.num * (↑s.den:Int))) none),(3,9,.call (bigA false ((↑r.den:Int) * s.num)) none),(3,10,.call (ratA false false (Rat.divInt (r.num * (↑s.den:Int)) ((↑r.den:Int) * s.num))) none)] []) 1000 [false] (tu [ratA false false (Rat.divInt (r.num * (↑s.den:Int)) ((↑r.den:Int) * s.num)),vi 0]) (by kernel_rfl) (bc (beq_f (fun h => d2 (i_eq.1 h))) (bc rfl (bc rfl (bc rfl (bc rfl (bc rfl b0)))))) q0 (ce (@ev77 (fa) (gb) (r.num) ((↑s.den:Int)) k3) (ce (@ev77 (ga) (fb) ((↑r.den:Int)) (s.num) k4) (ce (@ev71 (false) (false) (r.num * (↑s.den:Int)) ((↑r.den:Int) * s.num) k5) c0))) H
theorem vRCmp (fa ga fb gb:Bool) (r s:Rat)  (dq:AV) (H :
  ∃ (n1:Int),
  (Ev M1 (Conf.pure 74 [vi (Sp.sgnI r.num),vi (Sp.sgnI s.num)]) (vi n1) []) /\
  ((¬n1 = 0) -> vi n1 = dq) /\
  (¬(¬n1 = 0) -> (Sp.okB r.num /\ Sp.okB (↑s.den:Int)) /\
   (Sp.okB s.num /\ Sp.okB (↑r.den:Int)) /\
   (Sp.okB (r.num * (↑s.den:Int)) /\ Sp.okB (s.num * (↑r.den:Int))) /\
   vi (Sp.sgnI (r.num * (↑s.den:Int) - s.num * (↑r.den:Int))) = dq)) :
 vRCmp_at fa ga fb gb r s (PureQ dq):=by
 unfold vRCmp_at
 obtain ⟨n1,H⟩:=H
 obtain ⟨k1,H⟩:=H
 refine path_wp (G:=given kp36 [(1,1,.call (vi (Sp.sgnI r.num)) none),(1,3,.call (vi (Sp.sgnI s.num)) none),(1,4,.call (vi n1) none)] []) 7 [] ⟨(atC (cd Tryz.f36) [1,0,1,1]),[(2,AV.ptr 0 0 0 0),(3,AV.ptr 1 0 0 0),(5,vi n1),(12,vb (n1 != 0))],[⟨[ratA fa ga r],4,0,false,false⟩,⟨[ratA fb gb s],4,0,false,false⟩],_,[],_⟩ (by kernel_rfl) (bc rfl (bc rfl b0)) q0 (ce (@ev75 (fa) (ga) (r.num) ((↑r.den:Int))) (ce (@ev75 (fb) (gb) (s.num) ((↑s.den:Int))) (ce k1 c0))) ?_
 rcases xm (¬n1 = 0) with d3 | d3
 ·have H:=H.1 d3
  exact path_re (G:=given kp36 [] []) 1000 [true] (vi n1) (by kernel_rfl) (bc (beq_t (i_ne.2 d3)) b0) q0 c0 H
 ·have H:=H.2 d3
  obtain ⟨k4,H⟩:=H
  obtain ⟨k5,H⟩:=H
  obtain ⟨k6,H⟩:=H
  exact path_re (G:=given kp36 [(4,4,.call (bigA false (r.num * (↑s.den:Int))) none),(4,9,.call (bigA false (s.num * (↑r.den:Int))) none),(4,10,.call (vi (Sp.sgnI (r.num * (↑s.den:Int) - s.num * (↑r.den:Int)))) none)] []) 1000 [false] (vi (Sp.sgnI (r.num * (↑s.den:Int) - s.num * (↑r.den:Int)))) (by kernel_rfl) (bc (beq_f (fun h => d3 (i_ne.1 h))) (bc rfl (bc rfl (bc rfl (bc rfl b0))))) q0 (ce (@ev77 (fa) (gb) (r.num) ((↑s.den:Int)) k4) (ce (@ev77 (fb) (ga) (s.num) ((↑r.den:Int)) k5) (ce (@ev76 (false) (false) (r.num * (↑s.den:Int)) (s.num * (↑r.den:Int)) k6) c0))) H
theorem vRFrom (n:Int)  (dq:AV) (H :
  (Sp.inI n) /\
  Weak (ratA false false (↑n:Rat)) dq) :
 vRFrom_at n (PureQ dq):=by
 unfold vRFrom_at
 obtain ⟨k1,H⟩:=H
 exact path_rq (G:=given kp35 [(1,1,.call (bigA false n) none),(1,2,.call (ratA false false (↑n:Rat)) none)] []) 1000 [] (ratA false false (↑n:Rat)) (by kernel_rfl) (bc rfl b0) q0 (ce (@ev72 (n) k1) (ce (@ev73 (false) (n)) c0)) H
noncomputable abbrev zNvK1:=ag [vb false,AV.vnil,vb false,AV.vnil]
theorem vRSqrt (fa ga:Bool) (r:Rat)  (dq:AV) (H :
  (Sp.okS r.num) /\
  ((Sp.isSq r.num = true) -> (Sp.okS (↑r.den:Int)) /\
   ((Sp.isSq (↑r.den:Int) = true) -> Weak (tu [ag [vb (Sp.isNeg (Sp.sq r.num)),vf (us (Sp.limI (Sp.sq r.num))),vb (Sp.isNeg (Sp.sq (↑r.den:Int))),vf (us (Sp.limI (Sp.sq (↑r.den:Int))))],vb true]) dq) /\
   (¬(Sp.isSq (↑r.den:Int) = true) -> Weak (tu [ag [vb false,AV.vnil,vb false,AV.vnil],vb false]) dq)) /\
  (¬(Sp.isSq r.num = true) -> Weak (tu [ag [vb false,AV.vnil,vb false,AV.vnil],vb false]) dq)) :
 vRSqrt_at fa ga r (PureQ dq):=by
 unfold vRSqrt_at
 obtain ⟨k1,H⟩:=H
 refine path_wp (G:=given kp89 [(1,2,.call (tu [bigA false (Sp.sq r.num),vb (Sp.isSq r.num)]) none)] []) 7 [] ⟨(atC (cd Tryz.f89) [1,0,1,1]),[(1,AV.ptr 0 0 0 0),(2,AV.ptr 1 0 0 0),(4,AV.ptr 2 0 0 0),(14,vb (Sp.isSq r.num))],[⟨[ratA fa ga r],4,0,false,false⟩,⟨[zNvK1],4,0,false,false⟩,⟨[bigA false (Sp.sq r.num)],2,0,false,false⟩],_,[],_⟩ (by kernel_rfl) (bc rfl (bc rfl b0)) q0 (ce (@ev119 (fa) (r.num) k1) c0) ?_
 rcases xm (Sp.isSq r.num = true) with d3 | d3
 ·have H:=H.1 d3
  obtain ⟨k4,H⟩:=H
  refine path_wp (G:=given kp89 [(3,2,.call (tu [bigA false (Sp.sq (↑r.den:Int)),vb (Sp.isSq (↑r.den:Int))]) none)] []) 5 [true] ⟨(atC (cd Tryz.f89) [1,0,1,1,0,1,1]),[(2,AV.ptr 1 0 0 0),(4,AV.ptr 2 0 0 0),(6,AV.ptr 3 0 0 0),(21,vb (Sp.isSq (↑r.den:Int)))],[⟨[ratA fa ga r],4,0,false,false⟩,⟨[zNvK1],4,0,false,false⟩,⟨[bigA false (Sp.sq r.num)],2,0,false,false⟩,⟨[bigA false (Sp.sq (↑r.den:Int))],2,0,false,false⟩],[(Sp.isSq r.num) == true,true,true],[],_⟩ (by kernel_rfl) (bc (beq_t ((i_var _).2 d3)) (bc rfl (bc rfl b0))) q0 (ce (@ev119 (ga) ((↑r.den:Int)) k4) c0) ?_
  rcases xm (Sp.isSq (↑r.den:Int) = true) with d6 | d6
  ·have H:=H.1 d6
   exact path_rq (G:=given kp89 [] []) 1000 [true] (asm:=[(Sp.isSq (↑r.den:Int)) == true,true,true,true]) (tu [ag [vb (Sp.isNeg (Sp.sq r.num)),vf (us (Sp.limI (Sp.sq r.num))),vb (Sp.isNeg (Sp.sq (↑r.den:Int))),vf (us (Sp.limI (Sp.sq (↑r.den:Int))))],vb true]) (by kernel_rfl) (bc (beq_t ((i_var _).2 d6)) (bc rfl (bc rfl (bc rfl b0)))) q0 c0 H
  ·have H:=H.2 d6
   exact path_rq (G:=given kp89 [] []) 1000 [false] (asm:=[(Sp.isSq (↑r.den:Int)) == false,true]) (tu [zNvK1,vb false]) (by kernel_rfl) (bc (beq_f (fun h => d6 ((i_var _).1 h))) (bc rfl b0)) q0 c0 H
 ·have H:=H.2 d3
  exact path_rq (G:=given kp89 [] []) 1000 [false] (asm:=[(Sp.isSq r.num) == false,true]) (tu [zNvK1,vb false]) (by kernel_rfl) (bc (beq_f (fun h => d3 ((i_var _).1 h))) (bc rfl b0)) q0 c0 H
end Go.Av

namespace Go.Av
open Go.Proofs
def Sp.okR (r:Rat):Prop:=Sp.cnt r.num.natAbs <= 90000 /\ Sp.cnt r.den <= 90000
theorem okR_B {r:Rat} (h:Sp.okR r):Sp.okB r.num /\ Sp.okB (r.den:Int):=by
 unfold Sp.okR at h
 unfold Sp.okB
 rw [Int.natAbs_natCast];omega
theorem cnt_mulI {a b:Int} {n m:Nat} (ha:Sp.cnt a.natAbs <= n) (hb:Sp.cnt b.natAbs <= m):Sp.cnt (a * b).natAbs <= n + m:=by
 rw [Int.natAbs_mul]
 exact fits_cnt.1 (fits_prod (fits_cnt.2 ha) (fits_cnt.2 hb))
theorem cnt_addI {a b:Int} {n:Nat} (ha:Sp.cnt a.natAbs <= n) (hb:Sp.cnt b.natAbs <= n):Sp.cnt (a + b).natAbs <= n + 1:=by
 have h:=fits_cnt.1 (fits_sum (fits_cnt.2 ha) (fits_cnt.2 hb))
 exact Nat.le_trans (cnt_mono (Int.natAbs_add_le a b)) h
theorem cnt_den {r:Rat} {n:Nat} (h:Sp.cnt r.den <= n):Sp.cnt ((r.den:Int)).natAbs <= n:=by rwa [Int.natAbs_natCast]
theorem den_ne (r:Rat):(r.den:Int) ≠ 0:=by have:=r.den_pos;omega
theorem rat_add (r s:Rat):Rat.divInt (r.num * (s.den:Int) + s.num * (r.den:Int)) ((r.den:Int) * (s.den:Int)) = r + s:=by
 rw [<- Rat.divInt_add_divInt _ _ (den_ne r) (den_ne s),Rat.num_divInt_den,Rat.num_divInt_den]
theorem rat_add_same {r s:Rat} (h:(r.den:Int) = (s.den:Int)):Rat.divInt (r.num + s.num) (r.den:Int) = r + s:=by
 rw [<- rat_add,<- h,<- Int.add_mul,Rat.divInt_mul_right (den_ne r)]
theorem rat_mul (r s:Rat):Rat.divInt (r.num * s.num) ((r.den:Int) * (s.den:Int)) = r * s:=by
 rw [<- Rat.divInt_mul_divInt,Rat.num_divInt_den,Rat.num_divInt_den]
theorem rat_div (r s:Rat):Rat.divInt (r.num * (s.den:Int)) ((r.den:Int) * s.num) = r / s:=by
 rw [<- Rat.divInt_mul_divInt,Rat.num_divInt_den,<- Rat.inv_divInt,Rat.num_divInt_den,Rat.div_def]
theorem ev38 (fa ga fb gb:Bool) (r s:Rat) (h:Sp.okR r /\ Sp.okR s):Ev M1 (.pure 38 [ratA fa ga r,ratA fb gb s]) (ratA false false (r + s)) []:=by
 obtain ⟨hr,hs⟩:=h
 obtain ⟨r1,r2⟩:=okR_B hr
 obtain ⟨s1,s2⟩:=okR_B hs
 obtain ⟨cr1,cr2⟩:=hr
 obtain ⟨cs1,cs2⟩:=hs
 have m1:=cnt_mulI cr1 (cnt_den cs2)
 have m2:=cnt_mulI cs1 (cnt_den cr2)
 have m3:=cnt_mulI (cnt_den cr2) (cnt_den cs2)
 have a1:=cnt_addI m1 m2
 have a2:=cnt_addI cr1 cs1
 refine call38 (vRAdd _ _ _ _ _ _ _ ⟨⟨r2,s2⟩,fun k => ⟨⟨r1,s1⟩,⟨by unfold Sp.okB;omega,r2,den_ne r⟩,?_⟩,fun k => ⟨⟨r1,s2⟩,⟨s1,r2⟩,⟨by unfold Sp.okB;omega,by unfold Sp.okB;omega⟩,⟨by unfold Sp.okB;omega,by unfold Sp.okB;omega,Int.mul_ne_zero (den_ne r) (den_ne s)⟩,?_⟩⟩)
 ·have k:=sgnI_zero.1 k
  rw [rat_add_same (by omega)];exact .refl _
 ·rw [rat_add];exact .refl _
theorem ev37 (fa ga fb gb:Bool) (r s:Rat) (h:Sp.okR r /\ Sp.okR s):Ev M1 (.pure 37 [ratA fa ga r,ratA fb gb s]) (ratA false false (r * s)) []:=by
 obtain ⟨hr,hs⟩:=h
 obtain ⟨r1,r2⟩:=okR_B hr
 obtain ⟨s1,s2⟩:=okR_B hs
 obtain ⟨cr1,cr2⟩:=hr
 obtain ⟨cs1,cs2⟩:=hs
 have m1:=cnt_mulI cr1 cs1
 have m3:=cnt_mulI (cnt_den cr2) (cnt_den cs2)
 refine call37 (vRMul _ _ _ _ _ _ _ ⟨⟨r1,s1⟩,⟨r2,s2⟩,⟨by unfold Sp.okB;omega,by unfold Sp.okB;omega,Int.mul_ne_zero (den_ne r) (den_ne s)⟩,?_⟩)
 rw [rat_mul];exact .refl _
theorem hid_ex (r:Rat):∃ s:Rat,s = r:=⟨r,rfl⟩
noncomputable def Sp.hid (r:Rat):Rat:=Classical.choose (hid_ex r)
theorem hid_eq (r:Rat):Sp.hid r = r:=Classical.choose_spec (hid_ex r)
noncomputable def Sp.qi (n:Int):Rat:=Sp.hid n
theorem qi_eq (n:Int):Sp.qi n = (n:Rat):=hid_eq _
theorem ev35 (n:Int) (h:Sp.inI n):Ev M1 (.pure 35 [.int .i64 n]) (ratA false false (Sp.qi n)) []:=by
 rw [qi_eq]
 exact call35 (vRFrom _ _ ⟨h,.refl _⟩)
end Go.Av

namespace Go.Av
open Go.Proofs
theorem isSq_iff (a:Int):Sp.isSq a = true ↔ 0 <= a /\ Sp.sq a * Sp.sq a = a:=by
 unfold Sp.isSq Sp.sqe
 by_cases h:a < 0
 ·rw [if_pos h];simp;omega
 ·rw [if_neg h]
  have:=@sgnI_zero (Sp.sq a * Sp.sq a - a)
  simp only [beq_self_eq_true,cond_true,beq_iff_eq,this]
  omega
theorem sq_nonneg (a:Int):0 <= Sp.sq a:=by
 unfold Sp.sq;split <;> omega
namespace Sp
def rsq (r:Rat):Prop:=isSq r.num = true /\ isSq (r.den:Int) = true
noncomputable def rt (r:Rat):Rat:=Rat.divInt (sq r.num) (sq (r.den:Int))
end Sp
theorem dvd_one {g:Nat} (h:g ∣ 1):g = 1:=Nat.dvd_one.1 h
theorem gcd_sq {r:Rat} (h:Sp.rsq r):Int.gcd (Sp.sq r.num) (Sp.sq (r.den:Int)) = 1:=by
 obtain ⟨h1,h2⟩:=h
 obtain ⟨_,h1⟩:=(isSq_iff _).1 h1
 obtain ⟨_,h2⟩:=(isSq_iff _).1 h2
 have c:Nat.gcd r.num.natAbs r.den = 1:=r.reduced
 generalize Sp.sq r.num = x at *
 generalize Sp.sq (r.den:Int) = y at *
 have e1:x.natAbs ∣ r.num.natAbs:=by rw [<- h1,Int.natAbs_mul];exact Nat.dvd_mul_right _ _
 have e2:y.natAbs ∣ r.den:=by
  have:r.den = (r.den:Int).natAbs:=rfl
  rw [this,<- h2,Int.natAbs_mul];exact Nat.dvd_mul_right _ _
 apply Nat.dvd_one.1
 rw [<- c]
 exact Nat.dvd_gcd (Nat.dvd_trans (Nat.gcd_dvd_left _ _) e1) (Nat.dvd_trans (Nat.gcd_dvd_right _ _) e2)
theorem sq_den_pos {r:Rat} (h:Sp.rsq r):0 < Sp.sq (r.den:Int):=by
 obtain ⟨_,h2⟩:=(isSq_iff _).1 h.2
 have:=sq_nonneg (r.den:Int)
 have hd:=r.den_pos
 by_cases e:Sp.sq (r.den:Int) = 0
 ·rw [e] at h2;omega
 ·omega
theorem rt_num {r:Rat} (h:Sp.rsq r):(Sp.rt r).num = Sp.sq r.num /\ ((Sp.rt r).den:Int) = Sp.sq (r.den:Int):=by
 obtain ⟨e1,e2⟩:=rat_pos (a:=Sp.sq r.num) (sq_den_pos h)
 unfold Sp.rt
 rw [e1,e2,gcd_sq h];simp
theorem rt_mul {r:Rat} (h:Sp.rsq r):Sp.rt r * Sp.rt r = r:=by
 obtain ⟨e1,e2⟩:=rt_num h
 rw [<- rat_mul,e1,e2,((isSq_iff _).1 h.1).2,((isSq_iff _).1 h.2).2,Rat.num_divInt_den]
end Go.Av

namespace Go.Av
open Go.Proofs
end Go.Av

namespace Go.Av
open Go.Proofs
set_option maxRecDepth 100000
def fi15:Fi:=⟨17,[.tmp 4]⟩
def kp15:List (Nat × List Nat):=[(0,[2,3]),(1,[4])]
def fi46:Fi:=⟨2,[.cell 0 34]⟩
def kp46:List (Nat × List Nat):=[(0,[0]),(1,[0])]
def fi56:Fi:=⟨6,[.cell 2 36]⟩
def kp56:List (Nat × List Nat):=[(0,[1,2]),(1,[2])]
def fi95:Fi:=⟨39,[.cell 4 36]⟩
def kp95:List (Nat × List Nat):=[(0,[2,3,4]),(1,[2,3,4,14]),(2,[2,3,4]),(3,[2,3,4,5]),(4,[3,4,5,6]),(5,[4,6,9]),(6,[4])]
def fi98:Fi:=⟨9,[.cell 2 36]⟩
def kp98:List (Nat × List Nat):=[(0,[1,2]),(1,[2])]
def rUnit_at  (Q:AV -> Heap -> Prop):Prop:=Wp M1 (.run fi46 (atC (cd Tryz.f46) []) [] []) Q
def rFromInt_at (fa:Bool) (a:Int) (Q:AV -> Heap -> Prop):Prop:=Wp M1 (.run fi56 (atC (cd Tryz.f56) []) [(0,bigA fa a)] []) Q
def rOf_at (fa fb:Bool) (a b:Int) (Q:AV -> Heap -> Prop):Prop:=Wp M1 (.run fi95 (atC (cd Tryz.f95) []) [(0,bigA fa a),(1,bigA fb b)] []) Q
def rRNeg_at (fa ga:Bool) (p q:Int) (Q:AV -> Heap -> Prop):Prop:=Wp M1 (.run fi98 (atC (cd Tryz.f98) []) [(0,.agg [.bool (Sp.isNeg p),.vec fa 1 ((Sp.limI p).map (.int .u32)),.bool (Sp.isNeg q),.vec ga 1 ((Sp.limI q).map (.int .u32))])] []) Q
def rRSame_at (fa ga fb gb:Bool) (p q p2 q2:Int) (Q:AV -> Heap -> Prop):Prop:=Wp M1 (.run fi15 (atC (cd Tryz.f15) []) [(0,.agg [.bool (Sp.isNeg p),.vec fa 1 ((Sp.limI p).map (.int .u32)),.bool (Sp.isNeg q),.vec ga 1 ((Sp.limI q).map (.int .u32))]),(1,.agg [.bool (Sp.isNeg p2),.vec fb 1 ((Sp.limI p2).map (.int .u32)),.bool (Sp.isNeg q2),.vec gb 1 ((Sp.limI q2).map (.int .u32))])] []) Q
theorem call15 {args:List AV} {d:AV} (h:wc M1 fi15 Tryz.f15 args d):Ev M1 (.pure 15 args) d []:=pcl _ _ (by kernel_rfl) h
theorem call46 {args:List AV} {d:AV} (h:wc M1 fi46 Tryz.f46 args d):Ev M1 (.pure 46 args) d []:=pcl _ _ (by kernel_rfl) h
theorem call56 {args:List AV} {d:AV} (h:wc M1 fi56 Tryz.f56 args d):Ev M1 (.pure 56 args) d []:=pcl _ _ (by kernel_rfl) h
theorem call95 {args:List AV} {d:AV} (h:wc M1 fi95 Tryz.f95 args d):Ev M1 (.pure 95 args) d []:=pcl _ _ (by kernel_rfl) h
theorem call98 {args:List AV} {d:AV} (h:wc M1 fi98 Tryz.f98 args d):Ev M1 (.pure 98 args) d []:=pcl _ _ (by kernel_rfl) h
theorem rUnit   (dq:AV) (H :
  (Sp.inI 1) /\
  Weak (ag [vb false,vf (us (Sp.limI 1))]) dq) :
 rUnit_at  (PureQ dq):=by
 unfold rUnit_at
 obtain ⟨k1,H⟩:=H
 exact path_rq (G:=given kp46 [(1,0,.call (ag [vb false,vf (us (Sp.limI 1))]) none)] []) 1000 [] (ag [vb false,vf (us (Sp.limI 1))]) (by kernel_rfl) (bc rfl b0) q0 (ce (@ev57 (1) k1) c0) H
theorem rFromInt (fa:Bool) (a:Int)  (dq:AV) (H :
  ∃ (b1:Bool) (l1:List (Int)),
  (Ev M1 (Conf.pure 46 []) (ag [vb b1,vf (us l1)]) []) /\
  Weak (ag [vb (Sp.isNeg a),AV.vec fa 1 (us (Sp.limI a)),vb b1,vf (us l1)]) dq) :
 rFromInt_at fa a (PureQ dq):=by
 unfold rFromInt_at
 obtain ⟨b1,l1,H⟩:=H
 obtain ⟨k1,H⟩:=H
 exact path_rq (G:=given kp56 [(1,1,.call (ag [vb b1,vf (us l1)]) none)] []) 1000 [] (ag [vb (Sp.isNeg a),AV.vec fa 1 (us (Sp.limI a)),vb b1,vf (us l1)]) (by kernel_rfl) (bc rfl (bc rfl b0)) q0 (ce k1 c0) H
theorem rOf (fa fb:Bool) (a b:Int)  (dq:AV) (H :
  ((Sp.sgnI b < 0) -> (Sp.ok a) /\
   (Sp.ok b) /\
   (Sp.cnt (-a).natAbs <= 399000 /\ Sp.cnt (-b).natAbs <= 399000) /\
   (Sp.cnt (-a).natAbs <= 399000 /\ Sp.cnt (↑((-a).gcd (-b)):Int).natAbs <= 399000 /\ (↑((-a).gcd (-b)):Int) ≠ 0) /\
   (Sp.cnt (-b).natAbs <= 399000 /\ Sp.cnt (↑((-a).gcd (-b)):Int).natAbs <= 399000 /\ (↑((-a).gcd (-b)):Int) ≠ 0) /\
   Weak (ag [vb (Sp.isNeg (Sp.flo (-a) (↑((-a).gcd (-b)):Int))),vf (us (Sp.limI (Sp.flo (-a) (↑((-a).gcd (-b)):Int)))),vb (Sp.isNeg (Sp.flo (-b) (↑((-a).gcd (-b)):Int))),vf (us (Sp.limI (Sp.flo (-b) (↑((-a).gcd (-b)):Int))))]) dq) /\
  (¬(Sp.sgnI b < 0) -> (Sp.cnt a.natAbs <= 399000 /\ Sp.cnt b.natAbs <= 399000) /\
   (Sp.cnt a.natAbs <= 399000 /\ Sp.cnt (↑(a.gcd b):Int).natAbs <= 399000 /\ (↑(a.gcd b):Int) ≠ 0) /\
   (Sp.cnt b.natAbs <= 399000 /\ Sp.cnt (↑(a.gcd b):Int).natAbs <= 399000 /\ (↑(a.gcd b):Int) ≠ 0) /\
   Weak (ag [vb (Sp.isNeg (Sp.flo a (↑(a.gcd b):Int))),vf (us (Sp.limI (Sp.flo a (↑(a.gcd b):Int)))),vb (Sp.isNeg (Sp.flo b (↑(a.gcd b):Int))),vf (us (Sp.limI (Sp.flo b (↑(a.gcd b):Int))))]) dq)) :
 rOf_at fa fb a b (PureQ dq):=by
 unfold rOf_at
 refine path_wp (G:=given kp95 [(1,1,.call (vi (Sp.sgnI b)) none)] []) 5 [] ⟨(atC (cd Tryz.f95) [1,0,1]),[(2,AV.ptr 0 0 0 0),(3,AV.ptr 1 0 0 0),(4,AV.ptr 2 0 0 0),(14,vb (decide (Sp.sgnI b < 0)))],[⟨[bigA fa a],2,0,false,false⟩,⟨[bigA fb b],2,0,false,false⟩,⟨[ag [vb false,AV.vnil,vb false,AV.vnil]],4,0,false,false⟩],_,[],_⟩ (by kernel_rfl) (bc rfl b0) q0 (ce (@ev43 (fb) (b)) c0) ?_
 rcases xm (Sp.sgnI b < 0) with d2 | d2
 ·have H:=H.1 d2
  obtain ⟨k3,H⟩:=H
  obtain ⟨k4,H⟩:=H
  obtain ⟨k5,H⟩:=H
  obtain ⟨k6,H⟩:=H
  obtain ⟨k7,H⟩:=H
  exact path_rq (G:=given kp95 [(2,1,.call (bigA false (-a)) none),(2,3,.call (bigA false (-b)) none),(3,2,.call (bigA false (↑((-a).gcd (-b)):Int)) none),(4,2,.call (tu [bigA false (Sp.flo (-a) (↑((-a).gcd (-b)):Int)),bigA false (Sp.flr (-a) (↑((-a).gcd (-b)):Int)),vi 0]) none),(5,2,.call (tu [bigA false (Sp.flo (-b) (↑((-a).gcd (-b)):Int)),bigA false (Sp.flr (-b) (↑((-a).gcd (-b)):Int)),vi 0]) none)] []) 1000 [true] (ag [vb (Sp.isNeg (Sp.flo (-a) (↑((-a).gcd (-b)):Int))),vf (us (Sp.limI (Sp.flo (-a) (↑((-a).gcd (-b)):Int)))),vb (Sp.isNeg (Sp.flo (-b) (↑((-a).gcd (-b)):Int))),vf (us (Sp.limI (Sp.flo (-b) (↑((-a).gcd (-b)):Int))))]) (by kernel_rfl) (bc (beq_t (i_dec.2 d2)) (bc rfl (bc rfl (bc rfl (bc rfl (bc rfl (bc rfl (bc rfl (bc rfl (bc rfl (bc rfl (bc rfl (bc rfl (bc rfl (bc rfl (bc rfl (bc rfl (bc rfl (bc rfl b0))))))))))))))))))) q0 (ce (@ev120 (fa) (a) k3) (ce (@ev120 (fb) (b) k4) (ce (@ev45 (false) (false) (-a) (-b) k5) (ce (@ev121 (false) (false) (-a) ((↑((-a).gcd (-b)):Int)) k6) (ce (@ev121 (false) (false) (-b) ((↑((-a).gcd (-b)):Int)) k7) c0))))) H
 ·have H:=H.2 d2
  obtain ⟨k8,H⟩:=H
  obtain ⟨k9,H⟩:=H
  obtain ⟨k10,H⟩:=H
  exact path_rq (G:=given kp95 [(3,2,.call (bigA false (↑(a.gcd b):Int)) none),(4,2,.call (tu [bigA false (Sp.flo a (↑(a.gcd b):Int)),bigA false (Sp.flr a (↑(a.gcd b):Int)),vi 0]) none),(5,2,.call (tu [bigA false (Sp.flo b (↑(a.gcd b):Int)),bigA false (Sp.flr b (↑(a.gcd b):Int)),vi 0]) none)] []) 1000 [false] (ag [vb (Sp.isNeg (Sp.flo a (↑(a.gcd b):Int))),vf (us (Sp.limI (Sp.flo a (↑(a.gcd b):Int)))),vb (Sp.isNeg (Sp.flo b (↑(a.gcd b):Int))),vf (us (Sp.limI (Sp.flo b (↑(a.gcd b):Int))))]) (by kernel_rfl) (bc (beq_f (fun h => d2 (i_dec.1 h))) (bc rfl (bc rfl (bc rfl (bc rfl (bc rfl (bc rfl (bc rfl (bc rfl (bc rfl (bc rfl (bc rfl (bc rfl (bc rfl (bc rfl b0))))))))))))))) q0 (ce (@ev45 (fa) (fb) (a) (b) k8) (ce (@ev121 (fa) (false) (a) ((↑(a.gcd b):Int)) k9) (ce (@ev121 (fb) (false) (b) ((↑(a.gcd b):Int)) k10) c0))) H
theorem rRNeg (fa ga:Bool) (p q:Int)  (dq:AV) (H :
  (Sp.ok p) /\
  Weak (ag [vb (Sp.isNeg (-p)),vf (us (Sp.limI (-p))),vb (Sp.isNeg q),AV.vec ga 1 (us (Sp.limI q))]) dq) :
 rRNeg_at fa ga p q (PureQ dq):=by
 unfold rRNeg_at
 obtain ⟨k1,H⟩:=H
 exact path_rq (G:=given kp98 [(1,2,.call (bigA false (-p)) none)] []) 1000 [] (ag [vb (Sp.isNeg (-p)),vf (us (Sp.limI (-p))),vb (Sp.isNeg q),AV.vec ga 1 (us (Sp.limI q))]) (by kernel_rfl) (bc rfl (bc rfl (bc rfl b0))) q0 (ce (@ev120 (fa) (p) k1) c0) H
theorem rRSame (fa ga fb gb:Bool) (p q p2 q2:Int)  (dq:AV) (H :
  (Sp.ok p /\ Sp.ok p2) /\
  ((p = p2) -> (Sp.ok q /\ Sp.ok q2)) /\
  vb (bif decide (p = p2) then decide (q = q2) else false) = dq) :
 rRSame_at fa ga fb gb p q p2 q2 (PureQ dq):=by
 unfold rRSame_at
 obtain ⟨k1,H⟩:=H
 obtain ⟨k3,H⟩:=H
 exact path_re (G:=given kp15 [(1,4,.call (vb (decide (p = p2))) none),(1,10,.call (vb (decide (q = q2))) none)] []) 1000 [] (asm:=[true,true,!(decide (p = p2) == true && true) || true,!(decide (p = p2) == true && true) || true]) (calls:=[⟨true,false,44,[bigA fa p,bigA fb p2],[],vb (decide (p = p2)),[]⟩,⟨decide (p = p2) == true && true && true,false,44,[bigA ga q,bigA gb q2],[],vb (decide (q = q2)),[]⟩]) (vb (bif decide (p = p2) then decide (q = q2) else false)) (by kernel_rfl) (bc rfl (bc rfl (bc (Bool.or_true _) (bc (Bool.or_true _) b0)))) q0 (cc (fun _ => (@ev44 (fa) (fb) (p) (p2) k1)) (cc (fun hc => ((@ev44 (ga) (gb) (q) (q2) (k3 ((i_at (i_at (i_bt i_dec))).1 hc))):Ev M1 (Conf.pure 44 [bigA ga q,bigA gb q2]) (vb (decide (q = q2))) [])) c0)) H
end Go.Av

namespace Go.Av
open Go.Proofs
set_option maxRecDepth 100000
def fi110:Fi:=⟨6,[.tmp 2]⟩
def kp110:List (Nat × List Nat):=[(0,[0]),(1,[2])]
def vIsNaN_at (x:Int) (Q:AV -> Heap -> Prop):Prop:=Wp M1 (.run fi110 (atC (cd Tryz.f110) []) [(0,.int .i64 x)] []) Q
theorem call110 {args:List AV} {d:AV} (h:wc M1 fi110 Tryz.f110 args d):Ev M1 (.pure 110 args) d []:=pcl _ _ (by kernel_rfl) h
theorem vIsNaN (x:Int)  (dq:AV) (H :
  (vb (x != x)) = dq) :
 vIsNaN_at x (PureQ dq):=by
 unfold vIsNaN_at
 exact path_re (G:=given kp110 [] []) 1000 [] (vb (x != x)) (by kernel_rfl) b0 q0 c0 H
end Go.Av

namespace Go.Av
open Go.Proofs
theorem ev110 (x:Int):Ev M1 (.pure 110 [.int .i64 x]) (.bool false) []:=
 call110 (vIsNaN _ _ (by simp))
theorem ev58 (fa ga fb gb:Bool) (r s:Rat) (h:Sp.okR r /\ Sp.okR s /\ s.num ≠ 0):Ev M1 (.pure 58 [ratA fa ga r,ratA fb gb s]) (.tup [ratA false false (r / s),.int .i64 0]) []:=by
 obtain ⟨hr,hs,h0⟩:=h
 obtain ⟨r1,r2⟩:=okR_B hr
 obtain ⟨s1,s2⟩:=okR_B hs
 obtain ⟨cr1,cr2⟩:=hr
 obtain ⟨cs1,cs2⟩:=hs
 have m1:=cnt_mulI cr1 (cnt_den cs2)
 have m3:=cnt_mulI (cnt_den cr2) cs1
 refine call58 (vRDiv _ _ _ _ _ _ _ ⟨fun k => absurd (sgnI_zero.1 k) h0,fun _ => ⟨⟨r1,s2⟩,⟨r2,s1⟩,⟨by unfold Sp.okB;omega,by unfold Sp.okB;omega,Int.mul_ne_zero (den_ne r) h0⟩,?_⟩⟩)
 rw [rat_div];exact .refl _
end Go.Av

namespace Go.Av
open Go.Proofs
set_option maxRecDepth 100000
def fi39:Fi:=⟨9,[.cell 4 36]⟩
def kp39:List (Nat × List Nat):=[(0,[2,3,4]),(1,[4])]
def fi74:Fi:=⟨20,[.tmp 4]⟩
def kp74:List (Nat × List Nat):=[(0,[0,1]),(1,[0,1,5]),(2,[0,1,5,6]),(3,[0,1,6,11]),(4,[12]),(5,[4]),(6,[4]),(7,[0,1,13]),(8,[4]),(9,[0,1,16]),(10,[4]),(11,[19]),(12,[4]),(13,[4])]
def vCmpInt_at (x y:Int) (Q:AV -> Heap -> Prop):Prop:=Wp M1 (.run fi74 (atC (cd Tryz.f74) []) [(0,.int .i64 x),(1,.int .i64 y)] []) Q
def vRSub_at (fa ga fb gb:Bool) (r s:Rat) (Q:AV -> Heap -> Prop):Prop:=Wp M1 (.run fi39 (atC (cd Tryz.f39) []) [(0,ratA fa ga r),(1,ratA fb gb s)] []) Q
theorem call39 {args:List AV} {d:AV} (h:wc M1 fi39 Tryz.f39 args d):Ev M1 (.pure 39 args) d []:=pcl _ _ (by kernel_rfl) h
theorem call74 {args:List AV} {d:AV} (h:wc M1 fi74 Tryz.f74 args d):Ev M1 (.pure 74 args) d []:=pcl _ _ (by kernel_rfl) h
theorem vCmpInt (x y:Int)  (dq:AV) (H :
  ((x < y) -> vi (-1) = dq) /\
  (¬(x < y) -> ((x > y) -> vi 1 = dq) /\
   (¬(x > y) -> vi 0 = dq))) :
 vCmpInt_at x y (PureQ dq):=by
 unfold vCmpInt_at
 refine path_wp (G:=given kp74 [(1,1,.call (vb false) none),(2,1,.call (vb false) none)] []) 19 [false,false] ⟨(atC (cd Tryz.f74) [1,1,1,1,1,0,1]),[(0,vi x),(1,vi y),(16,vb (decide (x < y)))],[],_,[],_⟩ (by kernel_rfl) (bc rfl (bc rfl b0)) q0 (ce (@ev110 (x)) (ce (@ev110 (y)) c0)) ?_
 rcases xm (x < y) with d2 | d2
 ·have H:=H.1 d2
  exact path_re (G:=given kp74 [] []) 1000 [true] (vi (-1)) (by kernel_rfl) (bc (beq_t (i_dec.2 d2)) b0) q0 c0 H
 ·have H:=H.2 d2
  rcases xm (x > y) with d4 | d4
  ·have H:=H.1 d4
   exact path_re (G:=given kp74 [] []) 1000 [false,true] (vi 1) (by kernel_rfl) (bc (beq_f (fun h => d2 (i_dec.1 h))) (bc (beq_t (i_dec.2 d4)) b0)) q0 c0 H
  ·have H:=H.2 d4
   exact path_re (G:=given kp74 [] []) 1000 [false,false] (vi 0) (by kernel_rfl) (bc (beq_f (fun h => d2 (i_dec.1 h))) (bc (beq_f (fun h => d4 (i_dec.1 h))) b0)) q0 c0 H
theorem vRSub (fa ga fb gb:Bool) (r s:Rat)  (dq:AV) (H :
  (Sp.okB s.num) /\
  (Sp.okR r /\ Sp.okR (-s)) /\
  Weak (ratA false false (r + -s)) dq) :
 vRSub_at fa ga fb gb r s (PureQ dq):=by
 unfold vRSub_at
 obtain ⟨k1,H⟩:=H
 obtain ⟨k2,H⟩:=H
 exact path_rq (G:=given kp39 [(1,2,.call (ratA false false (-s)) none),(1,3,.call (ratA false false (r + -s)) none)] []) 1000 [] (ratA false false (r + -s)) (by kernel_rfl) (bc rfl (bc rfl (bc rfl b0))) q0 (ce (@ev63 (fb) (gb) (s) k1) (ce (@ev38 (fa) (ga) (false) (false) (r) (-s) k2) c0)) H
end Go.Av

namespace Go.Av
open Go.Proofs
theorem ev74 (x y:Int):Ev M1 (.pure 74 [.int .i64 x,.int .i64 y]) (.int .i64 (Sp.sgnI (x - y))) []:=by
 refine call74 (vCmpInt _ _ _ ⟨fun h => ?_,fun h => ⟨fun k => ?_,fun k => ?_⟩⟩)
 ·unfold Sp.sgnI;rw [if_pos (by omega)]
 ·unfold Sp.sgnI;rw [if_neg (by omega),if_pos (by omega)]
 ·unfold Sp.sgnI;rw [if_neg (by omega),if_neg (by omega)]
theorem okR_neg {s:Rat} (h:Sp.okR s):Sp.okR (-s):=by
 unfold Sp.okR at *
 rw [Rat.neg_num,Rat.neg_den,Int.natAbs_neg];exact h
theorem ev39 (fa ga fb gb:Bool) (r s:Rat) (h:Sp.okR r /\ Sp.okR s):Ev M1 (.pure 39 [ratA fa ga r,ratA fb gb s]) (ratA false false (r - s)) []:=by
 refine call39 (vRSub _ _ _ _ _ _ _ ⟨(okR_B h.2).1,⟨h.1,okR_neg h.2⟩,?_⟩)
 rw [<- Rat.sub_eq_add_neg];exact .refl _
theorem sgn_mul (a:Int) {d:Int} (h:0 < d):(a < 0 -> a * d < 0) /\ (a = 0 -> a * d = 0) /\ (0 < a -> 0 < a * d):=
 ⟨fun k => Int.mul_neg_of_neg_of_pos k h,fun k => by rw [k,Int.zero_mul],fun k => Int.mul_pos k h⟩
theorem ev36 (fa ga fb gb:Bool) (r s:Rat) (h:Sp.okR r /\ Sp.okR s):Ev M1 (.pure 36 [ratA fa ga r,ratA fb gb s]) (.int .i64 (Sp.sgnI (r.num * (s.den:Int) - s.num * (r.den:Int)))) []:=by
 obtain ⟨hr,hs⟩:=h
 obtain ⟨r1,r2⟩:=okR_B hr
 obtain ⟨s1,s2⟩:=okR_B hs
 obtain ⟨cr1,cr2⟩:=hr
 obtain ⟨cs1,cs2⟩:=hs
 have m1:=cnt_mulI cr1 (cnt_den cs2)
 have m2:=cnt_mulI cs1 (cnt_den cr2)
 refine call36 (vRCmp _ _ _ _ _ _ _ ⟨_,ev74 _ _,fun k => ?_,fun _ => ⟨⟨r1,s2⟩,⟨s1,r2⟩,⟨by unfold Sp.okB;omega,by unfold Sp.okB;omega⟩,rfl⟩⟩)
 obtain ⟨a1,a2,a3⟩:=sgn_mul r.num (d:=(s.den:Int)) (by have:=s.den_pos;omega)
 obtain ⟨b1,b2,b3⟩:=sgn_mul s.num (d:=(r.den:Int)) (by have:=r.den_pos;omega)
 congr 1
 generalize r.num * (s.den:Int) = A at a1 a2 a3 ⊢
 generalize s.num * (r.den:Int) = B at b1 b2 b3 ⊢
 unfold Sp.sgnI at k ⊢
 (repeat' split at k) <;> (repeat' split) <;> omega
end Go.Av

namespace Go.Av
open Go.Proofs
abbrev noR:AV:=.agg [.bool false,.vec false 1 [],.bool false,.vec false 1 []]
theorem weak_nr:Weak (.agg [.bool false,.vnil,.bool false,.vnil]) noR:=by
 have w:Weak .vnil (.vec false 1 []):=by
  have:=weak_bnil false
  cases this with
  | agg xs ys hl h => exact h 1 _ _ rfl rfl
 refine .agg _ _ rfl fun i x y hx hy => ?_
 match i with
 | 0 => simp at hx hy;subst hx;subst hy;exact .refl _
 | 1 => simp at hx hy;subst hx;subst hy;exact w
 | 2 => simp at hx hy;subst hx;subst hy;exact .refl _
 | 3 => simp at hx hy;subst hx;subst hy;exact w
 | i + 4 => simp at hx
theorem okR_S {r:Rat} (h:Sp.okR r):Sp.okS r.num /\ Sp.okS (r.den:Int):=by
 unfold Sp.okR at h
 unfold Sp.okS
 rw [Int.natAbs_natCast];omega
theorem ev89_y (fa ga:Bool) (r:Rat) (h:Sp.okR r) (k:Sp.rsq r):Ev M1 (.pure 89 [ratA fa ga r]) (.tup [ratA false false (Sp.rt r),.bool true]) []:=by
 obtain ⟨h1,h2⟩:=okR_S h
 obtain ⟨e1,e2⟩:=rt_num k
 refine call89 (vRSqrt _ _ _ _ ⟨h1,fun _ => ⟨h2,fun _ => ?_,fun x => absurd k.2 x⟩,fun x => absurd k.1 x⟩)
 show Weak _ (AV.tup [AV.agg [.bool (Sp.isNeg (Sp.rt r).num),.vec false 1 ((Sp.limI (Sp.rt r).num).map (.int .u32)),.bool (Sp.isNeg ((Sp.rt r).den:Int)),.vec false 1 ((Sp.limI ((Sp.rt r).den:Int)).map (.int .u32))],.bool true])
 rw [e1,e2];exact .refl _
theorem ev89_n (fa ga:Bool) (r:Rat) (h:Sp.okR r) (k:¬(Sp.rsq r)):Ev M1 (.pure 89 [ratA fa ga r]) (.tup [noR,.bool false]) []:=by
 obtain ⟨h1,h2⟩:=okR_S h
 exact call89 (vRSqrt _ _ _ _ ⟨h1,fun x => ⟨h2,fun y => absurd ⟨x,y⟩ k,fun _ => weak_two weak_nr (.refl _)⟩,fun _ => weak_two weak_nr (.refl _)⟩)
end Go.Av

namespace Go.Av
open Go.Proofs
theorem gcd_cnt {a b:Int} (hb:b ≠ 0) (h:Sp.cnt b.natAbs <= 399000):Sp.cnt ((a.gcd b:Nat):Int).natAbs <= 399000 /\ ((a.gcd b:Nat):Int) ≠ 0:=by
 have h1:0 < a.gcd b:=Int.gcd_pos_of_ne_zero_right _ hb
 have h2:a.gcd b <= b.natAbs:=Nat.le_of_dvd (by omega) (Int.gcd_dvd_natAbs_right a b)
 have:=cnt_mono h2
 rw [Int.natAbs_natCast]
 omega
theorem ev46:Ev M1 (.pure 46 []) (.agg [.bool false,.vec false 1 ((Sp.limI 1).map (.int .u32))]) []:=
 call46 (rUnit _ ⟨by unfold Sp.inI;omega,.refl _⟩)
theorem ev95 (fa fb:Bool) (a b:Int) (h:Sp.cnt a.natAbs <= 399000 /\ Sp.cnt b.natAbs <= 399000 /\ b ≠ 0):Ev M1 (.pure 95 [bigA fa a,bigA fb b]) (ratA false false (Rat.divInt a b)) []:=by
 obtain ⟨ha,hb,h0⟩:=h
 have hna:Sp.cnt (-a).natAbs <= 399000:=by rwa [Int.natAbs_neg]
 have hnb:Sp.cnt (-b).natAbs <= 399000:=by rwa [Int.natAbs_neg]
 refine call95 (rOf _ _ _ _ _ ⟨fun k => ?_,fun k => ?_⟩)
 ·rw [sgnI_lt] at k
  obtain ⟨g1,g2⟩:=gcd_cnt (a:=-a) (b:=-b) (by omega) hnb
  obtain ⟨r1,r2⟩:=rat_neg (a:=a) k
  refine ⟨by unfold Sp.ok;omega,by unfold Sp.ok;omega,⟨hna,hnb⟩,⟨hna,g1,g2⟩,⟨hnb,g1,g2⟩,?_⟩
  show Weak _ (AV.agg [.bool (Sp.isNeg (Rat.divInt a b).num),.vec false 1 ((Sp.limI (Rat.divInt a b).num).map (.int .u32)),.bool (Sp.isNeg ((Rat.divInt a b).den:Int)),.vec false 1 ((Sp.limI ((Rat.divInt a b).den:Int)).map (.int .u32))])
  rw [r1,r2,flo_pos g2,flo_pos g2];exact .refl _
 ·rw [sgnI_lt] at k
  obtain ⟨g1,g2⟩:=gcd_cnt (a:=a) (b:=b) h0 hb
  obtain ⟨r1,r2⟩:=rat_pos (a:=a) (show 0 < b by omega)
  refine ⟨⟨ha,hb⟩,⟨ha,g1,g2⟩,⟨hb,g1,g2⟩,?_⟩
  show Weak _ (AV.agg [.bool (Sp.isNeg (Rat.divInt a b).num),.vec false 1 ((Sp.limI (Rat.divInt a b).num).map (.int .u32)),.bool (Sp.isNeg ((Rat.divInt a b).den:Int)),.vec false 1 ((Sp.limI ((Rat.divInt a b).den:Int)).map (.int .u32))])
  rw [r1,r2,flo_pos g2,flo_pos g2];exact .refl _
theorem ev98 (fa ga:Bool) (r:Rat) (h:Sp.ok r.num):Ev M1 (.pure 98 [ratA fa ga r]) (ratA false false (-r)) []:=by
 refine call98 (rRNeg _ _ _ _ _ ⟨h,?_⟩)
 show Weak _ (AV.agg [.bool (Sp.isNeg (-r).num),.vec false 1 ((Sp.limI (-r).num).map (.int .u32)),.bool (Sp.isNeg ((-r).den:Int)),.vec false 1 ((Sp.limI ((-r).den:Int)).map (.int .u32))])
 rw [Rat.neg_num,Rat.neg_den]
 exact weak_rat _ _ _ _ _ _
theorem ev15 (fa ga fb gb:Bool) (r s:Rat) (h:Sp.okR r /\ Sp.okR s):Ev M1 (.pure 15 [ratA fa ga r,ratA fb gb s]) (.bool (decide (r = s))) []:=by
 obtain ⟨⟨h1,h2⟩,⟨h3,h4⟩⟩:=h
 refine call15 (rRSame _ _ _ _ _ _ _ _ _ ⟨by unfold Sp.ok;omega,fun _ => by unfold Sp.ok;rw [Int.natAbs_natCast,Int.natAbs_natCast];omega,?_⟩)
 congr 1
 by_cases e:r = s
 ·subst e;simp
 ·rw [decide_eq_false e]
  by_cases e1:r.num = s.num
  ·have:¬(r.den:Int) = (s.den:Int):=fun e2 => e (Rat.ext e1 (by omega))
   rw [decide_eq_false this];simp
  ·rw [decide_eq_false e1];rfl
end Go.Av

namespace Go.Av
open Go.Proofs
set_option maxRecDepth 100000
def fi16:Fi:=⟨16,[.tmp 4]⟩
def kp16:List (Nat × List Nat):=[(0,[2,3]),(1,[4])]
def fi51:Fi:=⟨7,[.cell 2 36]⟩
def kp51:List (Nat × List Nat):=[(0,[0,2]),(1,[2])]
def fi65:Fi:=⟨26,[.cell 4 36]⟩
def kp65:List (Nat × List Nat):=[(0,[2,3,4]),(1,[2,3,4,5]),(2,[2,3,4,5,6]),(3,[4])]
def fi68:Fi:=⟨16,[.cell 4 36]⟩
def kp68:List (Nat × List Nat):=[(0,[2,3,4]),(1,[4])]
def fi79:Fi:=⟨12,[.cell 4 36]⟩
def kp79:List (Nat × List Nat):=[(0,[0,1,4]),(1,[0,1,4,6]),(2,[0,1,4]),(3,[4])]
def fi123:Fi:=⟨13,[.cell 4 36,.tmp 5]⟩
def kp123:List (Nat × List Nat):=[(0,[2,3,4]),(1,[2,3,4,8]),(2,[4,5]),(3,[4,5])]
def rRFrom_at (n:Int) (Q:AV -> Heap -> Prop):Prop:=Wp M1 (.run fi51 (atC (cd Tryz.f51) []) [(0,.int .i64 n)] []) Q
def rRAdd_at (fa ga fb gb:Bool) (r s:Rat) (Q:AV -> Heap -> Prop):Prop:=Wp M1 (.run fi65 (atC (cd Tryz.f65) []) [(0,ratA fa ga r),(1,ratA fb gb s)] []) Q
def rRMul_at (fa ga fb gb:Bool) (r s:Rat) (Q:AV -> Heap -> Prop):Prop:=Wp M1 (.run fi68 (atC (cd Tryz.f68) []) [(0,ratA fa ga r),(1,ratA fb gb s)] []) Q
def rRCmp_at (fa ga fb gb:Bool) (r s:Rat) (Q:AV -> Heap -> Prop):Prop:=Wp M1 (.run fi16 (atC (cd Tryz.f16) []) [(0,ratA fa ga r),(1,ratA fb gb s)] []) Q
def rRMake_at (fa fb:Bool) (a b:Int) (Q:AV -> Heap -> Prop):Prop:=Wp M1 (.run fi123 (atC (cd Tryz.f123) []) [(0,bigA fa a),(1,bigA fb b)] []) Q
def rRFrac_at (n d:Int) (Q:AV -> Heap -> Prop):Prop:=Wp M1 (.run fi79 (atC (cd Tryz.f79) []) [(0,.int .i64 n),(1,.int .i64 d)] []) Q
theorem call16 {args:List AV} {d:AV} (h:wc M1 fi16 Tryz.f16 args d):Ev M1 (.pure 16 args) d []:=pcl _ _ (by kernel_rfl) h
theorem call51 {args:List AV} {d:AV} (h:wc M1 fi51 Tryz.f51 args d):Ev M1 (.pure 51 args) d []:=pcl _ _ (by kernel_rfl) h
theorem call65 {args:List AV} {d:AV} (h:wc M1 fi65 Tryz.f65 args d):Ev M1 (.pure 65 args) d []:=pcl _ _ (by kernel_rfl) h
theorem call68 {args:List AV} {d:AV} (h:wc M1 fi68 Tryz.f68 args d):Ev M1 (.pure 68 args) d []:=pcl _ _ (by kernel_rfl) h
theorem call79 {args:List AV} {d:AV} (h:wc M1 fi79 Tryz.f79 args d):Ev M1 (.pure 79 args) d []:=pcl _ _ (by kernel_rfl) h
theorem call123 {args:List AV} {d:AV} (h:wc M1 fi123 Tryz.f123 args d):Ev M1 (.pure 123 args) d []:=pcl _ _ (by kernel_rfl) h
theorem rRFrom (n:Int)  (dq:AV) (H :
  (Sp.inI n) /\
  Weak (ag [vb (Sp.isNeg n),vf (us (Sp.limI n)),vb false,vf (us (Sp.limI 1))]) dq) :
 rRFrom_at n (PureQ dq):=by
 unfold rRFrom_at
 obtain ⟨k1,H⟩:=H
 exact path_rq (G:=given kp51 [(1,1,.call (bigA false n) none),(1,2,.call (ag [vb false,vf (us (Sp.limI 1))]) none)] []) 1000 [] (ag [vb (Sp.isNeg n),vf (us (Sp.limI n)),vb false,vf (us (Sp.limI 1))]) (by kernel_rfl) (bc rfl b0) q0 (ce (@ev57 (n) k1) (ce (@ev46 ) c0)) H
theorem rRAdd (fa ga fb gb:Bool) (r s:Rat)  (dq:AV) (H :
  (Sp.okB r.num /\ Sp.okB (↑s.den:Int)) /\
  (Sp.okB s.num /\ Sp.okB (↑r.den:Int)) /\
  (Sp.okB (r.num * (↑s.den:Int)) /\ Sp.okB (s.num * (↑r.den:Int))) /\
  (Sp.okB (↑r.den:Int) /\ Sp.okB (↑s.den:Int)) /\
  (Sp.cnt (r.num * (↑s.den:Int) + s.num * (↑r.den:Int)).natAbs <= 399000 /\ Sp.cnt ((↑r.den:Int) * (↑s.den:Int)).natAbs <= 399000 /\ (↑r.den:Int) * (↑s.den:Int) ≠ 0) /\
  Weak (ratA false false (Rat.divInt (r.num * (↑s.den:Int) + s.num * (↑r.den:Int)) ((↑r.den:Int) * (↑s.den:Int)))) dq) :
 rRAdd_at fa ga fb gb r s (PureQ dq):=by
 unfold rRAdd_at
 obtain ⟨k1,H⟩:=H
 obtain ⟨k2,H⟩:=H
 obtain ⟨k3,H⟩:=H
 obtain ⟨k4,H⟩:=H
 obtain ⟨k5,H⟩:=H
 exact path_rq (G:=given kp65 [(1,4,.call (bigA false (r.num * (↑s.den:Int))) none),(2,4,.call (bigA false (s.num * (↑r.den:Int))) none),(3,2,.call (bigA false (r.num * (↑s.den:Int) + s.num * (↑r.den:Int))) none),(3,7,.call (bigA false ((↑r.den:Int) * (↑s.den:Int))) none),(3,8,.call (ratA false false (Rat.divInt (r.num * (↑s.den:Int) + s.num * (↑r.den:Int)) ((↑r.den:Int) * (↑s.den:Int)))) none)] []) 1000 [] (ratA false false (Rat.divInt (r.num * (↑s.den:Int) + s.num * (↑r.den:Int)) ((↑r.den:Int) * (↑s.den:Int)))) (by kernel_rfl) (bc rfl (bc rfl (bc rfl (bc rfl (bc rfl (bc rfl (bc rfl (bc rfl (bc rfl (bc rfl (bc rfl b0))))))))))) q0 (ce (@ev48 (fa) (gb) (r.num) ((↑s.den:Int)) k1) (ce (@ev48 (fb) (ga) (s.num) ((↑r.den:Int)) k2) (ce (@ev96 (false) (false) (r.num * (↑s.den:Int)) (s.num * (↑r.den:Int)) k3) (ce (@ev48 (ga) (gb) ((↑r.den:Int)) ((↑s.den:Int)) k4) (ce (@ev95 (false) (false) (r.num * (↑s.den:Int) + s.num * (↑r.den:Int)) ((↑r.den:Int) * (↑s.den:Int)) k5) c0))))) H
theorem rRMul (fa ga fb gb:Bool) (r s:Rat)  (dq:AV) (H :
  (Sp.okB r.num /\ Sp.okB s.num) /\
  (Sp.okB (↑r.den:Int) /\ Sp.okB (↑s.den:Int)) /\
  (Sp.cnt (r.num * s.num).natAbs <= 399000 /\ Sp.cnt ((↑r.den:Int) * (↑s.den:Int)).natAbs <= 399000 /\ (↑r.den:Int) * (↑s.den:Int) ≠ 0) /\
  Weak (ratA false false (Rat.divInt (r.num * s.num) ((↑r.den:Int) * (↑s.den:Int)))) dq) :
 rRMul_at fa ga fb gb r s (PureQ dq):=by
 unfold rRMul_at
 obtain ⟨k1,H⟩:=H
 obtain ⟨k2,H⟩:=H
 obtain ⟨k3,H⟩:=H
 exact path_rq (G:=given kp68 [(1,4,.call (bigA false (r.num * s.num)) none),(1,9,.call (bigA false ((↑r.den:Int) * (↑s.den:Int))) none),(1,10,.call (ratA false false (Rat.divInt (r.num * s.num) ((↑r.den:Int) * (↑s.den:Int)))) none)] []) 1000 [] (ratA false false (Rat.divInt (r.num * s.num) ((↑r.den:Int) * (↑s.den:Int)))) (by kernel_rfl) (bc rfl (bc rfl (bc rfl (bc rfl (bc rfl b0))))) q0 (ce (@ev48 (fa) (fb) (r.num) (s.num) k1) (ce (@ev48 (ga) (gb) ((↑r.den:Int)) ((↑s.den:Int)) k2) (ce (@ev95 (false) (false) (r.num * s.num) ((↑r.den:Int) * (↑s.den:Int)) k3) c0))) H
theorem rRCmp (fa ga fb gb:Bool) (r s:Rat)  (dq:AV) (H :
  (Sp.okB r.num /\ Sp.okB (↑s.den:Int)) /\
  (Sp.okB s.num /\ Sp.okB (↑r.den:Int)) /\
  (Sp.okB (r.num * (↑s.den:Int)) /\ Sp.okB (s.num * (↑r.den:Int))) /\
  vi (Sp.sgnI (r.num * (↑s.den:Int) - s.num * (↑r.den:Int))) = dq) :
 rRCmp_at fa ga fb gb r s (PureQ dq):=by
 unfold rRCmp_at
 obtain ⟨k1,H⟩:=H
 obtain ⟨k2,H⟩:=H
 obtain ⟨k3,H⟩:=H
 exact path_re (G:=given kp16 [(1,4,.call (bigA false (r.num * (↑s.den:Int))) none),(1,9,.call (bigA false (s.num * (↑r.den:Int))) none),(1,10,.call (vi (Sp.sgnI (r.num * (↑s.den:Int) - s.num * (↑r.den:Int)))) none)] []) 1000 [] (vi (Sp.sgnI (r.num * (↑s.den:Int) - s.num * (↑r.den:Int)))) (by kernel_rfl) (bc rfl (bc rfl (bc rfl (bc rfl b0)))) q0 (ce (@ev48 (fa) (gb) (r.num) ((↑s.den:Int)) k1) (ce (@ev48 (fb) (ga) (s.num) ((↑r.den:Int)) k2) (ce (@ev47 (false) (false) (r.num * (↑s.den:Int)) (s.num * (↑r.den:Int)) k3) c0))) H
theorem rRMake (fa fb:Bool) (a b:Int)  (dq:AV) (H :
  ((Sp.sgnI b = 0) -> Weak (tu [ag [vb false,AV.vnil,vb false,AV.vnil],vi 6]) dq) /\
  (¬(Sp.sgnI b = 0) -> (Sp.cnt a.natAbs <= 399000 /\ Sp.cnt b.natAbs <= 399000 /\ b ≠ 0) /\
   Weak (tu [ratA false false (Rat.divInt a b),vi 0]) dq)) :
 rRMake_at fa fb a b (PureQ dq):=by
 unfold rRMake_at
 refine path_wp (G:=given kp123 [(1,1,.call (vi (Sp.sgnI b)) none)] []) 5 [] ⟨(atC (cd Tryz.f123) [1,0,1]),[(2,AV.ptr 0 0 0 0),(3,AV.ptr 1 0 0 0),(4,AV.ptr 2 0 0 0),(8,vb (Sp.sgnI b == 0))],[⟨[bigA fa a],2,0,false,false⟩,⟨[bigA fb b],2,0,false,false⟩,⟨[ag [vb false,AV.vnil,vb false,AV.vnil]],4,0,false,false⟩],_,[],_⟩ (by kernel_rfl) (bc rfl b0) q0 (ce (@ev43 (fb) (b)) c0) ?_
 rcases xm (Sp.sgnI b = 0) with d2 | d2
 ·have H:=H.1 d2
  exact path_rq (G:=given kp123 [] []) 1000 [true] (tu [ag [vb false,AV.vnil,vb false,AV.vnil],vi 6]) (by kernel_rfl) (bc (beq_t (i_eq.2 d2)) (bc rfl b0)) q0 c0 H
 ·have H:=H.2 d2
  obtain ⟨k3,H⟩:=H
  exact path_rq (G:=given kp123 [(3,2,.call (ratA false false (Rat.divInt a b)) none)] []) 1000 [false] (tu [ratA false false (Rat.divInt a b),vi 0]) (by kernel_rfl) (bc (beq_f (fun h => d2 (i_eq.1 h))) (bc rfl (bc rfl (bc rfl b0)))) q0 (ce (@ev95 (fa) (fb) (a) (b) k3) c0) H
theorem rRFrac (n d:Int)  (dq:AV) (H :
  ((d = 0) -> (Sp.inI 0) /\
   (Sp.inI 1) /\
   ∃ (b1:Bool) (l1:List (Int)) (b2:Bool) (l2:List (Int)),
   (Ev M1 (Conf.pure 95 [ag [vb false,vf (us (Sp.limI 0))],ag [vb false,vf (us (Sp.limI 1))]]) (ag [vb b1,vf (us l1),vb b2,vf (us l2)]) []) /\
   Weak (ag [vb b1,vf (us l1),vb b2,vf (us l2)]) dq) /\
  (¬(d = 0) -> (Sp.inI n) /\
   (Sp.inI d) /\
   (Sp.cnt n.natAbs <= 399000 /\ Sp.cnt d.natAbs <= 399000 /\ d ≠ 0) /\
   Weak (ratA false false (Rat.divInt n d)) dq)) :
 rRFrac_at n d (PureQ dq):=by
 unfold rRFrac_at
 rcases xm (d = 0) with d2 | d2
 ·have H:=H.1 d2
  obtain ⟨k3,H⟩:=H
  obtain ⟨k4,H⟩:=H
  obtain ⟨b1,l1,b2,l2,H⟩:=H
  obtain ⟨k5,H⟩:=H
  exact path_rq (G:=given kp79 [(3,1,.call (ag [vb false,vf (us (Sp.limI 0))]) none),(3,3,.call (ag [vb false,vf (us (Sp.limI 1))]) none),(3,4,.call (ag [vb b1,vf (us l1),vb b2,vf (us l2)]) none)] []) 1000 [true] (ag [vb b1,vf (us l1),vb b2,vf (us l2)]) (by kernel_rfl) (bc (beq_t (i_eq.2 d2)) (bc rfl b0)) q0 (ce (@ev57 (0) k3) (ce (@ev57 (1) k4) (ce k5 c0))) H
 ·have H:=H.2 d2
  obtain ⟨k6,H⟩:=H
  obtain ⟨k7,H⟩:=H
  obtain ⟨k8,H⟩:=H
  exact path_rq (G:=given kp79 [(3,1,.call (bigA false n) none),(3,3,.call (bigA false d) none),(3,4,.call (ratA false false (Rat.divInt n d)) none)] []) 1000 [false] (ratA false false (Rat.divInt n d)) (by kernel_rfl) (bc (beq_f (fun h => d2 (i_eq.1 h))) (bc rfl b0)) q0 (ce (@ev57 (n) k6) (ce (@ev57 (d) k7) (ce (@ev95 (false) (false) (n) (d) k8) c0))) H
end Go.Av

namespace Go.Av
open Go.Proofs
set_option maxRecDepth 100000
def fi34:Fi:=⟨13,[.cell 4 36]⟩
def kp34:List (Nat × List Nat):=[(0,[0,1,4]),(1,[0,1,4,6]),(2,[4]),(3,[4])]
def vRFrac_at (n d:Int) (Q:AV -> Heap -> Prop):Prop:=Wp M1 (.run fi34 (atC (cd Tryz.f34) []) [(0,.int .i64 n),(1,.int .i64 d)] []) Q
theorem call34 {args:List AV} {d:AV} (h:wc M1 fi34 Tryz.f34 args d):Ev M1 (.pure 34 args) d []:=pcl _ _ (by kernel_rfl) h
theorem vRFrac (n d:Int)  (dq:AV) (H :
  ((d = 0) -> (Sp.inI 0) /\
   Weak (ratA false false (Sp.qi 0)) dq) /\
  (¬(d = 0) -> (Sp.inI n) /\
   (Sp.inI d) /\
   (Sp.okB n /\ Sp.okB d /\ d ≠ 0) /\
   Weak (ratA false false (Rat.divInt n d)) dq)) :
 vRFrac_at n d (PureQ dq):=by
 unfold vRFrac_at
 rcases xm (d = 0) with d2 | d2
 ·have H:=H.1 d2
  obtain ⟨k3,H⟩:=H
  exact path_rq (G:=given kp34 [(2,0,.call (ratA false false (Sp.qi 0)) none)] []) 1000 [true] (ratA false false (Sp.qi 0)) (by kernel_rfl) (bc (beq_t (i_eq.2 d2)) (bc rfl b0)) q0 (ce (@ev35 (0) k3) c0) H
 ·have H:=H.2 d2
  obtain ⟨k4,H⟩:=H
  obtain ⟨k5,H⟩:=H
  obtain ⟨k6,H⟩:=H
  exact path_rq (G:=given kp34 [(3,1,.call (bigA false n) none),(3,3,.call (bigA false d) none),(3,4,.call (ratA false false (Rat.divInt n d)) none)] []) 1000 [false] (ratA false false (Rat.divInt n d)) (by kernel_rfl) (bc (beq_f (fun h => d2 (i_eq.1 h))) (bc rfl b0)) q0 (ce (@ev72 (n) k4) (ce (@ev72 (d) k5) (ce (@ev71 (false) (false) (n) (d) k6) c0))) H
end Go.Av

namespace Go.Av
open Go.Proofs
def Sp.okA (a b:List Int):Prop:=(a.length <= 90000 /\ ∀ x ∈ a,0 <= x) /\ (b.length <= 90000 /\ ∀ x ∈ b,0 <= x)
end Go.Av

namespace Go.Av
open Go.Proofs
theorem ev51 (n:Int) (h:Sp.inI n):Ev M1 (.pure 51 [.int .i64 n]) (ratA false false (Sp.qi n)) []:=by
 rw [qi_eq]
 refine call51 (rRFrom _ _ ⟨h,?_⟩)
 show Weak _ (AV.agg [.bool (Sp.isNeg (n:Rat).num),.vec false 1 ((Sp.limI (n:Rat).num).map (.int .u32)),.bool (Sp.isNeg ((n:Rat).den:Int)),.vec false 1 ((Sp.limI ((n:Rat).den:Int)).map (.int .u32))])
 rw [Rat.num_intCast,Rat.den_intCast]
 exact .refl _
theorem ev65 (fa ga fb gb:Bool) (r s:Rat) (h:Sp.okR r /\ Sp.okR s):Ev M1 (.pure 65 [ratA fa ga r,ratA fb gb s]) (ratA false false (r + s)) []:=by
 obtain ⟨hr,hs⟩:=h
 obtain ⟨r1,r2⟩:=okR_B hr
 obtain ⟨s1,s2⟩:=okR_B hs
 obtain ⟨cr1,cr2⟩:=hr
 obtain ⟨cs1,cs2⟩:=hs
 have m1:=cnt_mulI cr1 (cnt_den cs2)
 have m2:=cnt_mulI cs1 (cnt_den cr2)
 have m3:=cnt_mulI (cnt_den cr2) (cnt_den cs2)
 have a1:=cnt_addI m1 m2
 refine call65 (rRAdd _ _ _ _ _ _ _ ⟨⟨r1,s2⟩,⟨s1,r2⟩,⟨by unfold Sp.okB;omega,by unfold Sp.okB;omega⟩,⟨r2,s2⟩,⟨by omega,by omega,Int.mul_ne_zero (den_ne r) (den_ne s)⟩,?_⟩)
 rw [rat_add];exact .refl _
theorem ev68 (fa ga fb gb:Bool) (r s:Rat) (h:Sp.okR r /\ Sp.okR s):Ev M1 (.pure 68 [ratA fa ga r,ratA fb gb s]) (ratA false false (r * s)) []:=by
 obtain ⟨hr,hs⟩:=h
 obtain ⟨r1,r2⟩:=okR_B hr
 obtain ⟨s1,s2⟩:=okR_B hs
 obtain ⟨cr1,cr2⟩:=hr
 obtain ⟨cs1,cs2⟩:=hs
 have m1:=cnt_mulI cr1 cs1
 have m3:=cnt_mulI (cnt_den cr2) (cnt_den cs2)
 refine call68 (rRMul _ _ _ _ _ _ _ ⟨⟨r1,s1⟩,⟨r2,s2⟩,⟨by omega,by omega,Int.mul_ne_zero (den_ne r) (den_ne s)⟩,?_⟩)
 rw [rat_mul];exact .refl _
theorem ev16 (fa ga fb gb:Bool) (r s:Rat) (h:Sp.okR r /\ Sp.okR s):Ev M1 (.pure 16 [ratA fa ga r,ratA fb gb s]) (.int .i64 (Sp.sgnI (r.num * (s.den:Int) - s.num * (r.den:Int)))) []:=by
 obtain ⟨hr,hs⟩:=h
 obtain ⟨r1,r2⟩:=okR_B hr
 obtain ⟨s1,s2⟩:=okR_B hs
 obtain ⟨cr1,cr2⟩:=hr
 obtain ⟨cs1,cs2⟩:=hs
 have m1:=cnt_mulI cr1 (cnt_den cs2)
 have m2:=cnt_mulI cs1 (cnt_den cr2)
 exact call16 (rRCmp _ _ _ _ _ _ _ ⟨⟨r1,s2⟩,⟨s1,r2⟩,⟨by unfold Sp.okB;omega,by unfold Sp.okB;omega⟩,rfl⟩)
theorem ev123 (fa fb:Bool) (a b:Int) (h:Sp.cnt a.natAbs <= 399000 /\ Sp.cnt b.natAbs <= 399000 /\ b ≠ 0):Ev M1 (.pure 123 [bigA fa a,bigA fb b]) (.tup [ratA false false (Rat.divInt a b),.int .i64 0]) []:=
 call123 (rRMake _ _ _ _ _ ⟨fun k => absurd (sgnI_zero.1 k) h.2.2,fun _ => ⟨h,.refl _⟩⟩)
def Sp.okF (n d:Int):Prop:=Sp.inI n /\ Sp.inI d /\ d ≠ 0
noncomputable def Sp.qf (n d:Int):Rat:=Sp.hid (Rat.divInt n d)
theorem qf_eq (n d:Int):Sp.qf n d = Rat.divInt n d:=hid_eq _
theorem inI_cnt {n:Int} (h:Sp.inI n):Sp.cnt n.natAbs <= 3:=by
 unfold Sp.inI at h
 exact cnt_u64 (by omega)
theorem ev79 (n d:Int) (h:Sp.okF n d):Ev M1 (.pure 79 [.int .i64 n,.int .i64 d]) (ratA false false (Sp.qf n d)) []:=by
 obtain ⟨h1,h2,h3⟩:=h
 have c1:=inI_cnt h1
 have c2:=inI_cnt h2
 rw [qf_eq]
 exact call79 (rRFrac _ _ _ ⟨fun k => absurd k h3,fun _ => ⟨h1,h2,⟨by omega,by omega,h3⟩,.refl _⟩⟩)
end Go.Av

namespace Go.Av
open Go.Proofs
set_option maxRecDepth 100000
def fi67:Fi:=⟨9,[.cell 4 36]⟩
def kp67:List (Nat × List Nat):=[(0,[2,3,4]),(1,[4])]
def fi97:Fi:=⟨19,[.cell 4 36,.tmp 5]⟩
def kp97:List (Nat × List Nat):=[(0,[2,3,4]),(1,[4,5])]
def rRSub_at (fa ga fb gb:Bool) (r s:Rat) (Q:AV -> Heap -> Prop):Prop:=Wp M1 (.run fi67 (atC (cd Tryz.f67) []) [(0,ratA fa ga r),(1,ratA fb gb s)] []) Q
def rRDiv_at (fa ga fb gb:Bool) (r s:Rat) (Q:AV -> Heap -> Prop):Prop:=Wp M1 (.run fi97 (atC (cd Tryz.f97) []) [(0,ratA fa ga r),(1,ratA fb gb s)] []) Q
theorem call67 {args:List AV} {d:AV} (h:wc M1 fi67 Tryz.f67 args d):Ev M1 (.pure 67 args) d []:=pcl _ _ (by kernel_rfl) h
theorem call97 {args:List AV} {d:AV} (h:wc M1 fi97 Tryz.f97 args d):Ev M1 (.pure 97 args) d []:=pcl _ _ (by kernel_rfl) h
theorem rRSub (fa ga fb gb:Bool) (r s:Rat)  (dq:AV) (H :
  (Sp.ok s.num) /\
  (Sp.okR r /\ Sp.okR (-s)) /\
  Weak (ratA false false (r + -s)) dq) :
 rRSub_at fa ga fb gb r s (PureQ dq):=by
 unfold rRSub_at
 obtain ⟨k1,H⟩:=H
 obtain ⟨k2,H⟩:=H
 exact path_rq (G:=given kp67 [(1,2,.call (ratA false false (-s)) none),(1,3,.call (ratA false false (r + -s)) none)] []) 1000 [] (ratA false false (r + -s)) (by kernel_rfl) (bc rfl (bc rfl (bc rfl b0))) q0 (ce (@ev98 (fb) (gb) (s) k1) (ce (@ev65 (fa) (ga) (false) (false) (r) (-s) k2) c0)) H
theorem rRDiv (fa ga fb gb:Bool) (r s:Rat)  (dq:AV) (H :
  (Sp.okB r.num /\ Sp.okB (↑s.den:Int)) /\
  (Sp.okB (↑r.den:Int) /\ Sp.okB s.num) /\
  (Sp.cnt (r.num * (↑s.den:Int)).natAbs <= 399000 /\ Sp.cnt ((↑r.den:Int) * s.num).natAbs <= 399000 /\ (↑r.den:Int) * s.num ≠ 0) /\
  Weak (tu [ratA false false (Rat.divInt (r.num * (↑s.den:Int)) ((↑r.den:Int) * s.num)),vi 0]) dq) :
 rRDiv_at fa ga fb gb r s (PureQ dq):=by
 unfold rRDiv_at
 obtain ⟨k1,H⟩:=H
 obtain ⟨k2,H⟩:=H
 obtain ⟨k3,H⟩:=H
 exact path_rq (G:=given kp97 [(1,4,.call (bigA false (r.num * (↑s.den:Int))) none),(1,9,.call (bigA false ((↑r.den:Int) * s.num)) none),(1,10,.call (tu [ratA false false (Rat.divInt (r.num * (↑s.den:Int)) ((↑r.den:Int) * s.num)),vi 0]) none)] []) 1000 [] (tu [ratA false false (Rat.divInt (r.num * (↑s.den:Int)) ((↑r.den:Int) * s.num)),vi 0]) (by kernel_rfl) (bc rfl (bc rfl (bc rfl (bc rfl (bc rfl b0))))) q0 (ce (@ev48 (fa) (gb) (r.num) ((↑s.den:Int)) k1) (ce (@ev48 (ga) (fb) ((↑r.den:Int)) (s.num) k2) (ce (@ev123 (false) (false) (r.num * (↑s.den:Int)) ((↑r.den:Int) * s.num) k3) c0))) H
end Go.Av

namespace Go.Av
open Go.Proofs
theorem ev67 (fa ga fb gb:Bool) (r s:Rat) (h:Sp.okR r /\ Sp.okR s):Ev M1 (.pure 67 [ratA fa ga r,ratA fb gb s]) (ratA false false (r - s)) []:=by
 refine call67 (rRSub _ _ _ _ _ _ _ ⟨?_,⟨h.1,okR_neg h.2⟩,?_⟩)
 ·have:=h.2.1;unfold Sp.ok;omega
 ·rw [<- Rat.sub_eq_add_neg];exact .refl _
theorem ev97 (fa ga fb gb:Bool) (r s:Rat) (h:Sp.okR r /\ Sp.okR s /\ s.num ≠ 0):Ev M1 (.pure 97 [ratA fa ga r,ratA fb gb s]) (.tup [ratA false false (r / s),.int .i64 0]) []:=by
 obtain ⟨hr,hs,h0⟩:=h
 obtain ⟨r1,r2⟩:=okR_B hr
 obtain ⟨s1,s2⟩:=okR_B hs
 obtain ⟨cr1,cr2⟩:=hr
 obtain ⟨cs1,cs2⟩:=hs
 have m1:=cnt_mulI cr1 (cnt_den cs2)
 have m3:=cnt_mulI (cnt_den cr2) cs1
 refine call97 (rRDiv _ _ _ _ _ _ _ ⟨⟨r1,s2⟩,⟨r2,s1⟩,⟨by omega,by omega,Int.mul_ne_zero (den_ne r) h0⟩,?_⟩)
 rw [rat_div];exact .refl _
end Go.Av

namespace Go.Av
open Go.Proofs
set_option maxRecDepth 100000
def fi91:Fi:=⟨26,[.cell 4 36,.tmp 5]⟩
def kp91:List (Nat × List Nat):=[(0,[2,3,4]),(1,[2,3,4,9]),(2,[4,5]),(3,[4,5])]
def fi92:Fi:=⟨2,[.cell 0 36]⟩
def kp92:List (Nat × List Nat):=[(0,[0]),(1,[0])]
def fi94:Fi:=⟨17,[.cell 2 36]⟩
def kp94:List (Nat × List Nat):=[(0,[1,2]),(1,[2])]
def oZero_at  (Q:AV -> Heap -> Prop):Prop:=Wp M1 (.run fi92 (atC (cd Tryz.f92) []) [] []) Q
def oNorm_at (f1 f2 f3 f4 f5 f6:Bool) (a b c:Rat) (Q:AV -> Heap -> Prop):Prop:=Wp M1 (.run fi94 (atC (cd Tryz.f94) []) [(0,.agg [.bool (Sp.isNeg a.num),.vec f1 1 ((Sp.limI a.num).map (.int .u32)),.bool (Sp.isNeg (a.den:Int)),.vec f2 1 ((Sp.limI (a.den:Int)).map (.int .u32)),.bool (Sp.isNeg b.num),.vec f3 1 ((Sp.limI b.num).map (.int .u32)),.bool (Sp.isNeg (b.den:Int)),.vec f4 1 ((Sp.limI (b.den:Int)).map (.int .u32)),.bool (Sp.isNeg c.num),.vec f5 1 ((Sp.limI c.num).map (.int .u32)),.bool (Sp.isNeg (c.den:Int)),.vec f6 1 ((Sp.limI (c.den:Int)).map (.int .u32))])] []) Q
def oCommon_at (f1 f2 f3 f4 f5 f6 g1 g2 g3 g4 g5 g6:Bool) (a b c x y z:Rat) (Q:AV -> Heap -> Prop):Prop:=Wp M1 (.run fi91 (atC (cd Tryz.f91) []) [(0,.agg [.bool (Sp.isNeg a.num),.vec f1 1 ((Sp.limI a.num).map (.int .u32)),.bool (Sp.isNeg (a.den:Int)),.vec f2 1 ((Sp.limI (a.den:Int)).map (.int .u32)),.bool (Sp.isNeg b.num),.vec f3 1 ((Sp.limI b.num).map (.int .u32)),.bool (Sp.isNeg (b.den:Int)),.vec f4 1 ((Sp.limI (b.den:Int)).map (.int .u32)),.bool (Sp.isNeg c.num),.vec f5 1 ((Sp.limI c.num).map (.int .u32)),.bool (Sp.isNeg (c.den:Int)),.vec f6 1 ((Sp.limI (c.den:Int)).map (.int .u32))]),(1,.agg [.bool (Sp.isNeg x.num),.vec g1 1 ((Sp.limI x.num).map (.int .u32)),.bool (Sp.isNeg (x.den:Int)),.vec g2 1 ((Sp.limI (x.den:Int)).map (.int .u32)),.bool (Sp.isNeg y.num),.vec g3 1 ((Sp.limI y.num).map (.int .u32)),.bool (Sp.isNeg (y.den:Int)),.vec g4 1 ((Sp.limI (y.den:Int)).map (.int .u32)),.bool (Sp.isNeg z.num),.vec g5 1 ((Sp.limI z.num).map (.int .u32)),.bool (Sp.isNeg (z.den:Int)),.vec g6 1 ((Sp.limI (z.den:Int)).map (.int .u32))])] []) Q
theorem call91 {args:List AV} {d:AV} (h:wc M1 fi91 Tryz.f91 args d):Ev M1 (.pure 91 args) d []:=pcl _ _ (by kernel_rfl) h
theorem call92 {args:List AV} {d:AV} (h:wc M1 fi92 Tryz.f92 args d):Ev M1 (.pure 92 args) d []:=pcl _ _ (by kernel_rfl) h
theorem call94 {args:List AV} {d:AV} (h:wc M1 fi94 Tryz.f94 args d):Ev M1 (.pure 94 args) d []:=pcl _ _ (by kernel_rfl) h
theorem oZero   (dq:AV) (H :
  (Sp.inI 0) /\
  Weak (ratA false false (Sp.qi 0)) dq) :
 oZero_at  (PureQ dq):=by
 unfold oZero_at
 obtain ⟨k1,H⟩:=H
 exact path_rq (G:=given kp92 [(1,0,.call (ratA false false (Sp.qi 0)) none)] []) 1000 [] (ratA false false (Sp.qi 0)) (by kernel_rfl) (bc rfl b0) q0 (ce (@ev35 (0) k1) c0) H
theorem oNorm (f1 f2 f3 f4 f5 f6:Bool) (a b c:Rat)  (dq:AV) (H :
  (Sp.okR a /\ Sp.okR a) /\
  (Sp.okR b /\ Sp.okR b) /\
  (Sp.okR (b * b) /\ Sp.okR c) /\
  (Sp.okR (a * a) /\ Sp.okR (b * b * c)) /\
  Weak (ratA false false (a * a - b * b * c)) dq) :
 oNorm_at f1 f2 f3 f4 f5 f6 a b c (PureQ dq):=by
 unfold oNorm_at
 obtain ⟨k1,H⟩:=H
 obtain ⟨k2,H⟩:=H
 obtain ⟨k3,H⟩:=H
 obtain ⟨k4,H⟩:=H
 exact path_rq (G:=given kp94 [(1,4,.call (ratA false false (a * a)) none),(1,9,.call (ratA false false (b * b)) none),(1,12,.call (ratA false false (b * b * c)) none),(1,13,.call (ratA false false (a * a - b * b * c)) none)] []) 1000 [] (ratA false false (a * a - b * b * c)) (by kernel_rfl) (bc rfl (bc rfl (bc rfl (bc rfl (bc rfl (bc rfl b0)))))) q0 (ce (@ev37 (f1) (f2) (f1) (f2) (a) (a) k1) (ce (@ev37 (f3) (f4) (f3) (f4) (b) (b) k2) (ce (@ev37 (false) (false) (f5) (f6) (b * b) (c) k3) (ce (@ev39 (false) (false) (false) (false) (a * a) (b * b * c) k4) c0)))) H
theorem oCommon (f1 f2 f3 f4 f5 f6 g1 g2 g3 g4 g5 g6:Bool) (a b c x y z:Rat)  (dq:AV) (H :
  ((Sp.sgnI b.num = 0) -> Weak (tu [ratA g5 g6 z,vb true]) dq) /\
  (¬(Sp.sgnI b.num = 0) -> ((¬(Sp.sgnI y.num = 0)) -> (Sp.okR c /\ Sp.okR z)) /\
   Weak (tu [ratA f5 f6 c,vb (bif Sp.sgnI y.num == 0 then true else Sp.sgnI (c.num * (↑z.den:Int) - z.num * (↑c.den:Int)) == 0)]) dq)) :
 oCommon_at f1 f2 f3 f4 f5 f6 g1 g2 g3 g4 g5 g6 a b c x y z (PureQ dq):=by
 unfold oCommon_at
 refine path_wp (G:=given kp91 [(1,2,.call (vi (Sp.sgnI b.num)) none)] []) 5 [] ⟨(atC (cd Tryz.f91) [1,0,1]),[(2,AV.ptr 0 0 0 0),(3,AV.ptr 1 0 0 0),(4,AV.ptr 2 0 0 0),(9,vb (Sp.sgnI b.num == 0))],[⟨[ag [vb (Sp.isNeg a.num),AV.vec f1 1 (us (Sp.limI a.num)),vb (Sp.isNeg (↑a.den:Int)),AV.vec f2 1 (us (Sp.limI (↑a.den:Int))),vb (Sp.isNeg b.num),AV.vec f3 1 (us (Sp.limI b.num)),vb (Sp.isNeg (↑b.den:Int)),AV.vec f4 1 (us (Sp.limI (↑b.den:Int))),vb (Sp.isNeg c.num),AV.vec f5 1 (us (Sp.limI c.num)),vb (Sp.isNeg (↑c.den:Int)),AV.vec f6 1 (us (Sp.limI (↑c.den:Int)))]],12,0,false,false⟩,⟨[ag [vb (Sp.isNeg x.num),AV.vec g1 1 (us (Sp.limI x.num)),vb (Sp.isNeg (↑x.den:Int)),AV.vec g2 1 (us (Sp.limI (↑x.den:Int))),vb (Sp.isNeg y.num),AV.vec g3 1 (us (Sp.limI y.num)),vb (Sp.isNeg (↑y.den:Int)),AV.vec g4 1 (us (Sp.limI (↑y.den:Int))),vb (Sp.isNeg z.num),AV.vec g5 1 (us (Sp.limI z.num)),vb (Sp.isNeg (↑z.den:Int)),AV.vec g6 1 (us (Sp.limI (↑z.den:Int)))]],12,0,false,false⟩,⟨[ag [vb false,AV.vnil,vb false,AV.vnil]],4,0,false,false⟩],_,[],_⟩ (by kernel_rfl) (bc rfl b0) q0 (ce (@ev75 (f3) (f4) (b.num) ((↑b.den:Int))) c0) ?_
 rcases xm (Sp.sgnI b.num = 0) with d2 | d2
 ·have H:=H.1 d2
  exact path_rq (G:=given kp91 [] []) 1000 [true] (tu [ratA g5 g6 z,vb true]) (by kernel_rfl) (bc (beq_t (i_eq.2 d2)) (bc rfl (bc rfl b0))) q0 c0 H
 ·have H:=H.2 d2
  obtain ⟨k4,H⟩:=H
  exact path_rq (G:=given kp91 [(3,4,.call (vi (Sp.sgnI y.num)) none),(3,11,.call (vi (Sp.sgnI (c.num * (↑z.den:Int) - z.num * (↑c.den:Int)))) none)] []) 1000 [false] (asm:=[(Sp.sgnI b.num == 0) == false,true,true,!((Sp.sgnI y.num == 0) == false && true) || true,!((Sp.sgnI y.num == 0) == false && true) || true,true]) (calls:=[⟨true,false,75,[ratA g3 g4 y],[],vi (Sp.sgnI y.num),[]⟩,⟨(Sp.sgnI y.num == 0) == false && true && true,false,36,[ratA f5 f6 c,ratA g5 g6 z],[],vi (Sp.sgnI (c.num * (↑z.den:Int) - z.num * (↑c.den:Int))),[]⟩]) (tu [ratA f5 f6 c,vb (bif Sp.sgnI y.num == 0 then true else Sp.sgnI (c.num * (↑z.den:Int) - z.num * (↑c.den:Int)) == 0)]) (by kernel_rfl) (bc (beq_f (fun h => d2 (i_eq.1 h))) (bc rfl (bc rfl (bc (Bool.or_true _) (bc (Bool.or_true _) (bc rfl b0)))))) q0 (cc (fun _ => (@ev75 (g3) (g4) (y.num) ((↑y.den:Int)))) (cc (fun hc => ((@ev36 (f5) (f6) (g5) (g6) (c) (z) (k4 ((i_at (i_at (i_bf i_eq))).1 hc))):Ev M1 (Conf.pure 36 [ratA f5 f6 c,ratA g5 g6 z]) (vi (Sp.sgnI (c.num * (↑z.den:Int) - z.num * (↑c.den:Int)))) [])) c0)) H
end Go.Av

namespace Go.Av
open Go.Proofs
abbrev rootA (f1 f2 f3 f4 f5 f6:Bool) (a b c:Rat):AV:=.agg [.bool (Sp.isNeg a.num),.vec f1 1 ((Sp.limI a.num).map (.int .u32)),.bool (Sp.isNeg (a.den:Int)),.vec f2 1 ((Sp.limI (a.den:Int)).map (.int .u32)),.bool (Sp.isNeg b.num),.vec f3 1 ((Sp.limI b.num).map (.int .u32)),.bool (Sp.isNeg (b.den:Int)),.vec f4 1 ((Sp.limI (b.den:Int)).map (.int .u32)),.bool (Sp.isNeg c.num),.vec f5 1 ((Sp.limI c.num).map (.int .u32)),.bool (Sp.isNeg (c.den:Int)),.vec f6 1 ((Sp.limI (c.den:Int)).map (.int .u32))]
abbrev rootF (a b c:Rat):AV:=rootA false false false false false false a b c
theorem weak_rf {f1 f2:Bool} (a:Rat):Weak (ratA f1 f2 a) (ratA false false a):=weak_rat _ _ _ _ _ _
theorem weak_root {f1 f2 f3 f4 f5 f6:Bool} (a b c:Rat):Weak (rootA f1 f2 f3 f4 f5 f6 a b c) (rootF a b c):=by
 refine .agg _ _ rfl fun i x y hx hy => ?_
 match i with
 | 0 => simp at hx hy;subst hx;subst hy;exact .refl _
 | 1 => simp at hx hy;subst hx;subst hy;exact weak_vec _ _ _
 | 2 => simp at hx hy;subst hx;subst hy;exact .refl _
 | 3 => simp at hx hy;subst hx;subst hy;exact weak_vec _ _ _
 | 4 => simp at hx hy;subst hx;subst hy;exact .refl _
 | 5 => simp at hx hy;subst hx;subst hy;exact weak_vec _ _ _
 | 6 => simp at hx hy;subst hx;subst hy;exact .refl _
 | 7 => simp at hx hy;subst hx;subst hy;exact weak_vec _ _ _
 | 8 => simp at hx hy;subst hx;subst hy;exact .refl _
 | 9 => simp at hx hy;subst hx;subst hy;exact weak_vec _ _ _
 | 10 => simp at hx hy;subst hx;subst hy;exact .refl _
 | 11 => simp at hx hy;subst hx;subst hy;exact weak_vec _ _ _
 | i + 12 => simp at hx
theorem sgn_num {r:Rat}:Sp.sgnI r.num = 0 ↔ r = 0:=by rw [sgnI_zero,Rat.num_eq_zero]
def Sp.okT (k:Nat) (r:Rat):Prop:=Sp.cnt r.num.natAbs <= k /\ Sp.cnt r.den <= k
theorem okT_R {k:Nat} {r:Rat} (h:Sp.okT k r) (hk:k <= 90000):Sp.okR r:=⟨Nat.le_trans h.1 hk,Nat.le_trans h.2 hk⟩
theorem okT_le {k m:Nat} {r:Rat} (h:Sp.okT k r) (hk:k <= m):Sp.okT m r:=⟨Nat.le_trans h.1 hk,Nat.le_trans h.2 hk⟩
theorem divInt_le {p q:Int} (hq:q ≠ 0):(Rat.divInt p q).num.natAbs <= p.natAbs /\ (Rat.divInt p q).den <= q.natAbs:=by
 by_cases h:0 < q
 ·obtain ⟨e1,e2⟩:=rat_pos (a:=p) h
  have e3:(Rat.divInt p q).den = ((q / ((p.gcd q:Nat):Int))).natAbs:=by omega
  rw [e1,e3]
  refine ⟨?_,?_⟩
  ·rw [Int.natAbs_ediv_of_dvd (Int.gcd_dvd_left ..)];exact Nat.div_le_self _ _
  ·rw [Int.natAbs_ediv_of_dvd (Int.gcd_dvd_right ..)];exact Nat.div_le_self _ _
 ·obtain ⟨e1,e2⟩:=rat_neg (a:=p) (b:=q) (by omega)
  have e3:(Rat.divInt p q).den = ((-q / (((-p).gcd (-q):Nat):Int))).natAbs:=by omega
  rw [e1,e3]
  refine ⟨?_,?_⟩
  ·rw [Int.natAbs_ediv_of_dvd (Int.gcd_dvd_left ..),Int.natAbs_neg];exact Nat.div_le_self _ _
  ·rw [Int.natAbs_ediv_of_dvd (Int.gcd_dvd_right ..),Int.natAbs_neg];exact Nat.div_le_self _ _
theorem okT_mul {k m:Nat} {r s:Rat} (h:Sp.okT k r) (h2:Sp.okT m s):Sp.okT (k + m) (r * s):=by
 have e:=divInt_le (p:=r.num * s.num) (q:=(r.den:Int) * (s.den:Int)) (Int.mul_ne_zero (den_ne r) (den_ne s))
 rw [rat_mul] at e
 refine ⟨Nat.le_trans (cnt_mono e.1) (cnt_mulI h.1 h2.1),Nat.le_trans (cnt_mono e.2) (cnt_mulI (cnt_den h.2) (cnt_den h2.2))⟩
theorem okT_add {k m:Nat} {r s:Rat} (h:Sp.okT k r) (h2:Sp.okT m s):Sp.okT (k + m + 1) (r + s):=by
 have e:=divInt_le (p:=r.num * (s.den:Int) + s.num * (r.den:Int)) (q:=(r.den:Int) * (s.den:Int)) (Int.mul_ne_zero (den_ne r) (den_ne s))
 rw [rat_add] at e
 have m1:=cnt_mulI h.1 (cnt_den h2.2)
 have m2:=cnt_mulI h2.1 (cnt_den h.2)
 have m3:=cnt_mulI (cnt_den h.2) (cnt_den h2.2)
 have:=cnt_addI m1 (Nat.le_trans m2 (by omega))
 exact ⟨Nat.le_trans (cnt_mono e.1) this,Nat.le_trans (cnt_mono e.2) (Nat.le_trans m3 (by omega))⟩
theorem okT_neg {k:Nat} {r:Rat} (h:Sp.okT k r):Sp.okT k (-r):=by
 unfold Sp.okT
 rw [Rat.neg_num,Rat.neg_den,Int.natAbs_neg];exact h
theorem okT_sub {k m:Nat} {r s:Rat} (h:Sp.okT k r) (h2:Sp.okT m s):Sp.okT (k + m + 1) (r - s):=by
 rw [Rat.sub_eq_add_neg];exact okT_add h (okT_neg h2)
theorem okT_rt {k:Nat} {r:Rat} (h:Sp.rsq r) (hr:Sp.okT k r):Sp.okT k (Sp.rt r):=by
 obtain ⟨e1,e2⟩:=rt_num h
 obtain ⟨a1,a2⟩:=hr
 have h1:=(sq_le ((isSq_iff _).1 h.1).1).2
 have h2:=(sq_le ((isSq_iff _).1 h.2).1).2
 unfold Sp.okT
 rw [e1]
 have:(Sp.rt r).den = (Sp.sq (r.den:Int)).natAbs:=by omega
 rw [this]
 exact ⟨Nat.le_trans (cnt_mono h1) a1,Nat.le_trans (cnt_mono h2) a2⟩
theorem okT_int {n:Int} (h:Sp.inI n):Sp.okT 3 (Sp.qi n):=by
 rw [qi_eq]
 unfold Sp.okT
 rw [Rat.num_intCast,Rat.den_intCast]
 exact ⟨inI_cnt h,by have:=cnt_small (n:=1) (by decide);omega⟩
theorem okT_zero:Sp.okT 1 (0:Rat):=by
 have h0:Sp.cnt ((0:Rat).num.natAbs) = 0:=cnt_zero
 have h1:=cnt_small (n:=1) (by decide)
 have h2:(0:Rat).den = 1:=rfl
 unfold Sp.okT
 rw [h0,h2]
 omega
theorem ev92:Ev M1 (.pure 92 []) (ratA false false (Sp.qi 0)) []:=
 call92 (oZero _ ⟨by unfold Sp.inI;omega,.refl _⟩)
def Sp.okO (a b c:Rat):Prop:=Sp.okT 9000 a /\ Sp.okT 9000 b /\ Sp.okT 9000 c
def Sp.okP (a b:Rat):Prop:=Sp.okT 9000 a /\ Sp.okT 9000 b
theorem ev94 (f1 f2 f3 f4 f5 f6:Bool) (a b c:Rat) (h:Sp.okO a b c):Ev M1 (.pure 94 [rootA f1 f2 f3 f4 f5 f6 a b c]) (ratA false false (a * a - b * b * c)) []:=by
 obtain ⟨ha,hb,hc⟩:=h
 have aa:=okT_mul ha ha
 have bb:=okT_mul hb hb
 have bbc:=okT_mul bb hc
 exact call94 (oNorm _ _ _ _ _ _ _ _ _ _ ⟨⟨okT_R ha (by omega),okT_R ha (by omega)⟩,⟨okT_R hb (by omega),okT_R hb (by omega)⟩,⟨okT_R bb (by omega),okT_R hc (by omega)⟩,⟨okT_R aa (by omega),okT_R bbc (by omega)⟩,.refl _⟩)
def Sp.com (b c z:Rat):Rat:=if b = 0 then z else c
def Sp.isCom (b c y z:Rat):Prop:=b = 0 \/ y = 0 \/ c = z
instance (b c y z:Rat):Decidable (Sp.isCom b c y z):=inferInstanceAs (Decidable (_ \/ _))
theorem cross {c z:Rat}:Sp.sgnI (c.num * (z.den:Int) - z.num * (c.den:Int)) = 0 ↔ c = z:=by
 rw [sgnI_zero]
 constructor
 ·intro h
  have h1:c.num * (z.den:Int) = z.num * (c.den:Int):=by omega
  have e:=(Rat.divInt_eq_divInt_iff (den_ne c) (den_ne z)).2 h1
  rwa [Rat.num_divInt_den,Rat.num_divInt_den] at e
 ·intro h;subst h;omega
theorem com_bool (c y z:Rat):(bif Sp.sgnI y.num == 0 then true else Sp.sgnI (c.num * (z.den:Int) - z.num * (c.den:Int)) == 0) = decide (y = 0 \/ c = z):=by
 by_cases h:y = 0
 ·rw [show (Sp.sgnI y.num == 0) = true from beq_iff_eq.2 (sgn_num.2 h),cond_true,decide_eq_true (.inl h)]
 ·rw [show (Sp.sgnI y.num == 0) = false from beq_eq_false_iff_ne.2 fun k => h (sgn_num.1 k),cond_false]
  by_cases k:c = z
  ·rw [decide_eq_true (.inr k)];exact beq_iff_eq.2 (cross.2 k)
  ·rw [decide_eq_false (fun x => x.elim h k)];exact beq_eq_false_iff_ne.2 fun x => k (cross.1 x)
theorem ev91 (f1 f2 f3 f4 f5 f6 g1 g2 g3 g4 g5 g6:Bool) (a b c x y z:Rat) (h:Sp.okP c z):Ev M1 (.pure 91 [rootA f1 f2 f3 f4 f5 f6 a b c,rootA g1 g2 g3 g4 g5 g6 x y z]) (.tup [ratA false false (Sp.com b c z),.bool (decide (Sp.isCom b c y z))]) []:=by
 refine call91 (oCommon _ _ _ _ _ _ _ _ _ _ _ _ _ _ _ _ _ _ _ ⟨fun k => ?_,fun k => ⟨fun _ => ⟨okT_R h.1 (by omega),okT_R h.2 (by omega)⟩,?_⟩⟩)
 ·have k:=sgn_num.1 k
  rw [show Sp.com b c z = z from if_pos k,decide_eq_true (show Sp.isCom b c y z from .inl k)]
  exact weak_two (weak_rf z) (.refl _)
 ·have k:¬b = 0:=fun e => k (sgn_num.2 e)
  rw [show Sp.com b c z = c from if_neg k,com_bool]
  have:decide (Sp.isCom b c y z) = decide (y = 0 \/ c = z):=by
   unfold Sp.isCom
   congr 1
   exact propext ⟨fun x => x.resolve_left k,.inr⟩
  rw [this]
  exact weak_two (weak_rf c) (.refl _)
end Go.Av

namespace Go.Av
open Go.Proofs
set_option maxRecDepth 100000
def fi62:Fi:=⟨7,[.cell 2 79]⟩
def kp62:List (Nat × List Nat):=[(0,[1,2]),(1,[2])]
def fi64:Fi:=⟨29,[.tmp 2]⟩
def kp64:List (Nat × List Nat):=[(0,[1]),(1,[1,3,4]),(2,[1,3,4,11]),(3,[2]),(4,[1,3,4,20]),(5,[2]),(6,[2])]
def fi90:Fi:=⟨15,[.cell 6 79]⟩
def kp90:List (Nat × List Nat):=[(0,[3,4,5,6]),(1,[3,4,5,6,9]),(2,[3,4,5,6]),(3,[6])]
def oFrom_at (f1 f2:Bool) (a:Rat) (Q:AV -> Heap -> Prop):Prop:=Wp M1 (.run fi62 (atC (cd Tryz.f62) []) [(0,ratA f1 f2 a)] []) Q
def oRed_at (f1 f2 f3 f4 f5 f6:Bool) (a b c:Rat) (Q:AV -> Heap -> Prop):Prop:=Wp M1 (.run fi90 (atC (cd Tryz.f90) []) [(0,ratA f1 f2 a),(1,ratA f3 f4 b),(2,ratA f5 f6 c)] []) Q
def oSign_at (f1 f2 f3 f4 f5 f6:Bool) (a b c:Rat) (Q:AV -> Heap -> Prop):Prop:=Wp M1 (.run fi64 (atC (cd Tryz.f64) []) [(0,rootA f1 f2 f3 f4 f5 f6 a b c)] []) Q
theorem call62 {args:List AV} {d:AV} (h:wc M1 fi62 Tryz.f62 args d):Ev M1 (.pure 62 args) d []:=pcl _ _ (by kernel_rfl) h
theorem call64 {args:List AV} {d:AV} (h:wc M1 fi64 Tryz.f64 args d):Ev M1 (.pure 64 args) d []:=pcl _ _ (by kernel_rfl) h
theorem call90 {args:List AV} {d:AV} (h:wc M1 fi90 Tryz.f90 args d):Ev M1 (.pure 90 args) d []:=pcl _ _ (by kernel_rfl) h
theorem oFrom (f1 f2:Bool) (a:Rat)  (dq:AV) (H :
  Weak (rootA f1 f2 false false false false a (Sp.qi 0) (Sp.qi 0)) dq) :
 oFrom_at f1 f2 a (PureQ dq):=by
 unfold oFrom_at
 exact path_rq (G:=given kp62 [(1,1,.call (ratA false false (Sp.qi 0)) none),(1,2,.call (ratA false false (Sp.qi 0)) none)] []) 1000 [] (rootA f1 f2 false false false false a (Sp.qi 0) (Sp.qi 0)) (by kernel_rfl) (bc rfl (bc rfl b0)) q0 (ce (@ev92 ) (ce (@ev92 ) c0)) H
theorem oRed (f1 f2 f3 f4 f5 f6:Bool) (a b c:Rat)  (dq:AV) (H :
  ((Sp.sgnI b.num = 0) -> Weak (rootA f1 f2 f3 f4 false false a b (Sp.qi 0)) dq) /\
  (¬(Sp.sgnI b.num = 0) -> Weak (rootA f1 f2 f3 f4 f5 f6 a b c) dq)) :
 oRed_at f1 f2 f3 f4 f5 f6 a b c (PureQ dq):=by
 unfold oRed_at
 refine path_wp (G:=given kp90 [(1,1,.call (vi (Sp.sgnI b.num)) none)] []) 5 [] ⟨(atC (cd Tryz.f90) [1,0,1]),[(3,AV.ptr 0 0 0 0),(4,AV.ptr 1 0 0 0),(5,AV.ptr 2 0 0 0),(6,AV.ptr 3 0 0 0),(9,vb (Sp.sgnI b.num == 0))],[⟨[ratA f1 f2 a],4,0,false,false⟩,⟨[ratA f3 f4 b],4,0,false,false⟩,⟨[ratA f5 f6 c],4,0,false,false⟩,⟨[ag [vb false,AV.vnil,vb false,AV.vnil,vb false,AV.vnil,vb false,AV.vnil,vb false,AV.vnil,vb false,AV.vnil]],12,0,false,false⟩],_,[],_⟩ (by kernel_rfl) (bc rfl b0) q0 (ce (@ev75 (f3) (f4) (b.num) ((↑b.den:Int))) c0) ?_
 rcases xm (Sp.sgnI b.num = 0) with d2 | d2
 ·have H:=H.1 d2
  exact path_rq (G:=given kp90 [(2,0,.call (ratA false false (Sp.qi 0)) none)] []) 1000 [true] (asm:=[(Sp.sgnI b.num == 0) == true,0 == 0,true,true,true,true]) (rootA f1 f2 f3 f4 false false a b (Sp.qi 0)) (by kernel_rfl) (bc (beq_t (i_eq.2 d2)) (bc (beq_self_eq_true _) (bc rfl (bc rfl (bc rfl (bc rfl b0)))))) q0 (ce (@ev92 ) c0) H
 ·have H:=H.2 d2
  exact path_rq (G:=given kp90 [] []) 1000 [false] (rootA f1 f2 f3 f4 f5 f6 a b c) (by kernel_rfl) (bc (beq_f (fun h => d2 (i_eq.1 h))) (bc rfl (bc rfl (bc rfl (bc rfl b0))))) q0 c0 H
theorem oSign (f1 f2 f3 f4 f5 f6:Bool) (a b c:Rat)  (dq:AV) (H :
  (((Sp.sgnI b.num = 0) \/ (Sp.sgnI a.num = Sp.sgnI b.num)) -> vi (Sp.sgnI a.num) = dq) /\
  (¬((Sp.sgnI b.num = 0) \/ (Sp.sgnI a.num = Sp.sgnI b.num)) -> ((Sp.sgnI a.num = 0) -> vi (Sp.sgnI b.num) = dq) /\
   (¬(Sp.sgnI a.num = 0) -> (Sp.okO a b c) /\
    (-9223372036854775808 <= Sp.sgnI a.num * Sp.sgnI (a * a - b * b * c).num /\ Sp.sgnI a.num * Sp.sgnI (a * a - b * b * c).num <= 9223372036854775807) /\
    vi (Sp.sgnI a.num * Sp.sgnI (a * a - b * b * c).num) = dq))) :
 oSign_at f1 f2 f3 f4 f5 f6 a b c (PureQ dq):=by
 unfold oSign_at
 refine path_wp (G:=given kp64 [(1,2,.call (vi (Sp.sgnI a.num)) none),(1,5,.call (vi (Sp.sgnI b.num)) none)] []) 8 [] ⟨(atC (cd Tryz.f64) [1,1,0,0,1]),[(1,AV.ptr 0 0 0 0),(3,vi (Sp.sgnI a.num)),(4,vi (Sp.sgnI b.num)),(11,vb (bif Sp.sgnI b.num == 0 then true else Sp.sgnI a.num == Sp.sgnI b.num))],[⟨[rootA f1 f2 f3 f4 f5 f6 a b c],12,0,false,false⟩],_,[],_⟩ (by kernel_rfl) (bc rfl (bc rfl b0)) q0 (ce (@ev75 (f1) (f2) (a.num) ((↑a.den:Int))) (ce (@ev75 (f3) (f4) (b.num) ((↑b.den:Int))) c0)) ?_
 rcases xm ((Sp.sgnI b.num = 0) \/ (Sp.sgnI a.num = Sp.sgnI b.num)) with d2 | d2
 ·have H:=H.1 d2
  exact path_re (G:=given kp64 [] []) 1000 [true] (vi (Sp.sgnI a.num)) (by kernel_rfl) (bc (beq_t ((i_bor i_eq i_eq).2 d2)) b0) q0 c0 H
 ·have H:=H.2 d2
  rcases xm (Sp.sgnI a.num = 0) with d4 | d4
  ·have H:=H.1 d4
   exact path_re (G:=given kp64 [] []) 1000 [false,true] (vi (Sp.sgnI b.num)) (by kernel_rfl) (bc (beq_f (fun h => d2 ((i_bor i_eq i_eq).1 h))) (bc (beq_t (i_eq.2 d4)) b0)) q0 c0 H
  ·have H:=H.2 d4
   obtain ⟨k5,H⟩:=H
   obtain ⟨k6,H⟩:=H
   have w7:wi (Sp.sgnI a.num * Sp.sgnI (a * a - b * b * c).num) = Sp.sgnI a.num * Sp.sgnI (a * a - b * b * c).num:=wI64 k6
   exact path_re (G:=given kp64 [(6,2,.call (ratA false false (a * a - b * b * c)) none),(6,3,.call (vi (Sp.sgnI (a * a - b * b * c).num)) none)] []) 1000 [false,false] (vi (wi (Sp.sgnI a.num * Sp.sgnI (a * a - b * b * c).num))) (by kernel_rfl) (bc (beq_f (fun h => d2 ((i_bor i_eq i_eq).1 h))) (bc (beq_f (fun h => d4 (i_eq.1 h))) (bc rfl b0))) q0 (ce (@ev94 (f1) (f2) (f3) (f4) (f5) (f6) (a) (b) (c) k5) (ce (@ev75 (false) (false) ((a * a - b * b * c).num) ((↑(a * a - b * b * c).den:Int))) c0)) (by (try rw [w7]);all_goals exact H)
end Go.Av

namespace Go.Av
open Go.Proofs
theorem ev62 (f1 f2:Bool) (a:Rat):Ev M1 (.pure 62 [ratA f1 f2 a]) (rootF a (Sp.qi 0) (Sp.qi 0)) []:=
 call62 (oFrom _ _ _ _ (weak_root a (Sp.qi 0) (Sp.qi 0)))
noncomputable def Sp.rad (b c:Rat):Rat:=if b = 0 then Sp.qi 0 else c
theorem ev90 (f1 f2 f3 f4 f5 f6:Bool) (a b c:Rat):Ev M1 (.pure 90 [ratA f1 f2 a,ratA f3 f4 b,ratA f5 f6 c]) (rootF a b (Sp.rad b c)) []:=by
 refine call90 (oRed _ _ _ _ _ _ _ _ _ _ ⟨fun k => ?_,fun k => ?_⟩)
 ·rw [show Sp.rad b c = Sp.qi 0 from if_pos (sgn_num.1 k)];exact weak_root a b (Sp.qi 0)
 ·rw [show Sp.rad b c = c from if_neg fun e => k (sgn_num.2 e)];exact weak_root a b c
def Sp.sgR (r:Rat):Int:=Sp.sgnI r.num
noncomputable def Sp.sgO (a b c:Rat):Int:=if Sp.sgR b = 0 \/ Sp.sgR a = Sp.sgR b then Sp.sgR a else if Sp.sgR a = 0 then Sp.sgR b else Sp.sgR a * Sp.sgR (a * a - b * b * c)
theorem sgnI_le (n:Int):-1 <= Sp.sgnI n /\ Sp.sgnI n <= 1:=by
 unfold Sp.sgnI
 (repeat' split) <;> omega
theorem sgn_bound {x y:Int} (hx:-1 <= x /\ x <= 1) (hy:-1 <= y /\ y <= 1):-1 <= x * y /\ x * y <= 1:=by
 obtain ⟨x1,x2⟩:=hx
 rcases (by omega:x = -1 \/ x = 0 \/ x = 1) with e | e | e <;> subst e <;> omega
theorem ev64 (f1 f2 f3 f4 f5 f6:Bool) (a b c:Rat) (h:Sp.okO a b c):Ev M1 (.pure 64 [rootA f1 f2 f3 f4 f5 f6 a b c]) (.int .i64 (Sp.sgO a b c)) []:=by
 refine call64 (oSign _ _ _ _ _ _ _ _ _ _ ⟨fun k => ?_,fun k => ⟨fun k2 => ?_,fun k2 => ⟨h,?_,?_⟩⟩⟩)
 ·unfold Sp.sgO Sp.sgR;rw [if_pos k]
 ·unfold Sp.sgO Sp.sgR;rw [if_neg k,if_pos k2]
 ·have:=sgn_bound (sgnI_le a.num) (sgnI_le (a * a - b * b * c).num)
  omega
 ·unfold Sp.sgO Sp.sgR;rw [if_neg k,if_neg k2]
end Go.Av

namespace Go.Av
open Go.Proofs
set_option maxRecDepth 100000
def fi59:Fi:=⟨30,[.cell 6 79,.tmp 7]⟩
def kp59:List (Nat × List Nat):=[(0,[3,4,5,6]),(1,[3,4,5,6,12]),(2,[6,7]),(3,[3,4,5,6,8,9]),(4,[3,4,5,6,8,19]),(5,[6,7]),(6,[6,7])]
def fi60:Fi:=⟨16,[.cell 4 79]⟩
def kp60:List (Nat × List Nat):=[(0,[2,3,4]),(1,[4])]
def fi61:Fi:=⟨29,[.cell 4 79,.tmp 5]⟩
def kp61:List (Nat × List Nat):=[(0,[2,3,4]),(1,[2,3,4,6,7]),(2,[2,3,4,6,15]),(3,[4,5]),(4,[4,5])]
def oMake_at (f1 f2 f3 f4 f5 f6:Bool) (a b c:Rat) (Q:AV -> Heap -> Prop):Prop:=Wp M1 (.run fi59 (atC (cd Tryz.f59) []) [(0,ratA f1 f2 a),(1,ratA f3 f4 b),(2,ratA f5 f6 c)] []) Q
def oAdd_at (f1 f2 f3 f4 f5 f6 g1 g2 g3 g4 g5 g6:Bool) (a b c x y z:Rat) (Q:AV -> Heap -> Prop):Prop:=Wp M1 (.run fi61 (atC (cd Tryz.f61) []) [(0,rootA f1 f2 f3 f4 f5 f6 a b c),(1,rootA g1 g2 g3 g4 g5 g6 x y z)] []) Q
def oScale_at (f1 f2 f3 f4 f5 f6:Bool) (k l:Bool) (a b c r:Rat) (Q:AV -> Heap -> Prop):Prop:=Wp M1 (.run fi60 (atC (cd Tryz.f60) []) [(0,rootA f1 f2 f3 f4 f5 f6 a b c),(1,ratA k l r)] []) Q
theorem call59 {args:List AV} {d:AV} (h:wc M1 fi59 Tryz.f59 args d):Ev M1 (.pure 59 args) d []:=pcl _ _ (by kernel_rfl) h
theorem call60 {args:List AV} {d:AV} (h:wc M1 fi60 Tryz.f60 args d):Ev M1 (.pure 60 args) d []:=pcl _ _ (by kernel_rfl) h
theorem call61 {args:List AV} {d:AV} (h:wc M1 fi61 Tryz.f61 args d):Ev M1 (.pure 61 args) d []:=pcl _ _ (by kernel_rfl) h
noncomputable abbrev zNxC1:=ag [vb false,AV.vnil,vb false,AV.vnil,vb false,AV.vnil,vb false,AV.vnil,vb false,AV.vnil,vb false,AV.vnil]
theorem oMake (f1 f2 f3 f4 f5 f6:Bool) (a b c:Rat)  (dq:AV) (H :
  ((Sp.sgnI c.num < 0) -> Weak (tu [ag [vb false,AV.vnil,vb false,AV.vnil,vb false,AV.vnil,vb false,AV.vnil,vb false,AV.vnil,vb false,AV.vnil],vi 7]) dq) /\
  (¬(Sp.sgnI c.num < 0) -> ((Sp.rsq c) -> (Sp.okR c) /\
    (Sp.okR b /\ Sp.okR (Sp.rt c)) /\
    (Sp.okR a /\ Sp.okR (b * Sp.rt c)) /\
    Weak (tu [rootF (a + b * Sp.rt c) (Sp.qi 0) (Sp.qi 0),vi 0]) dq) /\
   (¬(Sp.rsq c) -> (Sp.okR c) /\
    Weak (tu [rootF a b (Sp.rad b c),vi 0]) dq))) :
 oMake_at f1 f2 f3 f4 f5 f6 a b c (PureQ dq):=by
 unfold oMake_at
 refine path_wp (G:=given kp59 [(1,1,.call (vi (Sp.sgnI c.num)) none)] []) 5 [] ⟨(atC (cd Tryz.f59) [1,0,1]),[(3,AV.ptr 0 0 0 0),(4,AV.ptr 1 0 0 0),(5,AV.ptr 2 0 0 0),(6,AV.ptr 3 0 0 0),(12,vb (decide (Sp.sgnI c.num < 0)))],[⟨[ratA f1 f2 a],4,0,false,false⟩,⟨[ratA f3 f4 b],4,0,false,false⟩,⟨[ratA f5 f6 c],4,0,false,false⟩,⟨[zNxC1],12,0,false,false⟩],_,[],_⟩ (by kernel_rfl) (bc rfl b0) q0 (ce (@ev75 (f5) (f6) (c.num) ((↑c.den:Int))) c0) ?_
 rcases xm (Sp.sgnI c.num < 0) with d2 | d2
 ·have H:=H.1 d2
  exact path_rq (G:=given kp59 [] []) 1000 [true] (tu [zNxC1,vi 7]) (by kernel_rfl) (bc (beq_t (i_dec.2 d2)) (bc rfl b0)) q0 c0 H
 ·have H:=H.2 d2
  rcases xm (Sp.rsq c) with d3 | d3
  ·have H:=H.1 d3
   obtain ⟨k4,H⟩:=H
   obtain ⟨k5,H⟩:=H
   obtain ⟨k6,H⟩:=H
   exact path_rq (G:=given kp59 [(3,1,.call (tu [ratA false false (Sp.rt c),vb true]) none),(5,3,.call (ratA false false (b * Sp.rt c)) none),(5,4,.call (ratA false false (a + b * Sp.rt c)) none),(5,5,.call (rootF (a + b * Sp.rt c) (Sp.qi 0) (Sp.qi 0)) none)] []) 1000 [false,true] (tu [rootF (a + b * Sp.rt c) (Sp.qi 0) (Sp.qi 0),vi 0]) (by kernel_rfl) (bc (beq_f (fun h => d2 (i_dec.1 h))) (bc rfl (bc rfl (bc rfl (bc rfl (bc rfl (bc rfl (bc rfl b0)))))))) q0 (ce (@ev89_y (f5) (f6) (c) k4 d3) (ce (@ev37 (f3) (f4) (false) (false) (b) (Sp.rt c) k5) (ce (@ev38 (f1) (f2) (false) (false) (a) (b * Sp.rt c) k6) (ce (@ev62 (false) (false) (a + b * Sp.rt c)) c0)))) H
  ·have H:=H.2 d3
   obtain ⟨k7,H⟩:=H
   exact path_rq (G:=given kp59 [(3,1,.call (tu [ag [vb false,vf [],vb false,vf []],vb false]) none),(6,3,.call (rootF a b (Sp.rad b c)) none)] []) 1000 [false,false] (tu [rootF a b (Sp.rad b c),vi 0]) (by kernel_rfl) (bc (beq_f (fun h => d2 (i_dec.1 h))) (bc rfl (bc rfl (bc rfl (bc rfl (bc rfl (bc rfl (bc rfl b0)))))))) q0 (ce (@ev89_n (f5) (f6) (c) k7 d3) (ce (@ev90 (f1) (f2) (f3) (f4) (f5) (f6) (a) (b) (c)) c0)) H
noncomputable abbrev zNxC2:=ag [vb false,AV.vnil,vb false,AV.vnil,vb false,AV.vnil,vb false,AV.vnil,vb false,AV.vnil,vb false,AV.vnil]
theorem oAdd (f1 f2 f3 f4 f5 f6 g1 g2 g3 g4 g5 g6:Bool) (a b c x y z:Rat)  (dq:AV) (H :
  (Sp.okP c z) /\
  ((¬(Sp.isCom b c y z)) -> Weak (tu [ag [vb false,AV.vnil,vb false,AV.vnil,vb false,AV.vnil,vb false,AV.vnil,vb false,AV.vnil,vb false,AV.vnil],vi 1]) dq) /\
  (¬(¬(Sp.isCom b c y z)) -> (Sp.okR a /\ Sp.okR x) /\
   (Sp.okR b /\ Sp.okR y) /\
   Weak (tu [rootF (a + x) (b + y) (Sp.rad (b + y) (Sp.com b c z)),vi 0]) dq)) :
 oAdd_at f1 f2 f3 f4 f5 f6 g1 g2 g3 g4 g5 g6 a b c x y z (PureQ dq):=by
 unfold oAdd_at
 obtain ⟨k1,H⟩:=H
 refine path_wp (G:=given kp61 [(1,2,.call (tu [ratA false false (Sp.com b c z),vb (decide (Sp.isCom b c y z))]) none)] []) 7 [] ⟨(atC (cd Tryz.f61) [1,1,0,1]),[(2,AV.ptr 0 0 0 0),(3,AV.ptr 1 0 0 0),(4,AV.ptr 2 0 0 0),(6,AV.ptr 3 0 0 0),(15,vb !decide (Sp.isCom b c y z))],[⟨[rootA f1 f2 f3 f4 f5 f6 a b c],12,0,false,false⟩,⟨[rootA g1 g2 g3 g4 g5 g6 x y z],12,0,false,false⟩,⟨[zNxC2],12,0,false,false⟩,⟨[ratA false false (Sp.com b c z)],4,0,false,false⟩],_,[],_⟩ (by kernel_rfl) (bc rfl (bc rfl (bc rfl b0))) q0 (ce (@ev91 (f1) (f2) (f3) (f4) (f5) (f6) (g1) (g2) (g3) (g4) (g5) (g6) (a) (b) (c) (x) (y) (z) k1) c0) ?_
 rcases xm (¬(Sp.isCom b c y z)) with d3 | d3
 ·have H:=H.1 d3
  exact path_rq (G:=given kp61 [] []) 1000 [true] (tu [zNxC2,vi 1]) (by kernel_rfl) (bc (beq_t ((i_not i_dec).2 d3)) (bc rfl b0)) q0 c0 H
 ·have H:=H.2 d3
  obtain ⟨k4,H⟩:=H
  obtain ⟨k5,H⟩:=H
  exact path_rq (G:=given kp61 [(4,4,.call (ratA false false (a + x)) none),(4,9,.call (ratA false false (b + y)) none),(4,11,.call (rootF (a + x) (b + y) (Sp.rad (b + y) (Sp.com b c z))) none)] []) 1000 [false] (tu [rootF (a + x) (b + y) (Sp.rad (b + y) (Sp.com b c z)),vi 0]) (by kernel_rfl) (bc (beq_f (fun h => d3 ((i_not i_dec).1 h))) (bc rfl (bc rfl (bc rfl (bc rfl (bc rfl (bc rfl b0))))))) q0 (ce (@ev38 (f1) (f2) (g1) (g2) (a) (x) k4) (ce (@ev38 (f3) (f4) (g3) (g4) (b) (y) k5) (ce (@ev90 (false) (false) (false) (false) (false) (false) (a + x) (b + y) (Sp.com b c z)) c0))) H
theorem oScale (f1 f2 f3 f4 f5 f6:Bool) (k l:Bool) (a b c r:Rat)  (dq:AV) (H :
  (Sp.okR a /\ Sp.okR r) /\
  (Sp.okR b /\ Sp.okR r) /\
  Weak (rootF (a * r) (b * r) (Sp.rad (b * r) c)) dq) :
 oScale_at f1 f2 f3 f4 f5 f6 k l a b c r (PureQ dq):=by
 unfold oScale_at
 obtain ⟨k1,H⟩:=H
 obtain ⟨k2,H⟩:=H
 exact path_rq (G:=given kp60 [(1,3,.call (ratA false false (a * r)) none),(1,7,.call (ratA false false (b * r)) none),(1,10,.call (rootF (a * r) (b * r) (Sp.rad (b * r) c)) none)] []) 1000 [] (rootF (a * r) (b * r) (Sp.rad (b * r) c)) (by kernel_rfl) (bc rfl (bc rfl (bc rfl (bc rfl (bc rfl (bc rfl b0)))))) q0 (ce (@ev37 (f1) (f2) (k) (l) (a) (r) k1) (ce (@ev37 (f3) (f4) (k) (l) (b) (r) k2) (ce (@ev90 (false) (false) (false) (false) (f5) (f6) (a * r) (b * r) (c)) c0))) H
end Go.Av

namespace Go.Av
open Go.Proofs
abbrev noO:AV:=.agg [.bool false,.vec false 1 [],.bool false,.vec false 1 [],.bool false,.vec false 1 [],.bool false,.vec false 1 [],.bool false,.vec false 1 [],.bool false,.vec false 1 []]
theorem weak_vnil1:Weak .vnil (.vec false 1 []):=by
 have:=weak_bnil false
 cases this with
 | agg xs ys hl h => exact h 1 _ _ rfl rfl
theorem weak_no:Weak (.agg [.bool false,.vnil,.bool false,.vnil,.bool false,.vnil,.bool false,.vnil,.bool false,.vnil,.bool false,.vnil]) noO:=by
 refine .agg _ _ rfl fun i x y hx hy => ?_
 match i with
 | 0 => simp at hx hy;subst hx;subst hy;exact .refl _
 | 1 => simp at hx hy;subst hx;subst hy;exact weak_vnil1
 | 2 => simp at hx hy;subst hx;subst hy;exact .refl _
 | 3 => simp at hx hy;subst hx;subst hy;exact weak_vnil1
 | 4 => simp at hx hy;subst hx;subst hy;exact .refl _
 | 5 => simp at hx hy;subst hx;subst hy;exact weak_vnil1
 | 6 => simp at hx hy;subst hx;subst hy;exact .refl _
 | 7 => simp at hx hy;subst hx;subst hy;exact weak_vnil1
 | 8 => simp at hx hy;subst hx;subst hy;exact .refl _
 | 9 => simp at hx hy;subst hx;subst hy;exact weak_vnil1
 | 10 => simp at hx hy;subst hx;subst hy;exact .refl _
 | 11 => simp at hx hy;subst hx;subst hy;exact weak_vnil1
 | i + 12 => simp at hx
namespace Sp
def isNN (c:Rat):Prop:=0 <= c.num
open Classical in
noncomputable def mkA (a b c:Rat):Rat:=if rsq c then a + b * rt c else a
open Classical in
noncomputable def mkB (b c:Rat):Rat:=if rsq c then qi 0 else b
open Classical in
noncomputable def mkC (b c:Rat):Rat:=if rsq c then qi 0 else rad b c
end Sp
theorem nn_sgn {c:Rat}:Sp.sgnI c.num < 0 ↔ ¬Sp.isNN c:=by
 rw [sgnI_lt];unfold Sp.isNN;omega
theorem ev59_y (f1 f2 f3 f4 f5 f6:Bool) (a b c:Rat) (h:Sp.okO a b c) (k:Sp.isNN c):Ev M1 (.pure 59 [ratA f1 f2 a,ratA f3 f4 b,ratA f5 f6 c]) (.tup [rootF (Sp.mkA a b c) (Sp.mkB b c) (Sp.mkC b c),.int .i64 0]) []:=by
 obtain ⟨ha,hb,hc⟩:=h
 refine call59 (oMake _ _ _ _ _ _ _ _ _ _ ⟨fun x => absurd k (nn_sgn.1 x),fun _ => ⟨fun s => ?_,fun s => ?_⟩⟩)
 ·have hr:=okT_rt s hc
  have hm:=okT_mul hb hr
  refine ⟨okT_R hc (by omega),⟨okT_R hb (by omega),okT_R hr (by omega)⟩,⟨okT_R ha (by omega),okT_R hm (by omega)⟩,?_⟩
  rw [show Sp.mkA a b c = a + b * Sp.rt c from if_pos s,show Sp.mkB b c = Sp.qi 0 from if_pos s,show Sp.mkC b c = Sp.qi 0 from if_pos s]
  exact .refl _
 ·refine ⟨okT_R hc (by omega),?_⟩
  rw [show Sp.mkA a b c = a from if_neg s,show Sp.mkB b c = b from if_neg s,show Sp.mkC b c = Sp.rad b c from if_neg s]
  exact .refl _
theorem ev59_n (f1 f2 f3 f4 f5 f6:Bool) (a b c:Rat) (h:Sp.okO a b c) (k:¬(Sp.isNN c)):Ev M1 (.pure 59 [ratA f1 f2 a,ratA f3 f4 b,ratA f5 f6 c]) (.tup [noO,.int .i64 7]) []:=
 call59 (oMake _ _ _ _ _ _ _ _ _ _ ⟨fun _ => weak_two weak_no (.refl _),fun x => absurd (nn_sgn.2 k) x⟩)
theorem ev61_y (f1 f2 f3 f4 f5 f6 g1 g2 g3 g4 g5 g6:Bool) (a b c x y z:Rat) (h:Sp.okO a b c /\ Sp.okO x y z) (k:Sp.isCom b c y z):Ev M1 (.pure 61 [rootA f1 f2 f3 f4 f5 f6 a b c,rootA g1 g2 g3 g4 g5 g6 x y z]) (.tup [rootF (a + x) (b + y) (Sp.rad (b + y) (Sp.com b c z)),.int .i64 0]) []:=by
 obtain ⟨⟨h1,h2,h3⟩,h4,h5,h6⟩:=h
 exact call61 (oAdd _ _ _ _ _ _ _ _ _ _ _ _ _ _ _ _ _ _ _ ⟨⟨h3,h6⟩,fun n => absurd k n,fun _ => ⟨⟨okT_R h1 (by omega),okT_R h4 (by omega)⟩,⟨okT_R h2 (by omega),okT_R h5 (by omega)⟩,.refl _⟩⟩)
theorem okT_com {k:Nat} {b c z:Rat} (h:Sp.okT k c) (h2:Sp.okT k z):Sp.okT k (Sp.com b c z):=by
 unfold Sp.com;split <;> assumption
theorem ev60 (f1 f2 f3 f4 f5 f6 l1 l2:Bool) (a b c r:Rat) (h:Sp.okP a b /\ Sp.okR r):Ev M1 (.pure 60 [rootA f1 f2 f3 f4 f5 f6 a b c,ratA l1 l2 r]) (rootF (a * r) (b * r) (Sp.rad (b * r) c)) []:=by
 obtain ⟨⟨h1,h2⟩,h3⟩:=h
 exact call60 (oScale _ _ _ _ _ _ _ _ _ _ _ _ _ ⟨⟨okT_R h1 (by omega),h3⟩,⟨okT_R h2 (by omega),h3⟩,.refl _⟩)
noncomputable def Sp.flW (a b c:Rat):Int:=Sp.sq ((a.den:Int) * (a.den:Int) * ((b * b * c).num * ((b * b * c).den:Int)))
noncomputable def Sp.fl (a b c:Rat):Int:=if b = 0 then Sp.flo a.num (a.den:Int) else Sp.flo (a.num * ((b * b * c).den:Int) + (if b.num < 0 then -(Sp.flW a b c + 1) else Sp.flW a b c)) ((a.den:Int) * ((b * b * c).den:Int))
end Go.Av

namespace Go.Av
open Go.Proofs
theorem qi_zero:Sp.qi 0 = 0:=by rw [qi_eq];rfl
end Go.Av

namespace Go.Av
open Go.Proofs
set_option maxRecDepth 100000
end Go.Av

namespace Go.Av
open Go.Proofs
theorem okT_div {k m:Nat} {r s:Rat} (h:Sp.okT k r) (h2:Sp.okT m s) (h0:s.num ≠ 0):Sp.okT (k + m) (r / s):=by
 have e:=divInt_le (p:=r.num * (s.den:Int)) (q:=(r.den:Int) * s.num) (Int.mul_ne_zero (den_ne r) h0)
 rw [rat_div] at e
 exact ⟨Nat.le_trans (cnt_mono e.1) (cnt_mulI h.1 (cnt_den h2.2)),Nat.le_trans (cnt_mono e.2) (cnt_mulI (cnt_den h.2) h2.1)⟩
end Go.Av

namespace Go.Av
open Go.Proofs
set_option maxRecDepth 100000
end Go.Av

namespace Go.Av
open Go.Proofs
theorem cnt_le {n m:Nat} {k:Nat} (h:n <= m) (hm:Sp.cnt m <= k):Sp.cnt n <= k:=Nat.le_trans (cnt_mono h) hm
theorem okT_qf {n d:Int} (h:Sp.okF n d):Sp.okT 3 (Sp.qf n d):=by
 obtain ⟨h1,h2,h3⟩:=h
 obtain ⟨e1,e2⟩:=divInt_le (p:=n) h3
 rw [qf_eq]
 exact ⟨cnt_le e1 (inI_cnt h1),cnt_le e2 (inI_cnt h2)⟩
theorem okT_O {a b c:Rat} {k:Nat} (h1:Sp.okT k a) (h2:Sp.okT k b) (h3:Sp.okT k c) (hk:k <= 9000):Sp.okO a b c:=⟨okT_le h1 hk,okT_le h2 hk,okT_le h3 hk⟩
end Go.Av

namespace Go.Av
open Go.Proofs
set_option maxRecDepth 100000
end Go.Av

namespace Go.Av
open Go.Proofs
theorem qi_mul (a b:Int):Sp.qi a * Sp.qi b = Sp.qi (a * b):=by rw [qi_eq,qi_eq,qi_eq,Rat.intCast_mul]
end Go.Av

namespace Go.Av
open Go.Proofs
end Go.Av

namespace Go.Av
open Go.Proofs
theorem okT_mkA {k:Nat} {a b c:Rat} (ha:Sp.okT k a) (hb:Sp.okT k b) (hc:Sp.okT k c):Sp.okT (3 * k + 1) (Sp.mkA a b c):=by
 unfold Sp.mkA
 split
 ·rename_i s
  exact okT_le (okT_add ha (okT_mul hb (okT_rt s hc))) (by omega)
 ·exact okT_le ha (by omega)
theorem okT_q0:Sp.okT 1 (Sp.qi 0):=by rw [qi_zero];exact okT_zero
theorem okT_mkB {k:Nat} {b c:Rat} (hb:Sp.okT k b):Sp.okT (k + 1) (Sp.mkB b c):=by
 unfold Sp.mkB
 split
 ·exact okT_le okT_q0 (by omega)
 ·exact okT_le hb (by omega)
theorem okT_rad {k:Nat} {b c:Rat} (hc:Sp.okT k c):Sp.okT (k + 1) (Sp.rad b c):=by
 unfold Sp.rad
 split
 ·exact okT_le okT_q0 (by omega)
 ·exact okT_le hc (by omega)
theorem okT_mkC {k:Nat} {b c:Rat} (hc:Sp.okT k c):Sp.okT (k + 1) (Sp.mkC b c):=by
 unfold Sp.mkC
 split
 ·exact okT_le okT_q0 (by omega)
 ·exact okT_rad hc
end Go.Av

namespace Go.Av
open Go.Proofs
theorem num_lt {r:Rat}:r.num < 0 ↔ r < 0:=by
 have h:=@Rat.num_nonneg r
 constructor
 ·intro k
  apply Classical.byContradiction
  intro n
  have:0 <= r:=by grind
  have:=h.2 this
  omega
 ·intro k
  apply Classical.byContradiction
  intro n
  have:0 <= r:=h.1 (by omega)
  grind
theorem num_gt {r:Rat}:0 < r.num ↔ 0 < r:=by
 have h:=@num_lt r
 have h0:=@Rat.num_eq_zero r
 constructor
 ·intro k
  have h1:¬r < 0:=fun x => by have:=h.2 x;omega
  have h2:r ≠ 0:=fun x => by have:=h0.2 x;omega
  grind
 ·intro k
  have h1:¬r.num < 0:=fun x => by have:=h.1 x;grind
  have h2:r.num ≠ 0:=fun x => by have:=h0.1 x;grind
  omega
theorem sgR_pos {r:Rat} (h:0 < r):Sp.sgR r = 1:=by
 have:=num_gt.2 h
 unfold Sp.sgR Sp.sgnI;rw [if_neg (by omega),if_pos this]
theorem sgR_neg {r:Rat} (h:r < 0):Sp.sgR r = -1:=by
 have:=num_lt.2 h
 unfold Sp.sgR Sp.sgnI;rw [if_pos this]
theorem sgR_zero:Sp.sgR 0 = 0:=rfl
theorem tri (r:Rat):r < 0 \/ r = 0 \/ 0 < r:=by grind
theorem mul_pp {p q:Rat} (h1:0 < p) (h2:0 < q):0 < p * q:=Rat.mul_pos h1 h2
theorem mul_nn {p q:Rat} (h1:p < 0) (h2:q < 0):0 < p * q:=by
 have:=Rat.mul_pos (show 0 < -p by grind) (show 0 < -q by grind)
 grind
theorem mul_pn {p q:Rat} (h1:0 < p) (h2:q < 0):p * q < 0:=by
 have:=Rat.mul_pos h1 (show 0 < -q by grind)
 grind
theorem mul_np {p q:Rat} (h1:p < 0) (h2:0 < q):p * q < 0:=by
 have:=Rat.mul_pos (show 0 < -p by grind) h2
 grind
theorem sgR_mul (p q:Rat):Sp.sgR (p * q) = Sp.sgR p * Sp.sgR q:=by
 rcases tri p with h | h | h
 ·rcases tri q with k | k | k
  ·rw [sgR_neg h,sgR_neg k,sgR_pos (mul_nn h k)];rfl
  ·subst k;rw [Rat.mul_zero,sgR_zero,Int.mul_zero]
  ·rw [sgR_neg h,sgR_pos k,sgR_neg (mul_np h k)];rfl
 ·subst h;rw [Rat.zero_mul,sgR_zero,Int.zero_mul]
 ·rcases tri q with k | k | k
  ·rw [sgR_pos h,sgR_neg k,sgR_neg (mul_pn h k)];rfl
  ·subst k;rw [Rat.mul_zero,sgR_zero,Int.mul_zero]
  ·rw [sgR_pos h,sgR_pos k,sgR_pos (mul_pp h k)];rfl
theorem sq_nn (a:Rat):0 <= a * a:=by
 rcases tri a with h | h | h
 ·have:=mul_nn h h;grind
 ·subst h;grind
 ·have:=mul_pp h h;grind
theorem mul_ge {p q:Rat} (h1:0 <= p) (h2:0 <= q):0 <= p * q:=Rat.mul_nonneg h1 h2
end Go.Av

namespace Go.Av
open Go.Proofs
theorem sgO_square {a b c s:Rat} (hs:0 < s) (h:s * s = c):Sp.sgO a b c = Sp.sgR (a + b * s):=by
 have e:a * a - b * b * c = (a - b * s) * (a + b * s):=by rw [<- h];grind
 unfold Sp.sgO
 rw [e,sgR_mul]
 rcases tri b with k | k | k
 ·have k2:=mul_np k hs
  rcases tri a with j | j | j
  ·rw [sgR_neg k,sgR_neg j,if_pos (.inr rfl),sgR_neg (show a + b * s < 0 by grind)]
  ·subst j
   rw [sgR_neg k,sgR_zero,if_neg (by decide),if_pos rfl,sgR_neg (show (0:Rat) + b * s < 0 by grind)]
  ·rw [sgR_neg k,sgR_pos j,if_neg (by decide),if_neg (by decide),sgR_pos (show 0 < a - b * s by grind),Int.one_mul,Int.one_mul]
 ·subst k
  rw [sgR_zero,if_pos (.inl rfl),Rat.zero_mul,Rat.add_zero]
 ·have k2:=mul_pp k hs
  rcases tri a with j | j | j
  ·rw [sgR_pos k,sgR_neg j,if_neg (by decide),if_neg (by decide),sgR_neg (show a - b * s < 0 by grind)]
   omega
  ·subst j
   rw [sgR_pos k,sgR_zero,if_neg (by decide),if_pos rfl,sgR_pos (show 0 < (0:Rat) + b * s by grind)]
  ·rw [sgR_pos k,sgR_pos j,if_pos (.inr rfl),sgR_pos (show 0 < a + b * s by grind)]
theorem rt_pos {c:Rat} (hc:0 < c) (h:Sp.rsq c):0 < Sp.rt c:=by
 have e:=(rt_num h).1
 have n:=sq_nonneg c.num
 have m:=rt_mul h
 rcases tri (Sp.rt c) with k | k | k
 ·have:=num_lt.2 k;omega
 ·rw [k] at m;grind
 ·exact k
theorem sgR_qi0:Sp.sgR (Sp.qi 0) = 0:=by rw [qi_eq];rfl
theorem sgO_b0 (a c:Rat):Sp.sgO a (Sp.qi 0) c = Sp.sgR a:=by
 unfold Sp.sgO;rw [sgR_qi0,if_pos (.inl rfl)]
theorem sgO_rd (a b c:Rat):Sp.sgO a b (Sp.rad b c) = Sp.sgO a b c:=by
 by_cases h:b = 0
 ·subst h
  unfold Sp.sgO;rw [sgR_zero,if_pos (.inl rfl),if_pos (.inl rfl)]
 ·rw [show Sp.rad b c = c from if_neg h]
theorem com_rad0 (b c:Rat):Sp.rad (b + Sp.qi 0) (Sp.com b (Sp.rad b c) (Sp.qi 0)) = Sp.rad b c:=by
 rw [show b + Sp.qi 0 = b by rw [qi_eq];exact Rat.add_zero b]
 unfold Sp.com Sp.rad
 by_cases h:b = 0
 ·rw [if_pos h,if_pos h]
 ·rw [if_neg h,if_neg h,if_neg h]
theorem sgO_prog {a b c V H:Rat} (hc:0 < c):Sp.sgO (Sp.mkA a b c * V + H) (Sp.mkB b c * V + Sp.qi 0) (Sp.rad (Sp.mkB b c * V + Sp.qi 0) (Sp.com (Sp.mkB b c * V) (Sp.rad (Sp.mkB b c * V) (Sp.mkC b c)) (Sp.qi 0))) = Sp.sgO (a * V + H) (b * V) c:=by
 rw [com_rad0,show Sp.mkB b c * V + Sp.qi 0 = Sp.mkB b c * V by rw [qi_eq];exact Rat.add_zero _,sgO_rd]
 by_cases s:Sp.rsq c
 ·rw [show Sp.mkA a b c = a + b * Sp.rt c from if_pos s,show Sp.mkB b c = Sp.qi 0 from if_pos s,show Sp.qi 0 * V = Sp.qi 0 by rw [qi_eq];exact Rat.zero_mul V,sgO_b0,sgO_square (rt_pos hc s) (rt_mul s)]
  congr 1;grind
 ·rw [show Sp.mkA a b c = a from if_neg s,show Sp.mkB b c = b from if_neg s,show Sp.mkC b c = Sp.rad b c from if_neg s]
  by_cases h:b = 0
  ·subst h
   rw [Rat.zero_mul]
   unfold Sp.sgO;rw [sgR_zero,if_pos (.inl rfl),if_pos (.inl rfl)]
  ·rw [show Sp.rad b c = c from if_neg h]
theorem sgO_cong {a b c x y:Rat} (h1:Sp.sgR b = Sp.sgR x) (h2:b * b * c = x * x * y):Sp.sgO a b c = Sp.sgO a x y:=by
 unfold Sp.sgO;rw [h1,h2]
theorem corner_eq {A t k V:Rat} (hk:0 < k):Sp.sgO A (t / k * V) k = Sp.sgO A (t * V) (1 / k):=by
 have e:t / k = t * k⁻¹:=Rat.div_def t k
 have e2:1 / k = k⁻¹:=by rw [Rat.div_def,Rat.one_mul]
 have i:k⁻¹ * k = 1:=Rat.inv_mul_cancel k (by grind)
 rw [e,e2]
 generalize k⁻¹ = j at *
 refine sgO_cong ?_ ?_
 ·have:t * V = t * j * V * k:=by grind
  rw [this,sgR_mul (t * j * V) k,sgR_pos hk,Int.mul_one]
 ·have:t * j * V * (t * j * V) * k = t * V * (t * V) * j * (j * k):=by grind
  rw [this,i,Rat.mul_one]
namespace Sp
noncomputable def gg (x v:Rat):Rat:=if v + v <= x then v * x - v * v else x * x / 4
noncomputable def rch (T v a:Rat):Rat:=if v + v <= T * a then v * T - v * v / a else a / 4 * (T * T)
end Sp
theorem rch_gg {T v a:Rat} (ha:0 < a):Sp.rch T v a * a = Sp.gg (T * a) v:=by
 unfold Sp.rch Sp.gg
 split
 ·have:v * v / a * a = v * v:=by
   rw [Rat.div_def,Rat.mul_assoc,Rat.inv_mul_cancel a (by grind),Rat.mul_one]
  grind
 ·grind
theorem gg_lt {x y v:Rat} (hv:0 < v) (h0:0 <= x) (h:x < y):Sp.gg x v < Sp.gg y v:=by
 unfold Sp.gg
 by_cases h1:v + v <= x
 ·have h2:v + v <= y:=by grind
  rw [if_pos h1,if_pos h2]
  have:=mul_pp hv (show 0 < y - x by grind)
  grind
 ·rw [if_neg h1]
  by_cases h2:v + v <= y
  ·rw [if_pos h2]
   have a1:=mul_ge (show 0 <= v by grind) (show 0 <= y - (v + v) by grind)
   have a2:=mul_pp (show 0 < v + v - x by grind) (show 0 < v + v + x by grind)
   grind
  ·rw [if_neg h2]
   have a2:=mul_pp (show 0 < y - x by grind) (show 0 < y + x by grind)
   grind
theorem gg_add {x y v:Rat} (hv:0 < v) (hx:0 <= x) (hy:0 <= y):Sp.gg x v + Sp.gg y v <= Sp.gg (x + y) v:=by
 unfold Sp.gg
 by_cases h1:v + v <= x
 ·rw [if_pos h1,if_pos (show v + v <= x + y by grind)]
  by_cases h2:v + v <= y
  ·rw [if_pos h2]
   have:=sq_nn v
   grind
  ·rw [if_neg h2]
   have:=mul_ge hy (show 0 <= v + v - y by grind)
   have:=mul_ge hy (show 0 <= v by grind)
   grind
 ·rw [if_neg h1]
  by_cases h2:v + v <= y
  ·rw [if_pos h2,if_pos (show v + v <= x + y by grind)]
   have:=mul_ge hx (show 0 <= v + v - x by grind)
   have:=mul_ge hx (show 0 <= v by grind)
   grind
  ·rw [if_neg h2]
   by_cases h3:v + v <= x + y
   ·rw [if_pos h3]
    have a1:=mul_ge (show 0 <= v + v - x by grind) (show 0 <= v + v - y by grind)
    have a2:=mul_ge (show 0 <= x + y - (v + v) by grind) (show 0 <= v + v + (v + v) - (x + y) by grind)
    have a3:=mul_ge (show 0 <= x + y - (v + v) by grind) (show 0 <= v + v by grind)
    grind
   ·rw [if_neg h3]
    have:=mul_ge hx hy
    grind
theorem lt_of_mul {a p q:Rat} (ha:0 < a) (h:p * a < q * a):p < q:=by
 apply Classical.byContradiction
 intro n
 have:=mul_ge (show 0 <= p - q by grind) (show 0 <= a by grind)
 grind
theorem le_of_mul {a p q:Rat} (ha:0 < a) (h:p * a <= q * a):p <= q:=by
 apply Classical.byContradiction
 intro n
 have:=mul_pp (show 0 < p - q by grind) ha
 grind
theorem rch_lt {T S v a:Rat} (ha:0 < a) (hv:0 < v) (h0:0 <= T) (h:T < S):Sp.rch T v a < Sp.rch S v a:=by
 refine lt_of_mul ha ?_
 rw [rch_gg ha,rch_gg ha]
 have:=mul_pp (show 0 < S - T by grind) ha
 exact gg_lt hv (mul_ge h0 (by grind)) (by grind)
theorem rch_add {T S v a:Rat} (ha:0 < a) (hv:0 < v) (h1:0 <= T) (h2:0 <= S):Sp.rch T v a + Sp.rch S v a <= Sp.rch (T + S) v a:=by
 refine le_of_mul ha ?_
 have e:(Sp.rch T v a + Sp.rch S v a) * a = Sp.rch T v a * a + Sp.rch S v a * a:=by grind
 rw [e,rch_gg ha,rch_gg ha,rch_gg ha,show (T + S) * a = T * a + S * a by grind]
 exact gg_add hv (mul_ge h1 (by grind)) (mul_ge h2 (by grind))
end Go.Av

namespace Go.Av
open Go.Proofs
theorem ev34 (n d:Int) (h:Sp.okF n d):Ev M1 (.pure 34 [.int .i64 n,.int .i64 d]) (ratA false false (Sp.qf n d)) []:=by
 rw [qf_eq]
 obtain ⟨h1,h2,h3⟩:=h
 have c1:=inI_cnt h1
 have c2:=inI_cnt h2
 exact call34 (vRFrac _ _ _ ⟨fun k => absurd k h3,fun _ => ⟨h1,h2,⟨by unfold Sp.okB;omega,by unfold Sp.okB;omega,h3⟩,.refl _⟩⟩)
end Go.Av

namespace Go.Av
open Go.Proofs
set_option maxRecDepth 100000
def fi66:Fi:=⟨14,[.cell 4 36]⟩
def kp66:List (Nat × List Nat):=[(0,[2,3,4]),(1,[4,5]),(2,[4])]
def kOver_at (f1 f2 g1 g2:Bool) (r s:Rat) (Q:AV -> Heap -> Prop):Prop:=Wp M1 (.run fi66 (atC (cd Tryz.f66) []) [(0,ratA f1 f2 r),(1,ratA g1 g2 s)] []) Q
theorem call66 {args:List AV} {d:AV} (h:wc M1 fi66 Tryz.f66 args d):Ev M1 (.pure 66 args) d []:=pcl _ _ (by kernel_rfl) h
theorem kOver (f1 f2 g1 g2:Bool) (r s:Rat)  (dq:AV) (H :
  (Sp.okR r /\ Sp.okR s /\ s.num ≠ 0) /\
  Weak (ratA false false (r / s)) dq) :
 kOver_at f1 f2 g1 g2 r s (PureQ dq):=by
 unfold kOver_at
 obtain ⟨k1,H⟩:=H
 exact path_rq (G:=given kp66 [(1,2,.call (tu [ratA false false (r / s),vi 0]) none)] []) 1000 [] (ratA false false (r / s)) (by kernel_rfl) (bc rfl (bc rfl (bc rfl (bc rfl (bc rfl b0))))) q0 (ce (@ev97 (f1) (f2) (g1) (g2) (r) (s) k1) c0) H
end Go.Av

namespace Go.Av
open Go.Proofs
theorem ev66 (f1 f2 g1 g2:Bool) (r s:Rat) (h:Sp.okR r /\ Sp.okR s /\ s.num ≠ 0):Ev M1 (.pure 66 [ratA f1 f2 r,ratA g1 g2 s]) (ratA false false (r / s)) []:=
 call66 (kOver _ _ _ _ _ _ _ ⟨h,.refl _⟩)
theorem ev56 (fa:Bool) (a:Int):Ev M1 (.pure 56 [bigA fa a]) (ratA false false (Sp.qi a)) []:=by
 refine call56 (rFromInt _ _ _ ⟨false,Sp.limI 1,ev46,?_⟩)
 rw [qi_eq]
 show Weak _ (AV.agg [.bool (Sp.isNeg (a:Rat).num),.vec false 1 ((Sp.limI (a:Rat).num).map (.int .u32)),.bool (Sp.isNeg ((a:Rat).den:Int)),.vec false 1 ((Sp.limI ((a:Rat).den:Int)).map (.int .u32))])
 rw [Rat.num_intCast,Rat.den_intCast]
 exact weak_rat _ _ _ _ _ _
end Go.Av

namespace Go.Av
open Go.Proofs
set_option maxRecDepth 100000
def fi12:Fi:=⟨54,[.cell 6 36,.tmp 7]⟩
def kp12:List (Nat × List Nat):=[(0,[0,1,2,6]),(1,[0,1,2,6,23]),(2,[6,7]),(3,[1,2,6,8,9,10]),(4,[1,2,6,8,9,38]),(5,[6,7]),(6,[6,7])]
def fi30:Fi:=⟨93,[.tmp 12]⟩
def kp30:List (Nat × List Nat):=[(0,[0,1,2,3,4,5]),(1,[0,1,2,3,4,5,13]),(2,[0,1,2,3,4,5,13,14]),(3,[0,1,2,5,13,14,15]),(4,[0,5,13,14,15,16,17]),(5,[0,5,13,14,15,16,53]),(6,[12]),(7,[0,5,13,17,18]),(8,[0,5,13,18,62]),(9,[12]),(10,[5,13,18]),(11,[17,18]),(12,[12])]
def fi54:Fi:=⟨16,[.tmp 6]⟩
def kp54:List (Nat × List Nat):=[(0,[0,1,2]),(1,[6])]
def kFaster1_at (n u v:Int) (Q:AV -> Heap -> Prop):Prop:=Wp M1 (.run fi54 (atC (cd Tryz.f54) []) [(0,.int .i64 n),(1,.int .i64 u),(2,.int .i64 v)] []) Q
def kAllow_at (v x y m n c:Int) (Q:AV -> Heap -> Prop):Prop:=Wp M1 (.run fi30 (atC (cd Tryz.f30) []) [(0,.int .i64 v),(1,.int .i64 x),(2,.int .i64 y),(3,.int .i64 m),(4,.int .i64 n),(5,.int .i64 c)] []) Q
def kReach_at (t v a:Int) (Q:AV -> Heap -> Prop):Prop:=Wp M1 (.run fi12 (atC (cd Tryz.f12) []) [(0,.int .i64 t),(1,.int .i64 v),(2,.int .i64 a)] []) Q
theorem call12 {args:List AV} {d:AV} (h:wc M1 fi12 Tryz.f12 args d):Ev M1 (.pure 12 args) d []:=pcl _ _ (by kernel_rfl) h
theorem call30 {args:List AV} {d:AV} (h:wc M1 fi30 Tryz.f30 args d):Ev M1 (.pure 30 args) d []:=pcl _ _ (by kernel_rfl) h
theorem call54 {args:List AV} {d:AV} (h:wc M1 fi54 Tryz.f54 args d):Ev M1 (.pure 54 args) d []:=pcl _ _ (by kernel_rfl) h
theorem kFaster1 (n u v:Int)  (dq:AV) (H :
  (-9223372036854775808 <= n * n /\ n * n <= 9223372036854775807) /\
  (-9223372036854775808 <= 2 * v /\ 2 * v <= 9223372036854775807) /\
  (-9223372036854775808 <= 2 * v * u /\ 2 * v * u <= 9223372036854775807) /\
  (-9223372036854775808 <= n * n + 2 * v * u /\ n * n + 2 * v * u <= 9223372036854775807) /\
  (Sp.okNs (n * n + 2 * v * u)) /\
  vi (Sp.sq (n * n + 2 * v * u)) = dq) :
 kFaster1_at n u v (PureQ dq):=by
 unfold kFaster1_at
 obtain ⟨k1,H⟩:=H
 have w2:wi (n * n) = n * n:=wI64 k1
 obtain ⟨k3,H⟩:=H
 have w4:wi (2 * v) = 2 * v:=wI64 k3
 obtain ⟨k5,H⟩:=H
 have w6:wi (2 * v * u) = 2 * v * u:=wI64 k5
 obtain ⟨k7,H⟩:=H
 have w8:wi (n * n + 2 * v * u) = n * n + 2 * v * u:=wI64 k7
 obtain ⟨k9,H⟩:=H
 exact path_re (G:=given kp54 [(1,8,.call (vi (Sp.sq (n * n + 2 * v * u))) none)] []) 1000 [] (calls:=[pc 87 [vi (wi (wi (n * n) + wi (wi (2 * v) * u)))] (vi (Sp.sq (n * n + 2 * v * u)))]) (vi (Sp.sq (n * n + 2 * v * u))) (by kernel_rfl) b0 q0 (ce (by (try rw [w2]);(try rw [w4]);(try rw [w6]);(try rw [w8]);all_goals exact (@ev87 (n * n + 2 * v * u) k9)) c0) H
noncomputable abbrev zNzD2 (x:Int) (y:Int) (m:Int) (n:Int):=Sp.qi (-2) * (Sp.qi x * Sp.qi y) / (Sp.qi m * Sp.qi n)
noncomputable abbrev zNzD4 (x:Int) (m:Int) (y:Int) (n:Int) (v:Int) (c:Int):=Sp.mkA (Sp.qf (x * x) m + Sp.qf (y * y) n) (zNzD2 x y m n) (Sp.qi m * Sp.qi n) * (Sp.qi v * Sp.qi v) + -(Sp.qi c * Sp.qi c)
noncomputable abbrev zNzD5 (x:Int) (y:Int) (m:Int) (n:Int) (v:Int):=Sp.mkB (zNzD2 x y m n) (Sp.qi m * Sp.qi n) * (Sp.qi v * Sp.qi v) + Sp.qi 0
noncomputable abbrev zNzD6 (x:Int) (y:Int) (m:Int) (n:Int) (v:Int):=Sp.mkB (zNzD2 x y m n) (Sp.qi m * Sp.qi n) * (Sp.qi v * Sp.qi v)
noncomputable abbrev zNzD7:=tu [ag [vb false,vf [],vb false,vf [],vb false,vf [],vb false,vf [],vb false,vf [],vb false,vf []],vi 7]
noncomputable abbrev zNzD8 (x:Int) (m:Int) (y:Int) (n:Int) (v:Int):=Sp.mkA (Sp.qf (x * x) m + Sp.qf (y * y) n) (zNzD2 x y m n) (Sp.qi m * Sp.qi n) * (Sp.qi v * Sp.qi v)
noncomputable abbrev zNzD9 (x:Int) (y:Int) (m:Int) (n:Int) (v:Int):=Sp.rad (zNzD6 x y m n v) (Sp.mkC (zNzD2 x y m n) (Sp.qi m * Sp.qi n))
noncomputable abbrev zNzD3 (x:Int) (y:Int) (m:Int) (n:Int) (v:Int):=Sp.rad (zNzD5 x y m n v) (Sp.com (zNzD6 x y m n v) (zNzD9 x y m n v) (Sp.qi 0))
noncomputable abbrev zNzD10 (x:Int) (m:Int) (y:Int) (n:Int):=Sp.mkA (Sp.qf (x * x) m + Sp.qf (y * y) n) (zNzD2 x y m n) (Sp.qi m * Sp.qi n)
theorem kAllow (v x y m n c:Int)  (dq:AV) (H :
  (Sp.inI m) /\
  (Sp.inI n) /\
  (Sp.okR (Sp.qi m) /\ Sp.okR (Sp.qi n)) /\
  (-9223372036854775808 <= x * x /\ x * x <= 9223372036854775807) /\
  (Sp.okF (x * x) m) /\
  (-9223372036854775808 <= y * y /\ y * y <= 9223372036854775807) /\
  (Sp.okF (y * y) n) /\
  (Sp.okR (Sp.qf (x * x) m) /\ Sp.okR (Sp.qf (y * y) n)) /\
  (Sp.inI (-2)) /\
  (Sp.inI x) /\
  (Sp.inI y) /\
  (Sp.okR (Sp.qi x) /\ Sp.okR (Sp.qi y)) /\
  (Sp.okR (Sp.qi (-2)) /\ Sp.okR (Sp.qi x * Sp.qi y)) /\
  (Sp.okR (Sp.qi (-2) * (Sp.qi x * Sp.qi y)) /\ Sp.okR (Sp.qi m * Sp.qi n) /\ (Sp.qi m * Sp.qi n).num ≠ 0) /\
  ((Sp.isNN (Sp.qi m * Sp.qi n)) -> (Sp.okO (Sp.qf (x * x) m + Sp.qf (y * y) n) (Sp.qi (-2) * (Sp.qi x * Sp.qi y) / (Sp.qi m * Sp.qi n)) (Sp.qi m * Sp.qi n)) /\
   (Sp.inI v) /\
   (Sp.okR (Sp.qi v) /\ Sp.okR (Sp.qi v)) /\
   (Sp.okP (Sp.mkA (Sp.qf (x * x) m + Sp.qf (y * y) n) (Sp.qi (-2) * (Sp.qi x * Sp.qi y) / (Sp.qi m * Sp.qi n)) (Sp.qi m * Sp.qi n)) (Sp.mkB (Sp.qi (-2) * (Sp.qi x * Sp.qi y) / (Sp.qi m * Sp.qi n)) (Sp.qi m * Sp.qi n)) /\ Sp.okR (Sp.qi v * Sp.qi v)) /\
   (Sp.inI c) /\
   (Sp.okR (Sp.qi c) /\ Sp.okR (Sp.qi c)) /\
   (Sp.okB (Sp.qi c * Sp.qi c).num) /\
   ((Sp.isCom (Sp.mkB (Sp.qi (-2) * (Sp.qi x * Sp.qi y) / (Sp.qi m * Sp.qi n)) (Sp.qi m * Sp.qi n) * (Sp.qi v * Sp.qi v)) (Sp.rad (Sp.mkB (Sp.qi (-2) * (Sp.qi x * Sp.qi y) / (Sp.qi m * Sp.qi n)) (Sp.qi m * Sp.qi n) * (Sp.qi v * Sp.qi v)) (Sp.mkC (Sp.qi (-2) * (Sp.qi x * Sp.qi y) / (Sp.qi m * Sp.qi n)) (Sp.qi m * Sp.qi n))) (Sp.qi 0) (Sp.qi 0)) -> (Sp.okO (Sp.mkA (Sp.qf (x * x) m + Sp.qf (y * y) n) (Sp.qi (-2) * (Sp.qi x * Sp.qi y) / (Sp.qi m * Sp.qi n)) (Sp.qi m * Sp.qi n) * (Sp.qi v * Sp.qi v)) (Sp.mkB (Sp.qi (-2) * (Sp.qi x * Sp.qi y) / (Sp.qi m * Sp.qi n)) (Sp.qi m * Sp.qi n) * (Sp.qi v * Sp.qi v)) (Sp.rad (Sp.mkB (Sp.qi (-2) * (Sp.qi x * Sp.qi y) / (Sp.qi m * Sp.qi n)) (Sp.qi m * Sp.qi n) * (Sp.qi v * Sp.qi v)) (Sp.mkC (Sp.qi (-2) * (Sp.qi x * Sp.qi y) / (Sp.qi m * Sp.qi n)) (Sp.qi m * Sp.qi n))) /\ Sp.okO (-(Sp.qi c * Sp.qi c)) (Sp.qi 0) (Sp.qi 0)) /\
    ((true = true) -> (Sp.okO (Sp.mkA (Sp.qf (x * x) m + Sp.qf (y * y) n) (Sp.qi (-2) * (Sp.qi x * Sp.qi y) / (Sp.qi m * Sp.qi n)) (Sp.qi m * Sp.qi n) * (Sp.qi v * Sp.qi v) + -(Sp.qi c * Sp.qi c)) (Sp.mkB (Sp.qi (-2) * (Sp.qi x * Sp.qi y) / (Sp.qi m * Sp.qi n)) (Sp.qi m * Sp.qi n) * (Sp.qi v * Sp.qi v) + Sp.qi 0) (Sp.rad (Sp.mkB (Sp.qi (-2) * (Sp.qi x * Sp.qi y) / (Sp.qi m * Sp.qi n)) (Sp.qi m * Sp.qi n) * (Sp.qi v * Sp.qi v) + Sp.qi 0) (Sp.com (Sp.mkB (Sp.qi (-2) * (Sp.qi x * Sp.qi y) / (Sp.qi m * Sp.qi n)) (Sp.qi m * Sp.qi n) * (Sp.qi v * Sp.qi v)) (Sp.rad (Sp.mkB (Sp.qi (-2) * (Sp.qi x * Sp.qi y) / (Sp.qi m * Sp.qi n)) (Sp.qi m * Sp.qi n) * (Sp.qi v * Sp.qi v)) (Sp.mkC (Sp.qi (-2) * (Sp.qi x * Sp.qi y) / (Sp.qi m * Sp.qi n)) (Sp.qi m * Sp.qi n))) (Sp.qi 0))))) /\
    vb (decide (Sp.sgO (Sp.mkA (Sp.qf (x * x) m + Sp.qf (y * y) n) (Sp.qi (-2) * (Sp.qi x * Sp.qi y) / (Sp.qi m * Sp.qi n)) (Sp.qi m * Sp.qi n) * (Sp.qi v * Sp.qi v) + -(Sp.qi c * Sp.qi c)) (Sp.mkB (Sp.qi (-2) * (Sp.qi x * Sp.qi y) / (Sp.qi m * Sp.qi n)) (Sp.qi m * Sp.qi n) * (Sp.qi v * Sp.qi v) + Sp.qi 0) (Sp.rad (Sp.mkB (Sp.qi (-2) * (Sp.qi x * Sp.qi y) / (Sp.qi m * Sp.qi n)) (Sp.qi m * Sp.qi n) * (Sp.qi v * Sp.qi v) + Sp.qi 0) (Sp.com (Sp.mkB (Sp.qi (-2) * (Sp.qi x * Sp.qi y) / (Sp.qi m * Sp.qi n)) (Sp.qi m * Sp.qi n) * (Sp.qi v * Sp.qi v)) (Sp.rad (Sp.mkB (Sp.qi (-2) * (Sp.qi x * Sp.qi y) / (Sp.qi m * Sp.qi n)) (Sp.qi m * Sp.qi n) * (Sp.qi v * Sp.qi v)) (Sp.mkC (Sp.qi (-2) * (Sp.qi x * Sp.qi y) / (Sp.qi m * Sp.qi n)) (Sp.qi m * Sp.qi n))) (Sp.qi 0))) <= 0)) = dq) /\
   (¬(Sp.isCom (Sp.mkB (Sp.qi (-2) * (Sp.qi x * Sp.qi y) / (Sp.qi m * Sp.qi n)) (Sp.qi m * Sp.qi n) * (Sp.qi v * Sp.qi v)) (Sp.rad (Sp.mkB (Sp.qi (-2) * (Sp.qi x * Sp.qi y) / (Sp.qi m * Sp.qi n)) (Sp.qi m * Sp.qi n) * (Sp.qi v * Sp.qi v)) (Sp.mkC (Sp.qi (-2) * (Sp.qi x * Sp.qi y) / (Sp.qi m * Sp.qi n)) (Sp.qi m * Sp.qi n))) (Sp.qi 0) (Sp.qi 0)) -> False)) /\
  (¬(Sp.isNN (Sp.qi m * Sp.qi n)) -> (Sp.okO (Sp.qf (x * x) m + Sp.qf (y * y) n) (Sp.qi (-2) * (Sp.qi x * Sp.qi y) / (Sp.qi m * Sp.qi n)) (Sp.qi m * Sp.qi n)) /\
   vb false = dq)) :
 kAllow_at v x y m n c (PureQ dq):=by
 unfold kAllow_at
 obtain ⟨k1,H⟩:=H
 obtain ⟨k2,H⟩:=H
 obtain ⟨k3,H⟩:=H
 obtain ⟨k4,H⟩:=H
 have w5:wi (x * x) = x * x:=wI64 k4
 obtain ⟨k6,H⟩:=H
 obtain ⟨k7,H⟩:=H
 have w8:wi (y * y) = y * y:=wI64 k7
 obtain ⟨k9,H⟩:=H
 obtain ⟨k10,H⟩:=H
 obtain ⟨k11,H⟩:=H
 obtain ⟨k12,H⟩:=H
 obtain ⟨k13,H⟩:=H
 obtain ⟨k14,H⟩:=H
 obtain ⟨k15,H⟩:=H
 obtain ⟨k16,H⟩:=H
 rcases xm (Sp.isNN (Sp.qi m * Sp.qi n)) with d17 | d17
 ·have H:=H.1 d17
  obtain ⟨k18,H⟩:=H
  obtain ⟨k19,H⟩:=H
  obtain ⟨k20,H⟩:=H
  obtain ⟨k21,H⟩:=H
  obtain ⟨k22,H⟩:=H
  obtain ⟨k23,H⟩:=H
  obtain ⟨k24,H⟩:=H
  rcases xm (Sp.isCom (zNzD6 x y m n v) (zNzD9 x y m n v) (Sp.qi 0) (Sp.qi 0)) with d25 | d25
  ·have H:=H.1 d25
   obtain ⟨k26,H⟩:=H
   obtain ⟨k28,H⟩:=H
   exact path_re (G:=given kp30 [(2,2,.call (ratA false false (Sp.qi m)) none),(2,5,.call (ratA false false (Sp.qi n)) none),(2,6,.call (ratA false false (Sp.qi m * Sp.qi n)) none),(3,4,.call (ratA false false (Sp.qf (x * x) m)) none),(3,9,.call (ratA false false (Sp.qf (y * y) n)) none),(3,10,.call (ratA false false (Sp.qf (x * x) m + Sp.qf (y * y) n)) none),(4,1,.call (ratA false false (Sp.qi (-2))) none),(4,4,.call (ratA false false (Sp.qi x)) none),(4,7,.call (ratA false false (Sp.qi y)) none),(4,8,.call (ratA false false (Sp.qi x * Sp.qi y)) none),(4,9,.call (ratA false false (Sp.qi (-2) * (Sp.qi x * Sp.qi y))) none),(4,11,.call (tu [ratA false false (zNzD2 x y m n),vi 0]) none),(7,3,.call (tu [rootF (zNzD10 x m y n) (Sp.mkB (zNzD2 x y m n) (Sp.qi m * Sp.qi n)) (Sp.mkC (zNzD2 x y m n) (Sp.qi m * Sp.qi n)),vi 0]) none),(10,3,.call (ratA false false (Sp.qi v)) none),(10,6,.call (ratA false false (Sp.qi v)) none),(10,7,.call (ratA false false (Sp.qi v * Sp.qi v)) none),(10,8,.call (rootF (zNzD8 x m y n v) (zNzD6 x y m n v) (zNzD9 x y m n v)) none),(11,3,.call (ratA false false (Sp.qi c)) none),(11,6,.call (ratA false false (Sp.qi c)) none),(11,7,.call (ratA false false (Sp.qi c * Sp.qi c)) none),(11,8,.call (ratA false false (-(Sp.qi c * Sp.qi c))) none),(11,9,.call (rootF (-(Sp.qi c * Sp.qi c)) (Sp.qi 0) (Sp.qi 0)) none),(11,10,.call (tu [rootF (zNzD4 x m y n v c) (zNzD5 x y m n v) (zNzD3 x y m n v),vi 0]) none),(12,4,.call (vi (Sp.sgO (zNzD4 x m y n v c) (zNzD5 x y m n v) (zNzD3 x y m n v))) none)] []) 1000 [false,false] (calls:=[⟨true,false,35,[vi m],[],ratA false false (Sp.qi m),[]⟩,⟨true,false,35,[vi n],[],ratA false false (Sp.qi n),[]⟩,⟨true,false,37,[ratA false false (Sp.qi m),ratA false false (Sp.qi n)],[],ratA false false (Sp.qi m * Sp.qi n),[]⟩,⟨true,false,34,[vi (wi (x * x)),vi m],[],ratA false false (Sp.qf (x * x) m),[]⟩,⟨true,false,34,[vi (wi (y * y)),vi n],[],ratA false false (Sp.qf (y * y) n),[]⟩,⟨true,false,38,[ratA false false (Sp.qf (x * x) m),ratA false false (Sp.qf (y * y) n)],[],ratA false false (Sp.qf (x * x) m + Sp.qf (y * y) n),[]⟩,⟨true,false,35,[vi (-2)],[],ratA false false (Sp.qi (-2)),[]⟩,⟨true,false,35,[vi x],[],ratA false false (Sp.qi x),[]⟩,⟨true,false,35,[vi y],[],ratA false false (Sp.qi y),[]⟩,⟨true,false,37,[ratA false false (Sp.qi x),ratA false false (Sp.qi y)],[],ratA false false (Sp.qi x * Sp.qi y),[]⟩,⟨true,false,37,[ratA false false (Sp.qi (-2)),ratA false false (Sp.qi x * Sp.qi y)],[],ratA false false (Sp.qi (-2) * (Sp.qi x * Sp.qi y)),[]⟩,⟨true,false,58,[ratA false false (Sp.qi (-2) * (Sp.qi x * Sp.qi y)),ratA false false (Sp.qi m * Sp.qi n)],[],tu [ratA false false (zNzD2 x y m n),vi 0],[]⟩,⟨true,false,59,[ratA false false (Sp.qf (x * x) m + Sp.qf (y * y) n),ratA false false (zNzD2 x y m n),ratA false false (Sp.qi m * Sp.qi n)],[],tu [rootF (zNzD10 x m y n) (Sp.mkB (zNzD2 x y m n) (Sp.qi m * Sp.qi n)) (Sp.mkC (zNzD2 x y m n) (Sp.qi m * Sp.qi n)),vi 0],[]⟩,⟨true,false,35,[vi v],[],ratA false false (Sp.qi v),[]⟩,⟨true,false,35,[vi v],[],ratA false false (Sp.qi v),[]⟩,⟨true,false,37,[ratA false false (Sp.qi v),ratA false false (Sp.qi v)],[],ratA false false (Sp.qi v * Sp.qi v),[]⟩,⟨true,false,60,[rootF (zNzD10 x m y n) (Sp.mkB (zNzD2 x y m n) (Sp.qi m * Sp.qi n)) (Sp.mkC (zNzD2 x y m n) (Sp.qi m * Sp.qi n)),ratA false false (Sp.qi v * Sp.qi v)],[],rootF (zNzD8 x m y n v) (zNzD6 x y m n v) (zNzD9 x y m n v),[]⟩,⟨true,false,35,[vi c],[],ratA false false (Sp.qi c),[]⟩,⟨true,false,35,[vi c],[],ratA false false (Sp.qi c),[]⟩,⟨true,false,37,[ratA false false (Sp.qi c),ratA false false (Sp.qi c)],[],ratA false false (Sp.qi c * Sp.qi c),[]⟩,⟨true,false,63,[ratA false false (Sp.qi c * Sp.qi c)],[],ratA false false (-(Sp.qi c * Sp.qi c)),[]⟩,⟨true,false,62,[ratA false false (-(Sp.qi c * Sp.qi c))],[],rootF (-(Sp.qi c * Sp.qi c)) (Sp.qi 0) (Sp.qi 0),[]⟩,⟨true,false,61,[rootF (zNzD8 x m y n v) (zNzD6 x y m n v) (zNzD9 x y m n v),rootF (-(Sp.qi c * Sp.qi c)) (Sp.qi 0) (Sp.qi 0)],[],tu [rootF (zNzD4 x m y n v c) (zNzD5 x y m n v) (zNzD3 x y m n v),vi 0],[]⟩,⟨true == true && true && true,false,64,[rootF (zNzD4 x m y n v c) (zNzD5 x y m n v) (zNzD3 x y m n v)],[],vi (Sp.sgO (zNzD4 x m y n v c) (zNzD5 x y m n v) (zNzD3 x y m n v)),[]⟩]) (vb (decide (Sp.sgO (zNzD4 x m y n v c) (zNzD5 x y m n v) (zNzD3 x y m n v) <= 0))) (by kernel_rfl) (bc rfl (bc rfl (bc rfl (bc rfl (bc rfl (bc rfl (bc rfl (bc rfl (bc rfl (bc rfl (bc rfl (bc rfl (bc rfl (bc rfl (bc rfl b0))))))))))))))) q0 (cc (fun _ => (@ev35 (m) k1)) (cc (fun _ => (@ev35 (n) k2)) (cc (fun _ => (@ev37 (false) (false) (false) (false) (Sp.qi m) (Sp.qi n) k3)) (cc (fun _ => (by (try rw [w5]);all_goals exact (@ev34 (x * x) (m) k6))) (cc (fun _ => (by (try rw [w8]);all_goals exact (@ev34 (y * y) (n) k9))) (cc (fun _ => (@ev38 (false) (false) (false) (false) (Sp.qf (x * x) m) (Sp.qf (y * y) n) k10)) (cc (fun _ => (@ev35 (-2) k11)) (cc (fun _ => (@ev35 (x) k12)) (cc (fun _ => (@ev35 (y) k13)) (cc (fun _ => (@ev37 (false) (false) (false) (false) (Sp.qi x) (Sp.qi y) k14)) (cc (fun _ => (@ev37 (false) (false) (false) (false) (Sp.qi (-2)) (Sp.qi x * Sp.qi y) k15)) (cc (fun _ => (@ev58 (false) (false) (false) (false) (Sp.qi (-2) * (Sp.qi x * Sp.qi y)) (Sp.qi m * Sp.qi n) k16)) (cc (fun _ => (@ev59_y (false) (false) (false) (false) (false) (false) (Sp.qf (x * x) m + Sp.qf (y * y) n) (zNzD2 x y m n) (Sp.qi m * Sp.qi n) k18 d17)) (cc (fun _ => (@ev35 (v) k19)) (cc (fun _ => (@ev35 (v) k19)) (cc (fun _ => (@ev37 (false) (false) (false) (false) (Sp.qi v) (Sp.qi v) k20)) (cc (fun _ => (@ev60 (false) (false) (false) (false) (false) (false) (false) (false) (zNzD10 x m y n) (Sp.mkB (zNzD2 x y m n) (Sp.qi m * Sp.qi n)) (Sp.mkC (zNzD2 x y m n) (Sp.qi m * Sp.qi n)) (Sp.qi v * Sp.qi v) k21)) (cc (fun _ => (@ev35 (c) k22)) (cc (fun _ => (@ev35 (c) k22)) (cc (fun _ => (@ev37 (false) (false) (false) (false) (Sp.qi c) (Sp.qi c) k23)) (cc (fun _ => (@ev63 (false) (false) (Sp.qi c * Sp.qi c) k24)) (cc (fun _ => (@ev62 (false) (false) (-(Sp.qi c * Sp.qi c)))) (cc (fun _ => (@ev61_y (false) (false) (false) (false) (false) (false) (false) (false) (false) (false) (false) (false) (zNzD8 x m y n v) (zNzD6 x y m n v) (zNzD9 x y m n v) (-(Sp.qi c * Sp.qi c)) (Sp.qi 0) (Sp.qi 0) k26 d25)) (cc (fun hc => ((@ev64 (false) (false) (false) (false) (false) (false) (zNzD4 x m y n v c) (zNzD5 x y m n v) (zNzD3 x y m n v) (k28 ((i_at (i_at (i_bt (i_var _)))).1 hc))):Ev M1 (Conf.pure 64 [rootF (zNzD4 x m y n v c) (zNzD5 x y m n v) (zNzD3 x y m n v)]) (vi (Sp.sgO (zNzD4 x m y n v c) (zNzD5 x y m n v) (zNzD3 x y m n v))) [])) c0)))))))))))))))))))))))) H
  ·have H:=H.2 d25
   exact False.elim H
 ·have H:=H.2 d17
  obtain ⟨k30,H⟩:=H
  exact path_re (G:=given kp30 [(2,2,.call (ratA false false (Sp.qi m)) none),(2,5,.call (ratA false false (Sp.qi n)) none),(2,6,.call (ratA false false (Sp.qi m * Sp.qi n)) none),(3,4,.call (ratA false false (Sp.qf (x * x) m)) none),(3,9,.call (ratA false false (Sp.qf (y * y) n)) none),(3,10,.call (ratA false false (Sp.qf (x * x) m + Sp.qf (y * y) n)) none),(4,1,.call (ratA false false (Sp.qi (-2))) none),(4,4,.call (ratA false false (Sp.qi x)) none),(4,7,.call (ratA false false (Sp.qi y)) none),(4,8,.call (ratA false false (Sp.qi x * Sp.qi y)) none),(4,9,.call (ratA false false (Sp.qi (-2) * (Sp.qi x * Sp.qi y))) none),(4,11,.call (tu [ratA false false (zNzD2 x y m n),vi 0]) none),(7,3,.call zNzD7 none)] []) 1000 [false,true] (calls:=[pc 35 [vi m] (ratA false false (Sp.qi m)),pc 35 [vi n] (ratA false false (Sp.qi n)),pc 37 [ratA false false (Sp.qi m),ratA false false (Sp.qi n)] (ratA false false (Sp.qi m * Sp.qi n)),pc 34 [vi (wi (x * x)),vi m] (ratA false false (Sp.qf (x * x) m)),pc 34 [vi (wi (y * y)),vi n] (ratA false false (Sp.qf (y * y) n)),pc 38 [ratA false false (Sp.qf (x * x) m),ratA false false (Sp.qf (y * y) n)] (ratA false false (Sp.qf (x * x) m + Sp.qf (y * y) n)),pc 35 [vi (-2)] (ratA false false (Sp.qi (-2))),pc 35 [vi x] (ratA false false (Sp.qi x)),pc 35 [vi y] (ratA false false (Sp.qi y)),pc 37 [ratA false false (Sp.qi x),ratA false false (Sp.qi y)] (ratA false false (Sp.qi x * Sp.qi y)),pc 37 [ratA false false (Sp.qi (-2)),ratA false false (Sp.qi x * Sp.qi y)] (ratA false false (Sp.qi (-2) * (Sp.qi x * Sp.qi y))),pc 58 [ratA false false (Sp.qi (-2) * (Sp.qi x * Sp.qi y)),ratA false false (Sp.qi m * Sp.qi n)] (tu [ratA false false (zNzD2 x y m n),vi 0]),pc 59 [ratA false false (Sp.qf (x * x) m + Sp.qf (y * y) n),ratA false false (zNzD2 x y m n),ratA false false (Sp.qi m * Sp.qi n)] zNzD7]) (vb false) (by kernel_rfl) (bc rfl (bc rfl (bc rfl (bc rfl (bc rfl (bc rfl (bc rfl (bc rfl (bc rfl (bc rfl b0)))))))))) q0 (ce (@ev35 (m) k1) (ce (@ev35 (n) k2) (ce (@ev37 (false) (false) (false) (false) (Sp.qi m) (Sp.qi n) k3) (ce (by (try rw [w5]);all_goals exact (@ev34 (x * x) (m) k6)) (ce (by (try rw [w8]);all_goals exact (@ev34 (y * y) (n) k9)) (ce (@ev38 (false) (false) (false) (false) (Sp.qf (x * x) m) (Sp.qf (y * y) n) k10) (ce (@ev35 (-2) k11) (ce (@ev35 (x) k12) (ce (@ev35 (y) k13) (ce (@ev37 (false) (false) (false) (false) (Sp.qi x) (Sp.qi y) k14) (ce (@ev37 (false) (false) (false) (false) (Sp.qi (-2)) (Sp.qi x * Sp.qi y) k15) (ce (@ev58 (false) (false) (false) (false) (Sp.qi (-2) * (Sp.qi x * Sp.qi y)) (Sp.qi m * Sp.qi n) k16) (ce (@ev59_n (false) (false) (false) (false) (false) (false) (Sp.qf (x * x) m + Sp.qf (y * y) n) (zNzD2 x y m n) (Sp.qi m * Sp.qi n) k30 d17) c0))))))))))))) H
noncomputable abbrev zNzD11 (t:Int) (a:Int) (v:Int):=Sp.sgnI ((Sp.qf t 1000 * Sp.qi a).num * (↑(Sp.qi v + Sp.qi v).den:Int) - (Sp.qi v + Sp.qi v).num * (↑(Sp.qf t 1000 * Sp.qi a).den:Int)) >= 0
noncomputable abbrev zNzD12:=ag [vb false,AV.vnil,vb false,AV.vnil]
theorem kReach (t v a:Int)  (dq:AV) (H :
  ((((¬(0 <= t /\ t <= 1000000000000)) \/ (¬(1 <= v /\ v <= 1000000))) \/ (¬(1 <= a /\ a <= 100000000))) -> Weak (tu [ag [vb false,AV.vnil,vb false,AV.vnil],vi 1]) dq) /\
  (¬(((¬(0 <= t /\ t <= 1000000000000)) \/ (¬(1 <= v /\ v <= 1000000))) \/ (¬(1 <= a /\ a <= 100000000))) -> (Sp.okF t 1000) /\
   (Sp.inI v) /\
   (Sp.inI a) /\
   (Sp.okR (Sp.qf t 1000) /\ Sp.okR (Sp.qi a)) /\
   (Sp.okR (Sp.qi v) /\ Sp.okR (Sp.qi v)) /\
   (Sp.okR (Sp.qf t 1000 * Sp.qi a) /\ Sp.okR (Sp.qi v + Sp.qi v)) /\
   ((Sp.sgnI ((Sp.qf t 1000 * Sp.qi a).num * (↑(Sp.qi v + Sp.qi v).den:Int) - (Sp.qi v + Sp.qi v).num * (↑(Sp.qf t 1000 * Sp.qi a).den:Int)) >= 0) -> (Sp.okR (Sp.qi v) /\ Sp.okR (Sp.qf t 1000)) /\
    (-9223372036854775808 <= v * v /\ v * v <= 9223372036854775807) /\
    (Sp.okF (v * v) a) /\
    (Sp.okR (Sp.qi v * Sp.qf t 1000) /\ Sp.okR (Sp.qf (v * v) a)) /\
    Weak (tu [ratA false false (Sp.qi v * Sp.qf t 1000 - Sp.qf (v * v) a),vi 0]) dq) /\
   (¬(Sp.sgnI ((Sp.qf t 1000 * Sp.qi a).num * (↑(Sp.qi v + Sp.qi v).den:Int) - (Sp.qi v + Sp.qi v).num * (↑(Sp.qf t 1000 * Sp.qi a).den:Int)) >= 0) -> (Sp.okF a 4) /\
    (Sp.okR (Sp.qf t 1000) /\ Sp.okR (Sp.qf t 1000)) /\
    (Sp.okR (Sp.qf a 4) /\ Sp.okR (Sp.qf t 1000 * Sp.qf t 1000)) /\
    Weak (tu [ratA false false (Sp.qf a 4 * (Sp.qf t 1000 * Sp.qf t 1000)),vi 0]) dq))) :
 kReach_at t v a (PureQ dq):=by
 unfold kReach_at
 refine path_wp (G:=given kp12 [(1,1,.call (vb (decide (0 <= t /\ t <= 1000000000000))) none),(1,5,.call (vb (decide (1 <= v /\ v <= 1000000))) none),(1,10,.call (vb (decide (1 <= a /\ a <= 100000000))) none)] []) 5 [] ⟨(atC (cd Tryz.f12) [1,0,1]),[(0,vi t),(1,vi v),(2,vi a),(6,AV.ptr 0 0 0 0),(23,vb (bif bif !decide (0 <= t /\ t <= 1000000000000) then true else !decide (1 <= v /\ v <= 1000000) then true else !decide (1 <= a /\ a <= 100000000)))],[⟨[zNzD12],4,0,false,false⟩],_,[],[⟨true,false,25,[vi t,vi 0,vi 1000000000000],[],vb (decide (0 <= t /\ t <= 1000000000000)),[]⟩,⟨(!decide (0 <= t /\ t <= 1000000000000)) == false && true && true,false,25,[vi v,vi 1,vi 1000000],[],vb (decide (1 <= v /\ v <= 1000000)),[]⟩,⟨(bif !decide (0 <= t /\ t <= 1000000000000) then true else !decide (1 <= v /\ v <= 1000000)) == false && true && true,false,25,[vi a,vi 1,vi 100000000],[],vb (decide (1 <= a /\ a <= 100000000)),[]⟩]⟩ (by kernel_rfl) b0 q0 (cc (fun _ => (@ev25 (t) (0) (1000000000000))) (cc (fun hc => ((@ev25 (v) (1) (1000000)):Ev M1 (Conf.pure 25 [vi v,vi 1,vi 1000000]) (vb (decide (1 <= v /\ v <= 1000000))) [])) (cc (fun hc => ((@ev25 (a) (1) (100000000)):Ev M1 (Conf.pure 25 [vi a,vi 1,vi 100000000]) (vb (decide (1 <= a /\ a <= 100000000))) [])) c0))) ?_
 rcases xm (((¬(0 <= t /\ t <= 1000000000000)) \/ (¬(1 <= v /\ v <= 1000000))) \/ (¬(1 <= a /\ a <= 100000000))) with d4 | d4
 ·have H:=H.1 d4
  exact path_rq (G:=given kp12 [] []) 1000 [true] (tu [zNzD12,vi 1]) (by kernel_rfl) (bc (beq_t ((i_bor (i_bor (i_not i_dec) (i_not i_dec)) (i_not i_dec)).2 d4)) (bc rfl b0)) q0 c0 H
 ·have H:=H.2 d4
  obtain ⟨k5,H⟩:=H
  obtain ⟨k6,H⟩:=H
  obtain ⟨k7,H⟩:=H
  obtain ⟨k8,H⟩:=H
  obtain ⟨k9,H⟩:=H
  obtain ⟨k10,H⟩:=H
  refine path_wp (G:=given kp12 [(3,1,.call (ratA false false (Sp.qf t 1000)) none),(3,3,.call (ratA false false (Sp.qi v)) none),(3,5,.call (ratA false false (Sp.qi a)) none),(4,2,.call (ratA false false (Sp.qf t 1000 * Sp.qi a)) none),(4,5,.call (ratA false false (Sp.qi v + Sp.qi v)) none),(4,6,.call (vi (Sp.sgnI ((Sp.qf t 1000 * Sp.qi a).num * (↑(Sp.qi v + Sp.qi v).den:Int) - (Sp.qi v + Sp.qi v).num * (↑(Sp.qf t 1000 * Sp.qi a).den:Int)))) none)] []) 7 [false] ⟨(atC (cd Tryz.f12) [1,1,1,0,1]),[(1,vi v),(2,vi a),(6,AV.ptr 0 0 0 0),(8,AV.ptr 1 0 0 0),(9,AV.ptr 2 0 0 0),(38,vb (decide (zNzD11 t a v)))],[⟨[zNzD12],4,0,false,false⟩,⟨[ratA false false (Sp.qf t 1000)],4,0,false,false⟩,⟨[ratA false false (Sp.qi v)],4,0,false,false⟩,⟨[ratA false false (Sp.qi a)],4,0,false,false⟩],_,[],_⟩ (by kernel_rfl) (bc (beq_f (fun h => d4 ((i_bor (i_bor (i_not i_dec) (i_not i_dec)) (i_not i_dec)).1 h))) (bc rfl (bc rfl (bc rfl (bc rfl (bc rfl (bc rfl (bc rfl b0)))))))) q0 (ce (@ev34 (t) (1000) k5) (ce (@ev35 (v) k6) (ce (@ev35 (a) k7) (ce (@ev37 (false) (false) (false) (false) (Sp.qf t 1000) (Sp.qi a) k8) (ce (@ev38 (false) (false) (false) (false) (Sp.qi v) (Sp.qi v) k9) (ce (@ev36 (false) (false) (false) (false) (Sp.qf t 1000 * Sp.qi a) (Sp.qi v + Sp.qi v) k10) c0)))))) ?_
  rcases xm (zNzD11 t a v) with d12 | d12
  ·have H:=H.1 d12
   obtain ⟨k13,H⟩:=H
   obtain ⟨k14,H⟩:=H
   have w15:wi (v * v) = v * v:=wI64 k14
   obtain ⟨k16,H⟩:=H
   obtain ⟨k17,H⟩:=H
   exact path_rq (G:=given kp12 [(5,2,.call (ratA false false (Sp.qi v * Sp.qf t 1000)) none),(5,7,.call (ratA false false (Sp.qf (v * v) a)) none),(5,8,.call (ratA false false (Sp.qi v * Sp.qf t 1000 - Sp.qf (v * v) a)) none)] []) 1000 [true] (calls:=[pc 37 [ratA false false (Sp.qi v),ratA false false (Sp.qf t 1000)] (ratA false false (Sp.qi v * Sp.qf t 1000)),pc 34 [vi (wi (v * v)),vi a] (ratA false false (Sp.qf (v * v) a)),pc 39 [ratA false false (Sp.qi v * Sp.qf t 1000),ratA false false (Sp.qf (v * v) a)] (ratA false false (Sp.qi v * Sp.qf t 1000 - Sp.qf (v * v) a))]) (tu [ratA false false (Sp.qi v * Sp.qf t 1000 - Sp.qf (v * v) a),vi 0]) (by kernel_rfl) (bc (beq_t (i_dec.2 d12)) (bc rfl (bc rfl (bc rfl b0)))) q0 (ce (@ev37 (false) (false) (false) (false) (Sp.qi v) (Sp.qf t 1000) k13) (ce (by (try rw [w15]);all_goals exact (@ev34 (v * v) (a) k16)) (ce (@ev39 (false) (false) (false) (false) (Sp.qi v * Sp.qf t 1000) (Sp.qf (v * v) a) k17) c0))) H
  ·have H:=H.2 d12
   obtain ⟨k18,H⟩:=H
   obtain ⟨k19,H⟩:=H
   obtain ⟨k20,H⟩:=H
   exact path_rq (G:=given kp12 [(6,1,.call (ratA false false (Sp.qf a 4)) none),(6,4,.call (ratA false false (Sp.qf t 1000 * Sp.qf t 1000)) none),(6,5,.call (ratA false false (Sp.qf a 4 * (Sp.qf t 1000 * Sp.qf t 1000))) none)] []) 1000 [false] (tu [ratA false false (Sp.qf a 4 * (Sp.qf t 1000 * Sp.qf t 1000)),vi 0]) (by kernel_rfl) (bc (beq_f (fun h => d12 (i_dec.1 h))) (bc rfl (bc rfl (bc rfl b0)))) q0 (ce (@ev34 (a) (4) k18) (ce (@ev37 (false) (false) (false) (false) (Sp.qf t 1000) (Sp.qf t 1000) k19) (ce (@ev37 (false) (false) (false) (false) (Sp.qf a 4) (Sp.qf t 1000 * Sp.qf t 1000) k20) c0))) H
end Go.Av

namespace Go.Av
open Go.Proofs
theorem ev54 (n u v:Int) (h:Sp.isV n /\ Sp.isLen u /\ Sp.isAcc v):Ev M1 (.pure 54 [.int .i64 n,.int .i64 u,.int .i64 v]) (.int .i64 (Sp.af (2 * v * u) n)) []:=by
 obtain ⟨a,b,c⟩:=af_ok h
 have c':=c
 unfold Sp.okNs at c'
 have d:=h.2.2
 unfold Sp.isAcc at d
 exact call54 (kFaster1 _ _ _ _ ⟨by omega,by omega,by omega,by omega,c,rfl⟩)
namespace Sp
noncomputable def alwA (x y m n:Int):Rat:=qf (x * x) m + qf (y * y) n
noncomputable def alwT (x y:Int):Rat:=qi (-2) * (qi x * qi y)
noncomputable def alw (v x y m n c:Int):Bool:=decide (sgO (alwA x y m n * (qi v * qi v) + -(qi c * qi c)) (alwT x y * (qi v * qi v)) (1 / (qi m * qi n)) <= 0)
def okQ (m:Int):Prop:=1 <= m /\ m <= 1200000000000000
def okAl (v x y m n c:Int):Prop:=(0 <= v /\ v <= 1000001) /\ (inM x /\ inM y) /\ (okQ m /\ okQ n) /\ isV c
end Sp
theorem qi_pos {m:Int} (h:1 <= m):0 < Sp.qi m:=by
 rw [qi_eq,<- Rat.intCast_zero]
 exact Rat.intCast_lt_intCast.2 (by omega)
theorem qi_0:Sp.qi 0 = 0:=by rw [qi_eq];rfl
theorem nn_pos {c:Rat} (h:0 < c):Sp.isNN c:=by
 unfold Sp.isNN
 apply Classical.byContradiction
 intro n
 have:=num_lt.1 (show c.num < 0 by omega)
 grind
theorem ev30 (v x y m n c:Int) (h:Sp.okAl v x y m n c):Ev M1 (.pure 30 [.int .i64 v,.int .i64 x,.int .i64 y,.int .i64 m,.int .i64 n,.int .i64 c]) (.bool (Sp.alw v x y m n c)) []:=by
 obtain ⟨hv,⟨hx,hy⟩,⟨hm,hn⟩,hc⟩:=h
 unfold Sp.okQ at hm hn
 have bx:=sq_bound (x:=x) (by unfold Sp.inM at hx;unfold Sp.inQ;omega)
 have by_:=sq_bound (x:=y) (by unfold Sp.inM at hy;unfold Sp.inQ;omega)
 unfold Sp.inM at hx hy
 unfold Sp.isV at hc
 have im:Sp.inI m:=by unfold Sp.inI;omega
 have iN:Sp.inI n:=by unfold Sp.inI;omega
 have ix:Sp.inI x:=by unfold Sp.inI;omega
 have iy:Sp.inI y:=by unfold Sp.inI;omega
 have iv:Sp.inI v:=by unfold Sp.inI;omega
 have ic:Sp.inI c:=by unfold Sp.inI;omega
 have i2:Sp.inI (-2):=by unfold Sp.inI;omega
 have fx:Sp.okF (x * x) m:=⟨by unfold Sp.inI;omega,im,by omega⟩
 have fy:Sp.okF (y * y) n:=⟨by unfold Sp.inI;omega,iN,by omega⟩
 have pm:=qi_pos hm.1
 have pn:=qi_pos hn.1
 have pk:=mul_pp pm pn
 have tm:=okT_int im
 have tn:=okT_int iN
 have tk:=okT_mul tm tn
 have ta:=okT_add (okT_qf fx) (okT_qf fy)
 have txy:=okT_mul (okT_int ix) (okT_int iy)
 have tt:=okT_mul (okT_int i2) txy
 have k0:(Sp.qi m * Sp.qi n).num ≠ 0:=fun e => by rw [Rat.num_eq_zero] at e;grind
 have tb:=okT_div tt tk k0
 have tv:=okT_mul (okT_int iv) (okT_int iv)
 have tc:=okT_mul (okT_int ic) (okT_int ic)
 have tA:=okT_mkA (okT_le ta (show 7 <= 20 by omega)) (okT_le tb (show 15 <= 20 by omega)) (okT_le tk (show 6 <= 20 by omega))
 have tB:=okT_mkB (c:=Sp.qi m * Sp.qi n) (okT_le tb (show 15 <= 20 by omega))
 have tC:=okT_mkC (b:=Sp.qi (-2) * (Sp.qi x * Sp.qi y) / (Sp.qi m * Sp.qi n)) (okT_le tk (show 6 <= 20 by omega))
 have uA:=okT_mul tA tv
 have uB:=okT_mul tB tv
 have uC:=okT_rad (b:=Sp.mkB (Sp.qi (-2) * (Sp.qi x * Sp.qi y) / (Sp.qi m * Sp.qi n)) (Sp.qi m * Sp.qi n) * (Sp.qi v * Sp.qi v)) tC
 have wA:=okT_add uA (okT_neg tc)
 have wB:=okT_add uB okT_q0
 have wC:=okT_rad (b:=Sp.mkB (Sp.qi (-2) * (Sp.qi x * Sp.qi y) / (Sp.qi m * Sp.qi n)) (Sp.qi m * Sp.qi n) * (Sp.qi v * Sp.qi v) + Sp.qi 0) (okT_com (b:=Sp.mkB (Sp.qi (-2) * (Sp.qi x * Sp.qi y) / (Sp.qi m * Sp.qi n)) (Sp.qi m * Sp.qi n) * (Sp.qi v * Sp.qi v)) uC (okT_le okT_q0 (show 1 <= 22 by omega)))
 refine call30 (kAllow _ _ _ _ _ _ _ ⟨im,iN,⟨okT_R tm (by omega),okT_R tn (by omega)⟩,by omega,fx,by omega,fy,⟨okT_R (okT_qf fx) (by omega),okT_R (okT_qf fy) (by omega)⟩,i2,ix,iy,⟨okT_R (okT_int ix) (by omega),okT_R (okT_int iy) (by omega)⟩,⟨okT_R (okT_int i2) (by omega),okT_R txy (by omega)⟩,⟨okT_R tt (by omega),okT_R tk (by omega),k0⟩,fun _ => ⟨okT_O (okT_le ta (show 7 <= 20 by omega)) (okT_le tb (show 15 <= 20 by omega)) (okT_le tk (show 6 <= 20 by omega)) (by omega),iv,⟨okT_R (okT_int iv) (by omega),okT_R (okT_int iv) (by omega)⟩,⟨⟨okT_le tA (by omega),okT_le tB (by omega)⟩,okT_R tv (by omega)⟩,ic,⟨okT_R (okT_int ic) (by omega),okT_R (okT_int ic) (by omega)⟩,?_,fun _ => ⟨⟨⟨okT_le uA (by omega),okT_le uB (by omega),okT_le uC (by omega)⟩,⟨okT_le (okT_neg tc) (by omega),okT_le okT_q0 (by omega),okT_le okT_q0 (by omega)⟩⟩,fun _ => ⟨okT_le wA (by omega),okT_le wB (by omega),okT_le wC (by omega)⟩,?_⟩,fun k => k (.inr (.inl qi_0))⟩,fun k => absurd (nn_pos pk) k⟩)
 ·have:=tc.1
  unfold Sp.okB;omega
 ·rw [sgO_prog pk,corner_eq pk];rfl
namespace Sp
def okRe (t v a:Int):Prop:=(0 <= t /\ t <= 1000000000000) /\ (1 <= v /\ v <= 1000000) /\ isAcc a
noncomputable def reR (t v a:Int):Rat:=rch (qf t 1000) (qi v) (qi a)
end Sp
instance (t v a:Int):Decidable (Sp.okRe t v a):=by unfold Sp.okRe;infer_instance
theorem sgnI_ge {n:Int}:Sp.sgnI n >= 0 ↔ 0 <= n:=by
 unfold Sp.sgnI
 (repeat' split) <;> omega
theorem cmp_ge {r s:Rat}:Sp.sgnI (r.num * (s.den:Int) - s.num * (r.den:Int)) >= 0 ↔ s <= r:=by
 rw [sgnI_ge,Rat.le_iff];omega
theorem qf_div (n:Int) {d:Int} (h:0 < d):Sp.qf n d = Sp.qi n / Sp.qi d:=by
 rw [qf_eq,qi_eq,qi_eq,Rat.divInt_eq_div]
theorem reach_y {t v a:Int} (h:0 < a) (k:Sp.qi v + Sp.qi v <= Sp.qf t 1000 * Sp.qi a):Sp.reR t v a = Sp.qi v * Sp.qf t 1000 - Sp.qf (v * v) a:=by
 unfold Sp.reR Sp.rch
 rw [if_pos k,qf_div _ h,<- qi_mul]
theorem reach_n {t v a:Int} (k:¬Sp.qi v + Sp.qi v <= Sp.qf t 1000 * Sp.qi a):Sp.reR t v a = Sp.qf a 4 * (Sp.qf t 1000 * Sp.qf t 1000):=by
 have e:Sp.qi 4 = (4:Rat):=by rw [qi_eq];rfl
 unfold Sp.reR Sp.rch
 rw [if_neg k,show Sp.qf a 4 = Sp.qi a / Sp.qi 4 from qf_div a (by omega),e]
theorem okT_re {t v a:Int} (h:Sp.okRe t v a):Sp.okT 13 (Sp.reR t v a):=by
 obtain ⟨h1,h2,h3⟩:=h
 unfold Sp.isAcc at h3
 have b:v * v <= 1000000 * 1000000:=sq_le_sq (by omega) (by omega)
 have b0:=nn_sq v
 have ia:Sp.inI a:=by unfold Sp.inI;omega
 have iv:Sp.inI v:=by unfold Sp.inI;omega
 have ft:Sp.okF t 1000:=⟨by unfold Sp.inI;omega,by unfold Sp.inI;omega,by omega⟩
 have fv:Sp.okF (v * v) a:=⟨by unfold Sp.inI;omega,ia,by omega⟩
 have fa:Sp.okF a 4:=⟨ia,by unfold Sp.inI;omega,by omega⟩
 by_cases k:Sp.qi v + Sp.qi v <= Sp.qf t 1000 * Sp.qi a
 ·rw [reach_y (by omega) k]
  exact okT_le (okT_sub (okT_mul (okT_int iv) (okT_qf ft)) (okT_qf fv)) (by omega)
 ·rw [reach_n k]
  exact okT_le (okT_mul (okT_qf fa) (okT_mul (okT_qf ft) (okT_qf ft))) (by omega)
theorem re_no {t v a:Int}:(((¬(0 <= t /\ t <= 1000000000000)) \/ (¬(1 <= v /\ v <= 1000000))) \/ (¬(1 <= a /\ a <= 100000000))) ↔ ¬Sp.okRe t v a:=by unfold Sp.okRe Sp.isAcc;omega
theorem ev12_y (t v a:Int) (k:Sp.okRe t v a):Ev M1 (.pure 12 [.int .i64 t,.int .i64 v,.int .i64 a]) (.tup [ratA false false (Sp.reR t v a),.int .i64 0]) []:=by
 have h:=k
 obtain ⟨h1,h2,h3⟩:=h
 unfold Sp.isAcc at h3
 have b:v * v <= 1000000 * 1000000:=sq_le_sq (by omega) (by omega)
 have b0:=nn_sq v
 have ia:Sp.inI a:=by unfold Sp.inI;omega
 have iv:Sp.inI v:=by unfold Sp.inI;omega
 have ft:Sp.okF t 1000:=⟨by unfold Sp.inI;omega,by unfold Sp.inI;omega,by omega⟩
 have fv:Sp.okF (v * v) a:=⟨by unfold Sp.inI;omega,ia,by omega⟩
 have fa:Sp.okF a 4:=⟨ia,by unfold Sp.inI;omega,by omega⟩
 have qt:=okT_qf ft
 have qv:=okT_int iv
 have qa:=okT_int ia
 refine call12 (kReach _ _ _ _ ⟨fun x => absurd k (re_no.1 x),fun _ => ⟨ft,iv,ia,⟨okT_R qt (by omega),okT_R qa (by omega)⟩,⟨okT_R qv (by omega),okT_R qv (by omega)⟩,⟨okT_R (okT_mul qt qa) (by omega),okT_R (okT_add qv qv) (by omega)⟩,fun x => ?_,fun x => ?_⟩⟩)
 ·rw [cmp_ge] at x
  rw [reach_y (by omega) x]
  exact ⟨⟨okT_R qv (by omega),okT_R qt (by omega)⟩,by omega,fv,⟨okT_R (okT_mul qv qt) (by omega),okT_R (okT_qf fv) (by omega)⟩,.refl _⟩
 ·rw [cmp_ge] at x
  rw [reach_n x]
  exact ⟨fa,⟨okT_R qt (by omega),okT_R qt (by omega)⟩,⟨okT_R (okT_qf fa) (by omega),okT_R (okT_mul qt qt) (by omega)⟩,.refl _⟩
theorem ev12_n (t v a:Int) (k:¬(Sp.okRe t v a)):Ev M1 (.pure 12 [.int .i64 t,.int .i64 v,.int .i64 a]) (.tup [noR,.int .i64 1]) []:=
 call12 (kReach _ _ _ _ ⟨fun _ => weak_two weak_nr (.refl _),fun x => absurd (re_no.2 k) x⟩)
end Go.Av

namespace Go.Av
open Go.Proofs
set_option maxRecDepth 100000
def fi21:Fi:=⟨25,[.tmp 6,.tmp 7]⟩
def kp21:List (Nat × List Nat):=[(0,[0,1,2]),(1,[0,1,2,20]),(2,[6,7]),(3,[6,7])]
def fi22:Fi:=⟨88,[.tmp 4,.tmp 5]⟩
def kp22:List (Nat × List Nat):=[(0,[0,1]),(1,[0,1,6]),(2,[0,1,6,14]),(3,[4,5]),(4,[0,1,7]),(5,[0,1,7,8]),(6,[0,1,7,8,23]),(7,[0,1,7,8]),(8,[0,1,7,8]),(9,[0,1,7,9]),(10,[0,1,7,9,64]),(11,[0,1,7,9]),(12,[0,1,7,9]),(13,[4,5])]
def fi29:Fi:=⟨45,[.tmp 7]⟩
def kp29:List (Nat × List Nat):=[(0,[0,1,2,3,4,5]),(1,[1,2,3,4,5,8]),(2,[7])]
def fi49:Fi:=⟨23,[.tmp 5]⟩
def kp49:List (Nat × List Nat):=[(0,[0,1,2,3]),(1,[3,6,7]),(2,[5])]
def kFaster_at (n u v:Int) (Q:AV -> Heap -> Prop):Prop:=Wp M1 (.run fi21 (atC (cd Tryz.f21) []) [(0,.int .i64 n),(1,.int .i64 u),(2,.int .i64 v)] []) Q
def kSp_at (fl:Bool) (l:List Pt) (a:Int) (Q:AV -> Heap -> Prop):Prop:=Wp M1 (.run fi22 (atC (cd Tryz.f22) []) [(0,.vec fl 3 (l.map Pt.a)),(1,.int .i64 a)] []) Q
def kSpA_at (fl:Bool) (l:List Pt) (a i:Int) (o:List Int) (Q:AV -> Heap -> Prop):Prop:=Wp M1 (.run fi22 (atC (cd Tryz.f22) [1,1,1,0,1,0,0]) [(0,.vec fl 3 (l.map Pt.a)),(1,.int .i64 a),(7,.row 0 0),(8,.int .i64 i)] [⟨o.map (.int .i64),1,0,false,true⟩]) Q
def kSpB_at (fl:Bool) (l:List Pt) (a i:Int) (o:List Int) (Q:AV -> Heap -> Prop):Prop:=Wp M1 (.run fi22 (atC (cd Tryz.f22) [1,1,1,1,0,1,0,0]) [(0,.vec fl 3 (l.map Pt.a)),(1,.int .i64 a),(7,.row 0 0),(9,.int .i64 i)] [⟨o.map (.int .i64),1,0,false,true⟩]) Q
def kCor1_at (ax ay az bx by_ bz m n c i:Int) (Q:AV -> Heap -> Prop):Prop:=Wp M1 (.run fi29 (atC (cd Tryz.f29) []) [(0,.int .i64 i),(1,.eptr 3 [.agg [.int .i64 ax,.int .i64 ay,.int .i64 az]] 0 0),(2,.eptr 3 [.agg [.int .i64 bx,.int .i64 by_,.int .i64 bz]] 0 0),(3,.eptr 1 [.int .i64 m] 0 0),(4,.eptr 1 [.int .i64 n] 0 0),(5,.eptr 1 [.int .i64 c] 0 0)] []) Q
def kStr1_at (f g:Bool) (v a i:Int) (r:Rat) (Q:AV -> Heap -> Prop):Prop:=Wp M1 (.run fi49 (atC (cd Tryz.f49) []) [(0,.int .i64 i),(1,.eptr 1 [.int .i64 v] 0 0),(2,.eptr 1 [.int .i64 a] 0 0),(3,.eptr 4 [ratA f g r] 0 0)] []) Q
theorem call21 {args:List AV} {d:AV} (h:wc M1 fi21 Tryz.f21 args d):Ev M1 (.pure 21 args) d []:=pcl _ _ (by kernel_rfl) h
theorem call22 {args:List AV} {d:AV} (h:wc M1 fi22 Tryz.f22 args d):Ev M1 (.pure 22 args) d []:=pcl _ _ (by kernel_rfl) h
theorem call29 {args:List AV} {d:AV} (h:wc M1 fi29 Tryz.f29 args d):Ev M1 (.pure 29 args) d []:=pcl _ _ (by kernel_rfl) h
theorem call49 {args:List AV} {d:AV} (h:wc M1 fi49 Tryz.f49 args d):Ev M1 (.pure 49 args) d []:=pcl _ _ (by kernel_rfl) h
theorem kFaster (n u v:Int)  (dq:AV) (H :
  ((((¬(0 <= n /\ n <= 1000000)) \/ (¬(0 <= u /\ u <= 100000000))) \/ (¬(1 <= v /\ v <= 100000000))) -> tu [vi 0,vi 1] = dq) /\
  (¬(((¬(0 <= n /\ n <= 1000000)) \/ (¬(0 <= u /\ u <= 100000000))) \/ (¬(1 <= v /\ v <= 100000000))) -> (Sp.isV n /\ Sp.isLen u /\ Sp.isAcc v) /\
   tu [vi (Sp.af (2 * v * u) n),vi 0] = dq)) :
 kFaster_at n u v (PureQ dq):=by
 unfold kFaster_at
 refine path_wp (G:=given kp21 [(1,1,.call (vb (decide (0 <= n /\ n <= 1000000))) none),(1,5,.call (vb (decide (0 <= u /\ u <= 100000000))) none),(1,10,.call (vb (decide (1 <= v /\ v <= 100000000))) none)] []) 5 [] ⟨(atC (cd Tryz.f21) [1,0,1]),[(0,vi n),(1,vi u),(2,vi v),(20,vb (bif bif !decide (0 <= n /\ n <= 1000000) then true else !decide (0 <= u /\ u <= 100000000) then true else !decide (1 <= v /\ v <= 100000000)))],[],_,[],[⟨true,false,25,[vi n,vi 0,vi 1000000],[],vb (decide (0 <= n /\ n <= 1000000)),[]⟩,⟨(!decide (0 <= n /\ n <= 1000000)) == false && true && true,false,25,[vi u,vi 0,vi 100000000],[],vb (decide (0 <= u /\ u <= 100000000)),[]⟩,⟨(bif !decide (0 <= n /\ n <= 1000000) then true else !decide (0 <= u /\ u <= 100000000)) == false && true && true,false,25,[vi v,vi 1,vi 100000000],[],vb (decide (1 <= v /\ v <= 100000000)),[]⟩]⟩ (by kernel_rfl) b0 q0 (cc (fun _ => (@ev25 (n) (0) (1000000))) (cc (fun hc => ((@ev25 (u) (0) (100000000)):Ev M1 (Conf.pure 25 [vi u,vi 0,vi 100000000]) (vb (decide (0 <= u /\ u <= 100000000))) [])) (cc (fun hc => ((@ev25 (v) (1) (100000000)):Ev M1 (Conf.pure 25 [vi v,vi 1,vi 100000000]) (vb (decide (1 <= v /\ v <= 100000000))) [])) c0))) ?_
 rcases xm (((¬(0 <= n /\ n <= 1000000)) \/ (¬(0 <= u /\ u <= 100000000))) \/ (¬(1 <= v /\ v <= 100000000))) with d4 | d4
 ·have H:=H.1 d4
  exact path_re (G:=given kp21 [] []) 1000 [true] (tu [vi 0,vi 1]) (by kernel_rfl) (bc (beq_t ((i_bor (i_bor (i_not i_dec) (i_not i_dec)) (i_not i_dec)).2 d4)) b0) q0 c0 H
 ·have H:=H.2 d4
  obtain ⟨k5,H⟩:=H
  exact path_re (G:=given kp21 [(3,3,.call (vi (Sp.af (2 * v * u) n)) none)] []) 1000 [false] (tu [vi (Sp.af (2 * v * u) n),vi 0]) (by kernel_rfl) (bc (beq_f (fun h => d4 ((i_bor (i_bor (i_not i_dec) (i_not i_dec)) (i_not i_dec)).1 h))) b0) q0 (ce (@ev54 (n) (u) (v) k5) c0) H
theorem kSp (fl:Bool) (l:List Pt) (a:Int)  (Q:AV -> Heap -> Prop) (H :
  ((¬Sp.validE l a = 0) -> Q (tu [AV.vnil,vi (Sp.validE l a)]) []) /\
  (¬(¬Sp.validE l a = 0) -> (-9223372036854775808 <= (↑l.length:Int) + 1 /\ (↑l.length:Int) + 1 <= 9223372036854775807) /\
   (0 <= (↑l.length:Int) + 1) /\
   (((↑l.length:Int) + 1) * 8 <= 1099511627776) /\
   ((↑l.length:Int) + 1 <= 1099511627776) /\
   kSpA_at (fl) (l) (a) (1) (List.replicate ((↑l.length:Int) + 1).toNat (0:Int)) Q)) :
 kSp_at fl l a Q:=by
 unfold kSp_at
 refine path_wp (G:=given kp22 [(1,2,.call (vi (Sp.validE l a)) none)] []) 7 [] ⟨(atC (cd Tryz.f22) [1,0,1,1]),[(0,AV.vec fl 3 (List.map Pt.a l)),(1,vi a),(6,vi (Sp.validE l a)),(14,vb (Sp.validE l a != 0))],[],_,[],_⟩ (by kernel_rfl) b0 q0 (ce (@ev55 (fl) (l) (a)) c0) ?_
 rcases xm (¬Sp.validE l a = 0) with d2 | d2
 ·have H:=H.1 d2
  exact path_ret (G:=given kp22 [] []) 1000 [true] (k:=((atC (cd Tryz.f22) [1,0,1,1,0,1])).tail) (env':=[(4,AV.vnil),(5,vi (Sp.validE l a))]) (L':=[]) (asm:=[(Sp.validE l a != 0) == true]) (eqs:=[]) (calls:=[]) (tu [AV.vnil,vi (Sp.validE l a)]) (by kernel_rfl) (by kernel_rfl) (allB_cons (beq_t (i_ne.2 d2)) allB_nil) allP_nil allC_nil H
 ·have H:=H.2 d2
  have w3:(List.map Pt.a l).length = l.length:=List.length_map ..
  obtain ⟨k4,H⟩:=H
  have w5:wi ((↑l.length:Int) + 1) = (↑l.length:Int) + 1:=wI64 k4
  have i6:(decide (0 <= wi ((↑(List.map Pt.a l).length:Int) + 1))) = true ↔ (0 <= (↑l.length:Int) + 1):=(by (try rw [w3]);(try rw [w5]);all_goals exact i_dec)
  obtain ⟨k7,H⟩:=H
  have i8:(decide (wi ((↑(List.map Pt.a l).length:Int) + 1) <= wi ((↑(List.map Pt.a l).length:Int) + 1))) = true ↔ ((↑l.length:Int) + 1 <= (↑l.length:Int) + 1):=(by (try rw [w3]);(try rw [w5]);all_goals exact i_dec)
  have i9:(decide (wi ((↑(List.map Pt.a l).length:Int) + 1) * 8 <= 1099511627776)) = true ↔ (((↑l.length:Int) + 1) * 8 <= 1099511627776):=(by (try rw [w3]);(try rw [w5]);all_goals exact i_dec)
  obtain ⟨k10,H⟩:=H
  have i11:(decide (wi ((↑(List.map Pt.a l).length:Int) + 1) <= 1099511627776)) = true ↔ ((↑l.length:Int) + 1 <= 1099511627776):=(by (try rw [w3]);(try rw [w5]);all_goals exact i_dec)
  obtain ⟨k12,H⟩:=H
  have w13:List.replicate ((↑l.length:Int) + 1).toNat (vi 0) = List.map (vi) (List.replicate ((↑l.length:Int) + 1).toNat (0:Int)):=(lm_rep rfl)
  exact path_wp (G:=given kp22 [] []) 1000 [false] ⟨(atC (cd Tryz.f22) [1,1,1,0,1,0,0]),[(0,AV.vec fl 3 (List.map Pt.a l)),(1,vi a),(7,AV.row 0 0),(8,vi 1)],[⟨List.replicate (wi ((↑(List.map Pt.a l).length:Int) + 1)).toNat (vi 0),1,0,false,true⟩],[(Sp.validE l a != 0) == false,decide (0 <= wi ((↑(List.map Pt.a l).length:Int) + 1)),decide (wi ((↑(List.map Pt.a l).length:Int) + 1) <= wi ((↑(List.map Pt.a l).length:Int) + 1)),decide (wi ((↑(List.map Pt.a l).length:Int) + 1) * 8 <= 1099511627776),decide (wi ((↑(List.map Pt.a l).length:Int) + 1) <= 1099511627776)],[],_⟩ (by kernel_rfl) (bc (beq_f (fun h => d2 (i_ne.1 h))) (bc (i6.2 k7) (bc (i8.2 (by omega)) (bc (i9.2 k10) (bc (i11.2 k12) b0))))) q0 c0 (by (try rw [w3]);(try rw [w5]);(try rw [w13]);all_goals exact H)
noncomputable abbrev zNzE1 (l:List Pt) (i:Int):=ag [vi (l.getD (i - 1).toNat default).len,vi (l.getD (i - 1).toNat default).spd,vi (l.getD (i - 1).toNat default).cor]
noncomputable abbrev zNzE2 (l:List Pt) (i:Int):=ag [vi (l.getD i.toNat default).len,vi (l.getD i.toNat default).spd,vi (l.getD i.toNat default).cor]
theorem kSpA (fl:Bool) (l:List Pt) (a i:Int) (o:List Int)  (Q:AV -> Heap -> Prop) (H :
  ((i < (↑l.length:Int)) -> (-9223372036854775808 <= i - 1 /\ i - 1 <= 9223372036854775807) /\
   (Sp.isV (o.getD (i - 1).toNat default) /\ Sp.isLen (l.getD (i - 1).toNat default).len /\ Sp.isAcc a) /\
   (0 <= i - 1) /\
   ((i - 1).toNat < l.length) /\
   (0 <= i) /\
   (i.toNat < l.length) /\
   ((i - 1).toNat < o.length) /\
   (i.toNat < o.length) /\
   (-9223372036854775808 <= i + 1 /\ i + 1 <= 9223372036854775807) /\
   kSpA_at (fl) (l) (a) (i + 1) (o.set i.toNat (if Sp.af (2 * a * (l.getD (i - 1).toNat default).len) (o.getD (i - 1).toNat default) < if (l.getD i.toNat default).spd < if (l.getD (i - 1).toNat default).cor < (l.getD (i - 1).toNat default).spd then (l.getD (i - 1).toNat default).cor else (l.getD (i - 1).toNat default).spd then (l.getD i.toNat default).spd else if (l.getD (i - 1).toNat default).cor < (l.getD (i - 1).toNat default).spd then (l.getD (i - 1).toNat default).cor else (l.getD (i - 1).toNat default).spd then Sp.af (2 * a * (l.getD (i - 1).toNat default).len) (o.getD (i - 1).toNat default) else if (l.getD i.toNat default).spd < if (l.getD (i - 1).toNat default).cor < (l.getD (i - 1).toNat default).spd then (l.getD (i - 1).toNat default).cor else (l.getD (i - 1).toNat default).spd then (l.getD i.toNat default).spd else if (l.getD (i - 1).toNat default).cor < (l.getD (i - 1).toNat default).spd then (l.getD (i - 1).toNat default).cor else (l.getD (i - 1).toNat default).spd)) Q) /\
  (¬(i < (↑l.length:Int)) -> (-9223372036854775808 <= (↑l.length:Int) - 1 /\ (↑l.length:Int) - 1 <= 9223372036854775807) /\
   kSpB_at (fl) (l) (a) ((↑l.length:Int) - 1) (o) Q)) :
 kSpA_at fl l a i o Q:=by
 unfold kSpA_at
 have w1:(List.map Pt.a l).length = l.length:=List.length_map ..
 have i2:(decide (i < (↑(List.map Pt.a l).length:Int))) = true ↔ (i < (↑l.length:Int)):=(by (try rw [w1]);all_goals exact i_dec)
 rcases xm (i < (↑l.length:Int)) with d3 | d3
 ·have H:=H.1 d3
  obtain ⟨k4,H⟩:=H
  have w5:wi (i - 1) = i - 1:=wI64 k4
  obtain ⟨k6,H⟩:=H
  have i7:(decide (0 <= wi (i - 1))) = true ↔ (0 <= i - 1):=(by (try rw [w5]);all_goals exact i_dec)
  obtain ⟨k8,H⟩:=H
  have i9:(decide ((wi (i - 1)).toNat < (List.map Pt.a l).length)) = true ↔ ((i - 1).toNat < l.length):=(by (try rw [w1]);(try rw [w5]);all_goals exact i_dec)
  obtain ⟨k10,H⟩:=H
  have i11:(decide (0 <= wi (i - 1))) = true ↔ (0 <= i - 1):=(by (try rw [w5]);all_goals exact i_dec)
  have i12:(decide ((wi (i - 1)).toNat < (List.map Pt.a l).length)) = true ↔ ((i - 1).toNat < l.length):=(by (try rw [w1]);(try rw [w5]);all_goals exact i_dec)
  obtain ⟨k14,H⟩:=H
  have i15:(decide (i.toNat < (List.map Pt.a l).length)) = true ↔ (i.toNat < l.length):=(by (try rw [w1]);all_goals exact i_dec)
  obtain ⟨k16,H⟩:=H
  have i17:(decide (0 <= wi (i - 1))) = true ↔ (0 <= i - 1):=(by (try rw [w5]);all_goals exact i_dec)
  have w18:(List.map (vi) o).length = o.length:=List.length_map ..
  have i19:(decide ((wi (i - 1)).toNat < (List.map (vi) o).length)) = true ↔ ((i - 1).toNat < o.length):=(by (try rw [w5]);(try rw [w18]);all_goals exact i_dec)
  obtain ⟨k20,H⟩:=H
  have i21:(decide (0 <= wi (i - 1))) = true ↔ (0 <= i - 1):=(by (try rw [w5]);all_goals exact i_dec)
  have i22:(decide ((wi (i - 1)).toNat < (List.map Pt.a l).length)) = true ↔ ((i - 1).toNat < l.length):=(by (try rw [w1]);(try rw [w5]);all_goals exact i_dec)
  have i24:(decide (i.toNat < (List.map (vi) o).length)) = true ↔ (i.toNat < o.length):=(by (try rw [w18]);all_goals exact i_dec)
  obtain ⟨k25,H⟩:=H
  have w26:(List.map (vi) o).set i.toNat (vi (if Sp.af (2 * a * (l.getD (i - 1).toNat default).len) (o.getD (i - 1).toNat default) < if (l.getD i.toNat default).spd < if (l.getD (i - 1).toNat default).cor < (l.getD (i - 1).toNat default).spd then (l.getD (i - 1).toNat default).cor else (l.getD (i - 1).toNat default).spd then (l.getD i.toNat default).spd else if (l.getD (i - 1).toNat default).cor < (l.getD (i - 1).toNat default).spd then (l.getD (i - 1).toNat default).cor else (l.getD (i - 1).toNat default).spd then Sp.af (2 * a * (l.getD (i - 1).toNat default).len) (o.getD (i - 1).toNat default) else if (l.getD i.toNat default).spd < if (l.getD (i - 1).toNat default).cor < (l.getD (i - 1).toNat default).spd then (l.getD (i - 1).toNat default).cor else (l.getD (i - 1).toNat default).spd then (l.getD i.toNat default).spd else if (l.getD (i - 1).toNat default).cor < (l.getD (i - 1).toNat default).spd then (l.getD (i - 1).toNat default).cor else (l.getD (i - 1).toNat default).spd)) = List.map (vi) (o.set i.toNat (if Sp.af (2 * a * (l.getD (i - 1).toNat default).len) (o.getD (i - 1).toNat default) < if (l.getD i.toNat default).spd < if (l.getD (i - 1).toNat default).cor < (l.getD (i - 1).toNat default).spd then (l.getD (i - 1).toNat default).cor else (l.getD (i - 1).toNat default).spd then (l.getD i.toNat default).spd else if (l.getD (i - 1).toNat default).cor < (l.getD (i - 1).toNat default).spd then (l.getD (i - 1).toNat default).cor else (l.getD (i - 1).toNat default).spd then Sp.af (2 * a * (l.getD (i - 1).toNat default).len) (o.getD (i - 1).toNat default) else if (l.getD i.toNat default).spd < if (l.getD (i - 1).toNat default).cor < (l.getD (i - 1).toNat default).spd then (l.getD (i - 1).toNat default).cor else (l.getD (i - 1).toNat default).spd then (l.getD i.toNat default).spd else if (l.getD (i - 1).toNat default).cor < (l.getD (i - 1).toNat default).spd then (l.getD (i - 1).toNat default).cor else (l.getD (i - 1).toNat default).spd)):=(lm_set rfl rfl)
  obtain ⟨k27,H⟩:=H
  have w28:wi (i + 1) = i + 1:=wI64 k27
  exact path_wp (G:=given kp22 [(8,7,.elem (zNzE1 l i)),(8,13,.elem (zNzE1 l i)),(8,18,.elem (zNzE2 l i)),(8,23,.elem (vi (o.getD (i - 1).toNat default))),(8,29,.elem (zNzE1 l i)),(8,31,.call (vi (Sp.af (2 * a * (l.getD (i - 1).toNat default).len) (o.getD (i - 1).toNat default))) none),(8,34,.elem (vi (o.getD i.toNat default)))] []) 1000 [true] ⟨(atC (cd Tryz.f22) [1,1,1,0,1,0,0]),[(0,AV.vec fl 3 (List.map Pt.a l)),(1,vi a),(7,AV.row 0 0),(8,vi (wi (i + 1)))],[⟨(List.map (vi) o).set i.toNat (vi (if Sp.af (2 * a * (l.getD (i - 1).toNat default).len) (o.getD (i - 1).toNat default) < if (l.getD i.toNat default).spd < if (l.getD (i - 1).toNat default).cor < (l.getD (i - 1).toNat default).spd then (l.getD (i - 1).toNat default).cor else (l.getD (i - 1).toNat default).spd then (l.getD i.toNat default).spd else if (l.getD (i - 1).toNat default).cor < (l.getD (i - 1).toNat default).spd then (l.getD (i - 1).toNat default).cor else (l.getD (i - 1).toNat default).spd then Sp.af (2 * a * (l.getD (i - 1).toNat default).len) (o.getD (i - 1).toNat default) else if (l.getD i.toNat default).spd < if (l.getD (i - 1).toNat default).cor < (l.getD (i - 1).toNat default).spd then (l.getD (i - 1).toNat default).cor else (l.getD (i - 1).toNat default).spd then (l.getD i.toNat default).spd else if (l.getD (i - 1).toNat default).cor < (l.getD (i - 1).toNat default).spd then (l.getD (i - 1).toNat default).cor else (l.getD (i - 1).toNat default).spd)),1,0,false,true⟩],_,[((List.map Pt.a l).get?Internal (wi (i - 1)).toNat = some (zNzE1 l i)),((List.map Pt.a l).get?Internal (wi (i - 1)).toNat = some (zNzE1 l i)),((List.map Pt.a l).get?Internal i.toNat = some (zNzE2 l i)),((List.map (vi) o).get?Internal (wi (i - 1)).toNat = some (vi (o.getD (i - 1).toNat default))),((List.map Pt.a l).get?Internal (wi (i - 1)).toNat = some (zNzE1 l i)),((List.map (vi) o).get?Internal i.toNat = some (vi (o.getD i.toNat default)))],_⟩ (by kernel_rfl) (bc (beq_t (i2.2 d3)) (bc (i7.2 k8) (bc (i9.2 k10) (bc (i11.2 k8) (bc (i12.2 k10) (bc (i_dec.2 k14) (bc (i15.2 k16) (bc rfl (bc (i17.2 k8) (bc (i19.2 k20) (bc rfl (bc (i21.2 k8) (bc (i22.2 k10) (bc rfl (bc (i_dec.2 k14) (bc (i24.2 k25) (bc rfl b0))))))))))))))))) (qc (by (try rw [w5]);all_goals exact (el_map k10)) (qc (by (try rw [w5]);all_goals exact (el_map k10)) (qc (el_map k16) (qc (by (try rw [w5]);all_goals exact (el_map k20)) (qc (by (try rw [w5]);all_goals exact (el_map k10)) (qc (el_map k25) q0)))))) (ce (@ev54 (o.getD (i - 1).toNat default) ((l.getD (i - 1).toNat default).len) (a) k6) c0) (by (try rw [w26]);(try rw [w28]);all_goals exact H)
 ·have H:=H.2 d3
  obtain ⟨k29,H⟩:=H
  have w30:wi ((↑l.length:Int) - 1) = (↑l.length:Int) - 1:=wI64 k29
  exact path_wp (G:=given kp22 [] []) 1000 [false] ⟨(atC (cd Tryz.f22) [1,1,1,1,0,1,0,0]),[(0,AV.vec fl 3 (List.map Pt.a l)),(1,vi a),(7,AV.row 0 0),(9,vi (wi ((↑(List.map Pt.a l).length:Int) - 1)))],[⟨List.map (vi) o,1,0,false,true⟩],_,[],_⟩ (by kernel_rfl) (bc (beq_f (fun h => d3 (i2.1 h))) b0) q0 c0 (by (try rw [w1]);(try rw [w30]);all_goals exact H)
noncomputable abbrev zNzE3 (l:List Pt) (i:Int):=ag [vi (l.getD i.toNat default).len,vi (l.getD i.toNat default).spd,vi (l.getD i.toNat default).cor]
theorem kSpB (fl:Bool) (l:List Pt) (a i:Int) (o:List Int)  (Q:AV -> Heap -> Prop) (H :
  ((i > 0) -> (-9223372036854775808 <= i + 1 /\ i + 1 <= 9223372036854775807) /\
   (Sp.isV (o.getD (i + 1).toNat default) /\ Sp.isLen (l.getD i.toNat default).len /\ Sp.isAcc a) /\
   (0 <= i) /\
   (i.toNat < o.length) /\
   (0 <= i + 1) /\
   ((i + 1).toNat < o.length) /\
   (i.toNat < l.length) /\
   (-9223372036854775808 <= i - 1 /\ i - 1 <= 9223372036854775807) /\
   kSpB_at (fl) (l) (a) (i - 1) (o.set i.toNat (if Sp.af (2 * a * (l.getD i.toNat default).len) (o.getD (i + 1).toNat default) < o.getD i.toNat default then Sp.af (2 * a * (l.getD i.toNat default).len) (o.getD (i + 1).toNat default) else o.getD i.toNat default)) Q) /\
  (¬(i > 0) -> Q (tu [AV.row 0 0,vi 0]) [{ elems:=List.map (vi) o,es:=1,ver:=0,frozen:=false,clean:=true }])) :
 kSpB_at fl l a i o Q:=by
 unfold kSpB_at
 rcases xm (i > 0) with d2 | d2
 ·have H:=H.1 d2
  obtain ⟨k3,H⟩:=H
  have w4:wi (i + 1) = i + 1:=wI64 k3
  obtain ⟨k5,H⟩:=H
  obtain ⟨k7,H⟩:=H
  have w8:(List.map (vi) o).length = o.length:=List.length_map ..
  have i9:(decide (i.toNat < (List.map (vi) o).length)) = true ↔ (i.toNat < o.length):=(by (try rw [w8]);all_goals exact i_dec)
  obtain ⟨k10,H⟩:=H
  have i11:(decide (0 <= wi (i + 1))) = true ↔ (0 <= i + 1):=(by (try rw [w4]);all_goals exact i_dec)
  obtain ⟨k12,H⟩:=H
  have i13:(decide ((wi (i + 1)).toNat < (List.map (vi) o).length)) = true ↔ ((i + 1).toNat < o.length):=(by (try rw [w4]);(try rw [w8]);all_goals exact i_dec)
  obtain ⟨k14,H⟩:=H
  have w16:(List.map Pt.a l).length = l.length:=List.length_map ..
  have i17:(decide (i.toNat < (List.map Pt.a l).length)) = true ↔ (i.toNat < l.length):=(by (try rw [w16]);all_goals exact i_dec)
  obtain ⟨k18,H⟩:=H
  have i20:(decide (i.toNat < (List.map (vi) o).length)) = true ↔ (i.toNat < o.length):=(by (try rw [w8]);all_goals exact i_dec)
  have w21:(List.map (vi) o).set i.toNat (vi (if Sp.af (2 * a * (l.getD i.toNat default).len) (o.getD (i + 1).toNat default) < o.getD i.toNat default then Sp.af (2 * a * (l.getD i.toNat default).len) (o.getD (i + 1).toNat default) else o.getD i.toNat default)) = List.map (vi) (o.set i.toNat (if Sp.af (2 * a * (l.getD i.toNat default).len) (o.getD (i + 1).toNat default) < o.getD i.toNat default then Sp.af (2 * a * (l.getD i.toNat default).len) (o.getD (i + 1).toNat default) else o.getD i.toNat default)):=(lm_set rfl rfl)
  obtain ⟨k22,H⟩:=H
  have w23:wi (i - 1) = i - 1:=wI64 k22
  exact path_wp (G:=given kp22 [(12,5,.elem (vi (o.getD i.toNat default))),(12,10,.elem (vi (o.getD (i + 1).toNat default))),(12,15,.elem (zNzE3 l i)),(12,17,.call (vi (Sp.af (2 * a * (l.getD i.toNat default).len) (o.getD (i + 1).toNat default))) none),(12,20,.elem (vi (o.getD i.toNat default)))] []) 1000 [true] ⟨(atC (cd Tryz.f22) [1,1,1,1,0,1,0,0]),[(0,AV.vec fl 3 (List.map Pt.a l)),(1,vi a),(7,AV.row 0 0),(9,vi (wi (i - 1)))],[⟨(List.map (vi) o).set i.toNat (vi (if Sp.af (2 * a * (l.getD i.toNat default).len) (o.getD (i + 1).toNat default) < o.getD i.toNat default then Sp.af (2 * a * (l.getD i.toNat default).len) (o.getD (i + 1).toNat default) else o.getD i.toNat default)),1,0,false,true⟩],_,[((List.map (vi) o).get?Internal i.toNat = some (vi (o.getD i.toNat default))),((List.map (vi) o).get?Internal (wi (i + 1)).toNat = some (vi (o.getD (i + 1).toNat default))),((List.map Pt.a l).get?Internal i.toNat = some (zNzE3 l i)),((List.map (vi) o).get?Internal i.toNat = some (vi (o.getD i.toNat default)))],_⟩ (by kernel_rfl) (bc (beq_t (i_dec.2 d2)) (bc rfl (bc (i_dec.2 k7) (bc (i9.2 k10) (bc rfl (bc rfl (bc (i11.2 k12) (bc (i13.2 k14) (bc rfl (bc (i_dec.2 k7) (bc (i17.2 k18) (bc rfl (bc (i_dec.2 k7) (bc (i20.2 k10) (bc rfl b0))))))))))))))) (qc (el_map k10) (qc (by (try rw [w4]);all_goals exact (el_map k14)) (qc (el_map k18) (qc (el_map k10) q0)))) (ce (@ev54 (o.getD (i + 1).toNat default) ((l.getD i.toNat default).len) (a) k5) c0) (by (try rw [w21]);(try rw [w23]);all_goals exact H)
 ·have H:=H.2 d2
  exact path_ret (G:=given kp22 [] []) 1000 [false] (k:=((atC (cd Tryz.f22) [1,1,1,1,1,1])).tail) (env':=[(4,AV.row 0 0),(5,vi 0)]) (L':=[⟨List.map (vi) o,1,0,false,true⟩]) (asm:=[(decide (i > 0)) == false]) (eqs:=[]) (calls:=[]) (tu [AV.row 0 0,vi 0]) (by kernel_rfl) (by kernel_rfl) (allB_cons (beq_f (fun h => d2 (i_dec.1 h))) allB_nil) allP_nil allC_nil H
theorem kCor1 (ax ay az bx by_ bz m n c i:Int)  (dq:AV) (H :
  (-9223372036854775808 <= i + 1 /\ i + 1 <= 9223372036854775807) /\
  (Sp.okAl (i + 1) ax bx m n c) /\
  ((¬(¬(Sp.alw (i + 1) ax bx m n c = true))) -> (Sp.okAl (i + 1) ay by_ m n c)) /\
  ((¬((¬(Sp.alw (i + 1) ax bx m n c = true)) \/ (¬(Sp.alw (i + 1) ay by_ m n c = true)))) -> (Sp.okAl (i + 1) az bz m n c)) /\
  (vb (bif bif !Sp.alw (i + 1) ax bx m n c then true else !Sp.alw (i + 1) ay by_ m n c then true else !Sp.alw (i + 1) az bz m n c)) = dq) :
 kCor1_at ax ay az bx by_ bz m n c i (PureQ dq):=by
 unfold kCor1_at
 obtain ⟨k1,H⟩:=H
 have w2:wi (i + 1) = i + 1:=wI64 k1
 obtain ⟨k3,H⟩:=H
 obtain ⟨k5,H⟩:=H
 obtain ⟨k7,H⟩:=H
 exact path_re (G:=given kp29 [(2,8,.call (vb (Sp.alw (i + 1) ax bx m n c)) none),(2,19,.call (vb (Sp.alw (i + 1) ay by_ m n c)) none),(2,31,.call (vb (Sp.alw (i + 1) az bz m n c)) none)] []) 1000 [] (calls:=[⟨true,false,30,[vi (wi (i + 1)),vi ax,vi bx,vi m,vi n,vi c],[],vb (Sp.alw (i + 1) ax bx m n c),[]⟩,⟨(!Sp.alw (i + 1) ax bx m n c) == false && true && true,false,30,[vi (wi (i + 1)),vi ay,vi by_,vi m,vi n,vi c],[],vb (Sp.alw (i + 1) ay by_ m n c),[]⟩,⟨(bif !Sp.alw (i + 1) ax bx m n c then true else !Sp.alw (i + 1) ay by_ m n c) == false && true && true,false,30,[vi (wi (i + 1)),vi az,vi bz,vi m,vi n,vi c],[],vb (Sp.alw (i + 1) az bz m n c),[]⟩]) (vb (bif bif !Sp.alw (i + 1) ax bx m n c then true else !Sp.alw (i + 1) ay by_ m n c then true else !Sp.alw (i + 1) az bz m n c)) (by kernel_rfl) b0 q0 (cc (fun _ => (by (try rw [w2]);all_goals exact (@ev30 (i + 1) (ax) (bx) (m) (n) (c) k3))) (cc (fun hc => ((by (try rw [w2]);all_goals exact (@ev30 (i + 1) (ay) (by_) (m) (n) (c) (k5 ((i_at (i_at (i_bf (i_not (i_var _))))).1 hc)))):Ev M1 (Conf.pure 30 [vi (wi (i + 1)),vi ay,vi by_,vi m,vi n,vi c]) (vb (Sp.alw (i + 1) ay by_ m n c)) [])) (cc (fun hc => ((by (try rw [w2]);all_goals exact (@ev30 (i + 1) (az) (bz) (m) (n) (c) (k7 ((i_at (i_at (i_bf (i_bor (i_not (i_var _)) (i_not (i_var _)))))).1 hc)))):Ev M1 (Conf.pure 30 [vi (wi (i + 1)),vi az,vi bz,vi m,vi n,vi c]) (vb (Sp.alw (i + 1) az bz m n c)) [])) c0))) H
noncomputable abbrev zNzE4:=ag [vb false,vf [],vb false,vf []]
noncomputable abbrev zNzE5 (i:Int) (v:Int) (a:Int) (r:Rat):=Sp.sgnI ((Sp.reR i v a).num * (↑r.den:Int) - r.num * (↑(Sp.reR i v a).den:Int))
theorem kStr1 (f g:Bool) (v a i:Int) (r:Rat)  (dq:AV) (H :
  ((Sp.okRe i v a) -> ((true = true) -> (Sp.okR (Sp.reR i v a) /\ Sp.okR r)) /\
   vb (decide (Sp.sgnI ((Sp.reR i v a).num * (↑r.den:Int) - r.num * (↑(Sp.reR i v a).den:Int)) >= 0)) = dq) /\
  (¬(Sp.okRe i v a) -> ∃ (n1:Int),
   ((false = true) -> (Ev M1 (Conf.pure 36 [ag [vb false,vf [],vb false,vf []],ratA f g r]) (vi n1) [])) /\
   vb false = dq)) :
 kStr1_at f g v a i r (PureQ dq):=by
 unfold kStr1_at
 rcases xm (Sp.okRe i v a) with d1 | d1
 ·have H:=H.1 d1
  obtain ⟨k3,H⟩:=H
  exact path_re (G:=given kp49 [(1,3,.call (tu [ratA false false (Sp.reR i v a),vi 0]) none),(2,5,.call (vi (zNzE5 i v a r)) none)] []) 1000 [] (calls:=[⟨true,false,12,[vi i,vi v,vi a],[],tu [ratA false false (Sp.reR i v a),vi 0],[]⟩,⟨true == true && true && true,false,36,[ratA false false (Sp.reR i v a),ratA f g r],[],vi (zNzE5 i v a r),[]⟩]) (vb (decide (Sp.sgnI ((Sp.reR i v a).num * (↑r.den:Int) - r.num * (↑(Sp.reR i v a).den:Int)) >= 0))) (by kernel_rfl) (bc rfl (bc rfl b0)) q0 (cc (fun _ => (@ev12_y (i) (v) (a) d1)) (cc (fun hc => ((@ev36 (false) (false) (f) (g) (Sp.reR i v a) (r) (k3 ((i_at (i_at (i_bt (i_var _)))).1 hc))):Ev M1 (Conf.pure 36 [ratA false false (Sp.reR i v a),ratA f g r]) (vi (zNzE5 i v a r)) [])) c0)) H
 ·have H:=H.2 d1
  obtain ⟨n1,H⟩:=H
  obtain ⟨k5,H⟩:=H
  exact path_re (G:=given kp49 [(1,3,.call (tu [zNzE4,vi 1]) none),(2,5,.call (vi n1) none)] []) 1000 [] (calls:=[⟨true,false,12,[vi i,vi v,vi a],[],tu [zNzE4,vi 1],[]⟩,⟨false == true && true && true,false,36,[zNzE4,ratA f g r],[],vi n1,[]⟩]) (vb false) (by kernel_rfl) (bc rfl (bc rfl b0)) q0 (cc (fun _ => (@ev12_n (i) (v) (a) d1)) (cc (fun hc => ((k5 ((i_at (i_at (i_bt (i_var _)))).1 hc)):Ev M1 (Conf.pure 36 [zNzE4,ratA f g r]) (vi n1) [])) c0)) H
end Go.Av

namespace Go.Av
open Go.Proofs
theorem ev21 (n u v:Int):Ev M1 (.pure 21 [.int .i64 n,.int .i64 u,.int .i64 v]) (.tup [.int .i64 (Sp.fastV n u v),.int .i64 (Sp.fastE n u v)]) []:=by
 have e:(((¬(0 <= n /\ n <= 1000000)) \/ (¬(0 <= u /\ u <= 100000000))) \/ (¬(1 <= v /\ v <= 100000000))) ↔ ¬(Sp.isV n /\ Sp.isLen u /\ Sp.isAcc v):=by unfold Sp.isV Sp.isLen Sp.isAcc;omega
 refine call21 (kFaster _ _ _ _ ⟨fun x => ?_,fun x => ?_⟩)
 ·have y:=e.1 x
  unfold Sp.fastV Sp.fastE
  rw [if_neg y,if_neg y]
 ·have y:=Classical.not_not.1 (mt e.2 x)
  unfold Sp.fastV Sp.fastE
  rw [if_pos y,if_pos y]
  exact ⟨y,rfl⟩
theorem spF_le {l:List Pt} {a:Int} (h:Sp.okPts l a):∀ i,i < l.length -> 0 <= Sp.spF l a i /\ Sp.spF l a i <= 1000000
 | 0,_ => by unfold Sp.spF;omega
 | i + 1,hi => by
  have a1:=cap_nn h (i + 1)
  have b:=@af_nn (Sp.kA l a i) (Sp.spF l a i) (kA_nn h i (by omega)).1
  unfold Sp.spF
  omega
theorem spF_step {l:List Pt} {a:Int} {i:Nat} (h:0 < i):Sp.spF l a i = min (Sp.cap l i) (Sp.af (Sp.kA l a (i - 1)) (Sp.spF l a (i - 1))):=by
 obtain ⟨j,rfl⟩:∃ j,i = j + 1:=⟨i - 1,by omega⟩
 rw [Nat.add_sub_cancel];rfl
theorem spAt_step {l:List Pt} {a:Int} {i:Nat} (h1:0 < i) (h2:i < l.length):Sp.spAt l a i = min (Sp.spF l a i) (Sp.af (Sp.kA l a i) (Sp.spAt l a (i + 1))):=by
 obtain ⟨d,hd⟩:∃ d,l.length - i = d + 1:=⟨l.length - i - 1,by omega⟩
 unfold Sp.spAt
 rw [hd,Sp.spG,if_neg (by omega),show l.length - (d + 1) = i by omega,show l.length - (i + 1) = d by omega]
theorem spAt_zero {l:List Pt} {a:Int}:Sp.spAt l a 0 = 0:=by
 unfold Sp.spAt
 rw [Nat.sub_zero]
 rcases e:l.length with _ | d
 ·rfl
 ·rw [Sp.spG,if_pos e]
theorem spAt_end {l:List Pt} {a:Int}:Sp.spAt l a l.length = 0:=by
 unfold Sp.spAt
 rw [Nat.sub_self];rfl
theorem spds_of {l:List Pt} {a:Int} {o:List Int} (ho:o.length = l.length + 1) (hv:∀ j,j <= l.length -> o.getD j default = Sp.spAt l a j):o = Sp.spds l a:=by
 rw [rm_of o,ho]
 exact rm_congr fun i hi => hv i (by omega)
theorem spB_loop {fl:Bool} {l:List Pt} {a:Int} {Q:AV -> Heap -> Prop} (hl:(l.length:Int) <= 2000) (h:Sp.okPts l a) (hq:Q (.tup [.row 0 0,.int .i64 0]) [⟨(Sp.spds l a).map (.int .i64),1,0,false,true⟩]) :
  ∀ (i:Nat) (o:List Int),i < l.length -> o.length = l.length + 1 -> (∀ j,j <= l.length -> o.getD j default = if j <= i then Sp.spF l a j else Sp.spAt l a j) -> kSpB_at fl l a i o Q
 | 0,o,hi,ho,hv => by
  refine kSpB _ _ _ _ _ _ ⟨fun x => by omega,fun _ => ?_⟩
  rw [spds_of (a:=a) ho fun j hj => by
   rw [hv j hj]
   by_cases e:j = 0
   ·subst e;rw [if_pos (Nat.le_refl _),spAt_zero];rfl
   ·rw [if_neg (by omega)]]
  exact hq
 | i + 1,o,hi,ho,hv => by
  have e1:=hv (i + 1) (by omega)
  have e2:=hv (i + 1 + 1) (by omega)
  rw [if_pos (Nat.le_refl _)] at e1
  rw [if_neg (by omega)] at e2
  have b2:=spAt_le h (i:=i + 1 + 1) (by omega)
  have p:=pt_at h hi
  refine kSpB _ _ _ _ _ _ ⟨fun _ => ?_,fun x => by omega⟩
  rw [show ((i + 1:Nat):Int).toNat = i + 1 by omega,show (((i + 1:Nat):Int) + 1).toNat = i + 1 + 1 by omega,show ((i + 1:Nat):Int) - 1 = (i:Int) by omega]
  simp only [min_if]
  rw [e1,e2]
  refine ⟨by omega,⟨by unfold Sp.isV;omega,p.1,h.1⟩,by omega,by omega,by omega,by omega,by omega,by omega,?_⟩
  rw [show min (Sp.spF l a (i + 1)) (Sp.af (2 * a * (l.getD (i + 1) default).len) (Sp.spAt l a (i + 1 + 1))) = Sp.spAt l a (i + 1) from (spAt_step (by omega) hi).symm]
  refine spB_loop hl h hq i _ (by omega) (by simp [ho]) fun j hj => ?_
  rw [getD_set' (by omega)]
  by_cases e:i + 1 = j
  ·subst e;rw [if_pos rfl,if_neg (by omega)]
  ·rw [if_neg e,hv j hj]
   by_cases k:j <= i
   ·rw [if_pos k,if_pos (by omega)]
   ·rw [if_neg k,if_neg (by omega)]
theorem spA_loop {fl:Bool} {l:List Pt} {a:Int} {Q:AV -> Heap -> Prop} (hl:(l.length:Int) <= 2000) (h:Sp.okPts l a) (hq:Q (.tup [.row 0 0,.int .i64 0]) [⟨(Sp.spds l a).map (.int .i64),1,0,false,true⟩]) :
  ∀ (k i:Nat) (o:List Int),l.length <= i + k -> 0 < i -> o.length = l.length + 1 -> (∀ j,j <= l.length -> o.getD j default = if j < i /\ j < l.length then Sp.spF l a j else 0) -> kSpA_at fl l a i o Q
 | 0,i,o,hk,h0,ho,hv => by
  refine kSpA _ _ _ _ _ _ ⟨fun x => by omega,fun _ => ⟨by omega,?_⟩⟩
  by_cases n:l.length = 0
  ·refine kSpB _ _ _ _ _ _ ⟨fun x => by omega,fun _ => ?_⟩
   rw [spds_of (a:=a) ho fun j hj => by
    rw [hv j hj,if_neg (by omega),show j = 0 by omega,spAt_zero]]
   exact hq
  ·rw [show (l.length:Int) - 1 = ((l.length - 1:Nat):Int) by omega]
   refine spB_loop hl h hq (l.length - 1) o (by omega) ho fun j hj => ?_
   rw [hv j hj]
   by_cases e:j <= l.length - 1
   ·rw [if_pos e,if_pos (by omega)]
   ·rw [if_neg e,if_neg (by omega),show j = l.length by omega,spAt_end]
 | k + 1,i,o,hk,h0,ho,hv => by
  by_cases x:i < l.length
  ·have e1:=hv (i - 1) (by omega)
   rw [if_pos (by omega)] at e1
   have b1:=spF_le h (i - 1) (by omega)
   have p:=pt_at h (i:=i - 1) (by omega)
   refine kSpA _ _ _ _ _ _ ⟨fun _ => ?_,fun y => by omega⟩
   rw [Int.toNat_natCast,show ((i:Int) - 1).toNat = i - 1 by omega,show (i:Int) + 1 = ((i + 1:Nat):Int) by omega]
   simp only [min_if]
   rw [e1]
   refine ⟨by omega,⟨by unfold Sp.isV;omega,p.1,h.1⟩,by omega,by omega,by omega,by omega,by omega,by omega,by omega,?_⟩
   have hc:Sp.cap l i = min (min (l.getD (i - 1) default).spd (l.getD (i - 1) default).cor) (l.getD i default).spd:=if_neg (by omega)
   rw [<- hc,show min (Sp.cap l i) (Sp.af (2 * a * (l.getD (i - 1) default).len) (Sp.spF l a (i - 1))) = Sp.spF l a i from (spF_step h0).symm]
   refine spA_loop hl h hq k (i + 1) _ (by omega) (by omega) (by simp [ho]) fun j hj => ?_
   rw [getD_set' (by omega)]
   by_cases e:i = j
   ·subst e;rw [if_pos rfl,if_pos (by omega)]
   ·rw [if_neg e,hv j hj]
    by_cases m:j < i /\ j < l.length
    ·rw [if_pos m,if_pos (by omega)]
    ·rw [if_neg m,if_neg (by omega)]
  ·exact spA_loop hl h hq 0 i o (by omega) h0 ho hv
theorem sp_run {fl:Bool} {l:List Pt} {a:Int} {Q:AV -> Heap -> Prop} (v:Sp.validE l a = 0) (hq:Q (.tup [.row 0 0,.int .i64 0]) [⟨(Sp.spds l a).map (.int .i64),1,0,false,true⟩]):kSp_at fl l a Q:=by
 obtain ⟨hl,h⟩:=validE_ok v
 refine kSp _ _ _ _ ⟨fun x => absurd v x,fun x => ⟨by omega,by omega,by omega,by omega,?_⟩⟩
 rw [show ((l.length:Int) + 1).toNat = l.length + 1 by omega]
 refine spA_loop hl h hq l.length 1 _ (by omega) (by omega) (by simp) fun j hj => ?_
 have e:(List.replicate (l.length + 1) (0:Int)).getD j default = 0:=by simp [List.getD_eq_getElem?_getD,List.getElem?_replicate,show j < l.length + 1 by omega]
 rw [e]
 split
 ·rw [show j = 0 by omega];rfl
 ·rfl
theorem ev22 (fl:Bool) (l:List Pt) (a:Int):Ev M1 (.pure 22 [.vec fl 3 (l.map Pt.a),.int .i64 a]) (.tup [.vec false 1 ((Sp.spdV l a).map (.int .i64)),.int .i64 (Sp.validE l a)]) []:=by
 by_cases v:Sp.validE l a = 0
 ·rw [show Sp.spdV l a = Sp.spds l a from if_pos v,v]
  exact call22 (sp_run v (pq_of rfl rfl ⟨rfl,trivial⟩ rfl rfl))
 ·rw [show Sp.spdV l a = [] from if_neg v]
  exact call22 (kSp _ _ _ _ ⟨fun _ => pq_weak rfl rfl trivial rfl weak_nil2,fun x => absurd v x⟩)
namespace Sp
noncomputable def corP (ax ay az bx by_ bz m n c i:Int):Bool:=bif bif !alw (i + 1) ax bx m n c then true else !alw (i + 1) ay by_ m n c then true else !alw (i + 1) az bz m n c
def okCr (ax ay az bx by_ bz m n c:Int):Prop:=inP ax ay az /\ inP bx by_ bz /\ okQ m /\ okQ n /\ isV c
def inS (h i:Int):Prop:=0 <= i /\ i <= h
noncomputable def strP (v a:Int) (r:Rat) (i:Int):Bool:=decide (r <= reR i v a)
def okSt (v a:Int) (r:Rat):Prop:=(1 <= v /\ v <= 1000000) /\ isAcc a /\ okR r
end Sp
theorem ev29 (ax ay az bx by_ bz m n c i:Int) (h:Sp.okCr ax ay az bx by_ bz m n c /\ Sp.inS 1000000 i):Ev M1 (.pure 29 [.int .i64 i,.eptr 3 [.agg [.int .i64 ax,.int .i64 ay,.int .i64 az]] 0 0,.eptr 3 [.agg [.int .i64 bx,.int .i64 by_,.int .i64 bz]] 0 0,.eptr 1 [.int .i64 m] 0 0,.eptr 1 [.int .i64 n] 0 0,.eptr 1 [.int .i64 c] 0 0]) (.bool (Sp.corP ax ay az bx by_ bz m n c i)) []:=by
 obtain ⟨⟨⟨a1,a2,a3⟩,⟨b1,b2,b3⟩,hm,hn,hc⟩,hi⟩:=h
 unfold Sp.inS at hi
 have v:0 <= i + 1 /\ i + 1 <= 1000001:=by omega
 exact call29 (kCor1 _ _ _ _ _ _ _ _ _ _ _ ⟨by omega,⟨v,⟨a1,b1⟩,⟨hm,hn⟩,hc⟩,fun _ => ⟨v,⟨a2,b2⟩,⟨hm,hn⟩,hc⟩,fun _ => ⟨v,⟨a3,b3⟩,⟨hm,hn⟩,hc⟩,rfl⟩)
theorem ev49 (f g:Bool) (v a i:Int) (r:Rat) (h:Sp.okSt v a r /\ Sp.inS 1000000000000 i):Ev M1 (.pure 49 [.int .i64 i,.eptr 1 [.int .i64 v] 0 0,.eptr 1 [.int .i64 a] 0 0,.eptr 4 [ratA f g r] 0 0]) (.bool (Sp.strP v a r i)) []:=by
 obtain ⟨⟨hv,ha,hr⟩,hi⟩:=h
 have k:Sp.okRe i v a:=⟨hi,hv,ha⟩
 refine call49 (kStr1 _ _ _ _ _ _ _ ⟨fun _ => ⟨fun _ => ⟨okT_R (okT_re k) (by omega),hr⟩,?_⟩,fun x => absurd k x⟩)
 unfold Sp.strP
 congr 1
 exact dec_iff cmp_ge
end Go.Av

namespace Go.Av
open Go.Proofs
set_option maxRecDepth 100000
def fi28:Fi:=⟨26,[.tmp 4]⟩
def kp28:List (Nat × List Nat):=[(0,[0,1]),(1,[1,5,6]),(2,[1,5,6,11]),(3,[1,5,6,7]),(4,[1,5,6,7,21]),(5,[1,5,6]),(6,[1,5,6]),(7,[4])]
def kSeC_at (ax ay az bx by_ bz m n c:Int) (Q:AV -> Heap -> Prop):Prop:=Wp M1 (.run fi28 (atC (cd Tryz.f28) []) [(0,.int .i64 1000000),(1,.func (.func 29) [] [.eptr 3 [.agg [.int .i64 ax,.int .i64 ay,.int .i64 az]] 0 0,.eptr 3 [.agg [.int .i64 bx,.int .i64 by_,.int .i64 bz]] 0 0,.eptr 1 [.int .i64 m] 0 0,.eptr 1 [.int .i64 n] 0 0,.eptr 1 [.int .i64 c] 0 0])] []) Q
def kSeCH_at (ax ay az bx by_ bz m n c:Int) (i j:Int) (Q:AV -> Heap -> Prop):Prop:=Wp M1 (.run fi28 (atC (cd Tryz.f28) [1,1,0,0,0]) [(1,.func (.func 29) [] [.eptr 3 [.agg [.int .i64 ax,.int .i64 ay,.int .i64 az]] 0 0,.eptr 3 [.agg [.int .i64 bx,.int .i64 by_,.int .i64 bz]] 0 0,.eptr 1 [.int .i64 m] 0 0,.eptr 1 [.int .i64 n] 0 0,.eptr 1 [.int .i64 c] 0 0]),(5,.int .i64 i),(6,.int .i64 j)] []) Q
def kSeS_at (f g:Bool) (v a:Int) (r:Rat) (Q:AV -> Heap -> Prop):Prop:=Wp M1 (.run fi28 (atC (cd Tryz.f28) []) [(0,.int .i64 1000000000000),(1,.func (.func 49) [] [.eptr 1 [.int .i64 v] 0 0,.eptr 1 [.int .i64 a] 0 0,.eptr 4 [ratA f g r] 0 0])] []) Q
def kSeSH_at (f g:Bool) (v a:Int) (r:Rat) (i j:Int) (Q:AV -> Heap -> Prop):Prop:=Wp M1 (.run fi28 (atC (cd Tryz.f28) [1,1,0,0,0]) [(1,.func (.func 49) [] [.eptr 1 [.int .i64 v] 0 0,.eptr 1 [.int .i64 a] 0 0,.eptr 4 [ratA f g r] 0 0]),(5,.int .i64 i),(6,.int .i64 j)] []) Q
theorem call28 {args:List AV} {d:AV} (h:wc M1 fi28 Tryz.f28 args d):Ev M1 (.pure 28 args) d []:=pcl _ _ (by kernel_rfl) h
theorem kSeC (ax ay az bx by_ bz m n c:Int)  (dq:AV) (H :
  kSeCH_at (ax) (ay) (az) (bx) (by_) (bz) (m) (n) (c) (0) (1000000) (PureQ dq)) :
 kSeC_at ax ay az bx by_ bz m n c (PureQ dq):=by
 unfold kSeC_at
 exact path_wp (G:=given kp28 [] []) 1000 [] ⟨(atC (cd Tryz.f28) [1,1,0,0,0]),[(1,AV.func (Fn.func 29) [] [AV.eptr 3 [ag [vi ax,vi ay,vi az]] 0 0,AV.eptr 3 [ag [vi bx,vi by_,vi bz]] 0 0,AV.eptr 1 [vi m] 0 0,AV.eptr 1 [vi n] 0 0,AV.eptr 1 [vi c] 0 0]),(5,vi 0),(6,vi 1000000)],[],_,[],_⟩ (by kernel_rfl) b0 q0 c0 (H)
noncomputable abbrev zNzF1 (ax:Int) (ay:Int) (az:Int):=ag [vi ax,vi ay,vi az]
noncomputable abbrev zNzF2 (bx:Int) (by_:Int) (bz:Int):=ag [vi bx,vi by_,vi bz]
theorem kSeCH (ax ay az bx by_ bz m n c:Int) (i j:Int)  (dq:AV) (H :
  ((i < j) -> (-9223372036854775808 <= i + j /\ i + j <= 9223372036854775807) /\
   (0 <= i + j /\ i + j <= 18446744073709551615) /\
   (-9223372036854775808 <= (i + j).fdiv (2 ^ min (Int.toNat 1) IntKind.u64.bits) /\ (i + j).fdiv (2 ^ min (Int.toNat 1) IntKind.u64.bits) <= 9223372036854775807) /\
   (Sp.okCr ax ay az bx by_ bz m n c /\ Sp.inS 1000000 ((i + j).fdiv (2 ^ min (Int.toNat 1) IntKind.u64.bits))) /\
   ((¬(Sp.corP ax ay az bx by_ bz m n c ((i + j).fdiv (2 ^ min (Int.toNat 1) IntKind.u64.bits)) = true)) -> (-9223372036854775808 <= (i + j).fdiv (2 ^ min (Int.toNat 1) IntKind.u64.bits) + 1 /\ (i + j).fdiv (2 ^ min (Int.toNat 1) IntKind.u64.bits) + 1 <= 9223372036854775807) /\
    kSeCH_at (ax) (ay) (az) (bx) (by_) (bz) (m) (n) (c) ((i + j).fdiv (2 ^ min (Int.toNat 1) IntKind.u64.bits) + 1) (j) (PureQ dq)) /\
   (¬(¬(Sp.corP ax ay az bx by_ bz m n c ((i + j).fdiv (2 ^ min (Int.toNat 1) IntKind.u64.bits)) = true)) -> kSeCH_at (ax) (ay) (az) (bx) (by_) (bz) (m) (n) (c) (i) ((i + j).fdiv (2 ^ min (Int.toNat 1) IntKind.u64.bits)) (PureQ dq))) /\
  (¬(i < j) -> vi i = dq)) :
 kSeCH_at ax ay az bx by_ bz m n c i j (PureQ dq):=by
 unfold kSeCH_at
 rcases xm (i < j) with d2 | d2
 ·have H:=H.1 d2
  obtain ⟨k3,H⟩:=H
  have w4:wi (i + j) = i + j:=wI64 k3
  obtain ⟨k5,H⟩:=H
  have w6:wu (i + j) = i + j:=wU64 k5
  obtain ⟨k7,H⟩:=H
  have w8:wi ((i + j).fdiv (2 ^ min (Int.toNat 1) IntKind.u64.bits)) = (i + j).fdiv (2 ^ min (Int.toNat 1) IntKind.u64.bits):=wI64 k7
  obtain ⟨k9,H⟩:=H
  refine path_wp (G:=given kp28 [(4,2,.call (vb (Sp.corP ax ay az bx by_ bz m n c ((i + j).fdiv (2 ^ min (Int.toNat 1) IntKind.u64.bits)))) none)] []) 10 [true] ⟨(atC (cd Tryz.f28) [1,1,0,0,0,1,0,1,1]),[(1,AV.func (Fn.func 29) [] [AV.eptr 3 [(zNzF1 ax ay az)] 0 0,AV.eptr 3 [(zNzF2 bx by_ bz)] 0 0,AV.eptr 1 [vi m] 0 0,AV.eptr 1 [vi n] 0 0,AV.eptr 1 [vi c] 0 0]),(5,vi i),(6,vi j),(7,vi (wi ((wu (wi (i + j))).fdiv (2 ^ min (Int.toNat 1) IntKind.u64.bits)))),(21,vb !Sp.corP ax ay az bx by_ bz m n c ((i + j).fdiv (2 ^ min (Int.toNat 1) IntKind.u64.bits)))],[],_,[],[pc 29 [vi (wi ((wu (wi (i + j))).fdiv (2 ^ min (Int.toNat 1) IntKind.u64.bits))),AV.eptr 3 [(zNzF1 ax ay az)] 0 0,AV.eptr 3 [(zNzF2 bx by_ bz)] 0 0,AV.eptr 1 [vi m] 0 0,AV.eptr 1 [vi n] 0 0,AV.eptr 1 [vi c] 0 0] (vb (Sp.corP ax ay az bx by_ bz m n c ((i + j).fdiv (2 ^ min (Int.toNat 1) IntKind.u64.bits))))]⟩ (by kernel_rfl) (bc (beq_t (i_dec.2 d2)) (bc rfl b0)) q0 (ce (by (try rw [w4]);(try rw [w6]);(try rw [w8]);all_goals exact (@ev29 (ax) (ay) (az) (bx) (by_) (bz) (m) (n) (c) ((i + j).fdiv (2 ^ min (Int.toNat 1) IntKind.u64.bits)) k9)) c0) ?_
  rcases xm (¬(Sp.corP ax ay az bx by_ bz m n c ((i + j).fdiv (2 ^ min (Int.toNat 1) IntKind.u64.bits)) = true)) with d11 | d11
  ·have H:=H.1 d11
   obtain ⟨k12,H⟩:=H
   have w13:wi ((i + j).fdiv (2 ^ min (Int.toNat 1) IntKind.u64.bits) + 1) = (i + j).fdiv (2 ^ min (Int.toNat 1) IntKind.u64.bits) + 1:=wI64 k12
   exact path_wp (G:=given kp28 [] []) 1000 [true] ⟨(atC (cd Tryz.f28) [1,1,0,0,0]),[(1,AV.func (Fn.func 29) [] [AV.eptr 3 [(zNzF1 ax ay az)] 0 0,AV.eptr 3 [(zNzF2 bx by_ bz)] 0 0,AV.eptr 1 [vi m] 0 0,AV.eptr 1 [vi n] 0 0,AV.eptr 1 [vi c] 0 0]),(5,vi (wi (wi ((wu (wi (i + j))).fdiv (2 ^ min (Int.toNat 1) IntKind.u64.bits)) + 1))),(6,vi j)],[],[(!Sp.corP ax ay az bx by_ bz m n c ((i + j).fdiv (2 ^ min (Int.toNat 1) IntKind.u64.bits))) == true],[],_⟩ (by kernel_rfl) (bc (beq_t ((i_not (i_var _)).2 d11)) b0) q0 c0 (by (try rw [w4]);(try rw [w6]);(try rw [w8]);(try rw [w13]);all_goals exact H)
  ·have H:=H.2 d11
   exact path_wp (G:=given kp28 [] []) 1000 [false] ⟨(atC (cd Tryz.f28) [1,1,0,0,0]),[(1,AV.func (Fn.func 29) [] [AV.eptr 3 [(zNzF1 ax ay az)] 0 0,AV.eptr 3 [(zNzF2 bx by_ bz)] 0 0,AV.eptr 1 [vi m] 0 0,AV.eptr 1 [vi n] 0 0,AV.eptr 1 [vi c] 0 0]),(5,vi i),(6,vi (wi ((wu (wi (i + j))).fdiv (2 ^ min (Int.toNat 1) IntKind.u64.bits))))],[],[(!Sp.corP ax ay az bx by_ bz m n c ((i + j).fdiv (2 ^ min (Int.toNat 1) IntKind.u64.bits))) == false],[],_⟩ (by kernel_rfl) (bc (beq_f (fun h => d11 ((i_not (i_var _)).1 h))) b0) q0 c0 (by (try rw [w4]);(try rw [w6]);(try rw [w8]);all_goals exact H)
 ·have H:=H.2 d2
  exact path_re (G:=given kp28 [] []) 1000 [false] (vi i) (by kernel_rfl) (bc (beq_f (fun h => d2 (i_dec.1 h))) b0) q0 c0 H
theorem kSeS (f g:Bool) (v a:Int) (r:Rat)  (dq:AV) (H :
  kSeSH_at (f) (g) (v) (a) (r) (0) (1000000000000) (PureQ dq)) :
 kSeS_at f g v a r (PureQ dq):=by
 unfold kSeS_at
 exact path_wp (G:=given kp28 [] []) 1000 [] ⟨(atC (cd Tryz.f28) [1,1,0,0,0]),[(1,AV.func (Fn.func 49) [] [AV.eptr 1 [vi v] 0 0,AV.eptr 1 [vi a] 0 0,AV.eptr 4 [ratA f g r] 0 0]),(5,vi 0),(6,vi 1000000000000)],[],_,[],_⟩ (by kernel_rfl) b0 q0 c0 (H)
theorem kSeSH (f g:Bool) (v a:Int) (r:Rat) (i j:Int)  (dq:AV) (H :
  ((i < j) -> (-9223372036854775808 <= i + j /\ i + j <= 9223372036854775807) /\
   (0 <= i + j /\ i + j <= 18446744073709551615) /\
   (-9223372036854775808 <= (i + j).fdiv (2 ^ min (Int.toNat 1) IntKind.u64.bits) /\ (i + j).fdiv (2 ^ min (Int.toNat 1) IntKind.u64.bits) <= 9223372036854775807) /\
   (Sp.okSt v a r /\ Sp.inS 1000000000000 ((i + j).fdiv (2 ^ min (Int.toNat 1) IntKind.u64.bits))) /\
   ((¬(Sp.strP v a r ((i + j).fdiv (2 ^ min (Int.toNat 1) IntKind.u64.bits)) = true)) -> (-9223372036854775808 <= (i + j).fdiv (2 ^ min (Int.toNat 1) IntKind.u64.bits) + 1 /\ (i + j).fdiv (2 ^ min (Int.toNat 1) IntKind.u64.bits) + 1 <= 9223372036854775807) /\
    kSeSH_at (f) (g) (v) (a) (r) ((i + j).fdiv (2 ^ min (Int.toNat 1) IntKind.u64.bits) + 1) (j) (PureQ dq)) /\
   (¬(¬(Sp.strP v a r ((i + j).fdiv (2 ^ min (Int.toNat 1) IntKind.u64.bits)) = true)) -> kSeSH_at (f) (g) (v) (a) (r) (i) ((i + j).fdiv (2 ^ min (Int.toNat 1) IntKind.u64.bits)) (PureQ dq))) /\
  (¬(i < j) -> vi i = dq)) :
 kSeSH_at f g v a r i j (PureQ dq):=by
 unfold kSeSH_at
 rcases xm (i < j) with d2 | d2
 ·have H:=H.1 d2
  obtain ⟨k3,H⟩:=H
  have w4:wi (i + j) = i + j:=wI64 k3
  obtain ⟨k5,H⟩:=H
  have w6:wu (i + j) = i + j:=wU64 k5
  obtain ⟨k7,H⟩:=H
  have w8:wi ((i + j).fdiv (2 ^ min (Int.toNat 1) IntKind.u64.bits)) = (i + j).fdiv (2 ^ min (Int.toNat 1) IntKind.u64.bits):=wI64 k7
  obtain ⟨k9,H⟩:=H
  refine path_wp (G:=given kp28 [(4,2,.call (vb (Sp.strP v a r ((i + j).fdiv (2 ^ min (Int.toNat 1) IntKind.u64.bits)))) none)] []) 10 [true] ⟨(atC (cd Tryz.f28) [1,1,0,0,0,1,0,1,1]),[(1,AV.func (Fn.func 49) [] [AV.eptr 1 [vi v] 0 0,AV.eptr 1 [vi a] 0 0,AV.eptr 4 [ratA f g r] 0 0]),(5,vi i),(6,vi j),(7,vi (wi ((wu (wi (i + j))).fdiv (2 ^ min (Int.toNat 1) IntKind.u64.bits)))),(21,vb !Sp.strP v a r ((i + j).fdiv (2 ^ min (Int.toNat 1) IntKind.u64.bits)))],[],_,[],[pc 49 [vi (wi ((wu (wi (i + j))).fdiv (2 ^ min (Int.toNat 1) IntKind.u64.bits))),AV.eptr 1 [vi v] 0 0,AV.eptr 1 [vi a] 0 0,AV.eptr 4 [ratA f g r] 0 0] (vb (Sp.strP v a r ((i + j).fdiv (2 ^ min (Int.toNat 1) IntKind.u64.bits))))]⟩ (by kernel_rfl) (bc (beq_t (i_dec.2 d2)) (bc rfl b0)) q0 (ce (by (try rw [w4]);(try rw [w6]);(try rw [w8]);all_goals exact (@ev49 (f) (g) (v) (a) ((i + j).fdiv (2 ^ min (Int.toNat 1) IntKind.u64.bits)) (r) k9)) c0) ?_
  rcases xm (¬(Sp.strP v a r ((i + j).fdiv (2 ^ min (Int.toNat 1) IntKind.u64.bits)) = true)) with d11 | d11
  ·have H:=H.1 d11
   obtain ⟨k12,H⟩:=H
   have w13:wi ((i + j).fdiv (2 ^ min (Int.toNat 1) IntKind.u64.bits) + 1) = (i + j).fdiv (2 ^ min (Int.toNat 1) IntKind.u64.bits) + 1:=wI64 k12
   exact path_wp (G:=given kp28 [] []) 1000 [true] ⟨(atC (cd Tryz.f28) [1,1,0,0,0]),[(1,AV.func (Fn.func 49) [] [AV.eptr 1 [vi v] 0 0,AV.eptr 1 [vi a] 0 0,AV.eptr 4 [ratA f g r] 0 0]),(5,vi (wi (wi ((wu (wi (i + j))).fdiv (2 ^ min (Int.toNat 1) IntKind.u64.bits)) + 1))),(6,vi j)],[],[(!Sp.strP v a r ((i + j).fdiv (2 ^ min (Int.toNat 1) IntKind.u64.bits))) == true],[],_⟩ (by kernel_rfl) (bc (beq_t ((i_not (i_var _)).2 d11)) b0) q0 c0 (by (try rw [w4]);(try rw [w6]);(try rw [w8]);(try rw [w13]);all_goals exact H)
  ·have H:=H.2 d11
   exact path_wp (G:=given kp28 [] []) 1000 [false] ⟨(atC (cd Tryz.f28) [1,1,0,0,0]),[(1,AV.func (Fn.func 49) [] [AV.eptr 1 [vi v] 0 0,AV.eptr 1 [vi a] 0 0,AV.eptr 4 [ratA f g r] 0 0]),(5,vi i),(6,vi (wi ((wu (wi (i + j))).fdiv (2 ^ min (Int.toNat 1) IntKind.u64.bits))))],[],[(!Sp.strP v a r ((i + j).fdiv (2 ^ min (Int.toNat 1) IntKind.u64.bits))) == false],[],_⟩ (by kernel_rfl) (bc (beq_f (fun h => d11 ((i_not (i_var _)).1 h))) b0) q0 c0 (by (try rw [w4]);(try rw [w6]);(try rw [w8]);all_goals exact H)
 ·have H:=H.2 d2
  exact path_re (G:=given kp28 [] []) 1000 [false] (vi i) (by kernel_rfl) (bc (beq_f (fun h => d2 (i_dec.1 h))) b0) q0 c0 H
end Go.Av

namespace Go.Av
open Go.Proofs
theorem half_fdiv {x:Int} (h:0 <= x):x.fdiv (2 ^ min (Int.toNat 1) IntKind.u64.bits) = x / 2:=by
 have e:(2:Int) ^ min (Int.toNat 1) IntKind.u64.bits = 2:=rfl
 rw [e,Int.fdiv_eq_ediv_of_nonneg x (by omega)]
theorem seC_loop {ax ay az bx by_ bz m n c:Int} {dq:AV} (h:Sp.okCr ax ay az bx by_ bz m n c):∀ (k:Nat) (i j:Int),j - i < 2 ^ k -> 0 <= i -> i <= j -> j <= 1000000 -> AV.int .i64 (Sp.bs (Sp.corP ax ay az bx by_ bz m n c) k i j) = dq -> kSeCH_at ax ay az bx by_ bz m n c i j (PureQ dq)
 | 0,i,j,hk,h0,h1,h2,hq => by
  refine kSeCH _ _ _ _ _ _ _ _ _ _ _ _ ⟨fun x => by omega,fun x => hq⟩
 | k + 1,i,j,hk,h0,h1,h2,hq => by
  by_cases x:i < j
  ·rw [Int.pow_succ] at hk
   refine kSeCH _ _ _ _ _ _ _ _ _ _ _ _ ⟨fun _ => ?_,fun y => absurd x y⟩
   rw [half_fdiv (by omega)]
   rw [bs_step x] at hq
   refine ⟨by omega,by omega,by omega,⟨h,by unfold Sp.inS;omega⟩,fun y => ⟨by omega,?_⟩,fun y => ?_⟩
   ·rw [(Bool.not_eq_true _).mp y,cond_false] at hq
    exact seC_loop h k _ _ (by omega) (by omega) (by omega) (by omega) hq
   ·rw [Classical.not_not.1 y,cond_true] at hq
    exact seC_loop h k _ _ (by omega) (by omega) (by omega) (by omega) hq
  ·rw [bs_done x] at hq
   exact kSeCH _ _ _ _ _ _ _ _ _ _ _ _ ⟨fun y => absurd y x,fun _ => hq⟩
theorem seS_loop {f g:Bool} {v a:Int} {r:Rat} {dq:AV} (h:Sp.okSt v a r):∀ (k:Nat) (i j:Int),j - i < 2 ^ k -> 0 <= i -> i <= j -> j <= 1000000000000 -> AV.int .i64 (Sp.bs (Sp.strP v a r) k i j) = dq -> kSeSH_at f g v a r i j (PureQ dq)
 | 0,i,j,hk,h0,h1,h2,hq => by
  refine kSeSH _ _ _ _ _ _ _ _ ⟨fun x => by omega,fun x => hq⟩
 | k + 1,i,j,hk,h0,h1,h2,hq => by
  by_cases x:i < j
  ·rw [Int.pow_succ] at hk
   refine kSeSH _ _ _ _ _ _ _ _ ⟨fun _ => ?_,fun y => absurd x y⟩
   rw [half_fdiv (by omega)]
   rw [bs_step x] at hq
   refine ⟨by omega,by omega,by omega,⟨h,by unfold Sp.inS;omega⟩,fun y => ⟨by omega,?_⟩,fun y => ?_⟩
   ·rw [(Bool.not_eq_true _).mp y,cond_false] at hq
    exact seS_loop h k _ _ (by omega) (by omega) (by omega) (by omega) hq
   ·rw [Classical.not_not.1 y,cond_true] at hq
    exact seS_loop h k _ _ (by omega) (by omega) (by omega) (by omega) hq
  ·rw [bs_done x] at hq
   exact kSeSH _ _ _ _ _ _ _ _ ⟨fun y => absurd y x,fun _ => hq⟩
namespace Sp
noncomputable def corV (ax ay az bx by_ bz m n c:Int):Int:=bs (corP ax ay az bx by_ bz m n c) 40 0 1000000
noncomputable def strV (v a:Int) (r:Rat):Int:=bs (strP v a r) 40 0 1000000000000
end Sp
theorem ev28_c (ax ay az bx by_ bz m n c:Int) (h:Sp.okCr ax ay az bx by_ bz m n c):Ev M1 (.pure 28 [.int .i64 1000000,.func (.func 29) [] [.eptr 3 [.agg [.int .i64 ax,.int .i64 ay,.int .i64 az]] 0 0,.eptr 3 [.agg [.int .i64 bx,.int .i64 by_,.int .i64 bz]] 0 0,.eptr 1 [.int .i64 m] 0 0,.eptr 1 [.int .i64 n] 0 0,.eptr 1 [.int .i64 c] 0 0]]) (.int .i64 (Sp.corV ax ay az bx by_ bz m n c)) []:=
 call28 (kSeC _ _ _ _ _ _ _ _ _ _ (seC_loop h 40 0 1000000 (by decide) (by decide) (by decide) (by decide) rfl))
theorem ev28_s (f g:Bool) (v a:Int) (r:Rat) (h:Sp.okSt v a r):Ev M1 (.pure 28 [.int .i64 1000000000000,.func (.func 49) [] [.eptr 1 [.int .i64 v] 0 0,.eptr 1 [.int .i64 a] 0 0,.eptr 4 [ratA f g r] 0 0]]) (.int .i64 (Sp.strV v a r)) []:=
 call28 (kSeS _ _ _ _ _ _ (seS_loop h 40 0 1000000000000 (by decide) (by decide) (by decide) (by decide) rfl))
end Go.Av

namespace Go.Av
open Go.Proofs
set_option maxRecDepth 100000
def fi8:Fi:=⟨35,[.tmp 6,.tmp 7]⟩
def kp8:List (Nat × List Nat):=[(0,[3,4,5]),(1,[3,4,5,11]),(2,[6,7]),(3,[3,4,5,15]),(4,[6,7]),(5,[3,4,5,8,9]),(6,[3,4,5,8,9,31]),(7,[6,7]),(8,[10]),(9,[6,7])]
def fi17:Fi:=⟨28,[.tmp 6,.tmp 7]⟩
def kp17:List (Nat × List Nat):=[(0,[0,4,5]),(1,[0,4,5,22]),(2,[6,7]),(3,[4,5,8]),(4,[9]),(5,[6,7])]
def kCorner_at (ax ay az bx by_ bz c:Int) (Q:AV -> Heap -> Prop):Prop:=Wp M1 (.run fi8 (atC (cd Tryz.f8) []) [(0,.agg [.int .i64 ax,.int .i64 ay,.int .i64 az]),(1,.agg [.int .i64 bx,.int .i64 by_,.int .i64 bz]),(2,.int .i64 c)] []) Q
def kStraight_at (n u v:Int) (Q:AV -> Heap -> Prop):Prop:=Wp M1 (.run fi17 (atC (cd Tryz.f17) []) [(0,.int .i64 n),(1,.int .i64 u),(2,.int .i64 v)] []) Q
theorem call8 {args:List AV} {d:AV} (h:wc M1 fi8 Tryz.f8 args d):Ev M1 (.pure 8 args) d []:=pcl _ _ (by kernel_rfl) h
theorem call17 {args:List AV} {d:AV} (h:wc M1 fi17 Tryz.f17 args d):Ev M1 (.pure 17 args) d []:=pcl _ _ (by kernel_rfl) h
noncomputable abbrev zNzG1 (bx:Int) (by_:Int) (bz:Int):=ag [vi bx,vi by_,vi bz]
noncomputable abbrev zNzG2 (ax:Int) (ay:Int) (az:Int):=ag [vi ax,vi ay,vi az]
theorem kCorner (ax ay az bx by_ bz c:Int)  (dq:AV) (H :
  ((¬(0 <= c /\ c <= 1000000)) -> tu [vi 0,vi 1] = dq) /\
  (¬(¬(0 <= c /\ c <= 1000000)) -> (((¬Sp.inP ax ay az) \/ (¬Sp.inP bx by_ bz)) -> tu [vi 0,vi 11] = dq) /\
   (¬((¬Sp.inP ax ay az) \/ (¬Sp.inP bx by_ bz)) -> (Sp.inQ ax /\ Sp.inQ ay /\ Sp.inQ az) /\
    (Sp.inQ bx /\ Sp.inQ by_ /\ Sp.inQ bz) /\
    (((Sp.sqr ax ay az = 0) \/ (Sp.sqr bx by_ bz = 0)) -> tu [vi 0,vi 6] = dq) /\
    (¬((Sp.sqr ax ay az = 0) \/ (Sp.sqr bx by_ bz = 0)) -> (Sp.okCr ax ay az bx by_ bz (Sp.sqr ax ay az) (Sp.sqr bx by_ bz) c) /\
     tu [vi (Sp.corV ax ay az bx by_ bz (Sp.sqr ax ay az) (Sp.sqr bx by_ bz) c),vi 0] = dq)))) :
 kCorner_at ax ay az bx by_ bz c (PureQ dq):=by
 unfold kCorner_at
 refine path_wp (G:=given kp8 [(1,1,.call (vb (decide (0 <= c /\ c <= 1000000))) none)] []) 6 [] ⟨(atC (cd Tryz.f8) [1,0,0,1]),[(3,AV.ptr 0 0 0 0),(4,AV.ptr 1 0 0 0),(5,AV.ptr 2 0 0 0),(11,vb !decide (0 <= c /\ c <= 1000000))],[⟨[(zNzG2 ax ay az)],3,0,false,false⟩,⟨[(zNzG1 bx by_ bz)],3,0,false,false⟩,⟨[vi c],1,0,false,false⟩],_,[],_⟩ (by kernel_rfl) (bc rfl b0) q0 (ce (@ev25 (c) (0) (1000000)) c0) ?_
 rcases xm (¬(0 <= c /\ c <= 1000000)) with d2 | d2
 ·have H:=H.1 d2
  exact path_re (G:=given kp8 [] []) 1000 [true] (tu [vi 0,vi 1]) (by kernel_rfl) (bc (beq_t ((i_not i_dec).2 d2)) b0) q0 c0 H
 ·have H:=H.2 d2
  refine path_wp (G:=given kp8 [(3,1,.call (vb (decide ¬Sp.inP ax ay az)) none),(3,4,.call (vb (decide ¬Sp.inP bx by_ bz)) none)] []) 3 [false] ⟨(atC (cd Tryz.f8) [1,0,0,1,1,1]),[(3,AV.ptr 0 0 0 0),(4,AV.ptr 1 0 0 0),(5,AV.ptr 2 0 0 0),(15,vb (bif decide ¬Sp.inP ax ay az then true else decide ¬Sp.inP bx by_ bz))],[⟨[(zNzG2 ax ay az)],3,0,false,false⟩,⟨[(zNzG1 bx by_ bz)],3,0,false,false⟩,⟨[vi c],1,0,false,false⟩],[(!decide (0 <= c /\ c <= 1000000)) == false,true,!((decide ¬Sp.inP ax ay az) == false && true) || true],[],[⟨true,false,26,[(zNzG2 ax ay az)],[],vb (decide ¬Sp.inP ax ay az),[]⟩,⟨(decide ¬Sp.inP ax ay az) == false && true && true,false,26,[(zNzG1 bx by_ bz)],[],vb (decide ¬Sp.inP bx by_ bz),[]⟩]⟩ (by kernel_rfl) (bc (beq_f (fun h => d2 ((i_not i_dec).1 h))) (bc rfl (bc (Bool.or_true _) b0))) q0 (cc (fun _ => (@ev26 (ax) (ay) (az))) (cc (fun hc => ((@ev26 (bx) (by_) (bz)):Ev M1 (Conf.pure 26 [(zNzG1 bx by_ bz)]) (vb (decide ¬Sp.inP bx by_ bz)) [])) c0)) ?_
  rcases xm ((¬Sp.inP ax ay az) \/ (¬Sp.inP bx by_ bz)) with d5 | d5
  ·have H:=H.1 d5
   exact path_re (G:=given kp8 [] []) 1000 [true] (tu [vi 0,vi 11]) (by kernel_rfl) (bc (beq_t ((i_bor i_dec i_dec).2 d5)) b0) q0 c0 H
  ·have H:=H.2 d5
   obtain ⟨k6,H⟩:=H
   obtain ⟨k7,H⟩:=H
   refine path_wp (G:=given kp8 [(5,1,.call (vi (Sp.sqr ax ay az)) none),(5,3,.call (vi (Sp.sqr bx by_ bz)) none)] []) 4 [false] ⟨(atC (cd Tryz.f8) [1,1,0]),[(3,AV.ptr 0 0 0 0),(4,AV.ptr 1 0 0 0),(5,AV.ptr 2 0 0 0),(15,vb (bif decide ¬Sp.inP ax ay az then true else decide ¬Sp.inP bx by_ bz))],[⟨[(zNzG2 ax ay az)],3,0,false,false⟩,⟨[(zNzG1 bx by_ bz)],3,0,false,false⟩,⟨[vi c],1,0,false,false⟩],_,[],_⟩ (by kernel_rfl) (bc (beq_f (fun h => d5 ((i_bor i_dec i_dec).1 h))) b0) q0 c0 (wp_both (G:=given kp8 [(5,1,.call (vi (Sp.sqr ax ay az)) none),(5,3,.call (vi (Sp.sqr bx by_ bz)) none)] []) [0,1,2,4,3] 4 (e1:=[(3,AV.ptr 0 0 0 0),(4,AV.ptr 1 0 0 0),(5,AV.ptr 2 0 0 0),(8,AV.ptr 3 0 0 0),(9,AV.ptr 4 0 0 0)]) (L1:=[⟨[(zNzG2 ax ay az)],3,0,false,false⟩,⟨[(zNzG1 bx by_ bz)],3,0,false,false⟩,⟨[vi c],1,0,false,false⟩,⟨[vi (Sp.sqr ax ay az)],1,0,false,false⟩,⟨[vi (Sp.sqr bx by_ bz)],1,0,false,false⟩]) (a:=[true,true,true,true]) (q:=[]) (cs:=[⟨true,false,27,[(zNzG2 ax ay az)],[],vi (Sp.sqr ax ay az),[]⟩,⟨true,false,27,[(zNzG1 bx by_ bz)],[],vi (Sp.sqr bx by_ bz),[]⟩]) (by kernel_rfl) (by kernel_rfl) (allB_cons rfl (allB_cons rfl (allB_cons rfl (allB_cons rfl allB_nil)))) allP_nil (allC_cons (fun _ => (@ev27 (ax) (ay) (az) k6)) (allC_cons (fun _ => (@ev27 (bx) (by_) (bz) k7)) allC_nil)) ?_)
   rcases xm ((Sp.sqr ax ay az = 0) \/ (Sp.sqr bx by_ bz = 0)) with d9 | d9
   ·have H:=H.1 d9
    exact path_re (G:=given kp8 [] []) 1000 [true] (asm:=[true,!((Sp.sqr ax ay az == 0) == false && true) || true,(bif Sp.sqr ax ay az == 0 then true else Sp.sqr bx by_ bz == 0) == true]) (tu [vi 0,vi 6]) (by kernel_rfl) (bc rfl (bc (Bool.or_true _) (bc (beq_t ((i_bor i_eq i_eq).2 d9)) b0))) q0 c0 H
   ·have H:=H.2 d9
    obtain ⟨k10,H⟩:=H
    exact path_re (G:=given kp8 [(8,1,.call (vi (Sp.corV ax ay az bx by_ bz (Sp.sqr ax ay az) (Sp.sqr bx by_ bz) c)) none)] []) 1000 [false] (asm:=[true,!((Sp.sqr ax ay az == 0) == false && true) || true,(bif Sp.sqr ax ay az == 0 then true else Sp.sqr bx by_ bz == 0) == false,true,true,true,true,true]) (tu [vi (Sp.corV ax ay az bx by_ bz (Sp.sqr ax ay az) (Sp.sqr bx by_ bz) c),vi 0]) (by kernel_rfl) (bc rfl (bc (Bool.or_true _) (bc (beq_f (fun h => d9 ((i_bor i_eq i_eq).1 h))) (bc rfl (bc rfl (bc rfl (bc rfl (bc rfl b0)))))))) q0 (ce (@ev28_c (ax) (ay) (az) (bx) (by_) (bz) (Sp.sqr ax ay az) (Sp.sqr bx by_ bz) (c) k10) c0) H
theorem kStraight (n u v:Int)  (dq:AV) (H :
  ((((¬(0 <= n /\ n <= 100000000)) \/ (¬(1 <= u /\ u <= 1000000))) \/ (¬(1 <= v /\ v <= 100000000))) -> tu [vi 0,vi 1] = dq) /\
  (¬(((¬(0 <= n /\ n <= 100000000)) \/ (¬(1 <= u /\ u <= 1000000))) \/ (¬(1 <= v /\ v <= 100000000))) -> (Sp.inI n) /\
   (Sp.okSt u v (Sp.qi n)) /\
   tu [vi (Sp.strV u v (Sp.qi n)),vi 0] = dq)) :
 kStraight_at n u v (PureQ dq):=by
 unfold kStraight_at
 refine path_wp (G:=given kp17 [(1,1,.call (vb (decide (0 <= n /\ n <= 100000000))) none),(1,5,.call (vb (decide (1 <= u /\ u <= 1000000))) none),(1,10,.call (vb (decide (1 <= v /\ v <= 100000000))) none)] []) 5 [] ⟨(atC (cd Tryz.f17) [1,0,1]),[(0,vi n),(4,AV.ptr 0 0 0 0),(5,AV.ptr 1 0 0 0),(22,vb (bif bif !decide (0 <= n /\ n <= 100000000) then true else !decide (1 <= u /\ u <= 1000000) then true else !decide (1 <= v /\ v <= 100000000)))],[⟨[vi u],1,0,false,false⟩,⟨[vi v],1,0,false,false⟩],[!((!decide (0 <= n /\ n <= 100000000)) == false && true) || true,!((bif !decide (0 <= n /\ n <= 100000000) then true else !decide (1 <= u /\ u <= 1000000)) == false && true) || true],[],[⟨true,false,25,[vi n,vi 0,vi 100000000],[],vb (decide (0 <= n /\ n <= 100000000)),[]⟩,⟨(!decide (0 <= n /\ n <= 100000000)) == false && true && true,false,25,[vi u,vi 1,vi 1000000],[],vb (decide (1 <= u /\ u <= 1000000)),[]⟩,⟨(bif !decide (0 <= n /\ n <= 100000000) then true else !decide (1 <= u /\ u <= 1000000)) == false && true && true,false,25,[vi v,vi 1,vi 100000000],[],vb (decide (1 <= v /\ v <= 100000000)),[]⟩]⟩ (by kernel_rfl) (bc (Bool.or_true _) (bc (Bool.or_true _) b0)) q0 (cc (fun _ => (@ev25 (n) (0) (100000000))) (cc (fun hc => ((@ev25 (u) (1) (1000000)):Ev M1 (Conf.pure 25 [vi u,vi 1,vi 1000000]) (vb (decide (1 <= u /\ u <= 1000000))) [])) (cc (fun hc => ((@ev25 (v) (1) (100000000)):Ev M1 (Conf.pure 25 [vi v,vi 1,vi 100000000]) (vb (decide (1 <= v /\ v <= 100000000))) [])) c0))) ?_
 rcases xm (((¬(0 <= n /\ n <= 100000000)) \/ (¬(1 <= u /\ u <= 1000000))) \/ (¬(1 <= v /\ v <= 100000000))) with d4 | d4
 ·have H:=H.1 d4
  exact path_re (G:=given kp17 [] []) 1000 [true] (tu [vi 0,vi 1]) (by kernel_rfl) (bc (beq_t ((i_bor (i_bor (i_not i_dec) (i_not i_dec)) (i_not i_dec)).2 d4)) b0) q0 c0 H
 ·have H:=H.2 d4
  obtain ⟨k5,H⟩:=H
  obtain ⟨k6,H⟩:=H
  exact path_re (G:=given kp17 [(3,1,.call (ratA false false (Sp.qi n)) none),(4,1,.call (vi (Sp.strV u v (Sp.qi n))) none)] []) 1000 [false] (tu [vi (Sp.strV u v (Sp.qi n)),vi 0]) (by kernel_rfl) (bc (beq_f (fun h => d4 ((i_bor (i_bor (i_not i_dec) (i_not i_dec)) (i_not i_dec)).1 h))) (bc rfl (bc rfl (bc rfl (bc rfl b0))))) q0 (ce (@ev35 (n) k5) (ce (@ev28_s (false) (false) (u) (v) (Sp.qi n) k6) c0)) H
end Go.Av

namespace Go.Av
open Go.Proofs
namespace Sp
def corE (ax ay az bx by_ bz c:Int):Int:=if isV c then (if inP ax ay az /\ inP bx by_ bz then (if sqr ax ay az = 0 \/ sqr bx by_ bz = 0 then 6 else 0) else 11) else 1
noncomputable def cor (ax ay az bx by_ bz c:Int):Int:=if corE ax ay az bx by_ bz c = 0 then corV ax ay az bx by_ bz (sqr ax ay az) (sqr bx by_ bz) c else 0
def isSt (n u v:Int):Prop:=isLen n /\ (1 <= u /\ u <= 1000000) /\ isAcc v
end Sp
instance (n u v:Int):Decidable (Sp.isSt n u v):=by unfold Sp.isSt;infer_instance
namespace Sp
def strE (n u v:Int):Int:=if isSt n u v then 0 else 1
noncomputable def str (n u v:Int):Int:=if isSt n u v then strV u v (qi n) else 0
end Sp
theorem okCr_of {ax ay az bx by_ bz c:Int} (h1:Sp.isV c) (h2:Sp.inP ax ay az /\ Sp.inP bx by_ bz) (h3:¬(Sp.sqr ax ay az = 0 \/ Sp.sqr bx by_ bz = 0)):Sp.okCr ax ay az bx by_ bz (Sp.sqr ax ay az) (Sp.sqr bx by_ bz) c /\ (Sp.inQ ax /\ Sp.inQ ay /\ Sp.inQ az) /\ Sp.inQ bx /\ Sp.inQ by_ /\ Sp.inQ bz:=by
 have q:=h2
 unfold Sp.inP Sp.inM at q
 have qa:Sp.inQ ax /\ Sp.inQ ay /\ Sp.inQ az:=by unfold Sp.inQ;omega
 have qb:Sp.inQ bx /\ Sp.inQ by_ /\ Sp.inQ bz:=by unfold Sp.inQ;omega
 have a:=sqr_bound qa.1 qa.2.1 qa.2.2
 have b:=sqr_bound qb.1 qb.2.1 qb.2.2
 exact ⟨⟨h2.1,h2.2,by unfold Sp.okQ;omega,by unfold Sp.okQ;omega,h1⟩,qa,qb⟩
theorem ev8 (ax ay az bx by_ bz c:Int):Ev M1 (.pure 8 [.agg [.int .i64 ax,.int .i64 ay,.int .i64 az],.agg [.int .i64 bx,.int .i64 by_,.int .i64 bz],.int .i64 c]) (.tup [.int .i64 (Sp.cor ax ay az bx by_ bz c),.int .i64 (Sp.corE ax ay az bx by_ bz c)]) []:=by
 refine call8 (kCorner _ _ _ _ _ _ _ _ ⟨fun x => ?_,fun x => ⟨fun y => ?_,fun y => ?_⟩⟩)
 ·have e:Sp.corE ax ay az bx by_ bz c = 1:=if_neg x
  unfold Sp.cor;rw [e];rfl
 ·have x:Sp.isV c:=Classical.not_not.1 x
  have e:Sp.corE ax ay az bx by_ bz c = 11:=by unfold Sp.corE;rw [if_pos x,if_neg fun z => y.elim (fun w => w z.1) fun w => w z.2]
  unfold Sp.cor;rw [e];rfl
 ·have x:Sp.isV c:=Classical.not_not.1 x
  have y:Sp.inP ax ay az /\ Sp.inP bx by_ bz:=⟨Classical.not_not.1 fun z => y (.inl z),Classical.not_not.1 fun z => y (.inr z)⟩
  have q:=y
  unfold Sp.inP Sp.inM at q
  refine ⟨by unfold Sp.inQ;omega,by unfold Sp.inQ;omega,fun z => ?_,fun z => ?_⟩
  ·have e:Sp.corE ax ay az bx by_ bz c = 6:=by unfold Sp.corE;rw [if_pos x,if_pos y,if_pos z]
   unfold Sp.cor;rw [e];rfl
  ·have e:Sp.corE ax ay az bx by_ bz c = 0:=by unfold Sp.corE;rw [if_pos x,if_pos y,if_neg z]
   unfold Sp.cor;rw [e,if_pos rfl]
   exact ⟨(okCr_of x y z).1,rfl⟩
theorem ev17 (n u v:Int):Ev M1 (.pure 17 [.int .i64 n,.int .i64 u,.int .i64 v]) (.tup [.int .i64 (Sp.str n u v),.int .i64 (Sp.strE n u v)]) []:=by
 have e:(((¬(0 <= n /\ n <= 100000000)) \/ (¬(1 <= u /\ u <= 1000000))) \/ (¬(1 <= v /\ v <= 100000000))) ↔ ¬Sp.isSt n u v:=by unfold Sp.isSt Sp.isLen Sp.isAcc;omega
 refine call17 (kStraight _ _ _ _ ⟨fun x => ?_,fun x => ?_⟩)
 ·unfold Sp.str Sp.strE
  rw [if_neg (e.1 x),if_neg (e.1 x)]
 ·have y:=Classical.not_not.1 (mt e.2 x)
  unfold Sp.str Sp.strE
  rw [if_pos y,if_pos y]
  have z:=y.1
  unfold Sp.isLen at z
  have i:Sp.inI n:=by unfold Sp.inI;omega
  exact ⟨i,⟨y.2.1,y.2.2,okT_R (okT_int i) (by omega)⟩,rfl⟩
end Go.Av

namespace Go.Av
open Go.Proofs
set_option maxRecDepth 100000
def fi24:Fi:=⟨6,[.cell 2 36]⟩
def kp24:List (Nat × List Nat):=[(0,[0,2]),(1,[2])]
def kWhole_at (n:Int) (Q:AV -> Heap -> Prop):Prop:=Wp M1 (.run fi24 (atC (cd Tryz.f24) []) [(0,.int .i64 n)] []) Q
theorem call24 {args:List AV} {d:AV} (h:wc M1 fi24 Tryz.f24 args d):Ev M1 (.pure 24 args) d []:=pcl _ _ (by kernel_rfl) h
theorem kWhole (n:Int)  (dq:AV) (H :
  (Sp.inI n) /\
  Weak (ratA false false (Sp.qi n)) dq) :
 kWhole_at n (PureQ dq):=by
 unfold kWhole_at
 obtain ⟨k1,H⟩:=H
 exact path_rq (G:=given kp24 [(1,1,.call (bigA false n) none),(1,2,.call (ratA false false (Sp.qi n)) none)] []) 1000 [] (ratA false false (Sp.qi n)) (by kernel_rfl) (bc rfl b0) q0 (ce (@ev57 (n) k1) (ce (@ev56 (false) (n)) c0)) H
end Go.Av

namespace Go.Av
open Go.Proofs
theorem ev24 (n:Int) (h:Sp.inI n):Ev M1 (.pure 24 [.int .i64 n]) (ratA false false (Sp.qi n)) []:=
 call24 (kWhole _ _ ⟨h,.refl _⟩)
theorem qf_lt {i j d:Int} (hd:0 < d) (h:i < j):Sp.qf i d < Sp.qf j d:=by
 rw [qf_div _ hd,qf_div _ hd,Rat.div_def,Rat.div_def]
 have p:0 < Sp.qi d:=qi_pos (by omega)
 have e:Sp.qi d * (Sp.qi d)⁻¹ = 1:=Rat.mul_inv_cancel _ (by grind)
 have k:Sp.qi i < Sp.qi j:=by rw [qi_eq,qi_eq];exact Rat.intCast_lt_intCast.2 h
 have q:0 < (Sp.qi d)⁻¹:=by
  rcases tri ((Sp.qi d)⁻¹) with t | t | t
  ·have:=mul_pp p (show 0 < -(Sp.qi d)⁻¹ by grind);grind
  ·rw [t] at e;grind
  ·exact t
 have:=mul_pp (show 0 < Sp.qi j - Sp.qi i by grind) q
 grind
theorem qf_zero (d:Int):Sp.qf 0 d = 0:=by rw [qf_eq];exact Rat.zero_divInt d
theorem qf_nn {i d:Int} (hd:0 < d) (h:0 <= i):0 <= Sp.qf i d:=by
 rcases Int.lt_or_eq_of_le h with k | k
 ·have:=qf_lt hd k;rw [qf_zero] at this;grind
 ·rw [<- k,qf_zero];grind
theorem reR_lt {i j v a:Int} (hv:1 <= v) (ha:1 <= a) (h0:0 <= i) (h:i < j):Sp.reR i v a < Sp.reR j v a:=
 rch_lt (qi_pos ha) (qi_pos hv) (qf_nn (by omega) h0) (qf_lt (by omega) h)
theorem reR_le {i j v a:Int} (hv:1 <= v) (ha:1 <= a) (h0:0 <= i) (h:i <= j):Sp.reR i v a <= Sp.reR j v a:=by
 rcases Int.lt_or_eq_of_le h with k | k
 ·have:=reR_lt hv ha h0 k;grind
 ·rw [k];grind
theorem ex_fast:Sp.fastV 0 500 1000 = 1000 /\ Sp.fastE 0 500 1000 = 0:=by
 have h:Sp.isV 0 /\ Sp.isLen 500 /\ Sp.isAcc 1000:=by unfold Sp.isV Sp.isLen Sp.isAcc;omega
 unfold Sp.fastV Sp.fastE
 rw [if_pos h,if_pos h]
 exact ⟨(sq_unique (by decide) (by decide) (by decide)).symm,rfl⟩
def exL:List Pt:=[⟨500,2000,600⟩,⟨500,2000,2000⟩]
theorem ex_valid:Sp.validE exL 1000 = 0:=by
 have h:Sp.okPts exL 1000:=⟨by unfold Sp.isAcc;omega,fun p hp => by
  simp only [exL,List.mem_cons,List.not_mem_nil,or_false] at hp
  rcases hp with rfl | rfl <;> (unfold Sp.okPt Sp.isLen Sp.isV;decide)⟩
 unfold Sp.validE
 rw [if_neg (by decide),if_pos h]
theorem ex_spds:Sp.spdV exL 1000 = [0,600,0]:=by
 rw [show Sp.spdV exL 1000 = Sp.spds exL 1000 from if_pos ex_valid]
 have e:Sp.sq (0 * 0 + 2 * 1000 * 500) = 1000:=(sq_unique (by decide) (by decide) (by decide)).symm
 have f1:Sp.spF exL 1000 1 = 600:=by
  show min (min (min (2000:Int) 600) 2000) (Sp.sq (0 * 0 + 2 * 1000 * 500)) = 600
  rw [e];decide
 have g1:Sp.spAt exL 1000 1 = 600:=by
  show min (Sp.spF exL 1000 1) (Sp.sq (0 * 0 + 2 * 1000 * 500)) = 600
  rw [e,f1];decide
 show [Sp.spAt exL 1000 0,Sp.spAt exL 1000 1,Sp.spAt exL 1000 exL.length] = _
 rw [spAt_zero,g1,spAt_end]
theorem qi1:Sp.qi 1 = 1:=by rw [qi_eq];rfl
theorem sgR_le {a:Rat}:Sp.sgR a <= 0 ↔ a <= 0:=by
 rcases tri a with k | k | k
 ·rw [sgR_neg k];constructor
  ·intro _;grind
  ·intro _;omega
 ·subst k;rw [sgR_zero];constructor
  ·intro _;grind
  ·intro _;omega
 ·rw [sgR_pos k];constructor
  ·intro h;omega
  ·intro h;grind
theorem alw_ex {v x y:Int} (h:x * y = 0) (k:Sp.alwA x y 1 1 = Sp.qi (x * x + y * y)):Sp.alw v x y 1 1 500 = decide ((x * x + y * y) * (v * v) <= 250000):=by
 have t:Sp.alwT x y * (Sp.qi v * Sp.qi v) = Sp.qi 0:=by
  unfold Sp.alwT
  rw [qi_mul x y,h,qi_0];grind
 unfold Sp.alw
 rw [t,sgO_b0,k,qi_mul,qi_mul,qi_mul]
 refine dec_iff ?_
 rw [sgR_le]
 have e:Sp.qi ((x * x + y * y) * (v * v)) + -Sp.qi (500 * 500) <= 0 ↔ Sp.qi ((x * x + y * y) * (v * v)) <= Sp.qi (500 * 500):=by constructor <;> intro _ <;> grind
 rw [e,qi_eq,qi_eq,Rat.intCast_le_intCast]
 exact Iff.rfl
theorem qf1 (n:Int):Sp.qf n 1 = Sp.qi n:=by rw [qf_div n (by omega),qi1,Rat.div_def];grind
theorem ex_cor:Sp.cor 1 0 0 0 1 0 500 = 500 /\ Sp.corE 1 0 0 0 1 0 500 = 0:=by
 have e:Sp.corE 1 0 0 0 1 0 500 = 0:=by
  unfold Sp.corE
  rw [if_pos (by unfold Sp.isV;omega),if_pos (by unfold Sp.inP Sp.inM;omega),if_neg (by decide)]
 refine ⟨?_,e⟩
 unfold Sp.cor
 rw [if_pos e]
 show Sp.corV 1 0 0 0 1 0 1 1 500 = 500
 have p:∀ i:Int,0 <= i -> Sp.corP 1 0 0 0 1 0 1 1 500 i = decide (500 <= i):=by
  intro i hi
  have a1:Sp.alwA 1 0 1 1 = Sp.qi (1 * 1 + 0 * 0):=by unfold Sp.alwA;rw [qf1,qf1];show Sp.qi 1 + Sp.qi 0 = Sp.qi 1;rw [qi_0];grind
  have a2:Sp.alwA 0 1 1 1 = Sp.qi (0 * 0 + 1 * 1):=by unfold Sp.alwA;rw [qf1,qf1];show Sp.qi 0 + Sp.qi 1 = Sp.qi 1;rw [qi_0];grind
  have a3:Sp.alwA 0 0 1 1 = Sp.qi (0 * 0 + 0 * 0):=by unfold Sp.alwA;rw [qf1];show Sp.qi 0 + Sp.qi 0 = Sp.qi 0;rw [qi_0];grind
  have s1:(1 * 1 + 0 * 0:Int) * ((i + 1) * (i + 1)) <= 250000 ↔ ¬500 <= i:=by
   have m1:500 <= i -> 501 * 501 <= (i + 1) * (i + 1):=fun k => sq_le_sq (by omega) (by omega)
   have m2:¬500 <= i -> (i + 1) * (i + 1) <= 500 * 500:=fun k => sq_le_sq (by omega) (by omega)
   omega
  have s2:(0 * 0 + 1 * 1:Int) * ((i + 1) * (i + 1)) <= 250000 ↔ ¬500 <= i:=s1
  have s3:(0 * 0 + 0 * 0:Int) * ((i + 1) * (i + 1)) <= 250000 ↔ True:=by
   rw [show (0 * 0 + 0 * 0:Int) = 0 from rfl,Int.zero_mul];decide
  unfold Sp.corP
  rw [alw_ex (by decide) a1,alw_ex (by decide) a2,alw_ex (by decide) a3,dec_iff s1,dec_iff s2,dec_iff s3]
  by_cases k:500 <= i <;> simp [k]
 obtain ⟨r0,r1,r2,r3⟩:=bs_all (p:=Sp.corP 1 0 0 0 1 0 1 1 500) (h:=1000000) (by decide) (by decide)
 unfold Sp.corV
 generalize Sp.bs (Sp.corP 1 0 0 0 1 0 1 1 500) 40 0 1000000 = r at *
 rw [p r r0] at r3
 have r2':r = 0 \/ ¬500 <= r - 1:=by
  rcases r2 with k | k
  ·exact .inl k
  ·by_cases z:r = 0
   ·exact .inl z
   ·rw [p (r - 1) (by omega)] at k
    exact .inr (of_decide_eq_false k)
 have r3':r = 1000000 \/ 500 <= r:=r3.imp id of_decide_eq_true
 omega
theorem ex_re:Sp.reR 2000 1000 1000 = Sp.qi 1000:=by
 have t:Sp.qf 2000 1000 = 2:=by rw [qf_eq];decide +kernel
 have e:Sp.qi 1000 = 1000:=by rw [qi_eq];rfl
 have i:(1000:Rat) * 1000⁻¹ = 1:=Rat.mul_inv_cancel _ (by decide +kernel)
 unfold Sp.reR Sp.rch
 rw [t,e,if_pos (by decide +kernel),Rat.div_def]
 grind
theorem ex_okRe:Sp.okRe 2000 1000 1000:=by unfold Sp.okRe Sp.isAcc;omega
theorem ex_str:Sp.str 1000 1000 1000 = 2000 /\ Sp.strE 1000 1000 1000 = 0:=by
 have h:Sp.isSt 1000 1000 1000:=by unfold Sp.isSt Sp.isLen Sp.isAcc;omega
 unfold Sp.str Sp.strE
 rw [if_pos h,if_pos h]
 refine ⟨?_,rfl⟩
 obtain ⟨r0,r1,r2,r3⟩:=bs_all (p:=Sp.strP 1000 1000 (Sp.qi 1000)) (h:=1000000000000) (by decide) (by decide)
 unfold Sp.strV
 generalize Sp.bs (Sp.strP 1000 1000 (Sp.qi 1000)) 40 0 1000000000000 = r at *
 unfold Sp.strP at r2 r3
 have a:¬r < 2000:=fun k => by
  rcases r3 with z | z
  ·omega
  ·have:=of_decide_eq_true z
   have:=reR_lt (v:=1000) (a:=1000) (by omega) (by omega) r0 k
   rw [ex_re] at this
   grind
 have b:¬2000 < r:=fun k => by
  rcases r2 with z | z
  ·omega
  ·have:=of_decide_eq_false z
   have:=reR_le (v:=1000) (a:=1000) (i:=2000) (j:=r - 1) (by omega) (by omega) (by omega) (by omega)
   rw [ex_re] at this
   grind
 omega
end Go.Av

namespace Go.Av
open Go.Proofs
set_option maxRecDepth 100000
def fi7:Fi:=⟨76,[.tmp 0]⟩
def kp7:List (Nat × List Nat):=[(0,[]),(1,[1,2]),(2,[1,2,3,4]),(3,[1,2,3,4,5,6]),(4,[1,2,3,4,5,6,7,8]),(5,[1,2,3,4,5,6,7,8,9,10]),(6,[0])]
def kAwake_at  (Q:AV -> Heap -> Prop):Prop:=Wp M1 (.run fi7 (atC (cd Tryz.f7) []) [] []) Q
theorem call7 {args:List AV} {d:AV} (h:wc M1 fi7 Tryz.f7 args d):Ev M1 (.pure 7 args) d []:=pcl _ _ (by kernel_rfl) h
noncomputable abbrev zNzJ1:=ag [vb (Sp.isNeg (Sp.reR 2000 1000 1000).num),vf (us (Sp.limI (Sp.reR 2000 1000 1000).num)),vb false,vf (us (Sp.limI (↑(Sp.reR 2000 1000 1000).den:Int)))]
noncomputable abbrev zNzJ2 (n1:Int) (b3:Bool):=bif bif bif bif bif bif n1 == 0 then true else false then false else false then true else false then Sp.fastV 0 500 1000 == 1000 else false then b3 else false then Sp.cor 1 0 0 0 1 0 500 == 500 else false
noncomputable abbrev zNzJ3 (n1:Int) (b1:Bool):=bif bif bif bif bif bif n1 == 0 then true else false then true else false then true else false then Sp.fastV 0 500 1000 == 1000 else false then b1 else false then Sp.cor 1 0 0 0 1 0 500 == 500 else false
noncomputable abbrev zNzJ4:=ag [vb false,vf [],vb false,vf []]
noncomputable abbrev zNzJ5:=tu [vi (Sp.cor 1 0 0 0 1 0 500),vi 0]
noncomputable abbrev zNzJ6:=tu [vi (Sp.str 1000 1000 1000),vi 0]
noncomputable abbrev zNzJ7:=tu [vi (Sp.fastV 0 500 1000),vi 0]
noncomputable abbrev zNzJ8 (l1:List (Int)) (n1:Int):=tu [vf (List.map (vi) l1),vi n1]
theorem kAwake   (dq:AV) (H :
  ∃ (l1:List (Int)) (n1:Int),
  (Ev M1 (Conf.pure 22 [AV.vec true 3 [ag [vi 500,vi 2000,vi 600],ag [vi 500,vi 2000,vi 2000]],vi 1000]) (tu [vf (List.map (vi) l1),vi n1]) []) /\
  ((Sp.okRe 2000 1000 1000) -> ∃ (b1:Bool),
   ((((((n1 = 0) \/ (false = true)) \/ (false = true)) \/ (false = true)) /\ (Sp.fastV 0 500 1000 = 1000)) -> (Ev M1 (Conf.pure 23 [vf (List.map (vi) l1),AV.vec true 1 [vi 0,vi 600,vi 0]]) (vb b1) [])) /\
   ((((((((n1 = 0) \/ (false = true)) \/ (false = true)) \/ (false = true)) /\ (Sp.fastV 0 500 1000 = 1000)) /\ (b1 = true)) /\ (Sp.cor 1 0 0 0 1 0 500 = 500)) -> (Sp.inI 1000)) /\
   ∃ (b2:Bool),
   ((((((((n1 = 0) \/ (false = true)) \/ (false = true)) \/ (false = true)) /\ (Sp.fastV 0 500 1000 = 1000)) /\ (b1 = true)) /\ (Sp.cor 1 0 0 0 1 0 500 = 500)) -> (Ev M1 (Conf.pure 15 [ag [vb (Sp.isNeg (Sp.reR 2000 1000 1000).num),vf (us (Sp.limI (Sp.reR 2000 1000 1000).num)),vb false,vf (us (Sp.limI (↑(Sp.reR 2000 1000 1000).den:Int)))],ratA false false (Sp.qi 1000)]) (vb b2) [])) /\
   vb (bif bif bif bif bif bif bif bif n1 == 0 then true else false then true else false then true else false then Sp.fastV 0 500 1000 == 1000 else false then b1 else false then Sp.cor 1 0 0 0 1 0 500 == 500 else false then b2 else false then Sp.str 1000 1000 1000 == 2000 else false) = dq) /\
  (¬(Sp.okRe 2000 1000 1000) -> ∃ (b3:Bool),
   ((((((n1 = 0) \/ (false = true)) /\ (false = true)) \/ (false = true)) /\ (Sp.fastV 0 500 1000 = 1000)) -> (Ev M1 (Conf.pure 23 [vf (List.map (vi) l1),AV.vec true 1 [vi 0,vi 600,vi 0]]) (vb b3) [])) /\
   ((((((((n1 = 0) \/ (false = true)) /\ (false = true)) \/ (false = true)) /\ (Sp.fastV 0 500 1000 = 1000)) /\ (b3 = true)) /\ (Sp.cor 1 0 0 0 1 0 500 = 500)) -> (Sp.inI 1000)) /\
   ∃ (b4:Bool),
   ((((((((n1 = 0) \/ (false = true)) /\ (false = true)) \/ (false = true)) /\ (Sp.fastV 0 500 1000 = 1000)) /\ (b3 = true)) /\ (Sp.cor 1 0 0 0 1 0 500 = 500)) -> (Ev M1 (Conf.pure 15 [ag [vb false,vf [],vb false,vf []],ratA false false (Sp.qi 1000)]) (vb b4) [])) /\
   vb (bif bif bif bif bif bif bif bif n1 == 0 then true else false then false else false then true else false then Sp.fastV 0 500 1000 == 1000 else false then b3 else false then Sp.cor 1 0 0 0 1 0 500 == 500 else false then b4 else false then Sp.str 1000 1000 1000 == 2000 else false) = dq)) :
 kAwake_at  (PureQ dq):=by
 unfold kAwake_at
 obtain ⟨l1,n1,H⟩:=H
 obtain ⟨k1,H⟩:=H
 rcases xm (Sp.okRe 2000 1000 1000) with d2 | d2
 ·have H:=H.1 d2
  obtain ⟨b1,H⟩:=H
  obtain ⟨k4,H⟩:=H
  obtain ⟨k6,H⟩:=H
  obtain ⟨b2,H⟩:=H
  obtain ⟨k8,H⟩:=H
  exact path_re (G:=given kp7 [(1,0,.call (zNzJ7) none),(2,3,.call ((zNzJ8 l1 n1)) none),(3,2,.call (zNzJ5) none),(4,0,.call (tu [zNzJ1,vi 0]) none),(5,0,.call (zNzJ6) none),(6,25,.call (vb b1) none),(6,33,.call (ratA false false (Sp.qi 1000)) none),(6,34,.call (vb b2) none)] []) 1000 [] (asm:=[true,!((zNzJ3 n1 b1) == true && true) || true]) (calls:=[⟨true,false,21,[vi 0,vi 500,vi 1000],[],zNzJ7,[]⟩,⟨true,false,22,[AV.vec true 3 [ag [vi 500,vi 2000,vi 600],ag [vi 500,vi 2000,vi 2000]],vi 1000],[],(zNzJ8 l1 n1),[]⟩,⟨true,false,8,[ag [vi 1,vi 0,vi 0],ag [vi 0,vi 1,vi 0],vi 500],[],zNzJ5,[]⟩,⟨true,false,12,[vi 2000,vi 1000,vi 1000],[],tu [zNzJ1,vi 0],[]⟩,⟨true,false,17,[vi 1000,vi 1000,vi 1000],[],zNzJ6,[]⟩,⟨(bif bif bif bif n1 == 0 then true else false then true else false then true else false then Sp.fastV 0 500 1000 == 1000 else false) == true && true && true,false,23,[vf (List.map (vi) l1),AV.vec true 1 [vi 0,vi 600,vi 0]],[],vb b1,[]⟩,⟨(zNzJ3 n1 b1) == true && true && true,false,24,[vi 1000],[],ratA false false (Sp.qi 1000),[]⟩,⟨(zNzJ3 n1 b1) == true && true && true,false,15,[zNzJ1,ratA false false (Sp.qi 1000)],[],vb b2,[]⟩]) (vb (bif bif bif bif bif bif bif bif n1 == 0 then true else false then true else false then true else false then Sp.fastV 0 500 1000 == 1000 else false then b1 else false then Sp.cor 1 0 0 0 1 0 500 == 500 else false then b2 else false then Sp.str 1000 1000 1000 == 2000 else false)) (by kernel_rfl) (bc rfl (bc (Bool.or_true _) b0)) q0 (cc (fun _ => (@ev21 (0) (500) (1000))) (cc (fun _ => k1) (cc (fun _ => (@ev8 (1) (0) (0) (0) (1) (0) (500))) (cc (fun _ => (@ev12_y (2000) (1000) (1000) d2)) (cc (fun _ => (@ev17 (1000) (1000) (1000))) (cc (fun hc => ((k4 ((i_at (i_at (i_bt (i_band (i_bor (i_bor (i_bor i_eq (i_var _)) (i_var _)) (i_var _)) i_eq)))).1 hc)):Ev M1 (Conf.pure 23 [vf (List.map (vi) l1),AV.vec true 1 [vi 0,vi 600,vi 0]]) (vb b1) [])) (cc (fun hc => ((@ev24 (1000) (k6 ((i_at (i_at (i_bt (i_band (i_band (i_band (i_bor (i_bor (i_bor i_eq (i_var _)) (i_var _)) (i_var _)) i_eq) (i_var _)) i_eq)))).1 hc))):Ev M1 (Conf.pure 24 [vi 1000]) (ratA false false (Sp.qi 1000)) [])) (cc (fun hc => ((k8 ((i_at (i_at (i_bt (i_band (i_band (i_band (i_bor (i_bor (i_bor i_eq (i_var _)) (i_var _)) (i_var _)) i_eq) (i_var _)) i_eq)))).1 hc)):Ev M1 (Conf.pure 15 [zNzJ1,ratA false false (Sp.qi 1000)]) (vb b2) [])) c0)))))))) H
 ·have H:=H.2 d2
  obtain ⟨b3,H⟩:=H
  obtain ⟨k10,H⟩:=H
  obtain ⟨k12,H⟩:=H
  obtain ⟨b4,H⟩:=H
  obtain ⟨k14,H⟩:=H
  exact path_re (G:=given kp7 [(1,0,.call (zNzJ7) none),(2,3,.call ((zNzJ8 l1 n1)) none),(3,2,.call (zNzJ5) none),(4,0,.call (tu [zNzJ4,vi 1]) none),(5,0,.call (zNzJ6) none),(6,25,.call (vb b3) none),(6,33,.call (ratA false false (Sp.qi 1000)) none),(6,34,.call (vb b4) none)] []) 1000 [] (asm:=[true,!((zNzJ2 n1 b3) == true && true) || true]) (calls:=[⟨true,false,21,[vi 0,vi 500,vi 1000],[],zNzJ7,[]⟩,⟨true,false,22,[AV.vec true 3 [ag [vi 500,vi 2000,vi 600],ag [vi 500,vi 2000,vi 2000]],vi 1000],[],(zNzJ8 l1 n1),[]⟩,⟨true,false,8,[ag [vi 1,vi 0,vi 0],ag [vi 0,vi 1,vi 0],vi 500],[],zNzJ5,[]⟩,⟨true,false,12,[vi 2000,vi 1000,vi 1000],[],tu [zNzJ4,vi 1],[]⟩,⟨true,false,17,[vi 1000,vi 1000,vi 1000],[],zNzJ6,[]⟩,⟨(bif bif bif bif n1 == 0 then true else false then false else false then true else false then Sp.fastV 0 500 1000 == 1000 else false) == true && true && true,false,23,[vf (List.map (vi) l1),AV.vec true 1 [vi 0,vi 600,vi 0]],[],vb b3,[]⟩,⟨(zNzJ2 n1 b3) == true && true && true,false,24,[vi 1000],[],ratA false false (Sp.qi 1000),[]⟩,⟨(zNzJ2 n1 b3) == true && true && true,false,15,[zNzJ4,ratA false false (Sp.qi 1000)],[],vb b4,[]⟩]) (vb (bif bif bif bif bif bif bif bif n1 == 0 then true else false then false else false then true else false then Sp.fastV 0 500 1000 == 1000 else false then b3 else false then Sp.cor 1 0 0 0 1 0 500 == 500 else false then b4 else false then Sp.str 1000 1000 1000 == 2000 else false)) (by kernel_rfl) (bc rfl (bc (Bool.or_true _) b0)) q0 (cc (fun _ => (@ev21 (0) (500) (1000))) (cc (fun _ => k1) (cc (fun _ => (@ev8 (1) (0) (0) (0) (1) (0) (500))) (cc (fun _ => (@ev12_n (2000) (1000) (1000) d2)) (cc (fun _ => (@ev17 (1000) (1000) (1000))) (cc (fun hc => ((k10 ((i_at (i_at (i_bt (i_band (i_bor (i_band (i_bor i_eq (i_var _)) (i_var _)) (i_var _)) i_eq)))).1 hc)):Ev M1 (Conf.pure 23 [vf (List.map (vi) l1),AV.vec true 1 [vi 0,vi 600,vi 0]]) (vb b3) [])) (cc (fun hc => ((@ev24 (1000) (k12 ((i_at (i_at (i_bt (i_band (i_band (i_band (i_bor (i_band (i_bor i_eq (i_var _)) (i_var _)) (i_var _)) i_eq) (i_var _)) i_eq)))).1 hc))):Ev M1 (Conf.pure 24 [vi 1000]) (ratA false false (Sp.qi 1000)) [])) (cc (fun hc => ((k14 ((i_at (i_at (i_bt (i_band (i_band (i_band (i_bor (i_band (i_bor i_eq (i_var _)) (i_var _)) (i_var _)) i_eq) (i_var _)) i_eq)))).1 hc)):Ev M1 (Conf.pure 15 [zNzJ4,ratA false false (Sp.qi 1000)]) (vb b4) [])) c0)))))))) H
end Go.Av

namespace Go.Av
open Go.Proofs
theorem ev7:Ev M1 (.pure 7 []) (.bool true) []:=by
 have s:=ev22 true exL 1000
 rw [ex_valid,ex_spds] at s
 have q:=ev23 false true [0,600,0] [0,600,0] (by decide)
 rw [decide_eq_true rfl] at q
 have k:=ev15 false false false false (Sp.reR 2000 1000 1000) (Sp.qi 1000) ⟨okT_R (okT_re ex_okRe) (by omega),okT_R (okT_int (by unfold Sp.inI;omega)) (by omega)⟩
 rw [decide_eq_true ex_re] at k
 refine call7 (kAwake _ ⟨[0,600,0],0,s,fun _ => ⟨true,fun _ => q,fun _ => by unfold Sp.inI;omega,true,fun _ => k,?_⟩,fun x => absurd ex_okRe x⟩)
 rw [ex_fast.1,ex_cor.1,ex_str.1]
 rfl
end Go.Av

namespace Go.Av
open Go.Proofs
set_option maxRecDepth 100000
end Go.Av

namespace Go.Av
open Go.Proofs
end Go.Av

namespace Go.Av
open Go.Proofs
set_option maxRecDepth 100000
def fi41:Fi:=⟨40,[.cell 6 36]⟩
def kp41:List (Nat × List Nat):=[(0,[0,1,2,6]),(1,[6,7,8,9]),(2,[6,7,8,9,23]),(3,[6]),(4,[6])]
def kReachR_at (t v a:Int) (Q:AV -> Heap -> Prop):Prop:=Wp M1 (.run fi41 (atC (cd Tryz.f41) []) [(0,.int .i64 t),(1,.int .i64 v),(2,.int .i64 a)] []) Q
theorem call41 {args:List AV} {d:AV} (h:wc M1 fi41 Tryz.f41 args d):Ev M1 (.pure 41 args) d []:=pcl _ _ (by kernel_rfl) h
noncomputable abbrev zNzH3 (t:Int) (a:Int) (v:Int):=Sp.sgnI ((Sp.qf t 1000 * Sp.qi a).num * (↑(Sp.qi v + Sp.qi v).den:Int) - (Sp.qi v + Sp.qi v).num * (↑(Sp.qf t 1000 * Sp.qi a).den:Int)) >= 0
theorem kReachR (t v a:Int)  (dq:AV) (H :
  (Sp.okF t 1000) /\
  (Sp.inI v) /\
  (Sp.inI a) /\
  (Sp.okR (Sp.qf t 1000) /\ Sp.okR (Sp.qi a)) /\
  (Sp.okR (Sp.qi v) /\ Sp.okR (Sp.qi v)) /\
  (Sp.okR (Sp.qf t 1000 * Sp.qi a) /\ Sp.okR (Sp.qi v + Sp.qi v)) /\
  ((Sp.sgnI ((Sp.qf t 1000 * Sp.qi a).num * (↑(Sp.qi v + Sp.qi v).den:Int) - (Sp.qi v + Sp.qi v).num * (↑(Sp.qf t 1000 * Sp.qi a).den:Int)) >= 0) -> (Sp.okR (Sp.qi v) /\ Sp.okR (Sp.qf t 1000)) /\
   (Sp.okR (Sp.qi v * Sp.qi v) /\ Sp.okR (Sp.qi a) /\ (Sp.qi a).num ≠ 0) /\
   (Sp.okR (Sp.qi v * Sp.qf t 1000) /\ Sp.okR (Sp.qi v * Sp.qi v / Sp.qi a)) /\
   Weak (ratA false false (Sp.qi v * Sp.qf t 1000 - Sp.qi v * Sp.qi v / Sp.qi a)) dq) /\
  (¬(Sp.sgnI ((Sp.qf t 1000 * Sp.qi a).num * (↑(Sp.qi v + Sp.qi v).den:Int) - (Sp.qi v + Sp.qi v).num * (↑(Sp.qf t 1000 * Sp.qi a).den:Int)) >= 0) -> (Sp.okF 1 4) /\
   (Sp.okR (Sp.qi a) /\ Sp.okR (Sp.qf 1 4)) /\
   (Sp.okR (Sp.qf t 1000) /\ Sp.okR (Sp.qf t 1000)) /\
   (Sp.okR (Sp.qi a * Sp.qf 1 4) /\ Sp.okR (Sp.qf t 1000 * Sp.qf t 1000)) /\
   Weak (ratA false false (Sp.qi a * Sp.qf 1 4 * (Sp.qf t 1000 * Sp.qf t 1000))) dq)) :
 kReachR_at t v a (PureQ dq):=by
 unfold kReachR_at
 obtain ⟨k1,H⟩:=H
 obtain ⟨k2,H⟩:=H
 obtain ⟨k3,H⟩:=H
 obtain ⟨k4,H⟩:=H
 obtain ⟨k5,H⟩:=H
 obtain ⟨k6,H⟩:=H
 refine path_wp (G:=given kp41 [(1,1,.call (ratA false false (Sp.qf t 1000)) none),(1,3,.call (ratA false false (Sp.qi v)) none),(1,5,.call (ratA false false (Sp.qi a)) none),(2,2,.call (ratA false false (Sp.qf t 1000 * Sp.qi a)) none),(2,5,.call (ratA false false (Sp.qi v + Sp.qi v)) none),(2,6,.call (vi (Sp.sgnI ((Sp.qf t 1000 * Sp.qi a).num * (↑(Sp.qi v + Sp.qi v).den:Int) - (Sp.qi v + Sp.qi v).num * (↑(Sp.qf t 1000 * Sp.qi a).den:Int)))) none)] []) 7 [] ⟨(atC (cd Tryz.f41) [1,1,0,1]),[(6,AV.ptr 0 0 0 0),(7,AV.ptr 1 0 0 0),(8,AV.ptr 2 0 0 0),(9,AV.ptr 3 0 0 0),(23,vb (decide (zNzH3 t a v)))],[⟨[ag [vb false,AV.vnil,vb false,AV.vnil]],4,0,false,false⟩,⟨[ratA false false (Sp.qf t 1000)],4,0,false,false⟩,⟨[ratA false false (Sp.qi v)],4,0,false,false⟩,⟨[ratA false false (Sp.qi a)],4,0,false,false⟩],_,[],_⟩ (by kernel_rfl) (bc rfl (bc rfl (bc rfl (bc rfl (bc rfl (bc rfl (bc rfl b0))))))) q0 (ce (@ev79 (t) (1000) k1) (ce (@ev51 (v) k2) (ce (@ev51 (a) k3) (ce (@ev68 (false) (false) (false) (false) (Sp.qf t 1000) (Sp.qi a) k4) (ce (@ev65 (false) (false) (false) (false) (Sp.qi v) (Sp.qi v) k5) (ce (@ev16 (false) (false) (false) (false) (Sp.qf t 1000 * Sp.qi a) (Sp.qi v + Sp.qi v) k6) c0)))))) ?_
 rcases xm (zNzH3 t a v) with d8 | d8
 ·have H:=H.1 d8
  obtain ⟨k9,H⟩:=H
  obtain ⟨k10,H⟩:=H
  obtain ⟨k11,H⟩:=H
  exact path_rq (G:=given kp41 [(3,2,.call (ratA false false (Sp.qi v * Sp.qf t 1000)) none),(3,5,.call (ratA false false (Sp.qi v * Sp.qi v)) none),(3,7,.call (ratA false false (Sp.qi v * Sp.qi v / Sp.qi a)) none),(3,8,.call (ratA false false (Sp.qi v * Sp.qf t 1000 - Sp.qi v * Sp.qi v / Sp.qi a)) none)] []) 1000 [true] (ratA false false (Sp.qi v * Sp.qf t 1000 - Sp.qi v * Sp.qi v / Sp.qi a)) (by kernel_rfl) (bc (beq_t (i_dec.2 d8)) (bc rfl (bc rfl (bc rfl (bc rfl (bc rfl (bc rfl b0))))))) q0 (ce (@ev68 (false) (false) (false) (false) (Sp.qi v) (Sp.qf t 1000) k9) (ce (@ev68 (false) (false) (false) (false) (Sp.qi v) (Sp.qi v) k5) (ce (@ev66 (false) (false) (false) (false) (Sp.qi v * Sp.qi v) (Sp.qi a) k10) (ce (@ev67 (false) (false) (false) (false) (Sp.qi v * Sp.qf t 1000) (Sp.qi v * Sp.qi v / Sp.qi a) k11) c0)))) H
 ·have H:=H.2 d8
  obtain ⟨k12,H⟩:=H
  obtain ⟨k13,H⟩:=H
  obtain ⟨k14,H⟩:=H
  obtain ⟨k15,H⟩:=H
  exact path_rq (G:=given kp41 [(4,1,.call (ratA false false (Sp.qf 1 4)) none),(4,2,.call (ratA false false (Sp.qi a * Sp.qf 1 4)) none),(4,5,.call (ratA false false (Sp.qf t 1000 * Sp.qf t 1000)) none),(4,6,.call (ratA false false (Sp.qi a * Sp.qf 1 4 * (Sp.qf t 1000 * Sp.qf t 1000))) none)] []) 1000 [false] (ratA false false (Sp.qi a * Sp.qf 1 4 * (Sp.qf t 1000 * Sp.qf t 1000))) (by kernel_rfl) (bc (beq_f (fun h => d8 (i_dec.1 h))) (bc rfl (bc rfl (bc rfl (bc rfl b0))))) q0 (ce (@ev79 (1) (4) k12) (ce (@ev68 (false) (false) (false) (false) (Sp.qi a) (Sp.qf 1 4) k13) (ce (@ev68 (false) (false) (false) (false) (Sp.qf t 1000) (Sp.qf t 1000) k14) (ce (@ev68 (false) (false) (false) (false) (Sp.qi a * Sp.qf 1 4) (Sp.qf t 1000 * Sp.qf t 1000) k15) c0)))) H
end Go.Av

namespace Go.Av
open Go.Proofs
theorem ev41 (t v a:Int) (k:Sp.okRe t v a):Ev M1 (.pure 41 [.int .i64 t,.int .i64 v,.int .i64 a]) (ratA false false (Sp.reR t v a)) []:=by
 obtain ⟨h1,h2,h3⟩:=k
 unfold Sp.isAcc at h3
 have ia:Sp.inI a:=by unfold Sp.inI;omega
 have iv:Sp.inI v:=by unfold Sp.inI;omega
 have ft:Sp.okF t 1000:=⟨by unfold Sp.inI;omega,by unfold Sp.inI;omega,by omega⟩
 have f4:Sp.okF 1 4:=⟨by unfold Sp.inI;omega,by unfold Sp.inI;omega,by omega⟩
 have qt:=okT_qf ft
 have qv:=okT_int iv
 have qa:=okT_int ia
 have pa:=qi_pos h3.1
 have na:(Sp.qi a).num ≠ 0:=fun e => by rw [Rat.num_eq_zero] at e;grind
 refine call41 (kReachR _ _ _ _ ⟨ft,iv,ia,⟨okT_R qt (by omega),okT_R qa (by omega)⟩,⟨okT_R qv (by omega),okT_R qv (by omega)⟩,⟨okT_R (okT_mul qt qa) (by omega),okT_R (okT_add qv qv) (by omega)⟩,fun x => ?_,fun x => ?_⟩)
 ·rw [cmp_ge] at x
  rw [show Sp.reR t v a = Sp.qi v * Sp.qf t 1000 - Sp.qi v * Sp.qi v / Sp.qi a by unfold Sp.reR Sp.rch;rw [if_pos x]]
  exact ⟨⟨okT_R qv (by omega),okT_R qt (by omega)⟩,⟨okT_R (okT_mul qv qv) (by omega),okT_R qa (by omega),na⟩,⟨okT_R (okT_mul qv qt) (by omega),okT_R (okT_div (okT_mul qv qv) qa na) (by omega)⟩,.refl _⟩
 ·rw [cmp_ge] at x
  have e:Sp.qi a * Sp.qf 1 4 = Sp.qf a 4:=by
   rw [qf_div _ (by omega),qf_div _ (by omega),Rat.div_def,Rat.div_def,qi1];grind
  rw [reach_n x,e]
  refine ⟨f4,⟨okT_R qa (by omega),okT_R (okT_qf f4) (by omega)⟩,⟨okT_R qt (by omega),okT_R qt (by omega)⟩,⟨?_,okT_R (okT_mul qt qt) (by omega)⟩,.refl _⟩
  exact okT_R (okT_qf (show Sp.okF a 4 from ⟨ia,by unfold Sp.inI;omega,by omega⟩)) (by omega)
end Go.Av
