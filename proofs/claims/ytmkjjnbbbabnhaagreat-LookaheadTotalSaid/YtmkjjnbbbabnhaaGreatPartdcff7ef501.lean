/- PART 4 of the texts of a claim, joined by a program: what each part shows stands at its head. -/
import Derived.Test.YtmkjjnbbbabnhaaGreatPartdf33a8aecf

namespace Go.Av
open Go.Proofs
theorem big_lim (f s:Bool) (v:Nat):bigA f (Sp.sg s v) = .agg [.bool (bif s then decide (((Sp.lim v).length:Int) > 0) else false),.vec f 1 ((Sp.lim v).map (.int .u32))]:=by
 rw [big_sg]
 have hc:=cnt_eq_zero (v:=v)
 have e:decide (v ≠ 0) = decide (((Sp.lim v).length:Int) > 0):=by
  rw [decide_eq_decide,lim_len];omega
 rw [e]
theorem rsignedN (s fa:Bool) (k v:Nat) (h:Sp.short k /\ Sp.fits k v):Ev M1 (.pure 83 [.bool s,usA fa (Sp.limN k v)]) (bigA false (Sp.sg s v)) []:=by
 refine call83 (rSigned _ _ _ _ _ ⟨h,?_⟩)
 rw [big_lim];exact .refl _
theorem ev83_a (s fa:Bool) (v:Int) (h:Sp.ok v):Ev M1 (.pure 83 [.bool s,usA fa (Sp.limI v)]) (bigA false (Sp.sg s v.natAbs)) []:=rsignedN s fa _ _ ⟨h,fits_self _⟩
theorem ev83_b (s fa:Bool) (v:Nat) (h:Sp.short (Sp.cnt v)):Ev M1 (.pure 83 [.bool s,usA fa (Sp.lim v)]) (bigA false (Sp.sg s v)) []:=rsignedN s fa _ _ ⟨h,fits_self _⟩
theorem cnt_u64 {u:Nat} (h:u <= 18446744073709551615):Sp.cnt u <= 3:=fits_cnt.1 (fits3 h)
theorem ev57 (n:Int) (h:Sp.inI n):Ev M1 (.pure 57 [.int .i64 n]) (bigA false n) []:=by
 unfold Sp.inI at h
 refine call57 (rFromInt64 n _ ⟨fun k => ?_,fun k => ?_⟩)
 ·have e1:IntKind.u64.wrap (0 - IntKind.u64.wrap n) = -n:=by
   rw [wrap_neg ⟨h.1,k⟩]
   have e1:(2:Int) ^ IntKind.u64.bits = 18446744073709551616:=rfl
   have e3:IntKind.u64.signed = false:=rfl
   simp only [IntKind.wrap,e1,e3,Bool.false_and,Bool.false_eq_true,if_false]
   omega
  have e2:Sp.sg true (-n).toNat = n:=by unfold Sp.sg;rw [if_pos rfl];omega
  rw [e1]
  have:=ev83_b true false (-n).toNat (by have:=cnt_u64 (u:=(-n).toNat) (by omega);unfold Sp.short;omega)
  rw [e2] at this
  exact ⟨by omega,_,_,this,.refl _⟩
 ·have e1:IntKind.u64.wrap n = n:=wU64 ⟨by omega,by omega⟩
  have e2:Sp.sg false n.toNat = n:=by rw [sg_false];omega
  rw [e1]
  have:=ev83_b false false n.toNat (by have:=cnt_u64 (u:=n.toNat) (by omega);unfold Sp.short;omega)
  rw [e2] at this
  exact ⟨by omega,_,_,this,.refl _⟩
theorem trimL_limN {k v:Nat} (h:Sp.fits k v):Sp.trimL (Sp.limN k v) = Sp.lim v:=by
 unfold Sp.trimL
 rw [limN_len];exact trimF_limN k v h
theorem set_last {o:List Int} {n:Nat} {c:Int} (h:o.length = n + 1):o.set n c = o.take n ++ [c]:=by
 have:=take_set_succ (o:=o) (i:=n) (d:=c) (by omega)
 rwa [List.take_of_length_le (by simp;omega)] at this
theorem loopPlusR {fa fb:Bool} {n m v w:Nat} {R:List Int} (hn:n <= 900000) (hmn:m <= n) (hv:Sp.fits n v) (hw:Sp.fits m w):∀ (k i:Nat) (o:List Int) (c:Nat),i + k = n -> c <= 1 -> o.length = n + 1 ->
  o.take i ++ Sp.limN (k + 1) (v / 1000000000 ^ i + w / 1000000000 ^ i + c) = R -> rPlusA_at fa fb (Sp.limN n v) (Sp.limN m w) o c i (PureQ (usA false (Sp.trimL R)))
 | 0,i,o,c,hi,hc,hol,hq => by
  have hi:i = n:=by omega
  subst hi
  rw [fits_div hv (by omega),fits_div hw (by omega)] at hq
  have e:Sp.limN 1 (0 + 0 + c) = [(c:Int)]:=by simp [Sp.limN];omega
  rw [Nat.zero_add,e,<- set_last hol] at hq
  refine rPlusA _ _ _ _ _ _ _ _ ⟨fun h => by rw [limN_len] at h;omega,fun _ => ?_⟩
  rw [limN_len,Int.toNat_natCast,hq]
  have hR:R.length = i + 1:=by rw [<- hq];simpa using hol
  exact ⟨by omega,by omega,by unfold Sp.short;omega,.refl _⟩
 | k + 1,i,o,c,hi,hc,hol,hq => by
  have gx:=limN_getD v (show i < n by omega)
  rw [plus_step,div_next,div_next] at hq
  have nxt:∀ (d c':Int),d = (((v / 1000000000 ^ i % 1000000000 + w / 1000000000 ^ i % 1000000000 + c) % 1000000000:Nat):Int) -> c' = (((v / 1000000000 ^ i % 1000000000 + w / 1000000000 ^ i % 1000000000 + c) / 1000000000:Nat):Int) -> (v / 1000000000 ^ i % 1000000000 + w / 1000000000 ^ i % 1000000000 + c) / 1000000000 <= 1 -> rPlusA_at fa fb (Sp.limN n v) (Sp.limN m w) (o.set i d) c' ((i:Int) + 1) (PureQ (usA false (Sp.trimL R))):=by
   intro d c' hd hc' hc1
   subst hc'
   refine loopPlusR hn hmn hv hw k (i + 1) (o.set i d) _ (by omega) hc1 (by simpa using hol) ?_
   rw [take_set_succ (by omega),<- hq,hd,List.append_assoc];rfl
  refine rPlusA _ _ _ _ _ _ _ _ ⟨fun _ => ?_,fun h => by rw [limN_len] at h;omega⟩
  rw [Int.toNat_natCast,gx,limN_len,limN_len]
  by_cases him:i < m
  ·rw [limN_getD w him]
   generalize v / 1000000000 ^ i = V at nxt
   generalize w / 1000000000 ^ i = W at nxt
   have e3:(c:Int) + ((V % 1000000000:Nat):Int) + ((W % 1000000000:Nat):Int) = ((V % 1000000000 + W % 1000000000 + c:Nat):Int):=by omega
   rw [e3,tdivB,tmodB]
   exact ⟨by omega,by omega,by omega,fun _ => ⟨by omega,by omega,by omega,by omega,by omega,nxt _ _ rfl rfl (by omega)⟩,fun h => by omega⟩
  ·have hW:=fits_div hw (show m <= i by omega)
   rw [hW] at nxt
   generalize v / 1000000000 ^ i = V at nxt
   have e3:(c:Int) + ((V % 1000000000:Nat):Int) = ((V % 1000000000 + 0 % 1000000000 + c:Nat):Int):=by omega
   rw [e3,tdivB,tmodB]
   exact ⟨by omega,by omega,by omega,fun h => by omega,fun _ => ⟨by omega,by omega,by omega,nxt _ _ rfl rfl (by omega)⟩⟩
theorem rplusN (fa fb:Bool) (v w:Nat) (h1:Sp.cnt v <= 900000) (h2:Sp.cnt w <= 900000):Ev M1 (.pure 122 [usA fa (Sp.lim v),usA fb (Sp.lim w)]) (usA false (Sp.lim (v + w))) []:=by
 refine call122 (rPlus _ _ _ _ _ ?_)
 rw [lim_len,lim_len]
 refine ⟨fun k => ⟨by omega,by omega,by omega,by omega,?_⟩,fun k => ⟨by omega,by omega,by omega,by omega,?_⟩⟩
 ·have hf:Sp.fits (Sp.cnt w + 1) (w + v):=fits_sum (fits_self w) (fits_mono (fits_self v) (by omega))
  have e:((Sp.cnt w:Int) + 1).toNat = Sp.cnt w + 1:=by omega
  have:=loopPlusR (fa:=fb) (fb:=fa) (v:=w) (w:=v) (R:=Sp.limN (Sp.cnt w + 1) (w + v)) h2 (show Sp.cnt v <= Sp.cnt w by omega) (fits_self _) (fits_self _) (Sp.cnt w) 0 (List.replicate (Sp.cnt w + 1) 0) 0 (by omega) (by omega) (by simp) (by simp)
  rw [trimL_limN hf,Nat.add_comm w v] at this
  rw [e];exact this
 ·have hf:Sp.fits (Sp.cnt v + 1) (v + w):=fits_sum (fits_self v) (fits_mono (fits_self w) (by omega))
  have e:((Sp.cnt v:Int) + 1).toNat = Sp.cnt v + 1:=by omega
  have:=loopPlusR (fa:=fa) (fb:=fb) (v:=v) (w:=w) (R:=Sp.limN (Sp.cnt v + 1) (v + w)) h1 (show Sp.cnt w <= Sp.cnt v by omega) (fits_self _) (fits_self _) (Sp.cnt v) 0 (List.replicate (Sp.cnt v + 1) 0) 0 (by omega) (by omega) (by simp) (by simp)
  rw [trimL_limN hf] at this
  rw [e];exact this
theorem ev122 (fa fb:Bool) (v w:Int) (h:Sp.okB v /\ Sp.okB w):Ev M1 (.pure 122 [usA fa (Sp.limI v),usA fb (Sp.limI w)]) (usA false (Sp.lim (v.natAbs + w.natAbs))) []:=
 rplusN fa fb _ _ (by have:=h.1;unfold Sp.okB at this;omega) (by have:=h.2;unfold Sp.okB at this;omega)
theorem loopMinusR {fa fb:Bool} {n m v w:Nat} {R:List Int} (hn:n <= 1000000) (hv:Sp.fits n v) (hw:Sp.fits m w) (hm:m <= 1000000):∀ (k i:Nat) (o:List Int) (c:Nat),i + k = n -> c <= 1 -> o.length = n -> w / 1000000000 ^ i + c <= v / 1000000000 ^ i ->
  o.take i ++ Sp.limN k (v / 1000000000 ^ i - w / 1000000000 ^ i - c) = R -> rMinusA_at fa fb (Sp.limN n v) (Sp.limN m w) o c i (PureQ (usA false (Sp.trimL R)))
 | 0,i,o,c,hi,hc,hol,hle,hq => by
  rw [List.take_of_length_le (by omega),Sp.limN,List.append_nil] at hq
  refine rMinusA _ _ _ _ _ _ _ _ ⟨fun h => by rw [limN_len] at h;omega,fun _ => ?_⟩
  rw [hq]
  rw [hq] at hol
  exact ⟨by unfold Sp.short;omega,.refl _⟩
 | k + 1,i,o,c,hi,hc,hol,hle,hq => by
  have gx:=limN_getD v (show i < n by omega)
  obtain ⟨s1,s2⟩:=minus_step k (v / 1000000000 ^ i) (w / 1000000000 ^ i) c hle hc
  rw [div_next,div_next] at s1 s2
  have nxt1:v / 1000000000 ^ i % 1000000000 < w / 1000000000 ^ i % 1000000000 + c -> ∀ d:Int,((v / 1000000000 ^ i % 1000000000 + 1000000000 - (w / 1000000000 ^ i % 1000000000 + c):Nat):Int) = d -> rMinusA_at fa fb (Sp.limN n v) (Sp.limN m w) (o.set i d) (1:Nat) ((i:Int) + 1) (PureQ (usA false (Sp.trimL R))):=by
   intro hlt d hd
   obtain ⟨t1,t2⟩:=s1 hlt
   refine loopMinusR hn hv hw hm k (i + 1) (o.set i d) 1 (by omega) (by omega) (by simpa using hol) t2 ?_
   rw [take_set_succ (by omega),<- hq,t1,hd,List.append_assoc];rfl
  have nxt0:¬v / 1000000000 ^ i % 1000000000 < w / 1000000000 ^ i % 1000000000 + c -> ∀ d:Int,((v / 1000000000 ^ i % 1000000000 - (w / 1000000000 ^ i % 1000000000 + c):Nat):Int) = d -> rMinusA_at fa fb (Sp.limN n v) (Sp.limN m w) (o.set i d) (0:Nat) ((i:Int) + 1) (PureQ (usA false (Sp.trimL R))):=by
   intro hlt d hd
   obtain ⟨t1,t2⟩:=s2 hlt
   refine loopMinusR hn hv hw hm k (i + 1) (o.set i d) 0 (by omega) (by omega) (by simpa using hol) t2 ?_
   rw [take_set_succ (by omega),<- hq,t1,hd,List.append_assoc];rfl
  refine rMinusA _ _ _ _ _ _ _ _ ⟨fun _ => ?_,fun h => by rw [limN_len] at h;omega⟩
  rw [Int.toNat_natCast,gx,limN_len,limN_len]
  by_cases him:i < m
  ·rw [limN_getD w him]
   generalize v / 1000000000 ^ i = V at nxt0 nxt1
   generalize w / 1000000000 ^ i = W at nxt0 nxt1
   exact ⟨by omega,by omega,by omega,by omega,fun _ => ⟨by omega,by omega,fun h => ⟨by omega,by omega,by omega,nxt0 (by omega) _ (by omega)⟩,fun h => ⟨by omega,by omega,nxt1 (by omega) _ (by omega)⟩⟩,fun h => by omega⟩
  ·have hW:=fits_div hw (show m <= i by omega)
   rw [hW] at nxt0 nxt1
   generalize v / 1000000000 ^ i = V at nxt0 nxt1
   exact ⟨by omega,by omega,by omega,by omega,fun h => by omega,fun _ => ⟨fun h => ⟨by omega,by omega,by omega,nxt0 (by omega) _ (by omega)⟩,fun h => ⟨by omega,by omega,nxt1 (by omega) _ (by omega)⟩⟩⟩
theorem rminusN (fa fb:Bool) (v w:Nat) (h1:Sp.cnt v <= 1000000) (h3:w <= v):Ev M1 (.pure 116 [usA fa (Sp.lim v),usA fb (Sp.lim w)]) (usA false (Sp.lim (v - w))) []:=by
 have h2:=cnt_mono h3
 refine call116 (rMinus _ _ _ _ _ ?_)
 rw [lim_len,Int.toNat_natCast]
 refine ⟨by omega,by omega,by omega,?_⟩
 have:=loopMinusR (fa:=fa) (fb:=fb) (v:=v) (w:=w) (R:=Sp.limN (Sp.cnt v) (v - w)) h1 (fits_self _) (fits_self w) (by omega) (Sp.cnt v) 0 (List.replicate (Sp.cnt v) 0) 0 (by omega) (by omega) (by simp) (by simpa using h3) (by simp)
 rw [trimL_limN (fits_le (fits_self v) (Nat.sub_le _ _))] at this
 exact this
theorem ev116 (fa fb:Bool) (v w:Int) (h:Sp.ok v /\ w.natAbs <= v.natAbs):Ev M1 (.pure 116 [usA fa (Sp.limI v),usA fb (Sp.limI w)]) (usA false (Sp.lim (v.natAbs - w.natAbs))) []:=rminusN fa fb _ _ h.1 h.2
theorem ev116_a (fa fb:Bool) (v w:Nat) (h:Sp.short (Sp.cnt v) /\ w <= v):Ev M1 (.pure 116 [usA fa (Sp.lim v),usA fb (Sp.lim w)]) (usA false (Sp.lim (v - w))) []:=rminusN fa fb _ _ h.1 h.2
theorem loopTimesBR {fa fb:Bool} {n v m w i K:Nat} {Q0:List Int} {Q:AV} (hm:m <= 1000000) (hn:n <= 1000000) (hi:i < n) (hK:K <= 1000000) (hw:Sp.fits m w)
  (hq:∀ o:List Int,o = Q0 ++ Sp.zs K -> rTimesA_at fa fb (Sp.limN n v) (Sp.limN m w) o ((i:Int) + 1) (PureQ Q)) :
  ∀ (r j:Nat) (o:List Int) (U c:Nat),j + r = m -> o.length = i + m + 1 + K -> c < 1000000000 -> Sp.fits r U -> o.drop (i + j) = Sp.limN r U ++ Sp.zs (K + 1) -> o.take (i + j) ++ Sp.limN (r + 1) (U + v / 1000000000 ^ i % 1000000000 * (w / 1000000000 ^ j) + c) = Q0 ->
   rTimesB_at fa fb (Sp.limN n v) (Sp.limN m w) o i c j (PureQ Q)
 | 0,j,o,U,c,hj,hol,hc,hU,ho,hQ => by
  have hU0:=fits_zero.1 hU
  have hj':j = m:=by omega
  subst hj'
  rw [fits_div hw (Nat.le_refl _),hU0,Nat.mul_zero] at hQ
  have e:Sp.limN 1 (0 + 0 + c) = [(c:Int)]:=by simp [Sp.limN];omega
  rw [Nat.zero_add,e] at hQ
  rw [hU0,Sp.limN,List.nil_append] at ho
  refine rTimesB _ _ _ _ _ _ _ _ _ ⟨fun h => by rw [limN_len] at h;omega,fun _ => ?_⟩
  rw [limN_len]
  have e1:((i:Int) + (j:Int)).toNat = i + j:=by omega
  rw [e1]
  refine ⟨by omega,by omega,by omega,by omega,by omega,hq _ ?_⟩
  have ho2:o.drop (i + j + 1) = Sp.zs K:=by
   rw [show i + j + 1 = 1 + (i + j) by omega,Nat.add_comm 1,<- List.drop_drop,ho];rfl
  rw [<- hQ,<- ho2]
  rw [List.set_eq_take_append_cons_drop,if_pos (by omega),List.append_assoc];rfl
 | r + 1,j,o,U,c,hj,hol,hc,hU,ho,hQ => by
  have gx:=limN_getD v hi
  have gy:=limN_getD w (show j < m by omega)
  have hx:v / 1000000000 ^ i % 1000000000 < 1000000000:=Nat.mod_lt _ (by omega)
  have e1:((i:Int) + (j:Int)).toNat = i + j:=by omega
  have hod:=drop_getD (d:=o) (i:=i + j) (by omega)
  rw [ho,limN_succ,List.cons_append] at hod
  obtain ⟨g1,g2⟩:=List.cons.inj hod
  have hu:U % 1000000000 < 1000000000:=Nat.mod_lt _ (by omega)
  have hy:w / 1000000000 ^ j % 1000000000 < 1000000000:=Nat.mod_lt _ (by omega)
  obtain ⟨w1,w2⟩:=times_word hu hx hy hc
  rw [times_step,div_next] at hQ
  refine rTimesB _ _ _ _ _ _ _ _ _ ⟨fun _ => ?_,fun h => by rw [limN_len] at h;omega⟩
  rw [Int.toNat_natCast,Int.toNat_natCast,e1,gy,gx,limN_len,limN_len,<- g1]
  have c1:((v / 1000000000 ^ i % 1000000000:Nat):Int) * ((w / 1000000000 ^ j % 1000000000:Nat):Int) = ((v / 1000000000 ^ i % 1000000000 * (w / 1000000000 ^ j % 1000000000):Nat):Int):=(Int.natCast_mul _ _).symm
  rw [c1]
  have main:∀ d c':Int,d = (((U % 1000000000 + v / 1000000000 ^ i % 1000000000 * (w / 1000000000 ^ j % 1000000000) + c) % 1000000000:Nat):Int) -> c' = (((U % 1000000000 + v / 1000000000 ^ i % 1000000000 * (w / 1000000000 ^ j % 1000000000) + c) / 1000000000:Nat):Int) ->
    rTimesB_at fa fb (Sp.limN n v) (Sp.limN m w) (o.set (i + j) d) i c' ((j:Int) + 1) (PureQ Q):=by
   intro d c' hd hc'
   subst hc'
   refine loopTimesBR hm hn hi hK hw hq r (j + 1) _ (U / 1000000000) _ (by omega) (by simpa using hol) w2 (fits_succ.1 hU) ?_ ?_
   ·rw [show i + (j + 1) = i + j + 1 by omega,List.drop_set_of_lt (by omega),<- g2]
   ·rw [show i + (j + 1) = i + j + 1 by omega,take_set_succ (by omega),<- hQ,hd,List.append_assoc];rfl
  have hx':((v / 1000000000 ^ i % 1000000000:Nat):Int) <= 18446744073709551615:=by
   generalize v / 1000000000 ^ i % 1000000000 = z at hx;omega
  have hy':((w / 1000000000 ^ j % 1000000000:Nat):Int) <= 18446744073709551615:=by
   generalize w / 1000000000 ^ j % 1000000000 = z at hy;omega
  generalize v / 1000000000 ^ i % 1000000000 * (w / 1000000000 ^ j % 1000000000) = p at w1 w2 main
  have hu':((U % 1000000000:Nat):Int) < 1000000000:=by omega
  generalize U % 1000000000 = u at w1 w2 main hu'
  have c2:((c:Nat):Int) + ((u:Nat):Int) + ((p:Nat):Int) = ((u + p + c:Nat):Int):=by omega
  rw [c2,tdivB,tmodB]
  exact ⟨by omega,by omega,by omega,by omega,by omega,by omega,by omega,by omega,by omega,⟨Int.natCast_nonneg _,hx'⟩,⟨Int.natCast_nonneg _,hy'⟩,by omega,by omega,by omega,by omega,by omega,main _ _ rfl rfl⟩
theorem loopTimesAR {fa fb:Bool} {n m v w:Nat} {R:List Int} (hn:n <= 400000) (hm:m <= 400000) (hv:Sp.fits n v) (hw:Sp.fits m w) :
  ∀ (k i:Nat) (o:List Int) (U:Nat),i + k = n -> o.length = n + m -> Sp.fits m U -> o.drop i = Sp.limN m U ++ Sp.zs k -> o.take i ++ Sp.limN (m + k) (U + v / 1000000000 ^ i * w) = R -> rTimesA_at fa fb (Sp.limN n v) (Sp.limN m w) o i (PureQ (usA false (Sp.trimL R)))
 | 0,i,o,U,hi,hol,hU,ho,hR => by
  have hi':i = n:=by omega
  subst hi'
  rw [fits_div hv (Nat.le_refl _),Nat.zero_mul,Nat.add_zero,Nat.add_zero] at hR
  have e:Sp.limN m U ++ Sp.zs 0 = Sp.limN m U:=by simp [Sp.zs]
  rw [e] at ho
  rw [<- ho,List.take_append_drop] at hR
  refine rTimesA _ _ _ _ _ _ _ ⟨fun h => by rw [limN_len] at h;omega,fun _ => ?_⟩
  rw [hR]
  rw [hR] at hol
  exact ⟨by unfold Sp.short;omega,.refl _⟩
 | k + 1,i,o,U,hi,hol,hU,ho,hR => by
  have hx:v / 1000000000 ^ i % 1000000000 < 1000000000:=Nat.mod_lt _ (by omega)
  refine rTimesA _ _ _ _ _ _ _ ⟨fun _ => ?_,fun h => by rw [limN_len] at h;omega⟩
  have hf:Sp.fits (m + 1) (U + v / 1000000000 ^ i % 1000000000 * w):=fits_mul rfl hU hw hx
  have step:U + v / 1000000000 ^ i * w = U + v / 1000000000 ^ i % 1000000000 * w + 1000000000 * (v / 1000000000 ^ (i + 1) * w):=by
   have hs:=digit_split v i
   generalize v / 1000000000 ^ (i + 1) = V' at hs ⊢
   generalize v / 1000000000 ^ i % 1000000000 = d at hs ⊢
   rw [hs];grind
  refine loopTimesBR (Q0:=o.take i ++ Sp.limN (m + 1) (U + v / 1000000000 ^ i % 1000000000 * w)) (K:=k) (by omega) (by omega) (by omega) (by omega) hw (fun o' ho' => ?_) m 0 o U 0 (by omega) (by omega) (by omega) hU ho (by simp)
  have hlen:(o.take i).length = i:=by rw [List.length_take];omega
  refine loopTimesAR hn hm hv hw k (i + 1) o' ((U + v / 1000000000 ^ i % 1000000000 * w) / 1000000000) (by omega) ?_ (fits_succ.1 hf) ?_ ?_
  ·rw [ho']
   simp only [List.length_append,hlen,limN_len,Sp.zs,List.length_replicate]
   omega
  ·rw [ho',limN_succ]
   have e1:i + 1 = (o.take i ++ [(((U + v / 1000000000 ^ i % 1000000000 * w) % 1000000000:Nat):Int)]).length:=by simp [hlen]
   rw [e1]
   have e2:o.take i ++ ((((U + v / 1000000000 ^ i % 1000000000 * w) % 1000000000:Nat):Int) :: Sp.limN m ((U + v / 1000000000 ^ i % 1000000000 * w) / 1000000000)) ++ Sp.zs k
     = (o.take i ++ [(((U + v / 1000000000 ^ i % 1000000000 * w) % 1000000000:Nat):Int)]) ++ (Sp.limN m ((U + v / 1000000000 ^ i % 1000000000 * w) / 1000000000) ++ Sp.zs k):=by simp
   rw [e2,List.drop_left]
  ·rw [<- hR,ho',limN_succ,show m + (k + 1) = (m + k) + 1 by omega,limN_succ (m + k)]
   have e1:i + 1 = (o.take i ++ [(((U + v / 1000000000 ^ i % 1000000000 * w) % 1000000000:Nat):Int)]).length:=by simp [hlen]
   have e2:o.take i ++ ((((U + v / 1000000000 ^ i % 1000000000 * w) % 1000000000:Nat):Int) :: Sp.limN m ((U + v / 1000000000 ^ i % 1000000000 * w) / 1000000000)) ++ Sp.zs k
     = (o.take i ++ [(((U + v / 1000000000 ^ i % 1000000000 * w) % 1000000000:Nat):Int)]) ++ (Sp.limN m ((U + v / 1000000000 ^ i % 1000000000 * w) / 1000000000) ++ Sp.zs k):=by simp
   rw [e2,e1,List.take_left,List.append_assoc]
   have e3:(U + v / 1000000000 ^ i * w) % 1000000000 = (U + v / 1000000000 ^ i % 1000000000 * w) % 1000000000:=by rw [step];omega
   have e4:(U + v / 1000000000 ^ i * w) / 1000000000 = (U + v / 1000000000 ^ i % 1000000000 * w) / 1000000000 + v / 1000000000 ^ (i + 1) * w:=by rw [step];omega
   rw [e3,e4,<- e1];rfl
theorem rtimesN (fa fb:Bool) (n v m w:Nat) (h:n <= 400000 /\ m <= 400000 /\ Sp.fits n v /\ Sp.fits m w):Ev M1 (.pure 86 [usA fa (Sp.limN n v),usA fb (Sp.limN m w)]) (usA false (Sp.lim (v * w))) []:=by
 obtain ⟨h1,h2,h3,h4⟩:=h
 refine call86 (rTimes _ _ _ _ _ ?_)
 rw [limN_len,limN_len]
 have e:((n:Int) + (m:Int)).toNat = n + m:=by omega
 rw [e]
 refine ⟨by omega,by omega,by omega,by omega,?_⟩
 have:=loopTimesAR (fa:=fa) (fb:=fb) (R:=Sp.limN (n + m) (v * w)) h1 h2 h3 h4 n 0 (List.replicate (n + m) 0) 0 (by omega) (by simp) (fits_cnt.2 (by rw [cnt_zero];omega)) (by
  rw [List.drop_zero,limN_zero];unfold Sp.zs;rw [List.replicate_append_replicate,Nat.add_comm]) (by simp [Nat.add_comm])
 rw [trimL_limN (fits_prod h3 h4)] at this
 exact this
theorem ev86 (fa fb:Bool) (v w:Int) (h:Sp.okB v /\ Sp.okB w):Ev M1 (.pure 86 [usA fa (Sp.limI v),usA fb (Sp.limI w)]) (usA false (Sp.lim (v.natAbs * w.natAbs))) []:=rtimesN fa fb _ _ _ _ ⟨h.1,h.2,fits_self _,fits_self _⟩
theorem ev86_a (fa fb:Bool) (v w:Nat) (h:Sp.okB v /\ Sp.okB w):Ev M1 (.pure 86 [usA fa (Sp.lim v),usA fb (Sp.lim w)]) (usA false (Sp.lim (v * w))) []:=rtimesN fa fb _ _ _ _ ⟨h.1,h.2,fits_self _,fits_self _⟩
end Go.Av

namespace Go.Av
open Go.Proofs
set_option maxRecDepth 100000
def fi44:Fi:=⟨18,[.tmp 4]⟩
def kp44:List (Nat × List Nat):=[(0,[2,3]),(1,[4])]
def fi47:Fi:=⟨24,[.tmp 4]⟩
def kp47:List (Nat × List Nat):=[(0,[2,3]),(1,[2,3,9]),(2,[11]),(3,[4]),(4,[4]),(5,[2,3,13]),(6,[4]),(7,[4])]
def fi48:Fi:=⟨16,[.cell 4 34]⟩
def kp48:List (Nat × List Nat):=[(0,[2,3,4]),(1,[4])]
def fi96:Fi:=⟨40,[.cell 4 34]⟩
def kp96:List (Nat × List Nat):=[(0,[2,3,4]),(1,[2,3,4,9]),(2,[4]),(3,[2,3,4,23]),(4,[4]),(5,[4])]
def fi115:Fi:=⟨10,[.tmp 4]⟩
def kp115:List (Nat × List Nat):=[(0,[0,1]),(1,[4])]
def fi120:Fi:=⟨9,[.cell 2 34]⟩
def kp120:List (Nat × List Nat):=[(0,[1,2]),(1,[2])]
def fi131:Fi:=⟨9,[.cell 4 34]⟩
def kp131:List (Nat × List Nat):=[(0,[2,3,4]),(1,[4])]
def rSub_at (fa fb:Bool) (a b:Int) (Q:AV -> Heap -> Prop):Prop:=Wp M1 (.run fi131 (atC (cd Tryz.f131) []) [(0,bigA fa a),(1,bigA fb b)] []) Q
def rAdd_at (fa fb:Bool) (a b:Int) (Q:AV -> Heap -> Prop):Prop:=Wp M1 (.run fi96 (atC (cd Tryz.f96) []) [(0,bigA fa a),(1,bigA fb b)] []) Q
def rMul_at (fa fb:Bool) (a b:Int) (Q:AV -> Heap -> Prop):Prop:=Wp M1 (.run fi48 (atC (cd Tryz.f48) []) [(0,bigA fa a),(1,bigA fb b)] []) Q
def rNeg_at (fa:Bool) (v:Int) (Q:AV -> Heap -> Prop):Prop:=Wp M1 (.run fi120 (atC (cd Tryz.f120) []) [(0,bigA fa v)] []) Q
def rCmp_at (fa fb:Bool) (a b:Int) (Q:AV -> Heap -> Prop):Prop:=Wp M1 (.run fi47 (atC (cd Tryz.f47) []) [(0,bigA fa a),(1,bigA fb b)] []) Q
def rSame_at (fa fb:Bool) (a b:Int) (Q:AV -> Heap -> Prop):Prop:=Wp M1 (.run fi44 (atC (cd Tryz.f44) []) [(0,bigA fa a),(1,bigA fb b)] []) Q
def rBy_at (fa:Bool) (v:Nat) (x:Int) (Q:AV -> Heap -> Prop):Prop:=Wp M1 (.run fi115 (atC (cd Tryz.f115) []) [(0,.vec fa 1 ((Sp.lim v).map (.int .u32))),(1,.int .u32 x)] []) Q
theorem call44 {args:List AV} {d:AV} (h:wc M1 fi44 Tryz.f44 args d):Ev M1 (.pure 44 args) d []:=pcl _ _ (by kernel_rfl) h
theorem call47 {args:List AV} {d:AV} (h:wc M1 fi47 Tryz.f47 args d):Ev M1 (.pure 47 args) d []:=pcl _ _ (by kernel_rfl) h
theorem call48 {args:List AV} {d:AV} (h:wc M1 fi48 Tryz.f48 args d):Ev M1 (.pure 48 args) d []:=pcl _ _ (by kernel_rfl) h
theorem call96 {args:List AV} {d:AV} (h:wc M1 fi96 Tryz.f96 args d):Ev M1 (.pure 96 args) d []:=pcl _ _ (by kernel_rfl) h
theorem call115 {args:List AV} {d:AV} (h:wc M1 fi115 Tryz.f115 args d):Ev M1 (.pure 115 args) d []:=pcl _ _ (by kernel_rfl) h
theorem call120 {args:List AV} {d:AV} (h:wc M1 fi120 Tryz.f120 args d):Ev M1 (.pure 120 args) d []:=pcl _ _ (by kernel_rfl) h
theorem call131 {args:List AV} {d:AV} (h:wc M1 fi131 Tryz.f131 args d):Ev M1 (.pure 131 args) d []:=pcl _ _ (by kernel_rfl) h
theorem rSub (fa fb:Bool) (a b:Int)  (dq:AV) (H :
  ∃ (b1:Bool) (l1:List (Int)),
  (Ev M1 (Conf.pure 120 [bigA fb b]) (ag [vb b1,vf (us l1)]) []) /\
  ∃ (b2:Bool) (l2:List (Int)),
  (Ev M1 (Conf.pure 96 [bigA fa a,ag [vb b1,vf (us l1)]]) (ag [vb b2,vf (us l2)]) []) /\
  Weak (ag [vb b2,vf (us l2)]) dq) :
 rSub_at fa fb a b (PureQ dq):=by
 unfold rSub_at
 obtain ⟨b1,l1,H⟩:=H
 obtain ⟨k1,H⟩:=H
 obtain ⟨b2,l2,H⟩:=H
 obtain ⟨k2,H⟩:=H
 exact path_rq (G:=given kp131 [(1,2,.call (ag [vb b1,vf (us l1)]) none),(1,3,.call (ag [vb b2,vf (us l2)]) none)] []) 1000 [] (ag [vb b2,vf (us l2)]) (by kernel_rfl) (bc rfl (bc rfl (bc rfl b0))) q0 (ce k1 (ce k2 c0)) H
theorem rAdd (fa fb:Bool) (a b:Int)  (dq:AV) (H :
  ((Sp.isNeg a = Sp.isNeg b) -> (Sp.okB a /\ Sp.okB b) /\
   (Sp.short (Sp.cnt (a.natAbs + b.natAbs))) /\
   Weak (bigA false (Sp.sg (Sp.isNeg a) (a.natAbs + b.natAbs))) dq) /\
  (¬(Sp.isNeg a = Sp.isNeg b) -> (Sp.ok a /\ Sp.ok b) /\
   ((Sp.sgnI ((↑a.natAbs:Int) - (↑b.natAbs:Int)) >= 0) -> (Sp.ok a /\ b.natAbs <= a.natAbs) /\
    (Sp.short (Sp.cnt (a.natAbs - b.natAbs))) /\
    Weak (bigA false (Sp.sg (Sp.isNeg a) (a.natAbs - b.natAbs))) dq) /\
   (¬(Sp.sgnI ((↑a.natAbs:Int) - (↑b.natAbs:Int)) >= 0) -> (Sp.ok b /\ a.natAbs <= b.natAbs) /\
    (Sp.short (Sp.cnt (b.natAbs - a.natAbs))) /\
    Weak (bigA false (Sp.sg (Sp.isNeg b) (b.natAbs - a.natAbs))) dq))) :
 rAdd_at fa fb a b (PureQ dq):=by
 unfold rAdd_at
 rcases xm (Sp.isNeg a = Sp.isNeg b) with d2 | d2
 ·have H:=H.1 d2
  obtain ⟨k3,H⟩:=H
  obtain ⟨k4,H⟩:=H
  exact path_rq (G:=given kp96 [(2,6,.call (vf (us (Sp.lim (a.natAbs + b.natAbs)))) none),(2,7,.call (bigA false (Sp.sg (Sp.isNeg a) (a.natAbs + b.natAbs))) none)] []) 1000 [true] (bigA false (Sp.sg (Sp.isNeg a) (a.natAbs + b.natAbs))) (by kernel_rfl) (bc rfl (bc rfl (bc (beq_t (i_eq.2 d2)) (bc rfl (bc rfl (bc rfl (bc rfl b0))))))) q0 (ce (@ev122 (fa) (fb) (a) (b) k3) (ce (@ev83_b (Sp.isNeg a) (false) (a.natAbs + b.natAbs) k4) c0)) H
 ·have H:=H.2 d2
  obtain ⟨k5,H⟩:=H
  refine path_wp (G:=given kp96 [(3,4,.call (vi (Sp.sgnI ((↑a.natAbs:Int) - (↑b.natAbs:Int)))) none)] []) 10 [false] ⟨(atC (cd Tryz.f96) [1,1,0,1]),[(2,AV.ptr 0 0 0 0),(3,AV.ptr 1 0 0 0),(4,AV.ptr 2 0 0 0),(23,vb (decide (Sp.sgnI ((↑a.natAbs:Int) - (↑b.natAbs:Int)) >= 0)))],[⟨[bigA fa a],2,0,false,false⟩,⟨[bigA fb b],2,0,false,false⟩,⟨[ag [vb false,AV.vnil]],2,0,false,false⟩],_,[],_⟩ (by kernel_rfl) (bc rfl (bc rfl (bc (beq_f (fun h => d2 (i_eq.1 h))) (bc rfl (bc rfl b0))))) q0 (ce (@ev81 (fa) (fb) (a) (b) k5) c0) ?_
  rcases xm (Sp.sgnI ((↑a.natAbs:Int) - (↑b.natAbs:Int)) >= 0) with d7 | d7
  ·have H:=H.1 d7
   obtain ⟨k8,H⟩:=H
   obtain ⟨k9,H⟩:=H
   exact path_rq (G:=given kp96 [(4,6,.call (vf (us (Sp.lim (a.natAbs - b.natAbs)))) none),(4,7,.call (bigA false (Sp.sg (Sp.isNeg a) (a.natAbs - b.natAbs))) none)] []) 1000 [true] (bigA false (Sp.sg (Sp.isNeg a) (a.natAbs - b.natAbs))) (by kernel_rfl) (bc (beq_t (i_dec.2 d7)) (bc rfl (bc rfl (bc rfl (bc rfl b0))))) q0 (ce (@ev116 (fa) (fb) (a) (b) k8) (ce (@ev83_b (Sp.isNeg a) (false) (a.natAbs - b.natAbs) k9) c0)) H
  ·have H:=H.2 d7
   obtain ⟨k10,H⟩:=H
   obtain ⟨k11,H⟩:=H
   exact path_rq (G:=given kp96 [(5,6,.call (vf (us (Sp.lim (b.natAbs - a.natAbs)))) none),(5,7,.call (bigA false (Sp.sg (Sp.isNeg b) (b.natAbs - a.natAbs))) none)] []) 1000 [false] (bigA false (Sp.sg (Sp.isNeg b) (b.natAbs - a.natAbs))) (by kernel_rfl) (bc (beq_f (fun h => d7 (i_dec.1 h))) (bc rfl (bc rfl (bc rfl (bc rfl b0))))) q0 (ce (@ev116 (fb) (fa) (b) (a) k10) (ce (@ev83_b (Sp.isNeg b) (false) (b.natAbs - a.natAbs) k11) c0)) H
theorem rMul (fa fb:Bool) (a b:Int)  (dq:AV) (H :
  (Sp.okB a /\ Sp.okB b) /\
  (Sp.short (Sp.cnt (a.natAbs * b.natAbs))) /\
  Weak (bigA false (Sp.sg (!Sp.isNeg a == Sp.isNeg b) (a.natAbs * b.natAbs))) dq) :
 rMul_at fa fb a b (PureQ dq):=by
 unfold rMul_at
 obtain ⟨k1,H⟩:=H
 obtain ⟨k2,H⟩:=H
 exact path_rq (G:=given kp48 [(1,9,.call (vf (us (Sp.lim (a.natAbs * b.natAbs)))) none),(1,10,.call (bigA false (Sp.sg (!Sp.isNeg a == Sp.isNeg b) (a.natAbs * b.natAbs))) none)] []) 1000 [] (bigA false (Sp.sg (!Sp.isNeg a == Sp.isNeg b) (a.natAbs * b.natAbs))) (by kernel_rfl) (bc rfl (bc rfl (bc rfl (bc rfl (bc rfl b0))))) q0 (ce (@ev86 (fa) (fb) (a) (b) k1) (ce (@ev83_b (!Sp.isNeg a == Sp.isNeg b) (false) (a.natAbs * b.natAbs) k2) c0)) H
theorem rNeg (fa:Bool) (v:Int)  (dq:AV) (H :
  (Sp.ok v) /\
  Weak (bigA false (Sp.sg (!Sp.isNeg v) v.natAbs)) dq) :
 rNeg_at fa v (PureQ dq):=by
 unfold rNeg_at
 obtain ⟨k1,H⟩:=H
 exact path_rq (G:=given kp120 [(1,5,.call (bigA false (Sp.sg (!Sp.isNeg v) v.natAbs)) none)] []) 1000 [] (bigA false (Sp.sg (!Sp.isNeg v) v.natAbs)) (by kernel_rfl) (bc rfl (bc rfl (bc rfl b0))) q0 (ce (@ev83_a (!Sp.isNeg v) (fa) (v) k1) c0) H
theorem rCmp (fa fb:Bool) (a b:Int)  (dq:AV) (H :
  ((¬(Sp.isNeg a = Sp.isNeg b)) -> ((Sp.isNeg a = true) -> vi (-1) = dq) /\
   (¬(Sp.isNeg a = true) -> vi 1 = dq)) /\
  (¬(¬(Sp.isNeg a = Sp.isNeg b)) -> ((Sp.isNeg a = true) -> (Sp.ok b /\ Sp.ok a) /\
    vi (Sp.sgnI ((↑b.natAbs:Int) - (↑a.natAbs:Int))) = dq) /\
   (¬(Sp.isNeg a = true) -> (Sp.ok a /\ Sp.ok b) /\
    vi (Sp.sgnI ((↑a.natAbs:Int) - (↑b.natAbs:Int))) = dq))) :
 rCmp_at fa fb a b (PureQ dq):=by
 unfold rCmp_at
 rcases xm (¬(Sp.isNeg a = Sp.isNeg b)) with d2 | d2
 ·have H:=H.1 d2
  rcases xm (Sp.isNeg a = true) with d4 | d4
  ·have H:=H.1 d4
   exact path_re (G:=given kp47 [] []) 1000 [true,true] (asm:=[true,true,(!Sp.isNeg a == Sp.isNeg b) == true,0 == 0,(Sp.isNeg a) == true]) (vi (-1)) (by kernel_rfl) (bc rfl (bc rfl (bc (beq_t ((i_not i_eq).2 d2)) (bc (beq_self_eq_true _) (bc (beq_t ((i_var _).2 d4)) b0))))) q0 c0 H
  ·have H:=H.2 d4
   exact path_re (G:=given kp47 [] []) 1000 [true,false] (asm:=[true,true,(!Sp.isNeg a == Sp.isNeg b) == true,0 == 0,(Sp.isNeg a) == false]) (vi 1) (by kernel_rfl) (bc rfl (bc rfl (bc (beq_t ((i_not i_eq).2 d2)) (bc (beq_self_eq_true _) (bc (beq_f (fun h => d4 ((i_var _).1 h))) b0))))) q0 c0 H
 ·have H:=H.2 d2
  rcases xm (Sp.isNeg a = true) with d6 | d6
  ·have H:=H.1 d6
   obtain ⟨k7,H⟩:=H
   exact path_re (G:=given kp47 [(6,4,.call (vi (Sp.sgnI ((↑b.natAbs:Int) - (↑a.natAbs:Int)))) none)] []) 1000 [false,true] (asm:=[true,true,(!Sp.isNeg a == Sp.isNeg b) == false,0 == 0,(Sp.isNeg a) == true,true,true]) (vi (Sp.sgnI ((↑b.natAbs:Int) - (↑a.natAbs:Int)))) (by kernel_rfl) (bc rfl (bc rfl (bc (beq_f (fun h => d2 ((i_not i_eq).1 h))) (bc (beq_self_eq_true _) (bc (beq_t ((i_var _).2 d6)) (bc rfl (bc rfl b0))))))) q0 (ce (@ev81 (fb) (fa) (b) (a) k7) c0) H
  ·have H:=H.2 d6
   obtain ⟨k8,H⟩:=H
   exact path_re (G:=given kp47 [(7,4,.call (vi (Sp.sgnI ((↑a.natAbs:Int) - (↑b.natAbs:Int)))) none)] []) 1000 [false,false] (asm:=[true,true,(!Sp.isNeg a == Sp.isNeg b) == false,0 == 0,(Sp.isNeg a) == false,true,true]) (vi (Sp.sgnI ((↑a.natAbs:Int) - (↑b.natAbs:Int)))) (by kernel_rfl) (bc rfl (bc rfl (bc (beq_f (fun h => d2 ((i_not i_eq).1 h))) (bc (beq_self_eq_true _) (bc (beq_f (fun h => d6 ((i_var _).1 h))) (bc rfl (bc rfl b0))))))) q0 (ce (@ev81 (fa) (fb) (a) (b) k8) c0) H
theorem rSame (fa fb:Bool) (a b:Int)  (dq:AV) (H :
  ((Sp.isNeg a = Sp.isNeg b) -> (Sp.ok a /\ Sp.ok b)) /\
  vb (bif Sp.isNeg a == Sp.isNeg b then Sp.sgnI ((↑a.natAbs:Int) - (↑b.natAbs:Int)) == 0 else false) = dq) :
 rSame_at fa fb a b (PureQ dq):=by
 unfold rSame_at
 obtain ⟨k2,H⟩:=H
 exact path_re (G:=given kp44 [(1,10,.call (vi (Sp.sgnI ((↑a.natAbs:Int) - (↑b.natAbs:Int)))) none)] []) 1000 [] (asm:=[true,true,!((Sp.isNeg a == Sp.isNeg b) == true && true) || true,!((Sp.isNeg a == Sp.isNeg b) == true && true) || true]) (calls:=[⟨(Sp.isNeg a == Sp.isNeg b) == true && true && true,false,81,[AV.vec fa 1 (us (Sp.limI a)),AV.vec fb 1 (us (Sp.limI b))],[],vi (Sp.sgnI ((↑a.natAbs:Int) - (↑b.natAbs:Int))),[]⟩]) (vb (bif Sp.isNeg a == Sp.isNeg b then Sp.sgnI ((↑a.natAbs:Int) - (↑b.natAbs:Int)) == 0 else false)) (by kernel_rfl) (bc rfl (bc rfl (bc (Bool.or_true _) (bc (Bool.or_true _) b0)))) q0 (cc (fun hc => ((@ev81 (fa) (fb) (a) (b) (k2 ((i_at (i_at (i_bt i_eq))).1 hc))):Ev M1 (Conf.pure 81 [AV.vec fa 1 (us (Sp.limI a)),AV.vec fb 1 (us (Sp.limI b))]) (vi (Sp.sgnI ((↑a.natAbs:Int) - (↑b.natAbs:Int)))) [])) c0) H
theorem rBy (fa:Bool) (v:Nat) (x:Int)  (dq:AV) (H :
  ∃ (l1:List (Int)),
  (Ev M1 (Conf.pure 80 [AV.vec true 1 [vu x]]) (vf (us l1)) []) /\
  ∃ (l2:List (Int)),
  (Ev M1 (Conf.pure 86 [AV.vec fa 1 (us (Sp.lim v)),vf (us l1)]) (vf (us l2)) []) /\
  Weak (vf (us l2)) dq) :
 rBy_at fa v x (PureQ dq):=by
 unfold rBy_at
 obtain ⟨l1,H⟩:=H
 obtain ⟨k1,H⟩:=H
 obtain ⟨l2,H⟩:=H
 obtain ⟨k2,H⟩:=H
 exact path_rq (G:=given kp115 [(1,3,.call (vf (us l1)) none),(1,4,.call (vf (us l2)) none)] []) 1000 [] (vf (us l2)) (by kernel_rfl) b0 q0 (ce k1 (ce k2 c0)) H
end Go.Av

namespace Go.Av
open Go.Proofs
theorem cnt_le_of_fits {n v:Nat} (h:Sp.fits n v):Sp.cnt v <= n:=fits_cnt.1 h
theorem sgnI_zero {n:Int}:Sp.sgnI n = 0 ↔ n = 0:=by
 unfold Sp.sgnI
 (repeat' split) <;> omega
theorem ev96 (fa fb:Bool) (a b:Int) (h:Sp.okB a /\ Sp.okB b):Ev M1 (.pure 96 [bigA fa a,bigA fb b]) (bigA false (a + b)) []:=by
 obtain ⟨ha,hb⟩:=h
 have oa:=okB_ok ha
 have ob:=okB_ok hb
 have ha':=ha
 have hb':=hb
 unfold Sp.okB at ha' hb'
 refine call96 (rAdd _ _ _ _ _ ⟨fun h => ⟨⟨ha,hb⟩,?_,?_⟩,fun h => ⟨⟨oa,ob⟩,fun k => ⟨⟨oa,?_⟩,?_,?_⟩,fun k => ⟨⟨ob,?_⟩,?_,?_⟩⟩⟩)
 ·have:=cnt_le_of_fits (fits_sum (fits_mono (fits_self a.natAbs) ha') (fits_mono (fits_self b.natAbs) hb'))
  unfold Sp.short;omega
 ·rw [sg_add h];exact .refl _
 ·have k:¬(Sp.sgnI ((a.natAbs:Int) - (b.natAbs:Int)) < 0):=by omega
  rw [sgnI_lt] at k;omega
 ·have:=cnt_mono (Nat.sub_le a.natAbs b.natAbs)
  unfold Sp.short;omega
 ·have k:¬(Sp.sgnI ((a.natAbs:Int) - (b.natAbs:Int)) < 0):=by omega
  rw [sgnI_lt] at k
  rw [sg_sub h (by omega)];exact .refl _
 ·have k:Sp.sgnI ((a.natAbs:Int) - (b.natAbs:Int)) < 0:=by omega
  rw [sgnI_lt] at k;omega
 ·have:=cnt_mono (Nat.sub_le b.natAbs a.natAbs)
  unfold Sp.short;omega
 ·have k:Sp.sgnI ((a.natAbs:Int) - (b.natAbs:Int)) < 0:=by omega
  rw [sgnI_lt] at k
  rw [sg_sub (fun x => h x.symm) (by omega),Int.add_comm];exact .refl _
theorem ev48 (fa fb:Bool) (a b:Int) (h:Sp.okB a /\ Sp.okB b):Ev M1 (.pure 48 [bigA fa a,bigA fb b]) (bigA false (a * b)) []:=by
 refine call48 (rMul _ _ _ _ _ ⟨h,?_,?_⟩)
 ·have:=cnt_le_of_fits (fits_prod (fits_mono (fits_self a.natAbs) h.1) (fits_mono (fits_self b.natAbs) h.2))
  unfold Sp.short;omega
 ·rw [sg_mul];exact .refl _
theorem sg_not (v:Int):Sp.sg (!Sp.isNeg v) v.natAbs = -v:=by
 unfold Sp.sg
 by_cases k:v < 0
 ·rw [isNeg_iff.2 k,if_neg (by simp)];omega
 ·rw [isNeg_false k,if_pos (by simp)];omega
theorem ev120 (fa:Bool) (v:Int) (h:Sp.ok v):Ev M1 (.pure 120 [bigA fa v]) (bigA false (-v)) []:=by
 refine call120 (rNeg _ _ _ ⟨h,?_⟩)
 rw [sg_not];exact .refl _
theorem ev131 (fa fb:Bool) (a b:Int) (h:Sp.okB a /\ Sp.okB b):Ev M1 (.pure 131 [bigA fa a,bigA fb b]) (bigA false (a - b)) []:=by
 have hb:Sp.okB (-b):=by have:=h.2;unfold Sp.okB at *;rwa [Int.natAbs_neg]
 have en:=ev120 fb b (okB_ok h.2)
 have ea:=ev96 fa false a (-b) ⟨h.1,hb⟩
 exact call131 (rSub _ _ _ _ _ ⟨_,_,en,_,_,ea,.refl _⟩)
theorem ev131_a (fa:Bool) (a:Int) (h:Sp.okB a):Ev M1 (.pure 131 [bigA fa a,.agg [.bool false,.vec false 1 ((Sp.limI 1).map (.int .u32))]]) (bigA false (a - 1)) []:=
 ev131 fa false a 1 ⟨h,okB_small (by decide)⟩
theorem ev47 (fa fb:Bool) (a b:Int) (h:Sp.okB a /\ Sp.okB b):Ev M1 (.pure 47 [bigA fa a,bigA fb b]) (.int .i64 (Sp.sgnI (a - b))) []:=by
 have oa:=okB_ok h.1
 have ob:=okB_ok h.2
 refine call47 (rCmp _ _ _ _ _ ⟨fun k => ⟨fun ka => ?_,fun ka => ?_⟩,fun k => ⟨fun ka => ⟨⟨ob,oa⟩,?_⟩,fun ka => ⟨⟨oa,ob⟩,?_⟩⟩⟩)
 ·have kb:¬b < 0:=fun x => k (by rw [ka,isNeg_iff.2 x])
  rw [isNeg_iff] at ka
  congr 1;unfold Sp.sgnI;rw [if_pos (by omega)]
 ·have kb:b < 0:=by
   by_cases kb:b < 0
   ·exact kb
   ·exact absurd (by rw [Bool.eq_false_iff.2 ka,isNeg_false kb]) k
  have ka:¬a < 0:=fun x => ka (isNeg_iff.2 x)
  congr 1;unfold Sp.sgnI;rw [if_neg (by omega),if_pos (by omega)]
 ·have k:=Classical.not_not.1 k
  have kb:=isNeg_iff.1 (k ▸ ka)
  rw [isNeg_iff] at ka
  congr 2;omega
 ·have k:=Classical.not_not.1 k
  have kb:¬b < 0:=fun x => ka (by rw [k];exact isNeg_iff.2 x)
  have ka:¬a < 0:=fun x => ka (isNeg_iff.2 x)
  congr 2;omega
theorem ev44 (fa fb:Bool) (a b:Int) (h:Sp.ok a /\ Sp.ok b):Ev M1 (.pure 44 [bigA fa a,bigA fb b]) (.bool (decide (a = b))) []:=by
 refine call44 (rSame _ _ _ _ _ ⟨fun _ => h,?_⟩)
 congr 1
 by_cases ka:a < 0 <;> by_cases kb:b < 0
 ·rw [isNeg_iff.2 ka,isNeg_iff.2 kb]
  have:(Sp.sgnI ((a.natAbs:Int) - (b.natAbs:Int)) == 0) = decide (a = b):=by
   rw [Bool.eq_iff_iff,beq_iff_eq,sgnI_zero,decide_eq_true_eq];omega
  simpa using this
 ·rw [isNeg_iff.2 ka,isNeg_false kb]
  have:decide (a = b) = false:=decide_eq_false (by omega)
  rw [this];rfl
 ·rw [isNeg_false ka,isNeg_iff.2 kb]
  have:decide (a = b) = false:=decide_eq_false (by omega)
  rw [this];rfl
 ·rw [isNeg_false ka,isNeg_false kb]
  have:(Sp.sgnI ((a.natAbs:Int) - (b.natAbs:Int)) == 0) = decide (a = b):=by
   rw [Bool.eq_iff_iff,beq_iff_eq,sgnI_zero,decide_eq_true_eq];omega
  simpa using this
def Sp.dig (x:Int):Prop:=0 <= x /\ x < 1000000000
theorem ev115 (fa:Bool) (v:Nat) (x:Int) (h:Sp.okB v /\ Sp.dig x):Ev M1 (.pure 115 [usA fa (Sp.lim v),.int .u32 x]) (usA false (Sp.lim (v * x.toNat))) []:=by
 obtain ⟨h1,h2,h3⟩:=h
 have e:[AV.int .u32 x] = (Sp.limN 1 x.toNat).map (.int .u32):=by
  simp only [Sp.limN,List.map_cons,List.map_nil]
  have:((x.toNat % 1000000000:Nat):Int) = x:=by omega
  rw [this]
 have hx:Sp.fits 1 x.toNat:=by unfold Sp.fits;omega
 have t1:=rtrimN true 1 x.toNat ⟨by unfold Sp.short;omega,hx⟩
 have hc:=cnt_le_of_fits hx
 have t2:=ev86_a fa false v x.toNat ⟨h1,by unfold Sp.okB;rw [Int.natAbs_natCast];omega⟩
 have t1':Ev M1 (.pure 80 [.vec true 1 [.int .u32 x]]) (usA false (Sp.lim x.toNat)) []:=by rw [e];exact t1
 exact call115 (rBy _ _ _ _ ⟨_,t1',_,t2,.refl _⟩)
theorem lim_cons (x R:Nat) (hx:x < 1000000000):Sp.trimL ((x:Int) :: Sp.lim R) = Sp.lim (x + 1000000000 * R):=by
 have e:((x:Int) :: Sp.lim R) = Sp.limN (Sp.cnt R + 1) (x + 1000000000 * R):=by
  rw [limN_succ]
  have e1:(x + 1000000000 * R) % 1000000000 = x:=by omega
  have e2:(x + 1000000000 * R) / 1000000000 = R:=by omega
  rw [e1,e2];rfl
 rw [e]
 refine trimL_limN (fits_succ.2 ?_)
 have e2:(x + 1000000000 * R) / 1000000000 = R:=by omega
 rw [e2];exact fits_self R
end Go.Av

namespace Go.Av
open Go.Proofs
theorem ev80_c (fa:Bool) (x:Int) (R:Nat) (h:0 <= x /\ x < 1000000000 /\ Sp.cnt R <= 900000):Ev M1 (.pure 80 [.vec fa 1 (.int .u32 x :: (Sp.lim R).map (.int .u32))]) (usA false (Sp.lim (x.toNat + 1000000000 * R))) []:=by
 obtain ⟨n,rfl⟩:=Int.eq_ofNat_of_zero_le h.1
 have:=ev80_d fa ((n:Int) :: Sp.lim R) (by unfold Sp.short;simp only [List.length_cons,lim_len];omega)
 rw [lim_cons n R (by omega)] at this
 exact this
end Go.Av

namespace Go.Av
open Go.Proofs
set_option maxRecDepth 100000
def fi82:Fi:=⟨173,[.tmp 4,.tmp 5]⟩
def kp82:List (Nat × List Nat):=[(0,[0,1]),(1,[0,1,28]),(2,[6,7]),(3,[4,5]),(4,[0,1,8]),(5,[0,8,9]),(6,[0,8,9,10]),(7,[0,8,9,10,11]),(8,[0,8,9,10,11,12]),(9,[8,9,10,11,12,13]),(10,[8,9,10,11,12,13]),(11,[8,9,10,11,12,13,14]),(12,[8,9,10,11,12,13,14,76]),(13,[8,9,10,11,12,13,14]),(14,[8,9,10,11,12,13,14]),(15,[8,9,10,11,12,13,14,15]),(16,[8,9,10,11,12,13,14,15,91]),(17,[8,9,10,11,12,13,14,15]),(18,[8,9,10,11,12,13,14,15,103]),(19,[8,9,10,11,12,13,14,15]),(20,[8,9,10,11,12,13,14,16]),(21,[8,9,10,11,12,13,14,16,117]),(22,[8,9,10,11,12,13,14,16]),(23,[8,9,10,11,12,13,14,16,17]),(24,[8,9,10,11,12,13,14,16,17,125]),(25,[8,9,10,11,12,13,14,16,17]),(26,[8,9,10,11,12,13,14,16,17]),(27,[8,9,10,11,12,13,14,16]),(28,[8,9,10,11,12,13,14]),(29,[8,11,12,18]),(30,[8,11,12,18,19]),(31,[8,11,12,18,19,20]),(32,[8,11,12,18,19,20,146]),(33,[8,11,12,18,19,20]),(34,[8,11,12,18,19,20]),(35,[8,11,12,18,19,20]),(36,[8,11,12,18,19,20]),(37,[4,5])]
def rParts_at (fa fb:Bool) (A D:Nat) (Q:AV -> Heap -> Prop):Prop:=Wp M1 (.run fi82 (atC (cd Tryz.f82) []) [(0,.vec fa 1 ((Sp.lim A).map (.int .u32))),(1,.vec fb 1 ((Sp.lim D).map (.int .u32)))] []) Q
def rPartsA0_at (V U:Nat) (s t i:Int) (n:Nat) (o:List Int) (Q:AV -> Heap -> Prop):Prop:=Wp M1 (.run fi82 (atC (cd Tryz.f82) [1,1,1,1,1,1,1,1,1,0,1,0,0]) [(8,.int .u32 s),(9,.vec false 1 ((Sp.lim V).map (.int .u32))),(10,.int .u64 t),(11,.vnil),(12,.ref 0 0 0 n),(13,.vec false 1 ((Sp.lim U).map (.int .u32))),(14,.int .i64 i)] [⟨o.map (.int .u32),1,0,false,true⟩]) Q
def rPartsAE_at (V U:Nat) (s t i:Int) (n:Nat) (o:List Int) (Q:AV -> Heap -> Prop):Prop:=Wp M1 (.run fi82 (atC (cd Tryz.f82) [1,1,1,1,1,1,1,1,1,0,1,0,0]) [(8,.int .u32 s),(9,.vec false 1 ((Sp.lim V).map (.int .u32))),(10,.int .u64 t),(11,.vec false 1 []),(12,.ref 0 0 0 n),(13,.vec false 1 ((Sp.lim U).map (.int .u32))),(14,.int .i64 i)] [⟨o.map (.int .u32),1,0,false,true⟩]) Q
def rPartsA_at (V U:Nat) (s t i:Int) (n:Nat) (o:List Int) (c:Int) (l:List Int) (Q:AV -> Heap -> Prop):Prop:=Wp M1 (.run fi82 (atC (cd Tryz.f82) [1,1,1,1,1,1,1,1,1,0,1,0,0]) [(8,.int .u32 s),(9,.vec false 1 ((Sp.lim V).map (.int .u32))),(10,.int .u64 t),(11,.vec false 1 ((c :: l).map (.int .u32))),(12,.ref 0 0 0 n),(13,.vec false 1 ((Sp.lim U).map (.int .u32))),(14,.int .i64 i)] [⟨o.map (.int .u32),1,0,false,true⟩]) Q
def rPartsB_at (V U:Nat) (s t i:Int) (n:Nat) (o:List Int) (R2:Nat) (Q:AV -> Heap -> Prop):Prop:=Wp M1 (.run fi82 (atC (cd Tryz.f82) [1,1,1,1,1,1,1,1,1,0,1,0,0,1,0,0,1,0]) [(8,.int .u32 s),(9,.vec false 1 ((Sp.lim V).map (.int .u32))),(10,.int .u64 t),(11,.vec false 1 ((Sp.lim R2).map (.int .u32))),(12,.ref 0 0 0 n),(13,.vec false 1 ((Sp.lim U).map (.int .u32))),(14,.int .i64 i)] [⟨o.map (.int .u32),1,0,false,true⟩]) Q
def rPartsH_at (V U:Nat) (s t i:Int) (n:Nat) (o:List Int) (R:Nat) (Q:AV -> Heap -> Prop):Prop:=Wp M1 (.run fi82 (atC (cd Tryz.f82) [1,1,1,1,1,1,1,1,1,0,1,0,0]) [(8,.int .u32 s),(9,.vec false 1 ((Sp.lim V).map (.int .u32))),(10,.int .u64 t),(11,.vec false 1 ((Sp.lim R).map (.int .u32))),(12,.ref 0 0 0 n),(13,.vec false 1 ((Sp.lim U).map (.int .u32))),(14,.int .i64 i)] [⟨o.map (.int .u32),1,0,false,true⟩]) Q
def rPartsG_at (V U:Nat) (s t i:Int) (n:Nat) (o:List Int) (R p:Nat) (g:Int) (Q:AV -> Heap -> Prop):Prop:=Wp M1 (.run fi82 (atC (cd Tryz.f82) [1,1,1,1,1,1,1,1,1,0,1,0,0,1,0,0,1,1,1,1,1,1,1,0,0,0]) [(8,.int .u32 s),(9,.vec false 1 ((Sp.lim V).map (.int .u32))),(10,.int .u64 t),(11,.vec false 1 ((Sp.lim R).map (.int .u32))),(12,.ref 0 0 0 n),(13,.vec false 1 ((Sp.lim U).map (.int .u32))),(14,.int .i64 i),(16,.int .u64 g),(17,.vec false 1 ((Sp.lim p).map (.int .u32)))] [⟨o.map (.int .u32),1,0,false,true⟩]) Q
def rPartsL0_at (s:Int) (n:Nat) (o:List Int) (Q:AV -> Heap -> Prop):Prop:=Wp M1 (.run fi82 (atC (cd Tryz.f82) [1,1,1,1,1,1,1,1,1,1,1,1,0,1,0,0]) [(8,.int .u32 s),(11,.vnil),(12,.ref 0 0 0 n),(18,.int .u64 0),(19,.row 1 0),(20,.int .i64 (-1))] [⟨o.map (.int .u32),1,0,false,true⟩,⟨[],1,0,false,true⟩]) Q
def rPartsL_at (R:Nat) (s c i:Int) (n:Nat) (o l:List Int) (Q:AV -> Heap -> Prop):Prop:=Wp M1 (.run fi82 (atC (cd Tryz.f82) [1,1,1,1,1,1,1,1,1,1,1,1,0,1,0,0]) [(8,.int .u32 s),(11,.vec false 1 ((Sp.lim R).map (.int .u32))),(12,.ref 0 0 0 n),(18,.int .u64 c),(19,.row 1 0),(20,.int .i64 i)] [⟨o.map (.int .u32),1,0,false,true⟩,⟨l.map (.int .u32),1,0,false,true⟩]) Q
theorem call82 {args:List AV} {d:AV} (h:wc M1 fi82 Tryz.f82 args d):Ev M1 (.pure 82 args) d []:=pcl _ _ (by kernel_rfl) h
noncomputable abbrev zNwD1 (D:Nat):=vu ((Sp.lim (D * (Int.tdiv 1000000000 ((Sp.lim D).getD ((↑(Sp.lim D).length:Int) - 1).toNat default + 1)).toNat)).getD ((↑(Sp.lim (D * (Int.tdiv 1000000000 ((Sp.lim D).getD ((↑(Sp.lim D).length:Int) - 1).toNat default + 1)).toNat)).length:Int) - 1).toNat default)
noncomputable abbrev zNwD2 (D:Nat):=vf (us (Sp.lim (D * (Int.tdiv 1000000000 ((Sp.lim D).getD ((↑(Sp.lim D).length:Int) - 1).toNat default + 1)).toNat)))
noncomputable abbrev zNwD3 (A:Nat) (D:Nat):=vf (us (Sp.lim (A * (Int.tdiv 1000000000 ((Sp.lim D).getD ((↑(Sp.lim D).length:Int) - 1).toNat default + 1)).toNat)))
noncomputable abbrev zNwD4 (A:Nat) (D:Nat):=us (Sp.lim ((↑A:Int).tdiv (↑D:Int)).toNat)
noncomputable abbrev zNwD5 (A:Nat) (D:Nat):=us (Sp.lim ((↑A:Int).tmod (↑D:Int)).toNat)
theorem rParts (fa fb:Bool) (A D:Nat)  (dq:AV) (H :
  ((((↑(Sp.lim A).length:Int) <= 2) /\ ((↑(Sp.lim D).length:Int) <= 2)) -> (Sp.cnt A <= 2) /\
   (Sp.cnt D <= 2) /\
   (0 <= (↑A:Int).tdiv (↑D:Int) /\ (↑A:Int).tdiv (↑D:Int) <= 18446744073709551615) /\
   (0 <= (↑A:Int).tmod (↑D:Int) /\ (↑A:Int).tmod (↑D:Int) <= 18446744073709551615) /\
   (¬(↑D:Int) = 0) /\
   Weak (tu [vf (us (Sp.lim ((↑A:Int).tdiv (↑D:Int)).toNat)),vf (us (Sp.lim ((↑A:Int).tmod (↑D:Int)).toNat))]) dq) /\
  (¬(((↑(Sp.lim A).length:Int) <= 2) /\ ((↑(Sp.lim D).length:Int) <= 2)) -> (-9223372036854775808 <= (↑(Sp.lim D).length:Int) - 1 /\ (↑(Sp.lim D).length:Int) - 1 <= 9223372036854775807) /\
   (0 <= (↑(Sp.lim D).length:Int) - 1) /\
   (((↑(Sp.lim D).length:Int) - 1).toNat < (Sp.lim D).length) /\
   (0 <= (Sp.lim D).getD ((↑(Sp.lim D).length:Int) - 1).toNat default /\ (Sp.lim D).getD ((↑(Sp.lim D).length:Int) - 1).toNat default <= 18446744073709551615) /\
   (0 <= (Sp.lim D).getD ((↑(Sp.lim D).length:Int) - 1).toNat default + 1 /\ (Sp.lim D).getD ((↑(Sp.lim D).length:Int) - 1).toNat default + 1 <= 18446744073709551615) /\
   (¬(Sp.lim D).getD ((↑(Sp.lim D).length:Int) - 1).toNat default + 1 = 0) /\
   (0 <= Int.tdiv 1000000000 ((Sp.lim D).getD ((↑(Sp.lim D).length:Int) - 1).toNat default + 1) /\ Int.tdiv 1000000000 ((Sp.lim D).getD ((↑(Sp.lim D).length:Int) - 1).toNat default + 1) <= 18446744073709551615) /\
   (0 <= Int.tdiv 1000000000 ((Sp.lim D).getD ((↑(Sp.lim D).length:Int) - 1).toNat default + 1) /\ Int.tdiv 1000000000 ((Sp.lim D).getD ((↑(Sp.lim D).length:Int) - 1).toNat default + 1) <= 4294967295) /\
   (Sp.okB (↑D:Int) /\ Sp.dig (Int.tdiv 1000000000 ((Sp.lim D).getD ((↑(Sp.lim D).length:Int) - 1).toNat default + 1))) /\
   (-9223372036854775808 <= (↑(Sp.lim (D * (Int.tdiv 1000000000 ((Sp.lim D).getD ((↑(Sp.lim D).length:Int) - 1).toNat default + 1)).toNat)).length:Int) - 1 /\ (↑(Sp.lim (D * (Int.tdiv 1000000000 ((Sp.lim D).getD ((↑(Sp.lim D).length:Int) - 1).toNat default + 1)).toNat)).length:Int) - 1 <= 9223372036854775807) /\
   (0 <= (↑(Sp.lim (D * (Int.tdiv 1000000000 ((Sp.lim D).getD ((↑(Sp.lim D).length:Int) - 1).toNat default + 1)).toNat)).length:Int) - 1) /\
   (((↑(Sp.lim (D * (Int.tdiv 1000000000 ((Sp.lim D).getD ((↑(Sp.lim D).length:Int) - 1).toNat default + 1)).toNat)).length:Int) - 1).toNat < (Sp.lim (D * (Int.tdiv 1000000000 ((Sp.lim D).getD ((↑(Sp.lim D).length:Int) - 1).toNat default + 1)).toNat)).length) /\
   (0 <= (Sp.lim (D * (Int.tdiv 1000000000 ((Sp.lim D).getD ((↑(Sp.lim D).length:Int) - 1).toNat default + 1)).toNat)).getD ((↑(Sp.lim (D * (Int.tdiv 1000000000 ((Sp.lim D).getD ((↑(Sp.lim D).length:Int) - 1).toNat default + 1)).toNat)).length:Int) - 1).toNat default /\ (Sp.lim (D * (Int.tdiv 1000000000 ((Sp.lim D).getD ((↑(Sp.lim D).length:Int) - 1).toNat default + 1)).toNat)).getD ((↑(Sp.lim (D * (Int.tdiv 1000000000 ((Sp.lim D).getD ((↑(Sp.lim D).length:Int) - 1).toNat default + 1)).toNat)).length:Int) - 1).toNat default <= 18446744073709551615) /\
   (-9223372036854775808 <= (↑(Sp.lim A).length:Int) + 1 /\ (↑(Sp.lim A).length:Int) + 1 <= 9223372036854775807) /\
   (0 <= (↑(Sp.lim A).length:Int) + 1) /\
   (((↑(Sp.lim A).length:Int) + 1) * 4 <= 1099511627776) /\
   ((↑(Sp.lim A).length:Int) + 1 <= 1099511627776) /\
   (Sp.okB (↑A:Int) /\ Sp.dig (Int.tdiv 1000000000 ((Sp.lim D).getD ((↑(Sp.lim D).length:Int) - 1).toNat default + 1))) /\
   (0 <= (↑(Sp.lim (A * (Int.tdiv 1000000000 ((Sp.lim D).getD ((↑(Sp.lim D).length:Int) - 1).toNat default + 1)).toNat)).length:Int)) /\
   (0 <= (↑(Sp.lim (A * (Int.tdiv 1000000000 ((Sp.lim D).getD ((↑(Sp.lim D).length:Int) - 1).toNat default + 1)).toNat)).length:Int).toNat) /\
   ((↑(Sp.lim (A * (Int.tdiv 1000000000 ((Sp.lim D).getD ((↑(Sp.lim D).length:Int) - 1).toNat default + 1)).toNat)).length:Int).toNat <= (List.replicate ((↑(Sp.lim A).length:Int) + 1).toNat (0:Int)).length) /\
   (-9223372036854775808 <= (↑(Sp.lim (A * (Int.tdiv 1000000000 ((Sp.lim D).getD ((↑(Sp.lim D).length:Int) - 1).toNat default + 1)).toNat)).length:Int) - 1 /\ (↑(Sp.lim (A * (Int.tdiv 1000000000 ((Sp.lim D).getD ((↑(Sp.lim D).length:Int) - 1).toNat default + 1)).toNat)).length:Int) - 1 <= 9223372036854775807) /\
   rPartsA0_at (D * (Int.tdiv 1000000000 ((Sp.lim D).getD ((↑(Sp.lim D).length:Int) - 1).toNat default + 1)).toNat) (A * (Int.tdiv 1000000000 ((Sp.lim D).getD ((↑(Sp.lim D).length:Int) - 1).toNat default + 1)).toNat) (Int.tdiv 1000000000 ((Sp.lim D).getD ((↑(Sp.lim D).length:Int) - 1).toNat default + 1)) ((Sp.lim (D * (Int.tdiv 1000000000 ((Sp.lim D).getD ((↑(Sp.lim D).length:Int) - 1).toNat default + 1)).toNat)).getD ((↑(Sp.lim (D * (Int.tdiv 1000000000 ((Sp.lim D).getD ((↑(Sp.lim D).length:Int) - 1).toNat default + 1)).toNat)).length:Int) - 1).toNat default) ((↑(Sp.lim (A * (Int.tdiv 1000000000 ((Sp.lim D).getD ((↑(Sp.lim D).length:Int) - 1).toNat default + 1)).toNat)).length:Int) - 1) ((↑(Sp.lim (A * (Int.tdiv 1000000000 ((Sp.lim D).getD ((↑(Sp.lim D).length:Int) - 1).toNat default + 1)).toNat)).length:Int).toNat - 0) (List.replicate ((↑(Sp.lim A).length:Int) + 1).toNat (0:Int)) (PureQ dq))) :
 rParts_at fa fb A D (PureQ dq):=by
 unfold rParts_at
 have w1:(us (Sp.lim A)).length = (Sp.lim A).length:=List.length_map ..
 have w2:(us (Sp.lim D)).length = (Sp.lim D).length:=List.length_map ..
 have i3:(bif decide ((↑(us (Sp.lim A)).length:Int) <= 2) then decide ((↑(us (Sp.lim D)).length:Int) <= 2) else false) = true ↔ (((↑(Sp.lim A).length:Int) <= 2) /\ ((↑(Sp.lim D).length:Int) <= 2)):=(by (try rw [w1]);(try rw [w2]);all_goals exact (i_band i_dec i_dec))
 rcases xm (((↑(Sp.lim A).length:Int) <= 2) /\ ((↑(Sp.lim D).length:Int) <= 2)) with d4 | d4
 ·have H:=H.1 d4
  obtain ⟨k5,H⟩:=H
  obtain ⟨k6,H⟩:=H
  obtain ⟨k7,H⟩:=H
  have w8:wu ((↑A:Int).tdiv (↑D:Int)) = (↑A:Int).tdiv (↑D:Int):=wU64 k7
  obtain ⟨k9,H⟩:=H
  obtain ⟨k11,H⟩:=H
  exact path_rq (G:=given kp82 [(2,1,.call (vw (↑A:Int)) none),(2,3,.call (vw (↑D:Int)) none),(3,3,.call (vf (zNwD4 A D)) none),(3,7,.call (vf (zNwD5 A D)) none)] []) 1000 [true] (calls:=[pc 84 [AV.vec fa 1 (us (Sp.lim A))] (vw (↑A:Int)),pc 84 [AV.vec fb 1 (us (Sp.lim D))] (vw (↑D:Int)),pc 85 [vw (wu ((↑A:Int).tdiv (↑D:Int)))] (vf (zNwD4 A D)),pc 85 [vw ((↑A:Int).tmod (↑D:Int))] (vf (zNwD5 A D))]) (tu [vf (zNwD4 A D),vf (zNwD5 A D)]) (by kernel_rfl) (bc (beq_t (i3.2 d4)) (bc (i_neq.2 k11) (bc (i_neq.2 k11) b0))) q0 (ce (@ev84 (fa) (A) k5) (ce (@ev84 (fb) (D) k6) (ce (by (try rw [w8]);all_goals exact (@ev85 ((↑A:Int).tdiv (↑D:Int)) k7)) (ce (@ev85 ((↑A:Int).tmod (↑D:Int)) k9) c0)))) H
 ·have H:=H.2 d4
  obtain ⟨k13,H⟩:=H
  have w14:wi ((↑(Sp.lim D).length:Int) - 1) = (↑(Sp.lim D).length:Int) - 1:=wI64 k13
  have i15:(decide (0 <= wi ((↑(us (Sp.lim D)).length:Int) - 1))) = true ↔ (0 <= (↑(Sp.lim D).length:Int) - 1):=(by (try rw [w2]);(try rw [w14]);all_goals exact i_dec)
  obtain ⟨k16,H⟩:=H
  have i17:(decide ((wi ((↑(us (Sp.lim D)).length:Int) - 1)).toNat < (us (Sp.lim D)).length)) = true ↔ (((↑(Sp.lim D).length:Int) - 1).toNat < (Sp.lim D).length):=(by (try rw [w2]);(try rw [w14]);all_goals exact i_dec)
  obtain ⟨k18,H⟩:=H
  obtain ⟨k19,H⟩:=H
  have w20:wu ((Sp.lim D).getD ((↑(Sp.lim D).length:Int) - 1).toNat default) = (Sp.lim D).getD ((↑(Sp.lim D).length:Int) - 1).toNat default:=wU64 k19
  obtain ⟨k21,H⟩:=H
  have w22:wu ((Sp.lim D).getD ((↑(Sp.lim D).length:Int) - 1).toNat default + 1) = (Sp.lim D).getD ((↑(Sp.lim D).length:Int) - 1).toNat default + 1:=wU64 k21
  have i23:(!wu (wu ((Sp.lim D).getD ((↑(Sp.lim D).length:Int) - 1).toNat default) + 1) == 0) = true ↔ (¬(Sp.lim D).getD ((↑(Sp.lim D).length:Int) - 1).toNat default + 1 = 0):=(by (try rw [w20]);(try rw [w22]);all_goals exact i_neq)
  obtain ⟨k24,H⟩:=H
  obtain ⟨k25,H⟩:=H
  have w26:wu (Int.tdiv 1000000000 ((Sp.lim D).getD ((↑(Sp.lim D).length:Int) - 1).toNat default + 1)) = Int.tdiv 1000000000 ((Sp.lim D).getD ((↑(Sp.lim D).length:Int) - 1).toNat default + 1):=wU64 k25
  obtain ⟨k27,H⟩:=H
  have w28:wv (Int.tdiv 1000000000 ((Sp.lim D).getD ((↑(Sp.lim D).length:Int) - 1).toNat default + 1)) = Int.tdiv 1000000000 ((Sp.lim D).getD ((↑(Sp.lim D).length:Int) - 1).toNat default + 1):=wU32 k27
  obtain ⟨k29,H⟩:=H
  have w30:(us (Sp.lim (D * (Int.tdiv 1000000000 ((Sp.lim D).getD ((↑(Sp.lim D).length:Int) - 1).toNat default + 1)).toNat))).length = (Sp.lim (D * (Int.tdiv 1000000000 ((Sp.lim D).getD ((↑(Sp.lim D).length:Int) - 1).toNat default + 1)).toNat)).length:=List.length_map ..
  obtain ⟨k31,H⟩:=H
  have w32:wi ((↑(Sp.lim (D * (Int.tdiv 1000000000 ((Sp.lim D).getD ((↑(Sp.lim D).length:Int) - 1).toNat default + 1)).toNat)).length:Int) - 1) = (↑(Sp.lim (D * (Int.tdiv 1000000000 ((Sp.lim D).getD ((↑(Sp.lim D).length:Int) - 1).toNat default + 1)).toNat)).length:Int) - 1:=wI64 k31
  have i33:(decide (0 <= wi ((↑(us (Sp.lim (D * (Int.tdiv 1000000000 ((Sp.lim D).getD ((↑(Sp.lim D).length:Int) - 1).toNat default + 1)).toNat))).length:Int) - 1))) = true ↔ (0 <= (↑(Sp.lim (D * (Int.tdiv 1000000000 ((Sp.lim D).getD ((↑(Sp.lim D).length:Int) - 1).toNat default + 1)).toNat)).length:Int) - 1):=(by (try rw [w30]);(try rw [w32]);all_goals exact i_dec)
  obtain ⟨k34,H⟩:=H
  have i35:(decide ((wi ((↑(us (Sp.lim (D * (Int.tdiv 1000000000 ((Sp.lim D).getD ((↑(Sp.lim D).length:Int) - 1).toNat default + 1)).toNat))).length:Int) - 1)).toNat < (us (Sp.lim (D * (Int.tdiv 1000000000 ((Sp.lim D).getD ((↑(Sp.lim D).length:Int) - 1).toNat default + 1)).toNat))).length)) = true ↔ (((↑(Sp.lim (D * (Int.tdiv 1000000000 ((Sp.lim D).getD ((↑(Sp.lim D).length:Int) - 1).toNat default + 1)).toNat)).length:Int) - 1).toNat < (Sp.lim (D * (Int.tdiv 1000000000 ((Sp.lim D).getD ((↑(Sp.lim D).length:Int) - 1).toNat default + 1)).toNat)).length):=(by (try rw [w30]);(try rw [w32]);all_goals exact i_dec)
  obtain ⟨k36,H⟩:=H
  obtain ⟨k37,H⟩:=H
  have w38:wu ((Sp.lim (D * (Int.tdiv 1000000000 ((Sp.lim D).getD ((↑(Sp.lim D).length:Int) - 1).toNat default + 1)).toNat)).getD ((↑(Sp.lim (D * (Int.tdiv 1000000000 ((Sp.lim D).getD ((↑(Sp.lim D).length:Int) - 1).toNat default + 1)).toNat)).length:Int) - 1).toNat default) = (Sp.lim (D * (Int.tdiv 1000000000 ((Sp.lim D).getD ((↑(Sp.lim D).length:Int) - 1).toNat default + 1)).toNat)).getD ((↑(Sp.lim (D * (Int.tdiv 1000000000 ((Sp.lim D).getD ((↑(Sp.lim D).length:Int) - 1).toNat default + 1)).toNat)).length:Int) - 1).toNat default:=wU64 k37
  obtain ⟨k39,H⟩:=H
  have w40:wi ((↑(Sp.lim A).length:Int) + 1) = (↑(Sp.lim A).length:Int) + 1:=wI64 k39
  have i41:(decide (0 <= wi ((↑(us (Sp.lim A)).length:Int) + 1))) = true ↔ (0 <= (↑(Sp.lim A).length:Int) + 1):=(by (try rw [w1]);(try rw [w40]);all_goals exact i_dec)
  obtain ⟨k42,H⟩:=H
  have i43:(decide (wi ((↑(us (Sp.lim A)).length:Int) + 1) <= wi ((↑(us (Sp.lim A)).length:Int) + 1))) = true ↔ ((↑(Sp.lim A).length:Int) + 1 <= (↑(Sp.lim A).length:Int) + 1):=(by (try rw [w1]);(try rw [w40]);all_goals exact i_dec)
  have i44:(decide (wi ((↑(us (Sp.lim A)).length:Int) + 1) * 4 <= 1099511627776)) = true ↔ (((↑(Sp.lim A).length:Int) + 1) * 4 <= 1099511627776):=(by (try rw [w1]);(try rw [w40]);all_goals exact i_dec)
  obtain ⟨k45,H⟩:=H
  have i46:(decide (wi ((↑(us (Sp.lim A)).length:Int) + 1) <= 1099511627776)) = true ↔ ((↑(Sp.lim A).length:Int) + 1 <= 1099511627776):=(by (try rw [w1]);(try rw [w40]);all_goals exact i_dec)
  obtain ⟨k47,H⟩:=H
  have w48:List.replicate ((↑(Sp.lim A).length:Int) + 1).toNat (vu 0) = us (List.replicate ((↑(Sp.lim A).length:Int) + 1).toNat (0:Int)):=(lm_rep rfl)
  obtain ⟨k49,H⟩:=H
  have w50:(us (Sp.lim (A * (Int.tdiv 1000000000 ((Sp.lim D).getD ((↑(Sp.lim D).length:Int) - 1).toNat default + 1)).toNat))).length = (Sp.lim (A * (Int.tdiv 1000000000 ((Sp.lim D).getD ((↑(Sp.lim D).length:Int) - 1).toNat default + 1)).toNat)).length:=List.length_map ..
  have i51:(decide (0 <= (↑(us (Sp.lim (A * (Int.tdiv 1000000000 ((Sp.lim D).getD ((↑(Sp.lim D).length:Int) - 1).toNat default + 1)).toNat))).length:Int))) = true ↔ (0 <= (↑(Sp.lim (A * (Int.tdiv 1000000000 ((Sp.lim D).getD ((↑(Sp.lim D).length:Int) - 1).toNat default + 1)).toNat)).length:Int)):=(by (try rw [w50]);all_goals exact i_dec)
  obtain ⟨k52,H⟩:=H
  have i53:(decide (0 <= (↑(us (Sp.lim (A * (Int.tdiv 1000000000 ((Sp.lim D).getD ((↑(Sp.lim D).length:Int) - 1).toNat default + 1)).toNat))).length:Int).toNat)) = true ↔ (0 <= (↑(Sp.lim (A * (Int.tdiv 1000000000 ((Sp.lim D).getD ((↑(Sp.lim D).length:Int) - 1).toNat default + 1)).toNat)).length:Int).toNat):=(by (try rw [w50]);all_goals exact i_dec)
  obtain ⟨k54,H⟩:=H
  have w55:(us (List.replicate ((↑(Sp.lim A).length:Int) + 1).toNat (0:Int))).length = (List.replicate ((↑(Sp.lim A).length:Int) + 1).toNat (0:Int)).length:=List.length_map ..
  have i56:(decide ((↑(us (Sp.lim (A * (Int.tdiv 1000000000 ((Sp.lim D).getD ((↑(Sp.lim D).length:Int) - 1).toNat default + 1)).toNat))).length:Int).toNat <= (List.replicate (wi ((↑(us (Sp.lim A)).length:Int) + 1)).toNat (vu 0)).length)) = true ↔ ((↑(Sp.lim (A * (Int.tdiv 1000000000 ((Sp.lim D).getD ((↑(Sp.lim D).length:Int) - 1).toNat default + 1)).toNat)).length:Int).toNat <= (List.replicate ((↑(Sp.lim A).length:Int) + 1).toNat (0:Int)).length):=(by (try rw [w1]);(try rw [w40]);(try rw [w48]);(try rw [w50]);(try rw [w55]);all_goals exact i_dec)
  obtain ⟨k57,H⟩:=H
  obtain ⟨k58,H⟩:=H
  have w59:wi ((↑(Sp.lim (A * (Int.tdiv 1000000000 ((Sp.lim D).getD ((↑(Sp.lim D).length:Int) - 1).toNat default + 1)).toNat)).length:Int) - 1) = (↑(Sp.lim (A * (Int.tdiv 1000000000 ((Sp.lim D).getD ((↑(Sp.lim D).length:Int) - 1).toNat default + 1)).toNat)).length:Int) - 1:=wI64 k58
  exact path_wp (G:=given kp82 [(4,5,.elem (vu ((Sp.lim D).getD ((↑(Sp.lim D).length:Int) - 1).toNat default))),(5,2,.call (zNwD2 D) none),(6,5,.elem (zNwD1 D)),(9,2,.call (zNwD3 A D) none)] []) 1000 [false] ⟨(atC (cd Tryz.f82) [1,1,1,1,1,1,1,1,1,0,1,0,0]),[(8,vu (wv (wu (Int.tdiv 1000000000 (wu (wu ((Sp.lim D).getD ((↑(Sp.lim D).length:Int) - 1).toNat default) + 1)))))),(9,vf (us (Sp.lim (D * (Int.tdiv 1000000000 ((Sp.lim D).getD ((↑(Sp.lim D).length:Int) - 1).toNat default + 1)).toNat)))),(10,vw (wu ((Sp.lim (D * (Int.tdiv 1000000000 ((Sp.lim D).getD ((↑(Sp.lim D).length:Int) - 1).toNat default + 1)).toNat)).getD ((↑(Sp.lim (D * (Int.tdiv 1000000000 ((Sp.lim D).getD ((↑(Sp.lim D).length:Int) - 1).toNat default + 1)).toNat)).length:Int) - 1).toNat default))),(11,AV.vnil),(12,AV.ref 0 0 0 ((↑(us (Sp.lim (A * (Int.tdiv 1000000000 ((Sp.lim D).getD ((↑(Sp.lim D).length:Int) - 1).toNat default + 1)).toNat))).length:Int).toNat - 0)),(13,vf (us (Sp.lim (A * (Int.tdiv 1000000000 ((Sp.lim D).getD ((↑(Sp.lim D).length:Int) - 1).toNat default + 1)).toNat)))),(14,vi (wi ((↑(us (Sp.lim (A * (Int.tdiv 1000000000 ((Sp.lim D).getD ((↑(Sp.lim D).length:Int) - 1).toNat default + 1)).toNat))).length:Int) - 1)))],[⟨List.replicate (wi ((↑(us (Sp.lim A)).length:Int) + 1)).toNat (vu 0),1,0,false,true⟩],[(bif decide ((↑(us (Sp.lim A)).length:Int) <= 2) then decide ((↑(us (Sp.lim D)).length:Int) <= 2) else false) == false,decide (0 <= wi ((↑(us (Sp.lim D)).length:Int) - 1)),decide ((wi ((↑(us (Sp.lim D)).length:Int) - 1)).toNat < (us (Sp.lim D)).length),!wu (wu ((Sp.lim D).getD ((↑(Sp.lim D).length:Int) - 1).toNat default) + 1) == 0,decide (0 <= wi ((↑(us (Sp.lim (D * (Int.tdiv 1000000000 ((Sp.lim D).getD ((↑(Sp.lim D).length:Int) - 1).toNat default + 1)).toNat))).length:Int) - 1)),decide ((wi ((↑(us (Sp.lim (D * (Int.tdiv 1000000000 ((Sp.lim D).getD ((↑(Sp.lim D).length:Int) - 1).toNat default + 1)).toNat))).length:Int) - 1)).toNat < (us (Sp.lim (D * (Int.tdiv 1000000000 ((Sp.lim D).getD ((↑(Sp.lim D).length:Int) - 1).toNat default + 1)).toNat))).length),decide (0 <= wi ((↑(us (Sp.lim A)).length:Int) + 1)),decide (wi ((↑(us (Sp.lim A)).length:Int) + 1) <= wi ((↑(us (Sp.lim A)).length:Int) + 1)),decide (wi ((↑(us (Sp.lim A)).length:Int) + 1) * 4 <= 1099511627776),decide (wi ((↑(us (Sp.lim A)).length:Int) + 1) <= 1099511627776),true,decide (0 <= (↑(us (Sp.lim (A * (Int.tdiv 1000000000 ((Sp.lim D).getD ((↑(Sp.lim D).length:Int) - 1).toNat default + 1)).toNat))).length:Int)),decide (0 <= (↑(us (Sp.lim (A * (Int.tdiv 1000000000 ((Sp.lim D).getD ((↑(Sp.lim D).length:Int) - 1).toNat default + 1)).toNat))).length:Int).toNat),decide ((↑(us (Sp.lim (A * (Int.tdiv 1000000000 ((Sp.lim D).getD ((↑(Sp.lim D).length:Int) - 1).toNat default + 1)).toNat))).length:Int).toNat <= (List.replicate (wi ((↑(us (Sp.lim A)).length:Int) + 1)).toNat (vu 0)).length)],[((us (Sp.lim D)).get?Internal (wi ((↑(us (Sp.lim D)).length:Int) - 1)).toNat = some (vu ((Sp.lim D).getD ((↑(Sp.lim D).length:Int) - 1).toNat default))),((us (Sp.lim (D * (Int.tdiv 1000000000 ((Sp.lim D).getD ((↑(Sp.lim D).length:Int) - 1).toNat default + 1)).toNat))).get?Internal (wi ((↑(us (Sp.lim (D * (Int.tdiv 1000000000 ((Sp.lim D).getD ((↑(Sp.lim D).length:Int) - 1).toNat default + 1)).toNat))).length:Int) - 1)).toNat = some (zNwD1 D))],[pc 115 [AV.vec fb 1 (us (Sp.lim D)),vu (wv (wu (Int.tdiv 1000000000 (wu (wu ((Sp.lim D).getD ((↑(Sp.lim D).length:Int) - 1).toNat default) + 1)))))] (zNwD2 D),pc 115 [AV.vec fa 1 (us (Sp.lim A)),vu (wv (wu (Int.tdiv 1000000000 (wu (wu ((Sp.lim D).getD ((↑(Sp.lim D).length:Int) - 1).toNat default) + 1)))))] (zNwD3 A D)]⟩ (by kernel_rfl) (bc (beq_f (fun h => d4 (i3.1 h))) (bc (i15.2 k16) (bc (i17.2 k18) (bc (i23.2 k24) (bc (i33.2 k34) (bc (i35.2 k36) (bc (i41.2 k42) (bc (i43.2 (by omega)) (bc (i44.2 k45) (bc (i46.2 k47) (bc rfl (bc (i51.2 k52) (bc (i53.2 k54) (bc (i56.2 k57) b0)))))))))))))) (qc (by (try rw [w2]);(try rw [w14]);all_goals exact (el_map k18)) (qc (by (try rw [w30]);(try rw [w32]);all_goals exact (el_map k36)) q0)) (ce (by (try rw [w20]);(try rw [w22]);(try rw [w26]);(try rw [w28]);all_goals exact (@ev115 (fb) (D) (Int.tdiv 1000000000 ((Sp.lim D).getD ((↑(Sp.lim D).length:Int) - 1).toNat default + 1)) k29)) (ce (by (try rw [w20]);(try rw [w22]);(try rw [w26]);(try rw [w28]);all_goals exact (@ev115 (fa) (A) (Int.tdiv 1000000000 ((Sp.lim D).getD ((↑(Sp.lim D).length:Int) - 1).toNat default + 1)) k49)) c0)) (by (try rw [w1]);(try rw [w20]);(try rw [w22]);(try rw [w26]);(try rw [w28]);(try rw [w38]);(try rw [w40]);(try rw [w48]);(try rw [w50]);(try rw [w59]);all_goals exact H)
theorem rPartsA0 (V U:Nat) (s t i:Int) (n:Nat) (o:List Int) (R2:Nat) (dq:AV) (H :
  ((i >= 0) -> (Ev M1 (Conf.pure 80 [AV.vec true 1 [vu ((Sp.lim U).getD i.toNat default)]]) (vf (us (Sp.lim R2))) []) /\
   (0 <= i) /\
   (i.toNat < (Sp.lim U).length) /\
   rPartsB_at (V) (U) (s) (t) (i) (n) (o) (R2) (PureQ dq)) /\
  (¬(i >= 0) -> rPartsL0_at (s) (n) (o) (PureQ dq))) :
 rPartsA0_at V U s t i n o (PureQ dq):=by
 unfold rPartsA0_at
 rcases xm (i >= 0) with d2 | d2
 ·have H:=H.1 d2
  obtain ⟨k3,H⟩:=H
  obtain ⟨k5,H⟩:=H
  have w6:(us (Sp.lim U)).length = (Sp.lim U).length:=List.length_map ..
  have i7:(decide (i.toNat < (us (Sp.lim U)).length)) = true ↔ (i.toNat < (Sp.lim U).length):=(by (try rw [w6]);all_goals exact i_dec)
  obtain ⟨k8,H⟩:=H
  exact path_wp (G:=given kp82 [(14,3,.elem (vu ((Sp.lim U).getD i.toNat default))),(14,7,.call (.vec false 1 ((Sp.lim R2).map (.int .u32))) none)] []) 10 [true] ⟨(atC (cd Tryz.f82) [1,1,1,1,1,1,1,1,1,0,1,0,0,1,0,0,1,0]),[(8,vu s),(9,vf (us (Sp.lim V))),(10,vw t),(11,vf (us (Sp.lim R2))),(12,AV.ref 0 0 0 n),(13,vf (us (Sp.lim U))),(14,vi i)],[⟨us o,1,0,false,true⟩],_,[((us (Sp.lim U)).get?Internal i.toNat = some (vu ((Sp.lim U).getD i.toNat default)))],_⟩ (by kernel_rfl) (bc (beq_t (i_dec.2 d2)) (bc (i_dec.2 k5) (bc (i7.2 k8) b0))) (qc (el_map k8) q0) (ce k3 c0) (H)
 ·have H:=H.2 d2
  have w9:[] = us []:=rfl
  exact path_wp (G:=given kp82 [] []) 1000 [false] ⟨(atC (cd Tryz.f82) [1,1,1,1,1,1,1,1,1,1,1,1,0,1,0,0]),[(8,vu s),(11,AV.vnil),(12,AV.ref 0 0 0 n),(18,vw 0),(19,AV.row 1 0),(20,vi (-1))],[⟨us o,1,0,false,true⟩,⟨[],1,0,false,true⟩],_,[],_⟩ (by kernel_rfl) (bc (beq_f (fun h => d2 (i_dec.1 h))) (bc rfl (bc rfl (bc rfl (bc rfl b0))))) q0 c0 (by (try rw [w9]);all_goals exact H)
theorem rPartsAE (V U:Nat) (s t i:Int) (n:Nat) (o:List Int) (R2:Nat) (dq:AV) (H :
  ((i >= 0) -> (Ev M1 (Conf.pure 80 [AV.vec true 1 [vu ((Sp.lim U).getD i.toNat default)]]) (vf (us (Sp.lim R2))) []) /\
   (0 <= i) /\
   (i.toNat < (Sp.lim U).length) /\
   rPartsB_at (V) (U) (s) (t) (i) (n) (o) (R2) (PureQ dq)) /\
  (¬(i >= 0) -> Wp M1 (.run fi82 (atC (cd Tryz.f82) [1,1,1,1,1,1,1,1,1,1,1,1,0,1,0,0]) [(8,vu s),(11,vf []),(12,AV.ref 0 0 0 n),(18,vw 0),(19,AV.row 1 0),(20,vi (-1))] [{ elems:=us o,es:=1,ver:=0,frozen:=false,clean:=true },{ elems:=[],es:=1,ver:=0,frozen:=false,clean:=true }]) (PureQ dq))) :
 rPartsAE_at V U s t i n o (PureQ dq):=by
 unfold rPartsAE_at
 rcases xm (i >= 0) with d2 | d2
 ·have H:=H.1 d2
  obtain ⟨k3,H⟩:=H
  obtain ⟨k5,H⟩:=H
  have w6:(us (Sp.lim U)).length = (Sp.lim U).length:=List.length_map ..
  have i7:(decide (i.toNat < (us (Sp.lim U)).length)) = true ↔ (i.toNat < (Sp.lim U).length):=(by (try rw [w6]);all_goals exact i_dec)
  obtain ⟨k8,H⟩:=H
  exact path_wp (G:=given kp82 [(14,3,.elem (vu ((Sp.lim U).getD i.toNat default))),(14,7,.call (.vec false 1 ((Sp.lim R2).map (.int .u32))) none)] []) 10 [true] ⟨(atC (cd Tryz.f82) [1,1,1,1,1,1,1,1,1,0,1,0,0,1,0,0,1,0]),[(8,vu s),(9,vf (us (Sp.lim V))),(10,vw t),(11,vf (us (Sp.lim R2))),(12,AV.ref 0 0 0 n),(13,vf (us (Sp.lim U))),(14,vi i)],[⟨us o,1,0,false,true⟩],_,[((us (Sp.lim U)).get?Internal i.toNat = some (vu ((Sp.lim U).getD i.toNat default)))],_⟩ (by kernel_rfl) (bc (beq_t (i_dec.2 d2)) (bc (i_dec.2 k5) (bc (i7.2 k8) b0))) (qc (el_map k8) q0) (ce k3 c0) (H)
 ·have H:=H.2 d2
  have w9:[] = us []:=rfl
  exact path_wp (G:=given kp82 [] []) 1000 [false] ⟨(atC (cd Tryz.f82) [1,1,1,1,1,1,1,1,1,1,1,1,0,1,0,0]),[(8,vu s),(11,vf []),(12,AV.ref 0 0 0 n),(18,vw 0),(19,AV.row 1 0),(20,vi (-1))],[⟨us o,1,0,false,true⟩,⟨[],1,0,false,true⟩],_,[],_⟩ (by kernel_rfl) (bc (beq_f (fun h => d2 (i_dec.1 h))) (bc rfl (bc rfl (bc rfl (bc rfl b0))))) q0 c0 (by (try rw [w9]);all_goals exact H)
theorem rPartsA (V U:Nat) (s t i:Int) (n:Nat) (o:List Int) (c:Int) (l:List Int) (R2:Nat) (dq:AV) (H :
  ((i >= 0) -> (Ev M1 (Conf.pure 80 [vf (vu ((Sp.lim U).getD i.toNat default) :: vu c :: us l)]) (vf (us (Sp.lim R2))) []) /\
   (0 <= i) /\
   (i.toNat < (Sp.lim U).length) /\
   ((1 + (l.length + 1)) * 4 <= 1099511627776) /\
   rPartsB_at (V) (U) (s) (t) (i) (n) (o) (R2) (PureQ dq)) /\
  (¬(i >= 0) -> (0 <= (↑(l.length + 1):Int)) /\
   ((↑(l.length + 1):Int) * 4 <= 1099511627776) /\
   ((↑(l.length + 1):Int) <= 1099511627776) /\
   (-9223372036854775808 <= (↑(l.length + 1):Int) - 1 /\ (↑(l.length + 1):Int) - 1 <= 9223372036854775807) /\
   Wp M1 (.run fi82 (atC (cd Tryz.f82) [1,1,1,1,1,1,1,1,1,1,1,1,0,1,0,0]) [(8,vu s),(11,vf (vu c :: us l)),(12,AV.ref 0 0 0 n),(18,vw 0),(19,AV.row 1 0),(20,vi ((↑(l.length + 1):Int) - 1))] [{ elems:=us o,es:=1,ver:=0,frozen:=false,clean:=true },{ elems:=vu 0 :: us (List.replicate l.length (0:Int)),es:=1,ver:=0,frozen:=false,clean:=true }]) (PureQ dq))) :
 rPartsA_at V U s t i n o c l (PureQ dq):=by
 unfold rPartsA_at
 rcases xm (i >= 0) with d2 | d2
 ·have H:=H.1 d2
  obtain ⟨k3,H⟩:=H
  obtain ⟨k5,H⟩:=H
  have w6:(us (Sp.lim U)).length = (Sp.lim U).length:=List.length_map ..
  have i7:(decide (i.toNat < (us (Sp.lim U)).length)) = true ↔ (i.toNat < (Sp.lim U).length):=(by (try rw [w6]);all_goals exact i_dec)
  obtain ⟨k8,H⟩:=H
  have w9:(us l).length = l.length:=List.length_map ..
  have i10:(decide ((1 + ((us l).length + 1)) * 4 <= 1099511627776)) = true ↔ ((1 + (l.length + 1)) * 4 <= 1099511627776):=(by (try rw [w9]);all_goals exact i_dec)
  obtain ⟨k11,H⟩:=H
  exact path_wp (G:=given kp82 [(14,3,.elem (vu ((Sp.lim U).getD i.toNat default))),(14,7,.call (.vec false 1 ((Sp.lim R2).map (.int .u32))) none)] []) 10 [true] ⟨(atC (cd Tryz.f82) [1,1,1,1,1,1,1,1,1,0,1,0,0,1,0,0,1,0]),[(8,vu s),(9,vf (us (Sp.lim V))),(10,vw t),(11,vf (us (Sp.lim R2))),(12,AV.ref 0 0 0 n),(13,vf (us (Sp.lim U))),(14,vi i)],[⟨us o,1,0,false,true⟩,⟨vu ((Sp.lim U).getD i.toNat default) :: vu c :: us l,1,0,true,true⟩],_,[((us (Sp.lim U)).get?Internal i.toNat = some (vu ((Sp.lim U).getD i.toNat default)))],_⟩ (by kernel_rfl) (bc (beq_t (i_dec.2 d2)) (bc (i_dec.2 k5) (bc (i7.2 k8) (bc (i10.2 k11) (bc rfl b0))))) (qc (el_map k8) q0) (ce k3 c0) (wp_narrow [0] (by kernel_rfl) H)
 ·have H:=H.2 d2
  have w12:(us l).length = l.length:=List.length_map ..
  have i13:(decide (0 <= (↑((us l).length + 1):Int))) = true ↔ (0 <= (↑(l.length + 1):Int)):=(by (try rw [w12]);all_goals exact i_dec)
  obtain ⟨k14,H⟩:=H
  have i15:(decide ((↑((us l).length + 1):Int) <= (↑((us l).length + 1):Int))) = true ↔ ((↑(l.length + 1):Int) <= (↑(l.length + 1):Int)):=(by (try rw [w12]);all_goals exact i_dec)
  have i16:(decide ((↑((us l).length + 1):Int) * 4 <= 1099511627776)) = true ↔ ((↑(l.length + 1):Int) * 4 <= 1099511627776):=(by (try rw [w12]);all_goals exact i_dec)
  obtain ⟨k17,H⟩:=H
  have i18:(decide ((↑((us l).length + 1):Int) <= 1099511627776)) = true ↔ ((↑(l.length + 1):Int) <= 1099511627776):=(by (try rw [w12]);all_goals exact i_dec)
  obtain ⟨k19,H⟩:=H
  have w20:List.replicate l.length (vu 0) = us (List.replicate l.length (0:Int)):=(lm_rep rfl)
  obtain ⟨k21,H⟩:=H
  have w22:wi ((↑(l.length + 1):Int) - 1) = (↑(l.length + 1):Int) - 1:=wI64 k21
  exact path_wp (G:=given kp82 [] []) 1000 [false] ⟨(atC (cd Tryz.f82) [1,1,1,1,1,1,1,1,1,1,1,1,0,1,0,0]),[(8,vu s),(11,vf (vu c :: us l)),(12,AV.ref 0 0 0 n),(18,vw 0),(19,AV.row 1 0),(20,vi (wi ((↑((us l).length + 1):Int) - 1)))],[⟨us o,1,0,false,true⟩,⟨vu 0 :: List.replicate (us l).length (vu 0),1,0,false,true⟩],[(decide (i >= 0)) == false,decide (0 <= (↑((us l).length + 1):Int)),decide ((↑((us l).length + 1):Int) <= (↑((us l).length + 1):Int)),decide ((↑((us l).length + 1):Int) * 4 <= 1099511627776),decide ((↑((us l).length + 1):Int) <= 1099511627776)],[],_⟩ (by kernel_rfl) (bc (beq_f (fun h => d2 (i_dec.1 h))) (bc (i13.2 k14) (bc (i15.2 (by omega)) (bc (i16.2 k17) (bc (i18.2 k19) b0))))) q0 c0 (by (try rw [w12]);(try rw [w20]);(try rw [w22]);all_goals exact H)
noncomputable abbrev zNwD6 (V:Nat):=us (Sp.lim (V * Int.toNat 999999999))
noncomputable abbrev zNwD7 (V:Nat) (R2:Nat) (t:Int):=us (Sp.lim (V * (((Sp.lim R2).getD (↑(Sp.lim V).length:Int).toNat default * 1000000000 + (Sp.lim R2).getD ((↑(Sp.lim V).length:Int) - 1).toNat default).tdiv t).toNat))
noncomputable abbrev zNwD8 (V:Nat) (R2:Nat) (t:Int):=us (Sp.lim (V * (((Sp.lim R2).getD (↑(Sp.lim V).length:Int).toNat default * 1000000000).tdiv t).toNat))
noncomputable abbrev zNwD9 (R2:Nat) (V:Nat):=vu ((Sp.lim R2).getD ((↑(Sp.lim V).length:Int) - 1).toNat default)
noncomputable abbrev zNwD10 (V:Nat) (R2:Nat) (t:Int):=us (Sp.lim (V * ((0 + (Sp.lim R2).getD ((↑(Sp.lim V).length:Int) - 1).toNat default).tdiv t).toNat))
noncomputable abbrev zNwD11 (R2:Nat) (V:Nat):=(↑(Sp.lim R2).length:Int) >= (↑(Sp.lim V).length:Int)
noncomputable abbrev zNwD12 (V:Nat) (t:Int):=us (Sp.lim (V * (Int.tdiv 0 t).toNat))
theorem rPartsB (V U:Nat) (s t i:Int) (n:Nat) (o:List Int) (R2:Nat)  (dq:AV) (H :
  (((↑(Sp.lim R2).length:Int) > (↑(Sp.lim V).length:Int)) -> (0 <= (↑(Sp.lim V).length:Int)) /\
   ((↑(Sp.lim V).length:Int).toNat < (Sp.lim R2).length) /\
   (0 <= (Sp.lim R2).getD (↑(Sp.lim V).length:Int).toNat default /\ (Sp.lim R2).getD (↑(Sp.lim V).length:Int).toNat default <= 18446744073709551615) /\
   (0 <= (Sp.lim R2).getD (↑(Sp.lim V).length:Int).toNat default * 1000000000 /\ (Sp.lim R2).getD (↑(Sp.lim V).length:Int).toNat default * 1000000000 <= 18446744073709551615) /\
   (((↑(Sp.lim R2).length:Int) >= (↑(Sp.lim V).length:Int)) -> (-9223372036854775808 <= (↑(Sp.lim V).length:Int) - 1 /\ (↑(Sp.lim V).length:Int) - 1 <= 9223372036854775807) /\
    (0 <= (↑(Sp.lim V).length:Int) - 1) /\
    (((↑(Sp.lim V).length:Int) - 1).toNat < (Sp.lim R2).length) /\
    (0 <= (Sp.lim R2).getD ((↑(Sp.lim V).length:Int) - 1).toNat default /\ (Sp.lim R2).getD ((↑(Sp.lim V).length:Int) - 1).toNat default <= 18446744073709551615) /\
    (0 <= (Sp.lim R2).getD (↑(Sp.lim V).length:Int).toNat default * 1000000000 + (Sp.lim R2).getD ((↑(Sp.lim V).length:Int) - 1).toNat default /\ (Sp.lim R2).getD (↑(Sp.lim V).length:Int).toNat default * 1000000000 + (Sp.lim R2).getD ((↑(Sp.lim V).length:Int) - 1).toNat default <= 18446744073709551615) /\
    (¬t = 0) /\
    (0 <= ((Sp.lim R2).getD (↑(Sp.lim V).length:Int).toNat default * 1000000000 + (Sp.lim R2).getD ((↑(Sp.lim V).length:Int) - 1).toNat default).tdiv t /\ ((Sp.lim R2).getD (↑(Sp.lim V).length:Int).toNat default * 1000000000 + (Sp.lim R2).getD ((↑(Sp.lim V).length:Int) - 1).toNat default).tdiv t <= 18446744073709551615) /\
    ((((Sp.lim R2).getD (↑(Sp.lim V).length:Int).toNat default * 1000000000 + (Sp.lim R2).getD ((↑(Sp.lim V).length:Int) - 1).toNat default).tdiv t > 999999999) -> (Sp.okB (↑V:Int) /\ Sp.dig 999999999) /\
     rPartsG_at (V) (U) (s) (t) (i) (n) (o) (R2) (V * Int.toNat 999999999) (999999999) (PureQ dq)) /\
    (¬(((Sp.lim R2).getD (↑(Sp.lim V).length:Int).toNat default * 1000000000 + (Sp.lim R2).getD ((↑(Sp.lim V).length:Int) - 1).toNat default).tdiv t > 999999999) -> (0 <= ((Sp.lim R2).getD (↑(Sp.lim V).length:Int).toNat default * 1000000000 + (Sp.lim R2).getD ((↑(Sp.lim V).length:Int) - 1).toNat default).tdiv t /\ ((Sp.lim R2).getD (↑(Sp.lim V).length:Int).toNat default * 1000000000 + (Sp.lim R2).getD ((↑(Sp.lim V).length:Int) - 1).toNat default).tdiv t <= 4294967295) /\
     (Sp.okB (↑V:Int) /\ Sp.dig (((Sp.lim R2).getD (↑(Sp.lim V).length:Int).toNat default * 1000000000 + (Sp.lim R2).getD ((↑(Sp.lim V).length:Int) - 1).toNat default).tdiv t)) /\
     rPartsG_at (V) (U) (s) (t) (i) (n) (o) (R2) (V * (((Sp.lim R2).getD (↑(Sp.lim V).length:Int).toNat default * 1000000000 + (Sp.lim R2).getD ((↑(Sp.lim V).length:Int) - 1).toNat default).tdiv t).toNat) (((Sp.lim R2).getD (↑(Sp.lim V).length:Int).toNat default * 1000000000 + (Sp.lim R2).getD ((↑(Sp.lim V).length:Int) - 1).toNat default).tdiv t) (PureQ dq))) /\
   (¬((↑(Sp.lim R2).length:Int) >= (↑(Sp.lim V).length:Int)) -> (¬t = 0) /\
    (0 <= ((Sp.lim R2).getD (↑(Sp.lim V).length:Int).toNat default * 1000000000).tdiv t /\ ((Sp.lim R2).getD (↑(Sp.lim V).length:Int).toNat default * 1000000000).tdiv t <= 18446744073709551615) /\
    ((((Sp.lim R2).getD (↑(Sp.lim V).length:Int).toNat default * 1000000000).tdiv t > 999999999) -> (Sp.okB (↑V:Int) /\ Sp.dig 999999999) /\
     rPartsG_at (V) (U) (s) (t) (i) (n) (o) (R2) (V * Int.toNat 999999999) (999999999) (PureQ dq)) /\
    (¬(((Sp.lim R2).getD (↑(Sp.lim V).length:Int).toNat default * 1000000000).tdiv t > 999999999) -> (0 <= ((Sp.lim R2).getD (↑(Sp.lim V).length:Int).toNat default * 1000000000).tdiv t /\ ((Sp.lim R2).getD (↑(Sp.lim V).length:Int).toNat default * 1000000000).tdiv t <= 4294967295) /\
     (Sp.okB (↑V:Int) /\ Sp.dig (((Sp.lim R2).getD (↑(Sp.lim V).length:Int).toNat default * 1000000000).tdiv t)) /\
     rPartsG_at (V) (U) (s) (t) (i) (n) (o) (R2) (V * (((Sp.lim R2).getD (↑(Sp.lim V).length:Int).toNat default * 1000000000).tdiv t).toNat) (((Sp.lim R2).getD (↑(Sp.lim V).length:Int).toNat default * 1000000000).tdiv t) (PureQ dq)))) /\
  (¬((↑(Sp.lim R2).length:Int) > (↑(Sp.lim V).length:Int)) -> (((↑(Sp.lim R2).length:Int) >= (↑(Sp.lim V).length:Int)) -> (-9223372036854775808 <= (↑(Sp.lim V).length:Int) - 1 /\ (↑(Sp.lim V).length:Int) - 1 <= 9223372036854775807) /\
    (0 <= (↑(Sp.lim V).length:Int) - 1) /\
    (((↑(Sp.lim V).length:Int) - 1).toNat < (Sp.lim R2).length) /\
    (0 <= (Sp.lim R2).getD ((↑(Sp.lim V).length:Int) - 1).toNat default /\ (Sp.lim R2).getD ((↑(Sp.lim V).length:Int) - 1).toNat default <= 18446744073709551615) /\
    (0 <= 0 + (Sp.lim R2).getD ((↑(Sp.lim V).length:Int) - 1).toNat default /\ 0 + (Sp.lim R2).getD ((↑(Sp.lim V).length:Int) - 1).toNat default <= 18446744073709551615) /\
    (¬t = 0) /\
    (0 <= (0 + (Sp.lim R2).getD ((↑(Sp.lim V).length:Int) - 1).toNat default).tdiv t /\ (0 + (Sp.lim R2).getD ((↑(Sp.lim V).length:Int) - 1).toNat default).tdiv t <= 18446744073709551615) /\
    (((0 + (Sp.lim R2).getD ((↑(Sp.lim V).length:Int) - 1).toNat default).tdiv t > 999999999) -> (Sp.okB (↑V:Int) /\ Sp.dig 999999999) /\
     rPartsG_at (V) (U) (s) (t) (i) (n) (o) (R2) (V * Int.toNat 999999999) (999999999) (PureQ dq)) /\
    (¬((0 + (Sp.lim R2).getD ((↑(Sp.lim V).length:Int) - 1).toNat default).tdiv t > 999999999) -> (0 <= (0 + (Sp.lim R2).getD ((↑(Sp.lim V).length:Int) - 1).toNat default).tdiv t /\ (0 + (Sp.lim R2).getD ((↑(Sp.lim V).length:Int) - 1).toNat default).tdiv t <= 4294967295) /\
     (Sp.okB (↑V:Int) /\ Sp.dig ((0 + (Sp.lim R2).getD ((↑(Sp.lim V).length:Int) - 1).toNat default).tdiv t)) /\
     rPartsG_at (V) (U) (s) (t) (i) (n) (o) (R2) (V * ((0 + (Sp.lim R2).getD ((↑(Sp.lim V).length:Int) - 1).toNat default).tdiv t).toNat) ((0 + (Sp.lim R2).getD ((↑(Sp.lim V).length:Int) - 1).toNat default).tdiv t) (PureQ dq))) /\
   (¬((↑(Sp.lim R2).length:Int) >= (↑(Sp.lim V).length:Int)) -> (¬t = 0) /\
    (0 <= Int.tdiv 0 t /\ Int.tdiv 0 t <= 18446744073709551615) /\
    ((Int.tdiv 0 t > 999999999) -> (Sp.okB (↑V:Int) /\ Sp.dig 999999999) /\
     rPartsG_at (V) (U) (s) (t) (i) (n) (o) (R2) (V * Int.toNat 999999999) (999999999) (PureQ dq)) /\
    (¬(Int.tdiv 0 t > 999999999) -> (0 <= Int.tdiv 0 t /\ Int.tdiv 0 t <= 4294967295) /\
     (Sp.okB (↑V:Int) /\ Sp.dig (Int.tdiv 0 t)) /\
     rPartsG_at (V) (U) (s) (t) (i) (n) (o) (R2) (V * (Int.tdiv 0 t).toNat) (Int.tdiv 0 t) (PureQ dq))))) :
 rPartsB_at V U s t i n o R2 (PureQ dq):=by
 unfold rPartsB_at
 have w1:(us (Sp.lim R2)).length = (Sp.lim R2).length:=List.length_map ..
 have w2:(us (Sp.lim V)).length = (Sp.lim V).length:=List.length_map ..
 have i3:(decide ((↑(us (Sp.lim R2)).length:Int) > (↑(us (Sp.lim V)).length:Int))) = true ↔ ((↑(Sp.lim R2).length:Int) > (↑(Sp.lim V).length:Int)):=(by (try rw [w1]);(try rw [w2]);all_goals exact i_dec)
 rcases xm ((↑(Sp.lim R2).length:Int) > (↑(Sp.lim V).length:Int)) with d4 | d4
 ·have H:=H.1 d4
  have i5:(decide (0 <= (↑(us (Sp.lim V)).length:Int))) = true ↔ (0 <= (↑(Sp.lim V).length:Int)):=(by (try rw [w2]);all_goals exact i_dec)
  obtain ⟨k6,H⟩:=H
  have i7:(decide ((↑(us (Sp.lim V)).length:Int).toNat < (us (Sp.lim R2)).length)) = true ↔ ((↑(Sp.lim V).length:Int).toNat < (Sp.lim R2).length):=(by (try rw [w1]);(try rw [w2]);all_goals exact i_dec)
  obtain ⟨k8,H⟩:=H
  obtain ⟨k9,H⟩:=H
  have w10:wu ((Sp.lim R2).getD (↑(Sp.lim V).length:Int).toNat default) = (Sp.lim R2).getD (↑(Sp.lim V).length:Int).toNat default:=wU64 k9
  obtain ⟨k11,H⟩:=H
  have w12:wu ((Sp.lim R2).getD (↑(Sp.lim V).length:Int).toNat default * 1000000000) = (Sp.lim R2).getD (↑(Sp.lim V).length:Int).toNat default * 1000000000:=wU64 k11
  have i13:(decide ((↑(us (Sp.lim R2)).length:Int) >= (↑(us (Sp.lim V)).length:Int))) = true ↔ (zNwD11 R2 V):=(by (try rw [w1]);(try rw [w2]);all_goals exact i_dec)
  refine path_wp (G:=given kp82 [(17,4,.elem (vu ((Sp.lim R2).getD (↑(Sp.lim V).length:Int).toNat default)))] []) 9 [true] ⟨(atC (cd Tryz.f82) [1,1,1,1,1,1,1,1,1,0,1,0,0,1,0,0,1,1,1,0,1]),[(8,vu s),(9,vf (us (Sp.lim V))),(10,vw t),(11,vf (us (Sp.lim R2))),(12,AV.ref 0 0 0 n),(13,vf (us (Sp.lim U))),(14,vi i),(15,vw (wu (wu ((Sp.lim R2).getD (↑(Sp.lim V).length:Int).toNat default) * 1000000000))),(103,vb (decide ((↑(us (Sp.lim R2)).length:Int) >= (↑(us (Sp.lim V)).length:Int))))],[⟨us o,1,0,false,true⟩],_,[((us (Sp.lim R2)).get?Internal (↑(us (Sp.lim V)).length:Int).toNat = some (vu ((Sp.lim R2).getD (↑(Sp.lim V).length:Int).toNat default)))],_⟩ (by kernel_rfl) (bc (beq_t (i3.2 d4)) (bc (i5.2 k6) (bc (i7.2 k8) b0))) (qc (by (try rw [w2]);all_goals exact (el_map k8)) q0) c0 ?_
  rcases xm (zNwD11 R2 V) with d14 | d14
  ·have H:=H.1 d14
   obtain ⟨k15,H⟩:=H
   have w16:wi ((↑(Sp.lim V).length:Int) - 1) = (↑(Sp.lim V).length:Int) - 1:=wI64 k15
   have i17:(decide (0 <= wi ((↑(us (Sp.lim V)).length:Int) - 1))) = true ↔ (0 <= (↑(Sp.lim V).length:Int) - 1):=(by (try rw [w2]);(try rw [w16]);all_goals exact i_dec)
   obtain ⟨k18,H⟩:=H
   have i19:(decide ((wi ((↑(us (Sp.lim V)).length:Int) - 1)).toNat < (us (Sp.lim R2)).length)) = true ↔ (((↑(Sp.lim V).length:Int) - 1).toNat < (Sp.lim R2).length):=(by (try rw [w1]);(try rw [w2]);(try rw [w16]);all_goals exact i_dec)
   obtain ⟨k20,H⟩:=H
   obtain ⟨k21,H⟩:=H
   have w22:wu ((Sp.lim R2).getD ((↑(Sp.lim V).length:Int) - 1).toNat default) = (Sp.lim R2).getD ((↑(Sp.lim V).length:Int) - 1).toNat default:=wU64 k21
   obtain ⟨k23,H⟩:=H
   have w24:wu ((Sp.lim R2).getD (↑(Sp.lim V).length:Int).toNat default * 1000000000 + (Sp.lim R2).getD ((↑(Sp.lim V).length:Int) - 1).toNat default) = (Sp.lim R2).getD (↑(Sp.lim V).length:Int).toNat default * 1000000000 + (Sp.lim R2).getD ((↑(Sp.lim V).length:Int) - 1).toNat default:=wU64 k23
   obtain ⟨k26,H⟩:=H
   obtain ⟨k27,H⟩:=H
   have w28:wu (((Sp.lim R2).getD (↑(Sp.lim V).length:Int).toNat default * 1000000000 + (Sp.lim R2).getD ((↑(Sp.lim V).length:Int) - 1).toNat default).tdiv t) = ((Sp.lim R2).getD (↑(Sp.lim V).length:Int).toNat default * 1000000000 + (Sp.lim R2).getD ((↑(Sp.lim V).length:Int) - 1).toNat default).tdiv t:=wU64 k27
   have i29:(decide (wu ((wu (wu (wu ((Sp.lim R2).getD (↑(Sp.lim V).length:Int).toNat default) * 1000000000) + wu ((Sp.lim R2).getD ((↑(Sp.lim V).length:Int) - 1).toNat default))).tdiv t) > 999999999)) = true ↔ (((Sp.lim R2).getD (↑(Sp.lim V).length:Int).toNat default * 1000000000 + (Sp.lim R2).getD ((↑(Sp.lim V).length:Int) - 1).toNat default).tdiv t > 999999999):=(by (try rw [w10]);(try rw [w12]);(try rw [w22]);(try rw [w24]);(try rw [w28]);all_goals exact i_dec)
   refine path_wp (G:=given kp82 [(19,6,.elem (zNwD9 R2 V))] []) 7 [true] ⟨(atC (cd Tryz.f82) [1,1,1,1,1,1,1,1,1,0,1,0,0,1,0,0,1,1,1,1,1,0,1]),[(8,vu s),(9,vf (us (Sp.lim V))),(10,vw t),(11,vf (us (Sp.lim R2))),(12,AV.ref 0 0 0 n),(13,vf (us (Sp.lim U))),(14,vi i),(16,vw (wu ((wu (wu (wu ((Sp.lim R2).getD (↑(Sp.lim V).length:Int).toNat default) * 1000000000) + wu ((Sp.lim R2).getD ((↑(Sp.lim V).length:Int) - 1).toNat default))).tdiv t))),(117,vb (decide (wu ((wu (wu (wu ((Sp.lim R2).getD (↑(Sp.lim V).length:Int).toNat default) * 1000000000) + wu ((Sp.lim R2).getD ((↑(Sp.lim V).length:Int) - 1).toNat default))).tdiv t) > 999999999)))],[⟨us o,1,0,false,true⟩],_,[((us (Sp.lim R2)).get?Internal (wi ((↑(us (Sp.lim V)).length:Int) - 1)).toNat = some (zNwD9 R2 V))],_⟩ (by kernel_rfl) (bc (beq_t (i13.2 d14)) (bc (i17.2 k18) (bc (i19.2 k20) (bc (i_neq.2 k26) b0)))) (qc (by (try rw [w2]);(try rw [w16]);all_goals exact (el_map k20)) q0) c0 ?_
   rcases xm (((Sp.lim R2).getD (↑(Sp.lim V).length:Int).toNat default * 1000000000 + (Sp.lim R2).getD ((↑(Sp.lim V).length:Int) - 1).toNat default).tdiv t > 999999999) with d30 | d30
   ·have H:=H.1 d30
    obtain ⟨k31,H⟩:=H
    exact path_wp (G:=given kp82 [(23,3,.call (vf (zNwD6 V)) none)] []) 1000 [true] ⟨(atC (cd Tryz.f82) [1,1,1,1,1,1,1,1,1,0,1,0,0,1,0,0,1,1,1,1,1,1,1,0,0,0]),[(8,vu s),(9,vf (us (Sp.lim V))),(10,vw t),(11,vf (us (Sp.lim R2))),(12,AV.ref 0 0 0 n),(13,vf (us (Sp.lim U))),(14,vi i),(16,vw 999999999),(17,vf (zNwD6 V))],[⟨us o,1,0,false,true⟩],_,[],_⟩ (by kernel_rfl) (bc (beq_t (i29.2 d30)) b0) q0 (ce (@ev115 (false) (V) (999999999) k31) c0) (H)
   ·have H:=H.2 d30
    obtain ⟨k32,H⟩:=H
    have w33:wv (((Sp.lim R2).getD (↑(Sp.lim V).length:Int).toNat default * 1000000000 + (Sp.lim R2).getD ((↑(Sp.lim V).length:Int) - 1).toNat default).tdiv t) = ((Sp.lim R2).getD (↑(Sp.lim V).length:Int).toNat default * 1000000000 + (Sp.lim R2).getD ((↑(Sp.lim V).length:Int) - 1).toNat default).tdiv t:=wU32 k32
    obtain ⟨k34,H⟩:=H
    exact path_wp (G:=given kp82 [(23,3,.call (vf (zNwD7 V R2 t)) none)] []) 1000 [false] ⟨(atC (cd Tryz.f82) [1,1,1,1,1,1,1,1,1,0,1,0,0,1,0,0,1,1,1,1,1,1,1,0,0,0]),[(8,vu s),(9,vf (us (Sp.lim V))),(10,vw t),(11,vf (us (Sp.lim R2))),(12,AV.ref 0 0 0 n),(13,vf (us (Sp.lim U))),(14,vi i),(16,vw (wu ((wu (wu (wu ((Sp.lim R2).getD (↑(Sp.lim V).length:Int).toNat default) * 1000000000) + wu ((Sp.lim R2).getD ((↑(Sp.lim V).length:Int) - 1).toNat default))).tdiv t))),(17,vf (zNwD7 V R2 t))],[⟨us o,1,0,false,true⟩],_,[],[pc 115 [vf (us (Sp.lim V)),vu (wv (wu ((wu (wu (wu ((Sp.lim R2).getD (↑(Sp.lim V).length:Int).toNat default) * 1000000000) + wu ((Sp.lim R2).getD ((↑(Sp.lim V).length:Int) - 1).toNat default))).tdiv t)))] (vf (zNwD7 V R2 t))]⟩ (by kernel_rfl) (bc (beq_f (fun h => d30 (i29.1 h))) b0) q0 (ce (by (try rw [w10]);(try rw [w12]);(try rw [w22]);(try rw [w24]);(try rw [w28]);(try rw [w33]);all_goals exact (@ev115 (false) (V) (((Sp.lim R2).getD (↑(Sp.lim V).length:Int).toNat default * 1000000000 + (Sp.lim R2).getD ((↑(Sp.lim V).length:Int) - 1).toNat default).tdiv t) k34)) c0) (by (try rw [w10]);(try rw [w12]);(try rw [w22]);(try rw [w24]);(try rw [w28]);all_goals exact H)
  ·have H:=H.2 d14
   obtain ⟨k36,H⟩:=H
   obtain ⟨k37,H⟩:=H
   have w38:wu (((Sp.lim R2).getD (↑(Sp.lim V).length:Int).toNat default * 1000000000).tdiv t) = ((Sp.lim R2).getD (↑(Sp.lim V).length:Int).toNat default * 1000000000).tdiv t:=wU64 k37
   have i39:(decide (wu ((wu (wu ((Sp.lim R2).getD (↑(Sp.lim V).length:Int).toNat default) * 1000000000)).tdiv t) > 999999999)) = true ↔ (((Sp.lim R2).getD (↑(Sp.lim V).length:Int).toNat default * 1000000000).tdiv t > 999999999):=(by (try rw [w10]);(try rw [w12]);(try rw [w38]);all_goals exact i_dec)
   rcases xm (((Sp.lim R2).getD (↑(Sp.lim V).length:Int).toNat default * 1000000000).tdiv t > 999999999) with d40 | d40
   ·have H:=H.1 d40
    obtain ⟨k41,H⟩:=H
    exact path_wp (G:=given kp82 [(23,3,.call (vf (zNwD6 V)) none)] []) 1000 [false,true] ⟨(atC (cd Tryz.f82) [1,1,1,1,1,1,1,1,1,0,1,0,0,1,0,0,1,1,1,1,1,1,1,0,0,0]),[(8,vu s),(9,vf (us (Sp.lim V))),(10,vw t),(11,vf (us (Sp.lim R2))),(12,AV.ref 0 0 0 n),(13,vf (us (Sp.lim U))),(14,vi i),(16,vw 999999999),(17,vf (zNwD6 V))],[⟨us o,1,0,false,true⟩],_,[],_⟩ (by kernel_rfl) (bc (beq_f (fun h => d14 (i13.1 h))) (bc (i_neq.2 k36) (bc (beq_t (i39.2 d40)) b0))) q0 (ce (@ev115 (false) (V) (999999999) k41) c0) (H)
   ·have H:=H.2 d40
    obtain ⟨k42,H⟩:=H
    have w43:wv (((Sp.lim R2).getD (↑(Sp.lim V).length:Int).toNat default * 1000000000).tdiv t) = ((Sp.lim R2).getD (↑(Sp.lim V).length:Int).toNat default * 1000000000).tdiv t:=wU32 k42
    obtain ⟨k44,H⟩:=H
    exact path_wp (G:=given kp82 [(23,3,.call (vf (zNwD8 V R2 t)) none)] []) 1000 [false,false] ⟨(atC (cd Tryz.f82) [1,1,1,1,1,1,1,1,1,0,1,0,0,1,0,0,1,1,1,1,1,1,1,0,0,0]),[(8,vu s),(9,vf (us (Sp.lim V))),(10,vw t),(11,vf (us (Sp.lim R2))),(12,AV.ref 0 0 0 n),(13,vf (us (Sp.lim U))),(14,vi i),(16,vw (wu ((wu (wu ((Sp.lim R2).getD (↑(Sp.lim V).length:Int).toNat default) * 1000000000)).tdiv t))),(17,vf (zNwD8 V R2 t))],[⟨us o,1,0,false,true⟩],_,[],[pc 115 [vf (us (Sp.lim V)),vu (wv (wu ((wu (wu ((Sp.lim R2).getD (↑(Sp.lim V).length:Int).toNat default) * 1000000000)).tdiv t)))] (vf (zNwD8 V R2 t))]⟩ (by kernel_rfl) (bc (beq_f (fun h => d14 (i13.1 h))) (bc (i_neq.2 k36) (bc (beq_f (fun h => d40 (i39.1 h))) b0))) q0 (ce (by (try rw [w10]);(try rw [w12]);(try rw [w38]);(try rw [w43]);all_goals exact (@ev115 (false) (V) (((Sp.lim R2).getD (↑(Sp.lim V).length:Int).toNat default * 1000000000).tdiv t) k44)) c0) (by (try rw [w10]);(try rw [w12]);(try rw [w38]);all_goals exact H)
 ·have H:=H.2 d4
  have i45:(decide ((↑(us (Sp.lim R2)).length:Int) >= (↑(us (Sp.lim V)).length:Int))) = true ↔ (zNwD11 R2 V):=(by (try rw [w1]);(try rw [w2]);all_goals exact i_dec)
  rcases xm (zNwD11 R2 V) with d46 | d46
  ·have H:=H.1 d46
   obtain ⟨k47,H⟩:=H
   have w48:wi ((↑(Sp.lim V).length:Int) - 1) = (↑(Sp.lim V).length:Int) - 1:=wI64 k47
   have i49:(decide (0 <= wi ((↑(us (Sp.lim V)).length:Int) - 1))) = true ↔ (0 <= (↑(Sp.lim V).length:Int) - 1):=(by (try rw [w2]);(try rw [w48]);all_goals exact i_dec)
   obtain ⟨k50,H⟩:=H
   have i51:(decide ((wi ((↑(us (Sp.lim V)).length:Int) - 1)).toNat < (us (Sp.lim R2)).length)) = true ↔ (((↑(Sp.lim V).length:Int) - 1).toNat < (Sp.lim R2).length):=(by (try rw [w1]);(try rw [w2]);(try rw [w48]);all_goals exact i_dec)
   obtain ⟨k52,H⟩:=H
   obtain ⟨k53,H⟩:=H
   have w54:wu ((Sp.lim R2).getD ((↑(Sp.lim V).length:Int) - 1).toNat default) = (Sp.lim R2).getD ((↑(Sp.lim V).length:Int) - 1).toNat default:=wU64 k53
   obtain ⟨k55,H⟩:=H
   have w56:wu (0 + (Sp.lim R2).getD ((↑(Sp.lim V).length:Int) - 1).toNat default) = 0 + (Sp.lim R2).getD ((↑(Sp.lim V).length:Int) - 1).toNat default:=wU64 k55
   obtain ⟨k58,H⟩:=H
   obtain ⟨k59,H⟩:=H
   have w60:wu ((0 + (Sp.lim R2).getD ((↑(Sp.lim V).length:Int) - 1).toNat default).tdiv t) = (0 + (Sp.lim R2).getD ((↑(Sp.lim V).length:Int) - 1).toNat default).tdiv t:=wU64 k59
   have i61:(decide (wu ((wu (0 + wu ((Sp.lim R2).getD ((↑(Sp.lim V).length:Int) - 1).toNat default))).tdiv t) > 999999999)) = true ↔ ((0 + (Sp.lim R2).getD ((↑(Sp.lim V).length:Int) - 1).toNat default).tdiv t > 999999999):=(by (try rw [w54]);(try rw [w56]);(try rw [w60]);all_goals exact i_dec)
   refine path_wp (G:=given kp82 [(19,6,.elem (zNwD9 R2 V))] []) 16 [false,true] ⟨(atC (cd Tryz.f82) [1,1,1,1,1,1,1,1,1,0,1,0,0,1,0,0,1,1,1,1,1,0,1]),[(8,vu s),(9,vf (us (Sp.lim V))),(10,vw t),(11,vf (us (Sp.lim R2))),(12,AV.ref 0 0 0 n),(13,vf (us (Sp.lim U))),(14,vi i),(16,vw (wu ((wu (0 + wu ((Sp.lim R2).getD ((↑(Sp.lim V).length:Int) - 1).toNat default))).tdiv t))),(117,vb (decide (wu ((wu (0 + wu ((Sp.lim R2).getD ((↑(Sp.lim V).length:Int) - 1).toNat default))).tdiv t) > 999999999)))],[⟨us o,1,0,false,true⟩],_,[((us (Sp.lim R2)).get?Internal (wi ((↑(us (Sp.lim V)).length:Int) - 1)).toNat = some (zNwD9 R2 V))],_⟩ (by kernel_rfl) (bc (beq_f (fun h => d4 (i3.1 h))) (bc (beq_t (i45.2 d46)) (bc (i49.2 k50) (bc (i51.2 k52) (bc (i_neq.2 k58) b0))))) (qc (by (try rw [w2]);(try rw [w48]);all_goals exact (el_map k52)) q0) c0 ?_
   rcases xm ((0 + (Sp.lim R2).getD ((↑(Sp.lim V).length:Int) - 1).toNat default).tdiv t > 999999999) with d62 | d62
   ·have H:=H.1 d62
    obtain ⟨k63,H⟩:=H
    exact path_wp (G:=given kp82 [(23,3,.call (vf (zNwD6 V)) none)] []) 1000 [true] ⟨(atC (cd Tryz.f82) [1,1,1,1,1,1,1,1,1,0,1,0,0,1,0,0,1,1,1,1,1,1,1,0,0,0]),[(8,vu s),(9,vf (us (Sp.lim V))),(10,vw t),(11,vf (us (Sp.lim R2))),(12,AV.ref 0 0 0 n),(13,vf (us (Sp.lim U))),(14,vi i),(16,vw 999999999),(17,vf (zNwD6 V))],[⟨us o,1,0,false,true⟩],_,[],_⟩ (by kernel_rfl) (bc (beq_t (i61.2 d62)) b0) q0 (ce (@ev115 (false) (V) (999999999) k63) c0) (H)
   ·have H:=H.2 d62
    obtain ⟨k64,H⟩:=H
    have w65:wv ((0 + (Sp.lim R2).getD ((↑(Sp.lim V).length:Int) - 1).toNat default).tdiv t) = (0 + (Sp.lim R2).getD ((↑(Sp.lim V).length:Int) - 1).toNat default).tdiv t:=wU32 k64
    obtain ⟨k66,H⟩:=H
    exact path_wp (G:=given kp82 [(23,3,.call (vf (zNwD10 V R2 t)) none)] []) 1000 [false] ⟨(atC (cd Tryz.f82) [1,1,1,1,1,1,1,1,1,0,1,0,0,1,0,0,1,1,1,1,1,1,1,0,0,0]),[(8,vu s),(9,vf (us (Sp.lim V))),(10,vw t),(11,vf (us (Sp.lim R2))),(12,AV.ref 0 0 0 n),(13,vf (us (Sp.lim U))),(14,vi i),(16,vw (wu ((wu (0 + wu ((Sp.lim R2).getD ((↑(Sp.lim V).length:Int) - 1).toNat default))).tdiv t))),(17,vf (zNwD10 V R2 t))],[⟨us o,1,0,false,true⟩],_,[],[pc 115 [vf (us (Sp.lim V)),vu (wv (wu ((wu (0 + wu ((Sp.lim R2).getD ((↑(Sp.lim V).length:Int) - 1).toNat default))).tdiv t)))] (vf (zNwD10 V R2 t))]⟩ (by kernel_rfl) (bc (beq_f (fun h => d62 (i61.1 h))) b0) q0 (ce (by (try rw [w54]);(try rw [w56]);(try rw [w60]);(try rw [w65]);all_goals exact (@ev115 (false) (V) ((0 + (Sp.lim R2).getD ((↑(Sp.lim V).length:Int) - 1).toNat default).tdiv t) k66)) c0) (by (try rw [w54]);(try rw [w56]);(try rw [w60]);all_goals exact H)
  ·have H:=H.2 d46
   obtain ⟨k68,H⟩:=H
   obtain ⟨k69,H⟩:=H
   have w70:wu (Int.tdiv 0 t) = Int.tdiv 0 t:=wU64 k69
   have i71:(decide (wu (Int.tdiv 0 t) > 999999999)) = true ↔ (Int.tdiv 0 t > 999999999):=(by (try rw [w70]);all_goals exact i_dec)
   rcases xm (Int.tdiv 0 t > 999999999) with d72 | d72
   ·have H:=H.1 d72
    obtain ⟨k73,H⟩:=H
    exact path_wp (G:=given kp82 [(23,3,.call (vf (zNwD6 V)) none)] []) 1000 [false,false,true] ⟨(atC (cd Tryz.f82) [1,1,1,1,1,1,1,1,1,0,1,0,0,1,0,0,1,1,1,1,1,1,1,0,0,0]),[(8,vu s),(9,vf (us (Sp.lim V))),(10,vw t),(11,vf (us (Sp.lim R2))),(12,AV.ref 0 0 0 n),(13,vf (us (Sp.lim U))),(14,vi i),(16,vw 999999999),(17,vf (zNwD6 V))],[⟨us o,1,0,false,true⟩],_,[],_⟩ (by kernel_rfl) (bc (beq_f (fun h => d4 (i3.1 h))) (bc (beq_f (fun h => d46 (i45.1 h))) (bc (i_neq.2 k68) (bc (beq_t (i71.2 d72)) b0)))) q0 (ce (@ev115 (false) (V) (999999999) k73) c0) (H)
   ·have H:=H.2 d72
    obtain ⟨k74,H⟩:=H
    have w75:wv (Int.tdiv 0 t) = Int.tdiv 0 t:=wU32 k74
    obtain ⟨k76,H⟩:=H
    exact path_wp (G:=given kp82 [(23,3,.call (vf (zNwD12 V t)) none)] []) 1000 [false,false,false] ⟨(atC (cd Tryz.f82) [1,1,1,1,1,1,1,1,1,0,1,0,0,1,0,0,1,1,1,1,1,1,1,0,0,0]),[(8,vu s),(9,vf (us (Sp.lim V))),(10,vw t),(11,vf (us (Sp.lim R2))),(12,AV.ref 0 0 0 n),(13,vf (us (Sp.lim U))),(14,vi i),(16,vw (wu (Int.tdiv 0 t))),(17,vf (zNwD12 V t))],[⟨us o,1,0,false,true⟩],_,[],[pc 115 [vf (us (Sp.lim V)),vu (wv (wu (Int.tdiv 0 t)))] (vf (zNwD12 V t))]⟩ (by kernel_rfl) (bc (beq_f (fun h => d4 (i3.1 h))) (bc (beq_f (fun h => d46 (i45.1 h))) (bc (i_neq.2 k68) (bc (beq_f (fun h => d72 (i71.1 h))) b0)))) q0 (ce (by (try rw [w70]);(try rw [w75]);all_goals exact (@ev115 (false) (V) (Int.tdiv 0 t) k76)) c0) (by (try rw [w70]);all_goals exact H)
theorem rPartsH (V U:Nat) (s t i:Int) (n:Nat) (o:List Int) (R:Nat)  (dq:AV) (H :
  ((i >= 0) -> False) /\
  (¬(i >= 0) -> (0 <= (↑(Sp.lim R).length:Int)) /\
   ((↑(Sp.lim R).length:Int) * 4 <= 1099511627776) /\
   ((↑(Sp.lim R).length:Int) <= 1099511627776) /\
   (-9223372036854775808 <= (↑(Sp.lim R).length:Int) - 1 /\ (↑(Sp.lim R).length:Int) - 1 <= 9223372036854775807) /\
   rPartsL_at (R) (s) (0) ((↑(Sp.lim R).length:Int) - 1) (n) (o) (List.replicate (↑(Sp.lim R).length:Int).toNat (0:Int)) (PureQ dq))) :
 rPartsH_at V U s t i n o R (PureQ dq):=by
 unfold rPartsH_at
 rcases xm (i >= 0) with d2 | d2
 ·have H:=H.1 d2
  exact False.elim H
 ·have H:=H.2 d2
  have w3:(us (Sp.lim R)).length = (Sp.lim R).length:=List.length_map ..
  have i4:(decide (0 <= (↑(us (Sp.lim R)).length:Int))) = true ↔ (0 <= (↑(Sp.lim R).length:Int)):=(by (try rw [w3]);all_goals exact i_dec)
  obtain ⟨k5,H⟩:=H
  have i6:(decide ((↑(us (Sp.lim R)).length:Int) <= (↑(us (Sp.lim R)).length:Int))) = true ↔ ((↑(Sp.lim R).length:Int) <= (↑(Sp.lim R).length:Int)):=(by (try rw [w3]);all_goals exact i_dec)
  have i7:(decide ((↑(us (Sp.lim R)).length:Int) * 4 <= 1099511627776)) = true ↔ ((↑(Sp.lim R).length:Int) * 4 <= 1099511627776):=(by (try rw [w3]);all_goals exact i_dec)
  obtain ⟨k8,H⟩:=H
  have i9:(decide ((↑(us (Sp.lim R)).length:Int) <= 1099511627776)) = true ↔ ((↑(Sp.lim R).length:Int) <= 1099511627776):=(by (try rw [w3]);all_goals exact i_dec)
  obtain ⟨k10,H⟩:=H
  have w11:List.replicate (↑(Sp.lim R).length:Int).toNat (vu 0) = us (List.replicate (↑(Sp.lim R).length:Int).toNat (0:Int)):=(lm_rep rfl)
  obtain ⟨k12,H⟩:=H
  have w13:wi ((↑(Sp.lim R).length:Int) - 1) = (↑(Sp.lim R).length:Int) - 1:=wI64 k12
  exact path_wp (G:=given kp82 [] []) 1000 [false] ⟨(atC (cd Tryz.f82) [1,1,1,1,1,1,1,1,1,1,1,1,0,1,0,0]),[(8,vu s),(11,vf (us (Sp.lim R))),(12,AV.ref 0 0 0 n),(18,vw 0),(19,AV.row 1 0),(20,vi (wi ((↑(us (Sp.lim R)).length:Int) - 1)))],[⟨us o,1,0,false,true⟩,⟨List.replicate (↑(us (Sp.lim R)).length:Int).toNat (vu 0),1,0,false,true⟩],[(decide (i >= 0)) == false,decide (0 <= (↑(us (Sp.lim R)).length:Int)),decide ((↑(us (Sp.lim R)).length:Int) <= (↑(us (Sp.lim R)).length:Int)),decide ((↑(us (Sp.lim R)).length:Int) * 4 <= 1099511627776),decide ((↑(us (Sp.lim R)).length:Int) <= 1099511627776)],[],_⟩ (by kernel_rfl) (bc (beq_f (fun h => d2 (i_dec.1 h))) (bc (i4.2 k5) (bc (i6.2 (by omega)) (bc (i7.2 k8) (bc (i9.2 k10) b0))))) q0 c0 (by (try rw [w3]);(try rw [w11]);(try rw [w13]);all_goals exact H)
theorem rPartsG (V U:Nat) (s t i:Int) (n:Nat) (o:List Int) (R p:Nat) (g:Int)  (dq:AV) (H :
  (Sp.short (Sp.cnt p) /\ Sp.short (Sp.cnt R)) /\
  ((Sp.sgnI ((↑p:Int) - (↑R:Int)) > 0) -> (0 <= g - 1 /\ g - 1 <= 18446744073709551615) /\
   (Sp.short (Sp.cnt p) /\ V <= p) /\
   rPartsG_at (V) (U) (s) (t) (i) (n) (o) (R) (p - V) (g - 1) (PureQ dq)) /\
  (¬(Sp.sgnI ((↑p:Int) - (↑R:Int)) > 0) -> (Sp.short (Sp.cnt R) /\ p <= R) /\
   (0 <= i) /\
   (i.toNat < n) /\
   (0 + i.toNat < o.length) /\
   (0 <= g /\ g <= 4294967295) /\
   (-9223372036854775808 <= i - 1 /\ i - 1 <= 9223372036854775807) /\
   rPartsH_at (V) (U) (s) (t) (i - 1) (n) (o.set (0 + i.toNat) g) (R - p) (PureQ dq))) :
 rPartsG_at V U s t i n o R p g (PureQ dq):=by
 unfold rPartsG_at
 obtain ⟨k1,H⟩:=H
 refine path_wp (G:=given kp82 [(24,2,.call (vi (Sp.sgnI ((↑p:Int) - (↑R:Int)))) none)] []) 3 [] ⟨(atC (cd Tryz.f82) [1,1,1,1,1,1,1,1,1,0,1,0,0,1,0,0,1,1,1,1,1,1,1,0,0,0,0,1]),[(8,vu s),(9,vf (us (Sp.lim V))),(10,vw t),(11,vf (us (Sp.lim R))),(12,AV.ref 0 0 0 n),(13,vf (us (Sp.lim U))),(14,vi i),(16,vw g),(17,vf (us (Sp.lim p))),(125,vb (decide (Sp.sgnI ((↑p:Int) - (↑R:Int)) > 0)))],[⟨us o,1,0,false,true⟩],_,[],_⟩ (by kernel_rfl) b0 q0 (ce (@ev81_a (false) (false) (p) (R) k1) c0) ?_
 rcases xm (Sp.sgnI ((↑p:Int) - (↑R:Int)) > 0) with d3 | d3
 ·have H:=H.1 d3
  obtain ⟨k4,H⟩:=H
  have w5:wu (g - 1) = g - 1:=wU64 k4
  obtain ⟨k6,H⟩:=H
  exact path_wp (G:=given kp82 [(26,2,.call (vf (us (Sp.lim (p - V)))) none)] []) 1000 [true] ⟨(atC (cd Tryz.f82) [1,1,1,1,1,1,1,1,1,0,1,0,0,1,0,0,1,1,1,1,1,1,1,0,0,0]),[(8,vu s),(9,vf (us (Sp.lim V))),(10,vw t),(11,vf (us (Sp.lim R))),(12,AV.ref 0 0 0 n),(13,vf (us (Sp.lim U))),(14,vi i),(16,vw (wu (g - 1))),(17,vf (us (Sp.lim (p - V))))],[⟨us o,1,0,false,true⟩],_,[],_⟩ (by kernel_rfl) (bc (beq_t (i_dec.2 d3)) b0) q0 (ce (@ev116_a (false) (false) (p) (V) k6) c0) (by (try rw [w5]);all_goals exact H)
 ·have H:=H.2 d3
  obtain ⟨k7,H⟩:=H
  obtain ⟨k9,H⟩:=H
  obtain ⟨k11,H⟩:=H
  obtain ⟨k12,H⟩:=H
  obtain ⟨k13,H⟩:=H
  have w14:wv g = g:=wU32 k13
  have w15:(us o).set (0 + i.toNat) (vu g) = us (o.set (0 + i.toNat) g):=(lm_set rfl rfl)
  obtain ⟨k16,H⟩:=H
  have w17:wi (i - 1) = i - 1:=wI64 k16
  exact path_wp (G:=given kp82 [(27,2,.call (vf (us (Sp.lim (R - p)))) none),(28,5,.elem (vu (o.getD (0 + i.toNat) default)))] []) 1000 [false] ⟨(atC (cd Tryz.f82) [1,1,1,1,1,1,1,1,1,0,1,0,0]),[(8,vu s),(9,vf (us (Sp.lim V))),(10,vw t),(11,vf (us (Sp.lim (R - p)))),(12,AV.ref 0 0 0 n),(13,vf (us (Sp.lim U))),(14,vi (wi (i - 1)))],[⟨(us o).set (0 + i.toNat) (vu (wv g)),1,0,false,true⟩],_,[((us o).get?Internal (0 + i.toNat) = some (vu (o.getD (0 + i.toNat) default)))],_⟩ (by kernel_rfl) (bc (beq_f (fun h => d3 (i_dec.1 h))) (bc rfl (bc (i_dec.2 k9) (bc (i_dec.2 k11) (bc rfl b0))))) (qc (el_map k12) q0) (ce (@ev116_a (false) (false) (R) (p) k7) c0) (by (try rw [w14]);(try rw [w15]);(try rw [w17]);all_goals exact H)
noncomputable abbrev zNwD13 (n:Nat) (o:List Int):=us (Sp.trimL (List.take n (List.drop 0 o)))
theorem rPartsL0 (s:Int) (n:Nat) (o:List Int)  (dq:AV) (H :
  (Sp.short (List.take n (List.drop 0 o)).length) /\
  ∃ (l1:List (Int)),
  (Ev M1 (Conf.pure 80 [vf []]) (vf (us l1)) []) /\
  Weak (tu [vf (us (Sp.trimL (List.take n (List.drop 0 o)))),vf (us l1)]) dq) :
 rPartsL0_at s n o (PureQ dq):=by
 unfold rPartsL0_at
 have w1:List.drop 0 (us o) = us (List.drop 0 o):=(lm_drop rfl)
 have w2:List.take n (us (List.drop 0 o)) = us (List.take n (List.drop 0 o)):=(lm_take rfl)
 obtain ⟨k3,H⟩:=H
 obtain ⟨l1,H⟩:=H
 obtain ⟨k4,H⟩:=H
 exact path_rq (G:=given kp82 [(37,1,.call (vf (zNwD13 n o)) none),(37,3,.call (vf (us l1)) none)] []) 1000 [false] (calls:=[pc 80 [vf (List.take n (List.drop 0 (us o)))] (vf (zNwD13 n o)),pc 80 [vf []] (vf (us l1))]) (tu [vf (zNwD13 n o),vf (us l1)]) (by kernel_rfl) (bc rfl (bc rfl (bc rfl b0))) q0 (ce (by (try rw [w1]);(try rw [w2]);all_goals exact (@ev80_d (false) (List.take n (List.drop 0 o)) k3)) (ce k4 c0)) H
noncomputable abbrev zNwD14 (n:Nat) (o:List Int):=us (Sp.trimL (List.take n (List.drop 0 o)))
theorem rPartsL (R:Nat) (s c i:Int) (n:Nat) (o l:List Int)  (dq:AV) (H :
  ((i >= 0) -> (0 <= i) /\
   (i.toNat < (Sp.lim R).length) /\
   (0 <= c * 1000000000 /\ c * 1000000000 <= 18446744073709551615) /\
   (0 <= (Sp.lim R).getD i.toNat default /\ (Sp.lim R).getD i.toNat default <= 18446744073709551615) /\
   (0 <= c * 1000000000 + (Sp.lim R).getD i.toNat default /\ c * 1000000000 + (Sp.lim R).getD i.toNat default <= 18446744073709551615) /\
   (0 <= s /\ s <= 18446744073709551615) /\
   (¬s = 0) /\
   (i.toNat < l.length) /\
   (0 <= (c * 1000000000 + (Sp.lim R).getD i.toNat default).tdiv s /\ (c * 1000000000 + (Sp.lim R).getD i.toNat default).tdiv s <= 18446744073709551615) /\
   (0 <= (c * 1000000000 + (Sp.lim R).getD i.toNat default).tdiv s /\ (c * 1000000000 + (Sp.lim R).getD i.toNat default).tdiv s <= 4294967295) /\
   (-9223372036854775808 <= i - 1 /\ i - 1 <= 9223372036854775807) /\
   rPartsL_at (R) (s) ((c * 1000000000 + (Sp.lim R).getD i.toNat default).tmod s) (i - 1) (n) (o) (l.set i.toNat ((c * 1000000000 + (Sp.lim R).getD i.toNat default).tdiv s)) (PureQ dq)) /\
  (¬(i >= 0) -> (Sp.short (List.take n (List.drop 0 o)).length) /\
   (Sp.short l.length) /\
   Weak (tu [vf (us (Sp.trimL (List.take n (List.drop 0 o)))),vf (us (Sp.trimL l))]) dq)) :
 rPartsL_at R s c i n o l (PureQ dq):=by
 unfold rPartsL_at
 rcases xm (i >= 0) with d2 | d2
 ·have H:=H.1 d2
  obtain ⟨k4,H⟩:=H
  have w5:(us (Sp.lim R)).length = (Sp.lim R).length:=List.length_map ..
  have i6:(decide (i.toNat < (us (Sp.lim R)).length)) = true ↔ (i.toNat < (Sp.lim R).length):=(by (try rw [w5]);all_goals exact i_dec)
  obtain ⟨k7,H⟩:=H
  obtain ⟨k8,H⟩:=H
  have w9:wu (c * 1000000000) = c * 1000000000:=wU64 k8
  obtain ⟨k10,H⟩:=H
  have w11:wu ((Sp.lim R).getD i.toNat default) = (Sp.lim R).getD i.toNat default:=wU64 k10
  obtain ⟨k12,H⟩:=H
  have w13:wu (c * 1000000000 + (Sp.lim R).getD i.toNat default) = c * 1000000000 + (Sp.lim R).getD i.toNat default:=wU64 k12
  obtain ⟨k14,H⟩:=H
  have w15:wu s = s:=wU64 k14
  have i16:(!wu s == 0) = true ↔ (¬s = 0):=(by (try rw [w15]);all_goals exact i_neq)
  obtain ⟨k17,H⟩:=H
  have w19:(us l).length = l.length:=List.length_map ..
  have i20:(decide (i.toNat < (us l).length)) = true ↔ (i.toNat < l.length):=(by (try rw [w19]);all_goals exact i_dec)
  obtain ⟨k21,H⟩:=H
  obtain ⟨k22,H⟩:=H
  have w23:wu ((c * 1000000000 + (Sp.lim R).getD i.toNat default).tdiv s) = (c * 1000000000 + (Sp.lim R).getD i.toNat default).tdiv s:=wU64 k22
  obtain ⟨k24,H⟩:=H
  have w25:wv ((c * 1000000000 + (Sp.lim R).getD i.toNat default).tdiv s) = (c * 1000000000 + (Sp.lim R).getD i.toNat default).tdiv s:=wU32 k24
  have w26:(us l).set i.toNat (vu ((c * 1000000000 + (Sp.lim R).getD i.toNat default).tdiv s)) = us (l.set i.toNat ((c * 1000000000 + (Sp.lim R).getD i.toNat default).tdiv s)):=(lm_set rfl rfl)
  have i27:(!wu s == 0) = true ↔ (¬s = 0):=(by (try rw [w15]);all_goals exact i_neq)
  obtain ⟨k28,H⟩:=H
  have w29:wi (i - 1) = i - 1:=wI64 k28
  exact path_wp (G:=given kp82 [(34,5,.elem (vu ((Sp.lim R).getD i.toNat default))),(35,8,.elem (vu (l.getD i.toNat default)))] []) 1000 [true] ⟨(atC (cd Tryz.f82) [1,1,1,1,1,1,1,1,1,1,1,1,0,1,0,0]),[(8,vu s),(11,vf (us (Sp.lim R))),(12,AV.ref 0 0 0 n),(18,vw ((wu (wu (c * 1000000000) + wu ((Sp.lim R).getD i.toNat default))).tmod (wu s))),(19,AV.row 1 0),(20,vi (wi (i - 1)))],[⟨us o,1,0,false,true⟩,⟨(us l).set i.toNat (vu (wv (wu ((wu (wu (c * 1000000000) + wu ((Sp.lim R).getD i.toNat default))).tdiv (wu s))))),1,0,false,true⟩],_,[((us (Sp.lim R)).get?Internal i.toNat = some (vu ((Sp.lim R).getD i.toNat default))),((us l).get?Internal i.toNat = some (vu (l.getD i.toNat default)))],_⟩ (by kernel_rfl) (bc (beq_t (i_dec.2 d2)) (bc (i_dec.2 k4) (bc (i6.2 k7) (bc (i16.2 k17) (bc rfl (bc (i_dec.2 k4) (bc (i20.2 k21) (bc rfl (bc (i27.2 k17) b0))))))))) (qc (el_map k7) (qc (el_map k21) q0)) c0 (by (try rw [w9]);(try rw [w11]);(try rw [w13]);(try rw [w15]);(try rw [w23]);(try rw [w25]);(try rw [w26]);(try rw [w29]);all_goals exact H)
 ·have H:=H.2 d2
  have w30:List.drop 0 (us o) = us (List.drop 0 o):=(lm_drop rfl)
  have w31:List.take n (us (List.drop 0 o)) = us (List.take n (List.drop 0 o)):=(lm_take rfl)
  obtain ⟨k32,H⟩:=H
  obtain ⟨k33,H⟩:=H
  exact path_rq (G:=given kp82 [(37,1,.call (vf (zNwD14 n o)) none),(37,3,.call (vf (us (Sp.trimL l))) none)] []) 1000 [false] (calls:=[pc 80 [vf (List.take n (List.drop 0 (us o)))] (vf (zNwD14 n o)),pc 80 [vf (us l)] (vf (us (Sp.trimL l)))]) (tu [vf (zNwD14 n o),vf (us (Sp.trimL l))]) (by kernel_rfl) (bc (beq_f (fun h => d2 (i_dec.1 h))) (bc rfl (bc rfl b0))) q0 (ce (by (try rw [w30]);(try rw [w31]);all_goals exact (@ev80_d (false) (List.take n (List.drop 0 o)) k32)) (ce (@ev80_d (false) (l) k33) c0)) H
end Go.Av

namespace Go.Av
open Go.Proofs
theorem scl_facts1 {D:Nat} (h:1 <= Sp.cnt D):0 < Sp.scl D /\ Sp.scl D < 1000000000 /\ Sp.fits (Sp.cnt D) (D * Sp.scl D) /\ 1000000000 ^ (Sp.cnt D - 1) <= D * Sp.scl D /\ D / 1000000000 ^ (Sp.cnt D - 1) < 1000000000:=by
 have hf:=fits_self D
 have ht:D / 1000000000 ^ (Sp.cnt D - 1) < 1000000000:=fits_top (by rw [show Sp.cnt D - 1 + 1 = Sp.cnt D by omega];exact hf)
 have hnf:¬Sp.fits (Sp.cnt D - 1) D:=fun k => by have:=fits_cnt.1 k;omega
 have hge:1000000000 ^ (Sp.cnt D - 1) <= D:=by unfold Sp.fits at hnf;omega
 have ht1:0 < D / 1000000000 ^ (Sp.cnt D - 1):=Nat.div_pos hge (Nat.pow_pos (by omega))
 have hlt:D < 1000000000 ^ (Sp.cnt D - 1) * (D / 1000000000 ^ (Sp.cnt D - 1) + 1):=Nat.lt_mul_div_succ D (Nat.pow_pos (by omega))
 have hp:1000000000 ^ Sp.cnt D = 1000000000 ^ (Sp.cnt D - 1) * 1000000000:=by rw [<- Nat.pow_succ];congr 1;omega
 have hs1:0 < Sp.scl D:=Nat.div_pos (by omega) (by omega)
 have hs2:Sp.scl D * (D / 1000000000 ^ (Sp.cnt D - 1) + 1) <= 1000000000:=Nat.div_mul_le_self _ _
 unfold Sp.fits
 rw [hp]
 generalize D / 1000000000 ^ (Sp.cnt D - 1) = t at ht1 ht hlt hs2
 generalize 1000000000 ^ (Sp.cnt D - 1) = P at hge hlt
 have hs3:Sp.scl D < 1000000000:=by
  have:Sp.scl D * 2 <= Sp.scl D * (t + 1):=Nat.mul_le_mul_left _ (by omega)
  omega
 generalize Sp.scl D = s at hs1 hs2 hs3
 refine ⟨hs1,hs3,?_,?_,ht⟩
 ·have h1:D * s < P * (t + 1) * s:=Nat.mul_lt_mul_of_pos_right hlt hs1
  have h2:P * (t + 1) * s = P * (s * (t + 1)):=by grind
  have h3:P * (s * (t + 1)) <= P * 1000000000:=Nat.mul_le_mul_left _ hs2
  omega
 ·have:D * 1 <= D * s:=Nat.mul_le_mul_left _ hs1
  omega
theorem top_facts {V:Nat} (hV:V ≠ 0):1 <= Sp.cnt V /\ 1 <= V / 1000000000 ^ (Sp.cnt V - 1) /\ V / 1000000000 ^ (Sp.cnt V - 1) < 1000000000:=by
 have hm:1 <= Sp.cnt V:=by
  have:=cnt_eq_zero (v:=V)
  omega
 have hnf:¬Sp.fits (Sp.cnt V - 1) V:=fun k => by have:=fits_cnt.1 k;omega
 have hge:1000000000 ^ (Sp.cnt V - 1) <= V:=by unfold Sp.fits at hnf;omega
 exact ⟨hm,Nat.div_pos hge (Nat.pow_pos (by omega)),fits_top (by rw [show Sp.cnt V - 1 + 1 = Sp.cnt V by omega];exact fits_self V)⟩
theorem fits_row {V R:Nat} (h:R < V * 1000000000):Sp.fits (Sp.cnt V + 1) R:=by
 have h1:=fits_self V
 unfold Sp.fits at h1 ⊢
 rw [Nat.pow_succ]
 exact Nat.lt_of_lt_of_le h (Nat.mul_le_mul_right _ (Nat.le_of_lt h1))
theorem partsTail {V R2 T:Nat} {t:Int} {G:Nat -> Int -> Prop} (hV:V ≠ 0) (hc:Sp.cnt V <= 400000) (hT:T = V / 1000000000 ^ (Sp.cnt V - 1)) (ht:t = (T:Int)) (hR:R2 < V * 1000000000)
  (hG:∀ g:Nat,R2 / V <= g -> g < 1000000000 -> G (V * g) (g:Int)) :
   (((↑(Sp.lim R2).length:Int) > (↑(Sp.lim V).length:Int)) -> (0 <= (↑(Sp.lim V).length:Int)) /\
    ((↑(Sp.lim V).length:Int).toNat < (Sp.lim R2).length) /\
    (0 <= (Sp.lim R2).getD (↑(Sp.lim V).length:Int).toNat default /\ (Sp.lim R2).getD (↑(Sp.lim V).length:Int).toNat default <= 18446744073709551615) /\
    (0 <= (Sp.lim R2).getD (↑(Sp.lim V).length:Int).toNat default * 1000000000 /\ (Sp.lim R2).getD (↑(Sp.lim V).length:Int).toNat default * 1000000000 <= 18446744073709551615) /\
    (((↑(Sp.lim R2).length:Int) >= (↑(Sp.lim V).length:Int)) -> (-9223372036854775808 <= (↑(Sp.lim V).length:Int) - 1 /\ (↑(Sp.lim V).length:Int) - 1 <= 9223372036854775807) /\
     (0 <= (↑(Sp.lim V).length:Int) - 1) /\
     (((↑(Sp.lim V).length:Int) - 1).toNat < (Sp.lim R2).length) /\
     (0 <= (Sp.lim R2).getD ((↑(Sp.lim V).length:Int) - 1).toNat default /\ (Sp.lim R2).getD ((↑(Sp.lim V).length:Int) - 1).toNat default <= 18446744073709551615) /\
     (0 <= (Sp.lim R2).getD (↑(Sp.lim V).length:Int).toNat default * 1000000000 + (Sp.lim R2).getD ((↑(Sp.lim V).length:Int) - 1).toNat default /\ (Sp.lim R2).getD (↑(Sp.lim V).length:Int).toNat default * 1000000000 + (Sp.lim R2).getD ((↑(Sp.lim V).length:Int) - 1).toNat default <= 18446744073709551615) /\
     (¬t = 0) /\
     (0 <= ((Sp.lim R2).getD (↑(Sp.lim V).length:Int).toNat default * 1000000000 + (Sp.lim R2).getD ((↑(Sp.lim V).length:Int) - 1).toNat default).tdiv t /\ ((Sp.lim R2).getD (↑(Sp.lim V).length:Int).toNat default * 1000000000 + (Sp.lim R2).getD ((↑(Sp.lim V).length:Int) - 1).toNat default).tdiv t <= 18446744073709551615) /\
     ((((Sp.lim R2).getD (↑(Sp.lim V).length:Int).toNat default * 1000000000 + (Sp.lim R2).getD ((↑(Sp.lim V).length:Int) - 1).toNat default).tdiv t > 999999999) -> (Sp.okB (↑V:Int) /\ Sp.dig 999999999) /\
      G (V * Int.toNat 999999999) (999999999)) /\
     (¬(((Sp.lim R2).getD (↑(Sp.lim V).length:Int).toNat default * 1000000000 + (Sp.lim R2).getD ((↑(Sp.lim V).length:Int) - 1).toNat default).tdiv t > 999999999) -> (0 <= ((Sp.lim R2).getD (↑(Sp.lim V).length:Int).toNat default * 1000000000 + (Sp.lim R2).getD ((↑(Sp.lim V).length:Int) - 1).toNat default).tdiv t /\ ((Sp.lim R2).getD (↑(Sp.lim V).length:Int).toNat default * 1000000000 + (Sp.lim R2).getD ((↑(Sp.lim V).length:Int) - 1).toNat default).tdiv t <= 4294967295) /\
      (Sp.okB (↑V:Int) /\ Sp.dig (((Sp.lim R2).getD (↑(Sp.lim V).length:Int).toNat default * 1000000000 + (Sp.lim R2).getD ((↑(Sp.lim V).length:Int) - 1).toNat default).tdiv t)) /\
      G (V * (((Sp.lim R2).getD (↑(Sp.lim V).length:Int).toNat default * 1000000000 + (Sp.lim R2).getD ((↑(Sp.lim V).length:Int) - 1).toNat default).tdiv t).toNat) (((Sp.lim R2).getD (↑(Sp.lim V).length:Int).toNat default * 1000000000 + (Sp.lim R2).getD ((↑(Sp.lim V).length:Int) - 1).toNat default).tdiv t))) /\
    (¬((↑(Sp.lim R2).length:Int) >= (↑(Sp.lim V).length:Int)) -> (¬t = 0) /\
     (0 <= ((Sp.lim R2).getD (↑(Sp.lim V).length:Int).toNat default * 1000000000).tdiv t /\ ((Sp.lim R2).getD (↑(Sp.lim V).length:Int).toNat default * 1000000000).tdiv t <= 18446744073709551615) /\
     ((((Sp.lim R2).getD (↑(Sp.lim V).length:Int).toNat default * 1000000000).tdiv t > 999999999) -> (Sp.okB (↑V:Int) /\ Sp.dig 999999999) /\
      G (V * Int.toNat 999999999) (999999999)) /\
     (¬(((Sp.lim R2).getD (↑(Sp.lim V).length:Int).toNat default * 1000000000).tdiv t > 999999999) -> (0 <= ((Sp.lim R2).getD (↑(Sp.lim V).length:Int).toNat default * 1000000000).tdiv t /\ ((Sp.lim R2).getD (↑(Sp.lim V).length:Int).toNat default * 1000000000).tdiv t <= 4294967295) /\
      (Sp.okB (↑V:Int) /\ Sp.dig (((Sp.lim R2).getD (↑(Sp.lim V).length:Int).toNat default * 1000000000).tdiv t)) /\
      G (V * (((Sp.lim R2).getD (↑(Sp.lim V).length:Int).toNat default * 1000000000).tdiv t).toNat) (((Sp.lim R2).getD (↑(Sp.lim V).length:Int).toNat default * 1000000000).tdiv t)))) /\
   (¬((↑(Sp.lim R2).length:Int) > (↑(Sp.lim V).length:Int)) -> (((↑(Sp.lim R2).length:Int) >= (↑(Sp.lim V).length:Int)) -> (-9223372036854775808 <= (↑(Sp.lim V).length:Int) - 1 /\ (↑(Sp.lim V).length:Int) - 1 <= 9223372036854775807) /\
     (0 <= (↑(Sp.lim V).length:Int) - 1) /\
     (((↑(Sp.lim V).length:Int) - 1).toNat < (Sp.lim R2).length) /\
     (0 <= (Sp.lim R2).getD ((↑(Sp.lim V).length:Int) - 1).toNat default /\ (Sp.lim R2).getD ((↑(Sp.lim V).length:Int) - 1).toNat default <= 18446744073709551615) /\
     (0 <= 0 + (Sp.lim R2).getD ((↑(Sp.lim V).length:Int) - 1).toNat default /\ 0 + (Sp.lim R2).getD ((↑(Sp.lim V).length:Int) - 1).toNat default <= 18446744073709551615) /\
     (¬t = 0) /\
     (0 <= (0 + (Sp.lim R2).getD ((↑(Sp.lim V).length:Int) - 1).toNat default).tdiv t /\ (0 + (Sp.lim R2).getD ((↑(Sp.lim V).length:Int) - 1).toNat default).tdiv t <= 18446744073709551615) /\
     (((0 + (Sp.lim R2).getD ((↑(Sp.lim V).length:Int) - 1).toNat default).tdiv t > 999999999) -> (Sp.okB (↑V:Int) /\ Sp.dig 999999999) /\
      G (V * Int.toNat 999999999) (999999999)) /\
     (¬((0 + (Sp.lim R2).getD ((↑(Sp.lim V).length:Int) - 1).toNat default).tdiv t > 999999999) -> (0 <= (0 + (Sp.lim R2).getD ((↑(Sp.lim V).length:Int) - 1).toNat default).tdiv t /\ (0 + (Sp.lim R2).getD ((↑(Sp.lim V).length:Int) - 1).toNat default).tdiv t <= 4294967295) /\
      (Sp.okB (↑V:Int) /\ Sp.dig ((0 + (Sp.lim R2).getD ((↑(Sp.lim V).length:Int) - 1).toNat default).tdiv t)) /\
      G (V * ((0 + (Sp.lim R2).getD ((↑(Sp.lim V).length:Int) - 1).toNat default).tdiv t).toNat) ((0 + (Sp.lim R2).getD ((↑(Sp.lim V).length:Int) - 1).toNat default).tdiv t))) /\
    (¬((↑(Sp.lim R2).length:Int) >= (↑(Sp.lim V).length:Int)) -> (¬t = 0) /\
     (0 <= Int.tdiv 0 t /\ Int.tdiv 0 t <= 18446744073709551615) /\
     ((Int.tdiv 0 t > 999999999) -> (Sp.okB (↑V:Int) /\ Sp.dig 999999999) /\
      G (V * Int.toNat 999999999) (999999999)) /\
     (¬(Int.tdiv 0 t > 999999999) -> (0 <= Int.tdiv 0 t /\ Int.tdiv 0 t <= 4294967295) /\
      (Sp.okB (↑V:Int) /\ Sp.dig (Int.tdiv 0 t)) /\
      G (V * (Int.tdiv 0 t).toNat) (Int.tdiv 0 t)))):=by
 obtain ⟨hm,hT1,hTlt⟩:=top_facts hV
 rw [<- hT] at hT1 hTlt
 have hqB:R2 / V < 1000000000:=Nat.div_lt_of_lt_mul hR
 have hfR:Sp.fits (Sp.cnt V + 1) R2:=fits_row hR
 have hcR:=fits_cnt.1 hfR
 have hq:R2 / V <= R2 / 1000000000 ^ (Sp.cnt V - 1) / T:=by
  rw [Nat.le_div_iff_mul_le hT1,Nat.le_div_iff_mul_le (Nat.pow_pos (by omega))]
  have h1:T * 1000000000 ^ (Sp.cnt V - 1) <= V:=by rw [hT];exact Nat.div_mul_le_self _ _
  have h2:=Nat.mul_le_mul_left (R2 / V) h1
  have h3:=Nat.div_mul_le_self R2 V
  rw [Nat.mul_assoc];omega
 have hsp:=digit_split R2 (Sp.cnt V - 1)
 rw [show Sp.cnt V - 1 + 1 = Sp.cnt V by omega] at hsp
 have hd1:R2 / 1000000000 ^ Sp.cnt V < 1000000000:=fits_top hfR
 have hd0:R2 / 1000000000 ^ (Sp.cnt V - 1) % 1000000000 < 1000000000:=Nat.mod_lt _ (by omega)
 have e0:((Sp.cnt V:Int) - 1).toNat = Sp.cnt V - 1:=by omega
 have okV:Sp.okB (V:Int):=by unfold Sp.okB;rw [Int.natAbs_natCast];exact hc
 subst ht
 have hHb:R2 / 1000000000 ^ (Sp.cnt V - 1) <= 18446744073709551615:=by
  generalize R2 / 1000000000 ^ Sp.cnt V = d1 at hsp hd1
  omega
 have key:∀ x:Int,x = ((R2 / 1000000000 ^ (Sp.cnt V - 1):Nat):Int) -> (¬(T:Int) = 0) /\ (0 <= x.tdiv T /\ x.tdiv T <= 18446744073709551615) /\
   ((x.tdiv T > 999999999) -> (Sp.okB (V:Int) /\ Sp.dig 999999999) /\ G (V * Int.toNat 999999999) 999999999) /\
   (¬(x.tdiv T > 999999999) -> (0 <= x.tdiv T /\ x.tdiv T <= 4294967295) /\ (Sp.okB (V:Int) /\ Sp.dig (x.tdiv T)) /\ G (V * (x.tdiv T).toNat) (x.tdiv T)):=by
  intro x hx
  have e:x.tdiv T = ((R2 / 1000000000 ^ (Sp.cnt V - 1) / T:Nat):Int):=by rw [hx];exact (Int.ofNat_tdiv _ _).symm
  have hb:R2 / 1000000000 ^ (Sp.cnt V - 1) / T <= 18446744073709551615:=Nat.le_trans (Nat.div_le_self _ _) hHb
  rw [e,Int.toNat_natCast]
  generalize R2 / 1000000000 ^ (Sp.cnt V - 1) / T = z at hq hb
  refine ⟨by omega,by omega,fun _ => ⟨⟨okV,by unfold Sp.dig;omega⟩,hG 999999999 (by omega) (by omega)⟩,fun h => ⟨by omega,⟨okV,by unfold Sp.dig;omega⟩,hG z hq (by omega)⟩⟩
 simp only [lim_len,Int.toNat_natCast,e0]
 refine ⟨fun h => ?_,fun h => ⟨fun h2 => ?_,fun h2 => ?_⟩⟩
 ·have g1:(Sp.lim R2).getD (Sp.cnt V) default = ((R2 / 1000000000 ^ Sp.cnt V % 1000000000:Nat):Int):=limN_getD R2 (show Sp.cnt V < Sp.cnt R2 by omega)
  have g0:(Sp.lim R2).getD (Sp.cnt V - 1) default = ((R2 / 1000000000 ^ (Sp.cnt V - 1) % 1000000000:Nat):Int):=limN_getD R2 (show Sp.cnt V - 1 < Sp.cnt R2 by omega)
  rw [g1,g0,Nat.mod_eq_of_lt hd1]
  have hx:((R2 / 1000000000 ^ Sp.cnt V:Nat):Int) * 1000000000 + ((R2 / 1000000000 ^ (Sp.cnt V - 1) % 1000000000:Nat):Int) = ((R2 / 1000000000 ^ (Sp.cnt V - 1):Nat):Int):=by
   generalize R2 / 1000000000 ^ Sp.cnt V = d1 at hsp hd1
   generalize R2 / 1000000000 ^ (Sp.cnt V - 1) = d0 at hsp hd0
   omega
  have kk:=key _ hx
  generalize R2 / 1000000000 ^ Sp.cnt V = d1 at hd1 kk
  generalize R2 / 1000000000 ^ (Sp.cnt V - 1) % 1000000000 = d0 at hd0 kk
  exact ⟨by omega,by omega,by omega,by omega,fun _ => ⟨by omega,by omega,by omega,by omega,by omega,kk⟩,fun h3 => absurd h (by omega)⟩
 ·have g0:(Sp.lim R2).getD (Sp.cnt V - 1) default = ((R2 / 1000000000 ^ (Sp.cnt V - 1) % 1000000000:Nat):Int):=limN_getD R2 (show Sp.cnt V - 1 < Sp.cnt R2 by omega)
  have hz:R2 / 1000000000 ^ Sp.cnt V = 0:=fits_div (fits_self R2) (by omega)
  rw [g0]
  have hx:0 + ((R2 / 1000000000 ^ (Sp.cnt V - 1) % 1000000000:Nat):Int) = ((R2 / 1000000000 ^ (Sp.cnt V - 1):Nat):Int):=by
   rw [hz] at hsp
   generalize R2 / 1000000000 ^ (Sp.cnt V - 1) = d0 at hsp hd0
   omega
  have kk:=key _ hx
  generalize R2 / 1000000000 ^ (Sp.cnt V - 1) % 1000000000 = d0 at hd0 kk
  exact ⟨by omega,by omega,by omega,by omega,by omega,kk⟩
 ·have hz:R2 / 1000000000 ^ (Sp.cnt V - 1) = 0:=fits_div (fits_self R2) (by omega)
  exact key 0 (by rw [hz];rfl)
theorem rloopG {V U R2 n:Nat} {s t i:Int} {o:List Int} {dq:AV} (hV:V ≠ 0) (hc:Sp.cnt V <= 400000) (hR:R2 < V * 1000000000) (hi:0 <= i /\ i.toNat < n /\ i.toNat < o.length /\ i <= 9000000)
  (hn:rPartsH_at V U s t (i - 1) n (o.set i.toNat ((R2 / V:Nat):Int)) (R2 % V) (PureQ dq)) :
  ∀ (k g:Nat),g = R2 / V + k -> g < 1000000000 -> rPartsG_at V U s t i n o R2 (V * g) (g:Int) (PureQ dq):=by
 have hqm:=Nat.div_add_mod R2 V
 have hml:=Nat.mod_lt R2 (Nat.pos_of_ne_zero hV)
 have hcR:Sp.cnt R2 <= Sp.cnt V + 1:=fits_cnt.1 (fits_row hR)
 generalize R2 / V = q at hn hqm ⊢
 generalize R2 % V = r at hn hqm hml
 have hcp:∀ g,g < 1000000000 -> Sp.cnt (V * g) <= Sp.cnt V + 1:=fun g hg => fits_cnt.1 (fits_prod (fits_self V) (by unfold Sp.fits;omega))
 intro k
 induction k with
 | zero =>
  intro g hg hlt
  have hg:g = q:=by omega
  subst hg
  have e:R2 - V * g = r:=by omega
  have hcp:=hcp _ hlt
  refine rPartsG _ _ _ _ _ _ _ _ _ _ _ ⟨⟨by unfold Sp.short;omega,by unfold Sp.short;omega⟩,fun h => ?_,fun h => ⟨⟨by unfold Sp.short;omega,by omega⟩,hi.1,hi.2.1,by omega,by omega,by omega,?_⟩⟩
  ·exfalso
   have:¬(((V * g:Nat):Int) - (R2:Int) > 0):=by omega
   unfold Sp.sgnI at h
   (repeat' split at h) <;> omega
  ·rw [Nat.zero_add,e];exact hn
 | succ k ih =>
  intro g hg hlt
  have hgt:R2 < V * g:=by
   have:V * (q + 1) <= V * g:=Nat.mul_le_mul_left _ (by omega)
   rw [Nat.mul_succ] at this;omega
  have hcp:=hcp _ hlt
  have hVg:V <= V * g:=Nat.le_mul_of_pos_right _ (by omega)
  have e:V * g - V = V * (g - 1):=by
   rw [Nat.mul_sub];simp
  refine rPartsG _ _ _ _ _ _ _ _ _ _ _ ⟨⟨by unfold Sp.short;omega,by unfold Sp.short;omega⟩,fun h => ⟨by omega,⟨by unfold Sp.short;omega,hVg⟩,?_⟩,fun h => ?_⟩
  ·rw [e,show (g:Int) - 1 = ((g - 1:Nat):Int) by omega]
   exact ih (g - 1) (by omega) (by omega)
  ·exfalso
   unfold Sp.sgnI at h
   (repeat' split at h) <;> omega
end Go.Av

namespace Go.Av
open Go.Proofs
theorem loopLR {R s n Q:Nat} {o:List Int} (hs:0 < s /\ s < 1000000000) (ho:o.take n = Sp.limN n Q) (hQ:Sp.fits n Q) (hn:n <= 1000000) (hR:Sp.cnt R <= 1000000):∀ (i k:Nat) (l:List Int),i + k = Sp.cnt R -> l.length = Sp.cnt R -> l.drop i = Sp.limN k (R / 1000000000 ^ i / s) ->
  rPartsL_at R s ((R / 1000000000 ^ i % s:Nat):Int) ((i:Int) - 1) n o l (PureQ (.tup [usA false (Sp.lim Q),usA false (Sp.lim (R / s))]))
 | 0,k,l,hi,hol,hl => by
  have hk:k = Sp.cnt R:=by omega
  subst hk
  rw [List.drop_zero] at hl
  simp only [Nat.pow_zero,Nat.div_one] at hl ⊢
  refine rPartsL _ _ _ _ _ _ _ _ ⟨fun h => by omega,fun _ => ?_⟩
  rw [List.drop_zero,ho,hl,limN_len,limN_len,trimL_limN hQ,trimL_limN (fits_le (fits_self R) (Nat.div_le_self _ _))]
  exact ⟨hn,hR,.refl _⟩
 | i + 1,k,l,hi,hol,hl => by
  have gx:(Sp.lim R).getD i default = ((R / 1000000000 ^ i % 1000000000:Nat):Int):=limN_getD R (show i < Sp.cnt R by omega)
  have e1:(((i + 1:Nat):Int) - 1) = (i:Nat):=by omega
  have hsp:=digit_split R i
  have hx:R / 1000000000 ^ i % 1000000000 < 1000000000:=Nat.mod_lt _ (by omega)
  obtain ⟨b1,b2,b3⟩:=byWord_step (R / 1000000000 ^ (i + 1)) (R / 1000000000 ^ i % 1000000000) s hx hs.1
  have hs':R / 1000000000 ^ i % 1000000000 + 1000000000 * (R / 1000000000 ^ (i + 1)) = R / 1000000000 ^ i:=by omega
  rw [hs'] at b1 b2
  have hr:=Nat.mod_lt (R / 1000000000 ^ (i + 1)) hs.1
  rw [e1]
  refine rPartsL _ _ _ _ _ _ _ _ ⟨fun _ => ?_,fun h => by omega⟩
  rw [Int.toNat_natCast,gx,lim_len]
  have c1:((R / 1000000000 ^ (i + 1) % s:Nat):Int) * 1000000000 + ((R / 1000000000 ^ i % 1000000000:Nat):Int) = ((R / 1000000000 ^ (i + 1) % s * 1000000000 + R / 1000000000 ^ i % 1000000000:Nat):Int):=by omega
  obtain ⟨q0,hq0⟩:∃ q0,q0 = (R / 1000000000 ^ (i + 1) % s * 1000000000 + R / 1000000000 ^ i % 1000000000) / s:=⟨_,rfl⟩
  have c2:(((R / 1000000000 ^ (i + 1) % s * 1000000000 + R / 1000000000 ^ i % 1000000000:Nat):Int)).tdiv s = (q0:Nat):=by rw [hq0];exact (Int.ofNat_tdiv _ _).symm
  have c3:(((R / 1000000000 ^ (i + 1) % s * 1000000000 + R / 1000000000 ^ i % 1000000000:Nat):Int)).tmod s = ((R / 1000000000 ^ i % s:Nat):Int):=by rw [b2];exact (Int.ofNat_tmod _ _).symm
  rw [<- hq0] at b1 b3
  rw [c1,c2,c3]
  have main:rPartsL_at R s ((R / 1000000000 ^ i % s:Nat):Int) ((i:Int) - 1) n o (l.set i (q0:Nat)) (PureQ (.tup [usA false (Sp.lim Q),usA false (Sp.lim (R / s))])):=by
   refine loopLR hs ho hQ hn hR i (k + 1) _ (by omega) (by simpa using hol) ?_
   rw [drop_set_self (by omega),hl,limN_succ,b1]
   generalize R / 1000000000 ^ (i + 1) / s = z
   have e2:(1000000000 * z + q0) % 1000000000 = q0:=by omega
   have e3:(1000000000 * z + q0) / 1000000000 = z:=by omega
   rw [e2,e3]
  have hx':((R / 1000000000 ^ i % 1000000000:Nat):Int) < 1000000000:=by omega
  have hr':R / 1000000000 ^ (i + 1) % s < 1000000000:=by omega
  generalize R / 1000000000 ^ (i + 1) % s = X at hr' main ⊢
  generalize R / 1000000000 ^ i % 1000000000 = Y at hx' main ⊢
  exact ⟨by omega,by omega,by omega,by omega,by omega,by omega,by omega,by omega,by omega,by omega,by omega,main⟩
theorem stepH {V U s j n:Nat} {t:Int} {o:List Int} {dq:AV} (hV:V ≠ 0) (hc:Sp.cnt V <= 400000) (hn:n = Sp.cnt U) (hU:n <= 500000) (ht:t = ((V / 1000000000 ^ (Sp.cnt V - 1):Nat):Int)) (hj:j < n) (hol:n <= o.length)
  (ih:rPartsH_at V U s t ((j:Int) - 1) n (o.set j ((U / 1000000000 ^ j % 1000000000 + 1000000000 * (U / 1000000000 ^ (j + 1) % V)) / V:Nat)) (U / 1000000000 ^ j % V) (PureQ dq)) :
  (U / 1000000000 ^ (j + 1) % V = 0 -> rPartsAE_at V U s t j n o (PureQ dq) /\ rPartsA0_at V U s t j n o (PureQ dq)) /\
  (∀ c l,Sp.lim (U / 1000000000 ^ (j + 1) % V) = c :: l -> rPartsA_at V U s t j n o c l (PureQ dq)):=by
 subst hn
 have gx:(Sp.lim U).getD j default = ((U / 1000000000 ^ j % 1000000000:Nat):Int):=limN_getD U hj
 have hx:U / 1000000000 ^ j % 1000000000 < 1000000000:=Nat.mod_lt _ (by omega)
 have hsp:=digit_split U j
 have hs':U / 1000000000 ^ j % 1000000000 + 1000000000 * (U / 1000000000 ^ (j + 1)) = U / 1000000000 ^ j:=by omega
 obtain ⟨b1,b2,b3⟩:=byWord_step (U / 1000000000 ^ (j + 1)) (U / 1000000000 ^ j % 1000000000) V hx (Nat.pos_of_ne_zero hV)
 rw [hs'] at b2
 have hr:=Nat.mod_lt (U / 1000000000 ^ (j + 1)) (Nat.pos_of_ne_zero hV)
 rw [b2] at ih
 generalize U / 1000000000 ^ (j + 1) % V = R at hr ih b3 ⊢
 generalize U / 1000000000 ^ j % 1000000000 = x at hx gx ih b3
 have e2:R * 1000000000 + x = x + 1000000000 * R:=by omega
 rw [e2] at ih b3
 have hlu:=lim_len U
 have hR2:x + 1000000000 * R < V * 1000000000:=by omega
 have tl:=partsTail (G:=fun p g => rPartsG_at V U s t j (Sp.cnt U) o (x + 1000000000 * R) p g (PureQ dq)) (R2:=x + 1000000000 * R) hV hc rfl ht hR2
  (fun g hg hlt => rloopG (i:=(j:Int)) hV hc hR2 ⟨by omega,by omega,by omega,by omega⟩ (by rw [Int.toNat_natCast];exact ih) (g - (x + 1000000000 * R) / V) g (by omega) hlt)
 have one:R = 0 -> Ev M1 (.pure 80 [.vec true 1 [.int .u32 ((Sp.lim U).getD (j:Int).toNat default)]]) (usA false (Sp.lim (x + 1000000000 * R))) []:=by
  intro h0
  have:=rtrimN true 1 x ⟨by unfold Sp.short;omega,by unfold Sp.fits;omega⟩
  rw [h0,Int.toNat_natCast,gx]
  rw [limN_one hx] at this
  exact this
 refine ⟨fun h0 => ⟨?_,?_⟩,fun c l hcl => ?_⟩
 ·exact rPartsAE _ _ _ _ _ _ _ (x + 1000000000 * R) _ ⟨fun _ => ⟨one h0,by omega,by omega,rPartsB _ _ _ _ _ _ _ _ _ tl⟩,fun h => absurd h (by omega)⟩
 ·exact rPartsA0 _ _ _ _ _ _ _ (x + 1000000000 * R) _ ⟨fun _ => ⟨one h0,by omega,by omega,rPartsB _ _ _ _ _ _ _ _ _ tl⟩,fun h => absurd h (by omega)⟩
 ·have hcR:Sp.cnt R <= Sp.cnt V:=cnt_mono (Nat.le_of_lt hr)
  have ev:=ev80_c false (x:Int) R ⟨by omega,by omega,by omega⟩
  rw [Int.toNat_natCast,hcl,<- gx] at ev
  have hll:=lim_len R
  rw [hcl] at hll
  simp only [List.length_cons] at hll
  refine rPartsA _ _ _ _ _ _ _ _ _ (x + 1000000000 * R) _ ⟨fun _ => ⟨?_,by omega,by omega,by omega,rPartsB _ _ _ _ _ _ _ _ _ tl⟩,fun h => absurd h (by omega)⟩
  rw [Int.toNat_natCast];exact ev
theorem take_drop_set {o:List Int} {j n:Nat} {d:Int} (hj:j < n) (hn:n <= o.length):((o.set j d).take n).drop j = d :: (o.take n).drop (j + 1):=by
 rw [List.take_set,drop_set_self (by simp;omega)]
theorem loopHR {V U s n:Nat} {t:Int} (hV:V ≠ 0) (hc:Sp.cnt V <= 400000) (hn:n = Sp.cnt U) (hU:n <= 500000) (ht:t = ((V / 1000000000 ^ (Sp.cnt V - 1):Nat):Int)) (hs:0 < s /\ s < 1000000000):∀ (j:Nat) (o:List Int),j <= n -> n <= o.length ->
  (o.take n).drop j = Sp.limN (n - j) (U / 1000000000 ^ j / V) -> rPartsH_at V U s t ((j:Int) - 1) n o (U / 1000000000 ^ j % V) (PureQ (.tup [usA false (Sp.lim (U / V)),usA false (Sp.lim (U % V / s))]))
 | 0,o,hj,hol,ho => by
  simp only [Nat.pow_zero,Nat.div_one,List.drop_zero,Nat.sub_zero] at ho ⊢
  have hm:=Nat.mod_lt U (Nat.pos_of_ne_zero hV)
  have hcR:Sp.cnt (U % V) <= Sp.cnt V:=cnt_mono (Nat.le_of_lt hm)
  have hfQ:Sp.fits n (U / V):=by rw [hn];exact fits_le (fits_self U) (Nat.div_le_self _ _)
  refine rPartsH _ _ _ _ _ _ _ _ _ ⟨fun h => by omega,fun _ => ?_⟩
  rw [lim_len,Int.toNat_natCast]
  refine ⟨by omega,by omega,by omega,by omega,?_⟩
  have:=loopLR (R:=U % V) (s:=s) (o:=o) hs ho hfQ (by omega) (by omega) (Sp.cnt (U % V)) 0 (List.replicate (Sp.cnt (U % V)) 0) (by omega) (by simp) (by simp [Sp.limN])
  rw [fits_div (fits_self (U % V)) (Nat.le_refl _),Nat.zero_mod] at this
  exact this
 | j + 1,o,hj,hol,ho => by
  have hx:U / 1000000000 ^ j % 1000000000 < 1000000000:=Nat.mod_lt _ (by omega)
  have hsp:=digit_split U j
  have hs':U / 1000000000 ^ j % 1000000000 + 1000000000 * (U / 1000000000 ^ (j + 1)) = U / 1000000000 ^ j:=by omega
  obtain ⟨b1,b2,b3⟩:=byWord_step (U / 1000000000 ^ (j + 1)) (U / 1000000000 ^ j % 1000000000) V hx (Nat.pos_of_ne_zero hV)
  rw [hs'] at b1
  have e2:U / 1000000000 ^ (j + 1) % V * 1000000000 + U / 1000000000 ^ j % 1000000000 = U / 1000000000 ^ j % 1000000000 + 1000000000 * (U / 1000000000 ^ (j + 1) % V):=by omega
  rw [e2] at b1 b3
  have ih:=loopHR hV hc hn hU ht hs j (o.set j ((U / 1000000000 ^ j % 1000000000 + 1000000000 * (U / 1000000000 ^ (j + 1) % V)) / V:Nat)) (by omega) (by simpa using hol) (by
   rw [take_drop_set (by omega) hol,ho,show n - j = (n - (j + 1)) + 1 by omega,limN_succ,b1]
   generalize U / 1000000000 ^ (j + 1) / V = z
   generalize (U / 1000000000 ^ j % 1000000000 + 1000000000 * (U / 1000000000 ^ (j + 1) % V)) / V = q0 at b3
   have e2:(1000000000 * z + q0) % 1000000000 = q0:=by omega
   have e3:(1000000000 * z + q0) / 1000000000 = z:=by omega
   rw [e2,e3])
  obtain ⟨k1,k2⟩:=stepH (s:=s) hV hc hn hU ht (show j < n by omega) hol ih
  rw [show (((j + 1:Nat):Int) - 1) = (j:Nat) by omega]
  by_cases h0:U / 1000000000 ^ (j + 1) % V = 0
  ·have:=(k1 h0).1
   unfold rPartsAE_at at this
   unfold rPartsH_at
   rw [h0,lim_zero];exact this
  ·have hne:Sp.lim (U / 1000000000 ^ (j + 1) % V) ≠ []:=by
    intro e
    have:=lim_len (U / 1000000000 ^ (j + 1) % V)
    rw [e] at this
    exact h0 (cnt_eq_zero.1 this.symm)
   obtain ⟨c,l,hcl⟩:=List.exists_cons_of_ne_nil hne
   have:=k2 c l hcl
   unfold rPartsA_at at this
   rw [<- hcl] at this
   exact this
end Go.Av

namespace Go.Av
open Go.Proofs
theorem partsN (fa fb:Bool) (A D:Nat) (hD:D ≠ 0) (hA:Sp.cnt A <= 399000) (hd:Sp.cnt D <= 399000):Ev M1 (.pure 82 [usA fa (Sp.lim A),usA fb (Sp.lim D)]) (.tup [usA false (Sp.lim (A / D)),usA false (Sp.lim (A % D))]) []:=by
 obtain ⟨m1,m2,m3⟩:=top_facts hD
 obtain ⟨s1,s2,s3,s4,s5⟩:=scl_facts1 m1
 refine call82 (rParts _ _ _ _ _ ⟨fun h => ?_,fun h => ?_⟩)
 ·rw [lim_len,lim_len] at h
  have f1:=fits_mono (fits_self A) (show Sp.cnt A <= 2 by omega)
  have hA2:A < 1000000000000000000:=by unfold Sp.fits at f1;simpa using f1
  have f2:=fits_mono (fits_self D) (show Sp.cnt D <= 2 by omega)
  have hD2:D < 1000000000000000000:=by unfold Sp.fits at f2;simpa using f2
  have c1:(A:Int).tdiv D = ((A / D:Nat):Int):=(Int.ofNat_tdiv _ _).symm
  have c2:(A:Int).tmod D = ((A % D:Nat):Int):=(Int.ofNat_tmod _ _).symm
  have d1:=Nat.div_le_self A D
  have d2:=Nat.mod_lt A (Nat.pos_of_ne_zero hD)
  rw [c1,c2,Int.toNat_natCast,Int.toNat_natCast]
  exact ⟨by omega,by omega,le8 (by omega),le8 (by omega),by omega,.refl _⟩
 ·have e0:((Sp.cnt D:Int) - 1).toNat = Sp.cnt D - 1:=by omega
  have gD:(Sp.lim D).getD (Sp.cnt D - 1) default = ((D / 1000000000 ^ (Sp.cnt D - 1):Nat):Int):=by
   have:=limN_getD (n:=Sp.cnt D) D (show Sp.cnt D - 1 < Sp.cnt D by omega)
   rw [Nat.mod_eq_of_lt s5] at this
   exact this
  have hs:Int.tdiv 1000000000 ((Sp.lim D).getD (Sp.cnt D - 1) default + 1) = (Sp.scl D:Int):=by
   rw [gD]
   unfold Sp.scl
   generalize D / 1000000000 ^ (Sp.cnt D - 1) = t
   have:((t:Int) + 1) = ((t + 1:Nat):Int):=by omega
   rw [this]
   exact (Int.ofNat_tdiv 1000000000 (t + 1)).symm
  have hV:D * Sp.scl D ≠ 0:=Nat.mul_ne_zero hD (by omega)
  obtain ⟨v1,v2,v3⟩:=top_facts hV
  have hcV:Sp.cnt (D * Sp.scl D) <= Sp.cnt D:=fits_cnt.1 s3
  have f1:Sp.fits 1 (Sp.scl D):=by unfold Sp.fits;omega
  have hcU:Sp.cnt (A * Sp.scl D) <= Sp.cnt A + 1:=fits_cnt.1 (fits_prod (fits_self A) f1)
  have e1:((Sp.cnt (D * Sp.scl D):Int) - 1).toNat = Sp.cnt (D * Sp.scl D) - 1:=by omega
  have gV:(Sp.lim (D * Sp.scl D)).getD (Sp.cnt (D * Sp.scl D) - 1) default = ((D * Sp.scl D / 1000000000 ^ (Sp.cnt (D * Sp.scl D) - 1):Nat):Int):=by
   have:=limN_getD (n:=Sp.cnt (D * Sp.scl D)) (D * Sp.scl D) (show Sp.cnt (D * Sp.scl D) - 1 < Sp.cnt (D * Sp.scl D) by omega)
   rw [Nat.mod_eq_of_lt v3] at this
   exact this
  have okD:Sp.okB (D:Int):=by unfold Sp.okB;rw [Int.natAbs_natCast];omega
  have okA:Sp.okB (A:Int):=by unfold Sp.okB;rw [Int.natAbs_natCast];omega
  have dg:Sp.dig (Sp.scl D:Int):=by unfold Sp.dig;omega
  obtain ⟨q1,q2⟩:=div_scale (A:=A) (D:=D) s1
  simp only [lim_len,e0,hs,Int.toNat_natCast,e1,gV,Nat.sub_zero]
  have go:rPartsA0_at (D * Sp.scl D) (A * Sp.scl D) (Sp.scl D:Int) ((D * Sp.scl D / 1000000000 ^ (Sp.cnt (D * Sp.scl D) - 1):Nat):Int) ((Sp.cnt (A * Sp.scl D):Int) - 1) (Sp.cnt (A * Sp.scl D)) (List.replicate ((Sp.cnt A:Int) + 1).toNat 0) (PureQ (.tup [usA false (Sp.lim (A / D)),usA false (Sp.lim (A % D))])):=by
   have eL:((Sp.cnt A:Int) + 1).toNat = Sp.cnt A + 1:=by omega
   rw [eL]
   by_cases hz:Sp.cnt (A * Sp.scl D) = 0
   ·have hU:=cnt_eq_zero.1 hz
    have hA0:A = 0:=by
     rcases Nat.mul_eq_zero.1 hU with h | h
     ·exact h
     ·omega
    subst hA0
    rw [hz]
    have l0:Sp.lim 0 = []:=lim_zero
    have tr:=rtrimN false 0 0 ⟨by unfold Sp.short;omega,fits_zero.2 rfl⟩
    rw [l0] at tr
    refine rPartsA0 _ _ _ _ _ _ _ 0 _ ⟨fun h => by omega,fun _ => rPartsL0 _ _ _ _ ⟨by simp [Sp.short],[],tr,?_⟩⟩
    rw [Nat.zero_div,Nat.zero_mod,l0]
    exact .refl _
   ·obtain ⟨j,hj⟩:∃ j,Sp.cnt (A * Sp.scl D) = j + 1:=⟨Sp.cnt (A * Sp.scl D) - 1,by omega⟩
    have hn:j + 1 = Sp.cnt (A * Sp.scl D):=hj.symm
    have hc1:Sp.cnt (D * Sp.scl D) <= 400000:=by omega
    have hU5:j + 1 <= 500000:=by omega
    have hj0:j <= j + 1:=by omega
    have hj1:j < j + 1:=by omega
    have hol:j + 1 <= (List.replicate (Sp.cnt A + 1) (0:Int)).length:=by simp;omega
    have hzero:A * Sp.scl D / 1000000000 ^ (j + 1) = 0:=fits_div (fits_self _) (by omega)
    have hx:A * Sp.scl D / 1000000000 ^ j % 1000000000 < 1000000000:=Nat.mod_lt _ (by omega)
    obtain ⟨b1,b2,b3⟩:=byWord_step (A * Sp.scl D / 1000000000 ^ (j + 1)) (A * Sp.scl D / 1000000000 ^ j % 1000000000) (D * Sp.scl D) hx (Nat.pos_of_ne_zero hV)
    have hsp:=digit_split (A * Sp.scl D) j
    have hs':A * Sp.scl D / 1000000000 ^ j % 1000000000 + 1000000000 * (A * Sp.scl D / 1000000000 ^ (j + 1)) = A * Sp.scl D / 1000000000 ^ j:=by omega
    have ih:=loopHR (V:=D * Sp.scl D) (U:=A * Sp.scl D) (s:=Sp.scl D) hV hc1 hn hU5 rfl ⟨s1,s2⟩ j ((List.replicate (Sp.cnt A + 1) (0:Int)).set j ((A * Sp.scl D / 1000000000 ^ j % 1000000000 + 1000000000 * (A * Sp.scl D / 1000000000 ^ (j + 1) % (D * Sp.scl D))) / (D * Sp.scl D):Nat)) hj0 (by simpa using hol) (by
     rw [take_drop_set hj1 hol,show j + 1 - j = 0 + 1 by omega,limN_succ,List.drop_of_length_le (by simp;omega)]
     rw [hs'] at b1
     rw [hzero] at b1 b3 ⊢
     rw [Nat.zero_div,Nat.zero_mod] at b1
     rw [Nat.zero_mod] at b3 ⊢
     rw [b1]
     have e5:0 * 1000000000 + A * Sp.scl D / 1000000000 ^ j % 1000000000 = A * Sp.scl D / 1000000000 ^ j % 1000000000 + 1000000000 * 0:=by simp only [Nat.zero_mul,Nat.mul_zero,Nat.zero_add,Nat.add_zero]
     rw [e5] at b3 ⊢
     rw [Nat.mul_zero,Nat.zero_add,Nat.mod_eq_of_lt b3];rfl)
    obtain ⟨k1,_⟩:=stepH (s:=Sp.scl D) hV hc1 hn hU5 rfl hj1 hol ih
    have:=(k1 (by rw [hzero,Nat.zero_mod])).2
    rw [q1,q2] at this
    rw [hj,show (((j + 1:Nat):Int) - 1) = (j:Nat) by omega]
    exact this
  have hscl:(Sp.scl D:Int) <= 4294967295:=by omega
  have hb1:D / 1000000000 ^ (Sp.cnt D - 1) < 1000000000:=s5
  rw [gD]
  generalize D / 1000000000 ^ (Sp.cnt D - 1) = T at hb1 ⊢
  generalize D * Sp.scl D / 1000000000 ^ (Sp.cnt (D * Sp.scl D) - 1) = T2 at v3 go ⊢
  exact ⟨by omega,by omega,by omega,by omega,by omega,by omega,by omega,by omega,⟨okD,dg⟩,by omega,by omega,by omega,by omega,by omega,by omega,by omega,by omega,⟨okA,dg⟩,by omega,by omega,by rw [List.length_replicate];omega,by omega,go⟩
theorem ev82 (fa fb:Bool) (A D:Nat) (h:Sp.cnt A <= 399000 /\ Sp.cnt D <= 399000 /\ D ≠ 0):Ev M1 (.pure 82 [usA fa (Sp.lim A),usA fb (Sp.lim D)]) (.tup [usA false (Sp.lim (A / D)),usA false (Sp.lim (A % D))]) []:=partsN fa fb A D h.2.2 h.1 h.2.1
theorem ev82_a (fa fb:Bool) (v w:Int) (h:Sp.cnt v.natAbs <= 399000 /\ Sp.cnt w.natAbs <= 399000 /\ w ≠ 0):Ev M1 (.pure 82 [usA fa (Sp.limI v),usA fb (Sp.limI w)]) (.tup [usA false (Sp.lim (v.natAbs / w.natAbs)),usA false (Sp.lim (v.natAbs % w.natAbs))]) []:=partsN fa fb _ _ (by have:=h.2.2;omega) h.1 h.2.1
end Go.Av

namespace Go.Av
open Go.Proofs
set_option maxRecDepth 100000
def fi45:Fi:=⟨54,[.cell 4 34]⟩
def kp45:List (Nat × List Nat):=[(0,[2,3,4]),(1,[4,5,6]),(2,[4,5,6,27]),(3,[4,6,8]),(4,[4,5,6]),(5,[4,5,6,38]),(6,[4]),(7,[4,9,10]),(8,[4,9,10,46]),(9,[4,9,10]),(10,[4])]
def fi121:Fi:=⟨54,[.cell 4 34,.cell 5 34,.tmp 6]⟩
def kp121:List (Nat × List Nat):=[(0,[2,3,4,5]),(1,[2,3,4,5,14]),(2,[4,5,6]),(3,[2,3,4,5,7,8]),(4,[2,3,4,5,8,9,10]),(5,[3,4,5,9,10,45]),(6,[4,5,9,10]),(7,[4,5,6])]
def rDivMod_at (fa fb:Bool) (a b:Int) (Q:AV -> Heap -> Prop):Prop:=Wp M1 (.run fi121 (atC (cd Tryz.f121) []) [(0,bigA fa a),(1,bigA fb b)] []) Q
def rGCD_at (fa fb:Bool) (a b:Int) (Q:AV -> Heap -> Prop):Prop:=Wp M1 (.run fi45 (atC (cd Tryz.f45) []) [(0,bigA fa a),(1,bigA fb b)] []) Q
def rGCDH_at (fx fy:Bool) (x y:Nat) (Q:AV -> Heap -> Prop):Prop:=Wp M1 (.run fi45 (atC (cd Tryz.f45) [1,1,0,0,0]) [(4,.ptr 0 0 0 0),(5,.vec fx 1 ((Sp.lim x).map (.int .u32))),(6,.vec fy 1 ((Sp.lim y).map (.int .u32)))] [⟨[.agg [.bool false,.vnil]],2,0,false,false⟩]) Q
def rGCDW_at (u v:Int) (Q:AV -> Heap -> Prop):Prop:=Wp M1 (.run fi45 (atC (cd Tryz.f45) [1,1,1,1,1,0,0,0]) [(4,.ptr 0 0 0 0),(9,.int .u64 u),(10,.int .u64 v)] [⟨[.agg [.bool false,.vnil]],2,0,false,false⟩]) Q
theorem call45 {args:List AV} {d:AV} (h:wc M1 fi45 Tryz.f45 args d):Ev M1 (.pure 45 args) d []:=pcl _ _ (by kernel_rfl) h
theorem call121 {args:List AV} {d:AV} (h:wc M1 fi121 Tryz.f121 args d):Ev M1 (.pure 121 args) d []:=pcl _ _ (by kernel_rfl) h
noncomputable abbrev zNwE1 (a:Int) (b:Int):=Sp.sg (!Sp.isNeg a == Sp.isNeg b) (a.natAbs / b.natAbs)
noncomputable abbrev zNwE2 (a:Int) (b:Int):=tu [vf (us (Sp.lim (a.natAbs / b.natAbs))),vf (us (Sp.lim (a.natAbs % b.natAbs)))]
theorem rDivMod (fa fb:Bool) (a b:Int)  (dq:AV) (H :
  (((↑(Sp.limI b).length:Int) = 0) -> Weak (tu [ag [vb false,AV.vnil],ag [vb false,AV.vnil],vi 6]) dq) /\
  (¬((↑(Sp.limI b).length:Int) = 0) -> (Sp.cnt a.natAbs <= 399000 /\ Sp.cnt b.natAbs <= 399000 /\ b ≠ 0) /\
   (Sp.short (Sp.cnt (a.natAbs / b.natAbs))) /\
   (Sp.short (Sp.cnt (a.natAbs % b.natAbs))) /\
   ((((↑(Sp.lim (a.natAbs % b.natAbs)).length:Int) > 0) /\ (¬(Sp.isNeg a = Sp.isNeg b))) -> (Sp.inI 1) /\
    (Sp.okB (Sp.sg (!Sp.isNeg a == Sp.isNeg b) (a.natAbs / b.natAbs))) /\
    (Sp.okB (Sp.sg (Sp.isNeg a) (a.natAbs % b.natAbs)) /\ Sp.okB b) /\
    Weak (tu [bigA false (Sp.sg (!Sp.isNeg a == Sp.isNeg b) (a.natAbs / b.natAbs) - 1),bigA false (Sp.sg (Sp.isNeg a) (a.natAbs % b.natAbs) + b),vi 0]) dq) /\
   (¬(((↑(Sp.lim (a.natAbs % b.natAbs)).length:Int) > 0) /\ (¬(Sp.isNeg a = Sp.isNeg b))) -> Weak (tu [bigA false (Sp.sg (!Sp.isNeg a == Sp.isNeg b) (a.natAbs / b.natAbs)),bigA false (Sp.sg (Sp.isNeg a) (a.natAbs % b.natAbs)),vi 0]) dq))) :
 rDivMod_at fa fb a b (PureQ dq):=by
 unfold rDivMod_at
 have w1:(us (Sp.limI b)).length = (Sp.limI b).length:=List.length_map ..
 have i2:((↑(us (Sp.limI b)).length:Int) == 0) = true ↔ ((↑(Sp.limI b).length:Int) = 0):=(by (try rw [w1]);all_goals exact i_eq)
 rcases xm ((↑(Sp.limI b).length:Int) = 0) with d3 | d3
 ·have H:=H.1 d3
  exact path_rq (G:=given kp121 [] []) 1000 [true] (tu [ag [vb false,AV.vnil],ag [vb false,AV.vnil],vi 6]) (by kernel_rfl) (bc rfl (bc (beq_t (i2.2 d3)) (bc rfl (bc rfl b0)))) q0 c0 H
 ·have H:=H.2 d3
  obtain ⟨k4,H⟩:=H
  obtain ⟨k5,H⟩:=H
  obtain ⟨k6,H⟩:=H
  refine path_wp (G:=given kp121 [(3,4,.call (zNwE2 a b) none),(4,6,.call (bigA false (zNwE1 a b)) none),(4,10,.call (bigA false (Sp.sg (Sp.isNeg a) (a.natAbs % b.natAbs))) none)] []) 10 [false] ⟨(atC (cd Tryz.f121) [1,1,1,0]),[(2,AV.ptr 0 0 0 0),(3,AV.ptr 1 0 0 0),(4,AV.ptr 2 0 0 0),(5,AV.ptr 3 0 0 0),(7,vf (us (Sp.lim (a.natAbs / b.natAbs)))),(8,vf (us (Sp.lim (a.natAbs % b.natAbs))))],[⟨[bigA fa a],2,0,false,false⟩,⟨[bigA fb b],2,0,false,false⟩,⟨[ag [vb false,AV.vnil]],2,0,false,false⟩,⟨[ag [vb false,AV.vnil]],2,0,false,false⟩],_,[],_⟩ (by kernel_rfl) (bc rfl (bc (beq_f (fun h => d3 (i2.1 h))) (bc rfl (bc rfl b0)))) q0 (ce (@ev82_a (fa) (fb) (a) (b) k4) c0) (wp_both (G:=given kp121 [(3,4,.call (zNwE2 a b) none),(4,6,.call (bigA false (zNwE1 a b)) none),(4,10,.call (bigA false (Sp.sg (Sp.isNeg a) (a.natAbs % b.natAbs))) none)] []) [0,1,2,3,5,4] 11 (e1:=[(2,AV.ptr 0 0 0 0),(3,AV.ptr 1 0 0 0),(4,AV.ptr 2 0 0 0),(5,AV.ptr 3 0 0 0),(8,vf (us (Sp.lim (a.natAbs % b.natAbs)))),(9,AV.ptr 4 0 0 0),(10,AV.ptr 5 0 0 0)]) (L1:=[⟨[bigA fa a],2,0,false,false⟩,⟨[bigA fb b],2,0,false,false⟩,⟨[ag [vb false,AV.vnil]],2,0,false,false⟩,⟨[ag [vb false,AV.vnil]],2,0,false,false⟩,⟨[bigA false (zNwE1 a b)],2,0,false,false⟩,⟨[bigA false (Sp.sg (Sp.isNeg a) (a.natAbs % b.natAbs))],2,0,false,false⟩]) (a:=[true,true,true,true,true]) (q:=[]) (cs:=[⟨true,false,83,[vb !Sp.isNeg a == Sp.isNeg b,vf (us (Sp.lim (a.natAbs / b.natAbs)))],[],bigA false (zNwE1 a b),[]⟩,⟨true,false,83,[vb (Sp.isNeg a),vf (us (Sp.lim (a.natAbs % b.natAbs)))],[],bigA false (Sp.sg (Sp.isNeg a) (a.natAbs % b.natAbs)),[]⟩]) (by kernel_rfl) (by kernel_rfl) (allB_cons rfl (allB_cons rfl (allB_cons rfl (allB_cons rfl (allB_cons rfl allB_nil))))) allP_nil (allC_cons (fun _ => (@ev83_b (!Sp.isNeg a == Sp.isNeg b) (false) (a.natAbs / b.natAbs) k5)) (allC_cons (fun _ => (@ev83_b (Sp.isNeg a) (false) (a.natAbs % b.natAbs) k6)) allC_nil)) ?_)
  have w7:(us (Sp.lim (a.natAbs % b.natAbs))).length = (Sp.lim (a.natAbs % b.natAbs)).length:=List.length_map ..
  have i8:(bif decide ((↑(us (Sp.lim (a.natAbs % b.natAbs))).length:Int) > 0) then !Sp.isNeg a == Sp.isNeg b else false) = true ↔ (((↑(Sp.lim (a.natAbs % b.natAbs)).length:Int) > 0) /\ (¬(Sp.isNeg a = Sp.isNeg b))):=(by (try rw [w7]);all_goals exact (i_band i_dec (i_not i_eq)))
  rcases xm (((↑(Sp.lim (a.natAbs % b.natAbs)).length:Int) > 0) /\ (¬(Sp.isNeg a = Sp.isNeg b))) with d9 | d9
  ·have H:=H.1 d9
   obtain ⟨k10,H⟩:=H
   obtain ⟨k11,H⟩:=H
   obtain ⟨k12,H⟩:=H
   exact path_rq (G:=given kp121 [(6,1,.call (ag [vb false,vf (us (Sp.limI 1))]) none),(6,2,.call (bigA false (Sp.sg (!Sp.isNeg a == Sp.isNeg b) (a.natAbs / b.natAbs) - 1)) none),(6,5,.call (bigA false (Sp.sg (Sp.isNeg a) (a.natAbs % b.natAbs) + b)) none)] [(7,[5003,4002,7001,6000])]) 1000 [true] (asm:=[!(decide ((↑(us (Sp.lim (a.natAbs % b.natAbs))).length:Int) > 0) == true && true) || true,!(decide ((↑(us (Sp.lim (a.natAbs % b.natAbs))).length:Int) > 0) == true && true) || true,(bif decide ((↑(us (Sp.lim (a.natAbs % b.natAbs))).length:Int) > 0) then !Sp.isNeg a == Sp.isNeg b else false) == true,true,true,true,true,true,true,true,true,true]) (tu [bigA false (Sp.sg (!Sp.isNeg a == Sp.isNeg b) (a.natAbs / b.natAbs) - 1),bigA false (Sp.sg (Sp.isNeg a) (a.natAbs % b.natAbs) + b),vi 0]) (by kernel_rfl) (bc (Bool.or_true _) (bc (Bool.or_true _) (bc (beq_t (i8.2 d9)) (bc rfl (bc rfl (bc rfl (bc rfl (bc rfl (bc rfl (bc rfl (bc rfl (bc rfl b0)))))))))))) q0 (ce (@ev57 (1) k10) (ce (@ev131_a (false) (zNwE1 a b) k11) (ce (@ev96 (false) (fb) (Sp.sg (Sp.isNeg a) (a.natAbs % b.natAbs)) (b) k12) c0))) H
  ·have H:=H.2 d9
   exact path_rq (G:=given kp121 [] [(7,[5003,4002,7001,6000])]) 1000 [false] (asm:=[!(decide ((↑(us (Sp.lim (a.natAbs % b.natAbs))).length:Int) > 0) == true && true) || true,!(decide ((↑(us (Sp.lim (a.natAbs % b.natAbs))).length:Int) > 0) == true && true) || true,(bif decide ((↑(us (Sp.lim (a.natAbs % b.natAbs))).length:Int) > 0) then !Sp.isNeg a == Sp.isNeg b else false) == false,true,true,true,true]) (tu [bigA false (zNwE1 a b),bigA false (Sp.sg (Sp.isNeg a) (a.natAbs % b.natAbs)),vi 0]) (by kernel_rfl) (bc (Bool.or_true _) (bc (Bool.or_true _) (bc (beq_f (fun h => d9 (i8.1 h))) (bc rfl (bc rfl (bc rfl (bc rfl b0))))))) q0 c0 H
theorem rGCD (fa fb:Bool) (a b:Int)  (dq:AV) (H :
  Wp M1 (.run fi45 (atC (cd Tryz.f45) [1,1,0,0,0]) [(4,AV.ptr 0 0 0 0),(5,AV.vec fa 1 (us (Sp.limI a))),(6,AV.vec fb 1 (us (Sp.limI b)))] [{ elems:=[ag [vb false,AV.vnil]],es:=2,ver:=0,frozen:=false,clean:=false }]) (PureQ dq)) :
 rGCD_at fa fb a b (PureQ dq):=by
 unfold rGCD_at
 exact path_wp (G:=given kp45 [] []) 1000 [] ⟨(atC (cd Tryz.f45) [1,1,0,0,0]),[(4,AV.ptr 2 0 0 0),(5,AV.vec fa 1 (us (Sp.limI a))),(6,AV.vec fb 1 (us (Sp.limI b)))],[⟨[bigA fa a],2,0,false,false⟩,⟨[bigA fb b],2,0,false,false⟩,⟨[ag [vb false,AV.vnil]],2,0,false,false⟩],_,[],_⟩ (by kernel_rfl) (bc rfl (bc rfl b0)) q0 c0 (wp_narrow [2] (by kernel_rfl) H)
theorem rGCDH (fx fy:Bool) (x y:Nat)  (dq:AV) (H :
  ((((↑(Sp.lim y).length:Int) > 0) /\ (((↑(Sp.lim x).length:Int) > 2) \/ ((↑(Sp.lim y).length:Int) > 2))) -> (Sp.cnt x <= 399000 /\ Sp.cnt y <= 399000 /\ y ≠ 0) /\
   rGCDH_at (fy) (false) (y) (x % y) (PureQ dq)) /\
  (¬(((↑(Sp.lim y).length:Int) > 0) /\ (((↑(Sp.lim x).length:Int) > 2) \/ ((↑(Sp.lim y).length:Int) > 2))) -> (((↑(Sp.lim y).length:Int) = 0) -> (Sp.short (Sp.cnt x)) /\
    Weak (bigA false (Sp.sg false x)) dq) /\
   (¬((↑(Sp.lim y).length:Int) = 0) -> (Sp.cnt x <= 2) /\
    (Sp.cnt y <= 2) /\
    rGCDW_at ((↑x:Int)) ((↑y:Int)) (PureQ dq)))) :
 rGCDH_at fx fy x y (PureQ dq):=by
 unfold rGCDH_at
 have w1:(us (Sp.lim y)).length = (Sp.lim y).length:=List.length_map ..
 have w2:(us (Sp.lim x)).length = (Sp.lim x).length:=List.length_map ..
 have i3:(bif decide ((↑(us (Sp.lim y)).length:Int) > 0) then bif decide ((↑(us (Sp.lim x)).length:Int) > 2) then true else decide ((↑(us (Sp.lim y)).length:Int) > 2) else false) = true ↔ (((↑(Sp.lim y).length:Int) > 0) /\ (((↑(Sp.lim x).length:Int) > 2) \/ ((↑(Sp.lim y).length:Int) > 2))):=(by (try rw [w1]);(try rw [w2]);all_goals exact (i_band i_dec (i_bor i_dec i_dec)))
 rcases xm (((↑(Sp.lim y).length:Int) > 0) /\ (((↑(Sp.lim x).length:Int) > 2) \/ ((↑(Sp.lim y).length:Int) > 2))) with d4 | d4
 ·have H:=H.1 d4
  obtain ⟨k5,H⟩:=H
  exact path_wp (G:=given kp45 [(3,2,.call (tu [vf (us (Sp.lim (x / y))),vf (us (Sp.lim (x % y)))]) none)] []) 1000 [true] ⟨(atC (cd Tryz.f45) [1,1,0,0,0]),[(4,AV.ptr 0 0 0 0),(5,AV.vec fy 1 (us (Sp.lim y))),(6,vf (us (Sp.lim (x % y))))],[⟨[ag [vb false,AV.vnil]],2,0,false,false⟩],_,[],_⟩ (by kernel_rfl) (bc (beq_t (i3.2 d4)) b0) q0 (ce (@ev82 (fx) (fy) (x) (y) k5) c0) (H)
 ·have H:=H.2 d4
  have i6:((↑(us (Sp.lim y)).length:Int) == 0) = true ↔ ((↑(Sp.lim y).length:Int) = 0):=(by (try rw [w1]);all_goals exact i_eq)
  rcases xm ((↑(Sp.lim y).length:Int) = 0) with d7 | d7
  ·have H:=H.1 d7
   obtain ⟨k8,H⟩:=H
   exact path_rq (G:=given kp45 [(6,1,.call (bigA false (Sp.sg false x)) none)] []) 1000 [false,true] (bigA false (Sp.sg false x)) (by kernel_rfl) (bc (beq_f (fun h => d4 (i3.1 h))) (bc (beq_t (i6.2 d7)) (bc rfl b0))) q0 (ce (@ev83_b (false) (fx) (x) k8) c0) H
  ·have H:=H.2 d7
   obtain ⟨k9,H⟩:=H
   obtain ⟨k10,H⟩:=H
   exact path_wp (G:=given kp45 [(7,1,.call (vw (↑x:Int)) none),(7,3,.call (vw (↑y:Int)) none)] []) 1000 [false,false] ⟨(atC (cd Tryz.f45) [1,1,1,1,1,0,0,0]),[(4,AV.ptr 0 0 0 0),(9,vw (↑x:Int)),(10,vw (↑y:Int))],[⟨[ag [vb false,AV.vnil]],2,0,false,false⟩],_,[],_⟩ (by kernel_rfl) (bc (beq_f (fun h => d4 (i3.1 h))) (bc (beq_f (fun h => d7 (i6.1 h))) b0)) q0 (ce (@ev84 (fx) (x) k9) (ce (@ev84 (fy) (y) k10) c0)) (H)
theorem rGCDW (u v:Int)  (dq:AV) (H :
  ((v > 0) -> (¬v = 0) /\
   rGCDW_at (v) (u.tmod v) (PureQ dq)) /\
  (¬(v > 0) -> (0 <= u /\ u <= 18446744073709551615) /\
   (Sp.short (Sp.cnt u.toNat)) /\
   Weak (bigA false (Sp.sg false u.toNat)) dq)) :
 rGCDW_at u v (PureQ dq):=by
 unfold rGCDW_at
 rcases xm (v > 0) with d2 | d2
 ·have H:=H.1 d2
  obtain ⟨k4,H⟩:=H
  exact path_wp (G:=given kp45 [] []) 1000 [true] ⟨(atC (cd Tryz.f45) [1,1,1,1,1,0,0,0]),[(4,AV.ptr 0 0 0 0),(9,vw v),(10,vw (u.tmod v))],[⟨[ag [vb false,AV.vnil]],2,0,false,false⟩],_,[],_⟩ (by kernel_rfl) (bc (beq_t (i_dec.2 d2)) (bc (i_neq.2 k4) b0)) q0 c0 (H)
 ·have H:=H.2 d2
  obtain ⟨k5,H⟩:=H
  obtain ⟨k6,H⟩:=H
  exact path_rq (G:=given kp45 [(10,1,.call (vf (us (Sp.lim u.toNat))) none),(10,2,.call (bigA false (Sp.sg false u.toNat)) none)] []) 1000 [false] (bigA false (Sp.sg false u.toNat)) (by kernel_rfl) (bc (beq_f (fun h => d2 (i_dec.1 h))) (bc rfl b0)) q0 (ce (@ev85 (u) k5) (ce (@ev83_b (false) (false) (u.toNat) k6) c0)) H
end Go.Av

namespace Go.Av
open Go.Proofs
theorem ev121 (fa fb:Bool) (a b:Int) (h:Sp.cnt a.natAbs <= 399000 /\ Sp.cnt b.natAbs <= 399000 /\ b ≠ 0):Ev M1 (.pure 121 [bigA fa a,bigA fb b]) (.tup [bigA false (Sp.flo a b),bigA false (Sp.flr a b),.int .i64 0]) []:=by
 obtain ⟨ha,hb,h0⟩:=h
 have hl:=limI_len b
 have hd0:b.natAbs ≠ 0:=by omega
 have hm:=Nat.mod_lt a.natAbs (Nat.pos_of_ne_zero hd0)
 have heq:=sg_div (a:=a) h0
 have hc1:=cnt_mono (Nat.le_of_lt hm)
 have hc2:=cnt_mono (Nat.div_le_self a.natAbs b.natAbs)
 have okb:Sp.okB b:=by unfold Sp.okB;omega
 have okr:Sp.okB (Sp.sg (Sp.isNeg a) (a.natAbs % b.natAbs)):=by unfold Sp.okB;rw [sg_natAbs];omega
 have okq:Sp.okB (Sp.sg (!(Sp.isNeg a == Sp.isNeg b)) (a.natAbs / b.natAbs)):=by unfold Sp.okB;rw [sg_natAbs];omega
 have hra:(Sp.sg (Sp.isNeg a) (a.natAbs % b.natAbs)).natAbs = a.natAbs % b.natAbs:=sg_natAbs _ _
 have hrl:=lim_len (a.natAbs % b.natAbs)
 have hrc:=cnt_eq_zero (v:=a.natAbs % b.natAbs)
 have hneg:(Sp.isNeg a = true -> Sp.sg (Sp.isNeg a) (a.natAbs % b.natAbs) <= 0) /\ (¬Sp.isNeg a = true -> 0 <= Sp.sg (Sp.isNeg a) (a.natAbs % b.natAbs)):=by
  unfold Sp.sg
  exact ⟨fun h => by rw [if_pos h];omega,fun h => by rw [if_neg h];omega⟩
 refine call121 (rDivMod _ _ _ _ _ ⟨fun h => ?_,fun _ => ⟨⟨ha,hb,h0⟩,by unfold Sp.short;omega,by unfold Sp.short;omega,fun k => ⟨by unfold Sp.inI;omega,okq,⟨okr,okb⟩,?_⟩,fun k => ?_⟩⟩)
 ·have:=cnt_eq_zero (v:=b.natAbs)
  omega
 ·obtain ⟨k1,k2⟩:=k
  have hne:a.natAbs % b.natAbs ≠ 0:=by omega
  generalize Sp.sg (Sp.isNeg a) (a.natAbs % b.natAbs) = r at *
  generalize Sp.sg (!(Sp.isNeg a == Sp.isNeg b)) (a.natAbs / b.natAbs) = q at *
  have hs:(r < 0 /\ 0 < b) \/ (0 < r /\ b < 0):=by
   by_cases ka:Sp.isNeg a = true
   ·have:=hneg.1 ka
    have kb:¬b < 0:=fun x => k2 (by rw [ka,isNeg_iff.2 x])
    exact .inl ⟨by omega,by omega⟩
   ·have:=hneg.2 ka
    by_cases kb:b < 0
    ·exact .inr ⟨by omega,kb⟩
    ·exact absurd (by rw [Bool.eq_false_iff.2 ka,isNeg_false kb]) k2
  obtain ⟨e1,e2⟩:=flo_unique (a:=a) (b:=b) (q:=q - 1) (r:=r + b) (by grind) (by omega)
  rw [e1,e2]
  exact .refl _
 ·generalize hr:Sp.sg (Sp.isNeg a) (a.natAbs % b.natAbs) = r at *
  generalize Sp.sg (!(Sp.isNeg a == Sp.isNeg b)) (a.natAbs / b.natAbs) = q at *
  have hs:r = 0 \/ (r < 0 /\ b < 0) \/ (0 < r /\ 0 < b):=by
   by_cases hz:a.natAbs % b.natAbs = 0
   ·left;omega
   ·right
    have k:Sp.isNeg a = Sp.isNeg b:=Classical.byContradiction fun k2 => k ⟨by omega,k2⟩
    by_cases ka:Sp.isNeg a = true
    ·have:=hneg.1 ka
     exact .inl ⟨by omega,isNeg_iff.1 (k ▸ ka)⟩
    ·have:=hneg.2 ka
     have:¬b < 0:=fun x => ka (by rw [k];exact isNeg_iff.2 x)
     exact .inr ⟨by omega,by omega⟩
  obtain ⟨e1,e2⟩:=flo_unique (a:=a) (b:=b) (q:=q) (r:=r) heq (by omega)
  rw [e1,e2]
  exact .refl _
theorem gcd_step (x y:Nat):Nat.gcd y (x % y) = Nat.gcd x y:=by rw [Nat.gcd_comm x y,Nat.gcd_rec y x,Nat.gcd_comm]
theorem rgcdW (n:Nat):∀ u v:Nat,v <= n -> u <= 18446744073709551615 -> v <= 18446744073709551615 -> rGCDW_at u v (PureQ (bigA false (Nat.gcd u v:Nat))):=by
 have base:∀ u:Nat,u <= 18446744073709551615 -> rGCDW_at u (0:Nat) (PureQ (bigA false (Nat.gcd u 0:Nat))):=by
  intro u hu
  refine rGCDW _ _ _ ⟨fun h => by omega,fun _ => ⟨by omega,by have:=cnt_u64 (u:=u) hu;rw [Int.toNat_natCast];unfold Sp.short;omega,?_⟩⟩
  rw [Int.toNat_natCast,sg_false,Nat.gcd_zero_right];exact .refl _
 induction n with
 | zero =>
  intro u v hv hu hv2
  have:v = 0:=by omega
  subst this
  exact base u hu
 | succ n ih =>
  intro u v hv hu hv2
  by_cases h0:v = 0
  ·subst h0;exact base u hu
  ·refine rGCDW _ _ _ ⟨fun h => ⟨by omega,?_⟩,fun h => absurd h (by omega)⟩
   rw [<- Int.ofNat_tmod]
   have hlt:=Nat.mod_lt u (show 0 < v by omega)
   have:=ih v (u % v) (by omega) hv2 (by omega)
   rwa [gcd_step] at this
theorem rgcdH (n:Nat):∀ (fx fy:Bool) (x y:Nat),y <= n -> Sp.cnt x <= 399000 -> Sp.cnt y <= 399000 -> rGCDH_at fx fy x y (PureQ (bigA false (Nat.gcd x y:Nat))):=by
 have small:∀ x:Nat,Sp.cnt x <= 2 -> x <= 18446744073709551615:=by
  intro x h
  have f:=fits_mono (fits_self x) h
  have:x < 1000000000000000000:=by unfold Sp.fits at f;simpa using f
  omega
 induction n with
 | zero =>
  intro fx fy x y hy hx hcy
  have:y = 0:=by omega
  subst this
  refine rGCDH _ _ _ _ _ ⟨fun h => ?_,fun _ => ⟨fun _ => ⟨by unfold Sp.short;omega,?_⟩,fun h => ?_⟩⟩
  ·have:=h.1
   rw [lim_len,cnt_zero] at this;omega
  ·rw [sg_false,Nat.gcd_zero_right];exact .refl _
  ·rw [lim_len,cnt_zero] at h;omega
 | succ n ih =>
  intro fx fy x y hy hx hcy
  have hc:=cnt_eq_zero (v:=y)
  refine rGCDH _ _ _ _ _ ⟨fun h => ?_,fun h => ⟨fun k => ⟨by unfold Sp.short;omega,?_⟩,fun k => ?_⟩⟩
  ·rw [lim_len,lim_len] at h
   have h0:y ≠ 0:=fun e => by have:=hc.2 e;omega
   have hlt:=Nat.mod_lt x (show 0 < y by omega)
   have:=ih fy false y (x % y) (by omega) hcy (by have:=cnt_mono (Nat.le_of_lt hlt);omega)
   rw [gcd_step] at this
   exact ⟨⟨hx,hcy,h0⟩,this⟩
  ·rw [lim_len] at k
   have:y = 0:=hc.1 (by omega)
   rw [this,sg_false,Nat.gcd_zero_right];exact .refl _
  ·rw [lim_len,lim_len] at h
   rw [lim_len] at k
   exact ⟨by omega,by omega,rgcdW y x y (Nat.le_refl _) (small x (by omega)) (small y (by omega))⟩
theorem ev45 (fa fb:Bool) (a b:Int) (h:Sp.cnt a.natAbs <= 399000 /\ Sp.cnt b.natAbs <= 399000):Ev M1 (.pure 45 [bigA fa a,bigA fb b]) (bigA false (Int.gcd a b:Nat)) []:=
 call45 (rGCD _ _ _ _ _ (rgcdH b.natAbs fa fb a.natAbs b.natAbs (Nat.le_refl _) h.1 h.2))
end Go.Av

namespace Go.Av
open Go.Proofs
end Go.Av

namespace Go.Av
open Go.Proofs
set_option maxRecDepth 100000
end Go.Av

namespace Go.Av
open Go.Proofs
set_option maxRecDepth 100000
def fi106:Fi:=⟨2,[.cell 0 34]⟩
def kp106:List (Nat × List Nat):=[(0,[0]),(1,[0])]
def fi107:Fi:=⟨16,[.cell 4 34]⟩
def kp107:List (Nat × List Nat):=[(0,[2,3,4]),(1,[4,5]),(2,[4])]
def vUnit_at  (Q:AV -> Heap -> Prop):Prop:=Wp M1 (.run fi106 (atC (cd Tryz.f106) []) [] []) Q
def vExact_at (fa fb:Bool) (a b:Int) (Q:AV -> Heap -> Prop):Prop:=Wp M1 (.run fi107 (atC (cd Tryz.f107) []) [(0,bigA fa a),(1,bigA fb b)] []) Q
theorem call106 {args:List AV} {d:AV} (h:wc M1 fi106 Tryz.f106 args d):Ev M1 (.pure 106 args) d []:=pcl _ _ (by kernel_rfl) h
theorem call107 {args:List AV} {d:AV} (h:wc M1 fi107 Tryz.f107 args d):Ev M1 (.pure 107 args) d []:=pcl _ _ (by kernel_rfl) h
theorem vUnit   (dq:AV) (H :
  (Sp.inI 1) /\
  Weak (ag [vb false,vf (us (Sp.limI 1))]) dq) :
 vUnit_at  (PureQ dq):=by
 unfold vUnit_at
 obtain ⟨k1,H⟩:=H
 exact path_rq (G:=given kp106 [(1,0,.call (ag [vb false,vf (us (Sp.limI 1))]) none)] []) 1000 [] (ag [vb false,vf (us (Sp.limI 1))]) (by kernel_rfl) (bc rfl b0) q0 (ce (@ev72 (1) k1) c0) H
theorem vExact (fa fb:Bool) (a b:Int)  (dq:AV) (H :
  (Sp.okB a /\ Sp.okB b /\ b ≠ 0) /\
  Weak (bigA false (Sp.flo a b)) dq) :
 vExact_at fa fb a b (PureQ dq):=by
 unfold vExact_at
 obtain ⟨k1,H⟩:=H
 exact path_rq (G:=given kp107 [(1,2,.call (tu [bigA false (Sp.flo a b),bigA false (Sp.flr a b),vi 0]) none)] []) 1000 [] (bigA false (Sp.flo a b)) (by kernel_rfl) (bc rfl (bc rfl (bc rfl (bc rfl (bc rfl (bc rfl b0)))))) q0 (ce (@ev129 (fa) (fb) (a) (b) k1) c0) H
end Go.Av

namespace Go.Av
open Go.Proofs
theorem ev106:Ev M1 (.pure 106 []) (.agg [.bool false,.vec false 1 ((Sp.limI 1).map (.int .u32))]) []:=
 call106 (vUnit _ ⟨by unfold Sp.inI;omega,.refl _⟩)
theorem ev107 (fa fb:Bool) (a b:Int) (h:Sp.okB a /\ Sp.okB b /\ b ≠ 0):Ev M1 (.pure 107 [bigA fa a,bigA fb b]) (bigA false (Sp.flo a b)) []:=
 call107 (vExact _ _ _ _ _ ⟨h,.refl _⟩)
theorem ev76_a (fa:Bool) (a:Int) (h:Sp.okB a):Ev M1 (.pure 76 [bigA fa a,.agg [.bool false,.vec false 1 ((Sp.limI 1).map (.int .u32))]]) (.int .i64 (Sp.sgnI (a - 1))) []:=
 ev76 fa false a 1 ⟨h,okB_small (by decide)⟩
end Go.Av

namespace Go.Av
open Go.Proofs
set_option maxRecDepth 100000
def fi63:Fi:=⟨9,[.cell 2 36]⟩
def kp63:List (Nat × List Nat):=[(0,[1,2]),(1,[2])]
def fi71:Fi:=⟨29,[.cell 4 36]⟩
def kp71:List (Nat × List Nat):=[(0,[2,3,4]),(1,[2,3,4,8]),(2,[2,3,4]),(3,[2,3,4,5]),(4,[2,3,4,5,19]),(5,[2,3,4]),(6,[4])]
def fi73:Fi:=⟨6,[.cell 2 36]⟩
def kp73:List (Nat × List Nat):=[(0,[1,2]),(1,[2])]
def fi75:Fi:=⟨6,[.tmp 2]⟩
def kp75:List (Nat × List Nat):=[(0,[1]),(1,[2])]
def fi119:Fi:=⟨22,[.cell 2 34,.tmp 3]⟩
def kp119:List (Nat × List Nat):=[(0,[1,2]),(1,[1,2,4,5]),(2,[2,3])]
def vWhole_at (fa:Bool) (a:Int) (Q:AV -> Heap -> Prop):Prop:=Wp M1 (.run fi73 (atC (cd Tryz.f73) []) [(0,bigA fa a)] []) Q
def vReduce_at (fa fb:Bool) (a b:Int) (Q:AV -> Heap -> Prop):Prop:=Wp M1 (.run fi71 (atC (cd Tryz.f71) []) [(0,bigA fa a),(1,bigA fb b)] []) Q
def vRSign_at (fa ga:Bool) (p q:Int) (Q:AV -> Heap -> Prop):Prop:=Wp M1 (.run fi75 (atC (cd Tryz.f75) []) [(0,.agg [.bool (Sp.isNeg p),.vec fa 1 ((Sp.limI p).map (.int .u32)),.bool (Sp.isNeg q),.vec ga 1 ((Sp.limI q).map (.int .u32))])] []) Q
def vRNeg_at (fa ga:Bool) (p q:Int) (Q:AV -> Heap -> Prop):Prop:=Wp M1 (.run fi63 (atC (cd Tryz.f63) []) [(0,.agg [.bool (Sp.isNeg p),.vec fa 1 ((Sp.limI p).map (.int .u32)),.bool (Sp.isNeg q),.vec ga 1 ((Sp.limI q).map (.int .u32))])] []) Q
def vSide_at (fa:Bool) (a:Int) (Q:AV -> Heap -> Prop):Prop:=Wp M1 (.run fi119 (atC (cd Tryz.f119) []) [(0,bigA fa a)] []) Q
theorem call63 {args:List AV} {d:AV} (h:wc M1 fi63 Tryz.f63 args d):Ev M1 (.pure 63 args) d []:=pcl _ _ (by kernel_rfl) h
theorem call71 {args:List AV} {d:AV} (h:wc M1 fi71 Tryz.f71 args d):Ev M1 (.pure 71 args) d []:=pcl _ _ (by kernel_rfl) h
theorem call73 {args:List AV} {d:AV} (h:wc M1 fi73 Tryz.f73 args d):Ev M1 (.pure 73 args) d []:=pcl _ _ (by kernel_rfl) h
theorem call75 {args:List AV} {d:AV} (h:wc M1 fi75 Tryz.f75 args d):Ev M1 (.pure 75 args) d []:=pcl _ _ (by kernel_rfl) h
theorem call119 {args:List AV} {d:AV} (h:wc M1 fi119 Tryz.f119 args d):Ev M1 (.pure 119 args) d []:=pcl _ _ (by kernel_rfl) h
theorem vWhole (fa:Bool) (a:Int)  (dq:AV) (H :
  Weak (ag [vb (Sp.isNeg a),AV.vec fa 1 (us (Sp.limI a)),vb false,vf (us (Sp.limI 1))]) dq) :
 vWhole_at fa a (PureQ dq):=by
 unfold vWhole_at
 exact path_rq (G:=given kp73 [(1,1,.call (ag [vb false,vf (us (Sp.limI 1))]) none)] []) 1000 [] (ag [vb (Sp.isNeg a),AV.vec fa 1 (us (Sp.limI a)),vb false,vf (us (Sp.limI 1))]) (by kernel_rfl) (bc rfl (bc rfl b0)) q0 (ce (@ev106 ) c0) H
noncomputable abbrev zNvJ1:=ag [vb false,AV.vnil,vb false,AV.vnil]
theorem vReduce (fa fb:Bool) (a b:Int)  (dq:AV) (H :
  ((Sp.sgnI b < 0) -> (Sp.okB a) /\
   (Sp.okB b) /\
   (Sp.okB (-a) /\ Sp.okB (-b)) /\
   (Sp.okB (↑((-a).gcd (-b)):Int)) /\
   ((¬Sp.sgnI ((↑((-a).gcd (-b)):Int) - 1) = 0) -> (Sp.okB (-a) /\ Sp.okB (↑((-a).gcd (-b)):Int) /\ (↑((-a).gcd (-b)):Int) ≠ 0) /\
    (Sp.okB (-b) /\ Sp.okB (↑((-a).gcd (-b)):Int) /\ (↑((-a).gcd (-b)):Int) ≠ 0) /\
    Weak (ag [vb (Sp.isNeg (Sp.flo (-a) (↑((-a).gcd (-b)):Int))),vf (us (Sp.limI (Sp.flo (-a) (↑((-a).gcd (-b)):Int)))),vb (Sp.isNeg (Sp.flo (-b) (↑((-a).gcd (-b)):Int))),vf (us (Sp.limI (Sp.flo (-b) (↑((-a).gcd (-b)):Int))))]) dq) /\
   (¬(¬Sp.sgnI ((↑((-a).gcd (-b)):Int) - 1) = 0) -> Weak (ag [vb (Sp.isNeg (-a)),vf (us (Sp.limI (-a))),vb (Sp.isNeg (-b)),vf (us (Sp.limI (-b)))]) dq)) /\
  (¬(Sp.sgnI b < 0) -> (Sp.okB a /\ Sp.okB b) /\
   (Sp.okB (↑(a.gcd b):Int)) /\
   ((¬Sp.sgnI ((↑(a.gcd b):Int) - 1) = 0) -> (Sp.okB a /\ Sp.okB (↑(a.gcd b):Int) /\ (↑(a.gcd b):Int) ≠ 0) /\
    (Sp.okB b /\ Sp.okB (↑(a.gcd b):Int) /\ (↑(a.gcd b):Int) ≠ 0) /\
    Weak (ag [vb (Sp.isNeg (Sp.flo a (↑(a.gcd b):Int))),vf (us (Sp.limI (Sp.flo a (↑(a.gcd b):Int)))),vb (Sp.isNeg (Sp.flo b (↑(a.gcd b):Int))),vf (us (Sp.limI (Sp.flo b (↑(a.gcd b):Int))))]) dq) /\
   (¬(¬Sp.sgnI ((↑(a.gcd b):Int) - 1) = 0) -> Weak (ag [vb (Sp.isNeg a),AV.vec fa 1 (us (Sp.limI a)),vb (Sp.isNeg b),AV.vec fb 1 (us (Sp.limI b))]) dq))) :
 vReduce_at fa fb a b (PureQ dq):=by
 unfold vReduce_at
 refine path_wp (G:=given kp71 [(1,1,.call (vi (Sp.sgnI b)) none)] []) 5 [] ⟨(atC (cd Tryz.f71) [1,0,1]),[(2,AV.ptr 0 0 0 0),(3,AV.ptr 1 0 0 0),(4,AV.ptr 2 0 0 0),(8,vb (decide (Sp.sgnI b < 0)))],[⟨[bigA fa a],2,0,false,false⟩,⟨[bigA fb b],2,0,false,false⟩,⟨[zNvJ1],4,0,false,false⟩],_,[],_⟩ (by kernel_rfl) (bc rfl b0) q0 (ce (@ev104 (fb) (b)) c0) ?_
 rcases xm (Sp.sgnI b < 0) with d2 | d2
 ·have H:=H.1 d2
  obtain ⟨k3,H⟩:=H
  obtain ⟨k4,H⟩:=H
  obtain ⟨k5,H⟩:=H
  obtain ⟨k6,H⟩:=H
  refine path_wp (G:=given kp71 [(2,1,.call (bigA false (-a)) none),(2,3,.call (bigA false (-b)) none),(3,2,.call (bigA false (↑((-a).gcd (-b)):Int)) none),(4,1,.call (ag [vb false,vf (us (Sp.limI 1))]) none),(4,2,.call (vi (Sp.sgnI ((↑((-a).gcd (-b)):Int) - 1))) none)] []) 7 [true] ⟨(atC (cd Tryz.f71) [1,1,0,1,1]),[(2,AV.ptr 0 0 0 0),(3,AV.ptr 1 0 0 0),(4,AV.ptr 2 0 0 0),(5,AV.ptr 3 0 0 0),(19,vb (Sp.sgnI ((↑((-a).gcd (-b)):Int) - 1) != 0))],[⟨[bigA false (-a)],2,0,false,false⟩,⟨[bigA false (-b)],2,0,false,false⟩,⟨[zNvJ1],4,0,false,false⟩,⟨[bigA false (↑((-a).gcd (-b)):Int)],2,0,false,false⟩],_,[],_⟩ (by kernel_rfl) (bc (beq_t (i_dec.2 d2)) (bc rfl (bc rfl (bc rfl (bc rfl (bc rfl (bc rfl (bc rfl (bc rfl b0))))))))) q0 (ce (@ev93 (fa) (a) k3) (ce (@ev93 (fb) (b) k4) (ce (@ev105 (false) (false) (-a) (-b) k5) (ce (@ev106 ) (ce (@ev76_a (false) ((↑((-a).gcd (-b)):Int)) k6) c0))))) ?_
  rcases xm (¬Sp.sgnI ((↑((-a).gcd (-b)):Int) - 1) = 0) with d8 | d8
  ·have H:=H.1 d8
   obtain ⟨k9,H⟩:=H
   obtain ⟨k10,H⟩:=H
   exact path_rq (G:=given kp71 [(5,2,.call (bigA false (Sp.flo (-a) (↑((-a).gcd (-b)):Int))) none),(5,5,.call (bigA false (Sp.flo (-b) (↑((-a).gcd (-b)):Int))) none)] []) 1000 [true] (ag [vb (Sp.isNeg (Sp.flo (-a) (↑((-a).gcd (-b)):Int))),vf (us (Sp.limI (Sp.flo (-a) (↑((-a).gcd (-b)):Int)))),vb (Sp.isNeg (Sp.flo (-b) (↑((-a).gcd (-b)):Int))),vf (us (Sp.limI (Sp.flo (-b) (↑((-a).gcd (-b)):Int))))]) (by kernel_rfl) (bc (beq_t (i_ne.2 d8)) (bc rfl (bc rfl (bc rfl (bc rfl (bc rfl (bc rfl (bc rfl (bc rfl (bc rfl b0)))))))))) q0 (ce (@ev107 (false) (false) (-a) ((↑((-a).gcd (-b)):Int)) k9) (ce (@ev107 (false) (false) (-b) ((↑((-a).gcd (-b)):Int)) k10) c0)) H
  ·have H:=H.2 d8
   exact path_rq (G:=given kp71 [] []) 1000 [false] (ag [vb (Sp.isNeg (-a)),vf (us (Sp.limI (-a))),vb (Sp.isNeg (-b)),vf (us (Sp.limI (-b)))]) (by kernel_rfl) (bc (beq_f (fun h => d8 (i_ne.1 h))) (bc rfl (bc rfl (bc rfl b0)))) q0 c0 H
 ·have H:=H.2 d2
  obtain ⟨k11,H⟩:=H
  obtain ⟨k12,H⟩:=H
  refine path_wp (G:=given kp71 [(3,2,.call (bigA false (↑(a.gcd b):Int)) none),(4,1,.call (ag [vb false,vf (us (Sp.limI 1))]) none),(4,2,.call (vi (Sp.sgnI ((↑(a.gcd b):Int) - 1))) none)] []) 7 [false] ⟨(atC (cd Tryz.f71) [1,1,0,1,1]),[(2,AV.ptr 0 0 0 0),(3,AV.ptr 1 0 0 0),(4,AV.ptr 2 0 0 0),(5,AV.ptr 3 0 0 0),(19,vb (Sp.sgnI ((↑(a.gcd b):Int) - 1) != 0))],[⟨[bigA fa a],2,0,false,false⟩,⟨[bigA fb b],2,0,false,false⟩,⟨[zNvJ1],4,0,false,false⟩,⟨[bigA false (↑(a.gcd b):Int)],2,0,false,false⟩],_,[],_⟩ (by kernel_rfl) (bc (beq_f (fun h => d2 (i_dec.1 h))) (bc rfl (bc rfl (bc rfl (bc rfl b0))))) q0 (ce (@ev105 (fa) (fb) (a) (b) k11) (ce (@ev106 ) (ce (@ev76_a (false) ((↑(a.gcd b):Int)) k12) c0))) ?_
  rcases xm (¬Sp.sgnI ((↑(a.gcd b):Int) - 1) = 0) with d14 | d14
  ·have H:=H.1 d14
   obtain ⟨k15,H⟩:=H
   obtain ⟨k16,H⟩:=H
   exact path_rq (G:=given kp71 [(5,2,.call (bigA false (Sp.flo a (↑(a.gcd b):Int))) none),(5,5,.call (bigA false (Sp.flo b (↑(a.gcd b):Int))) none)] []) 1000 [true] (ag [vb (Sp.isNeg (Sp.flo a (↑(a.gcd b):Int))),vf (us (Sp.limI (Sp.flo a (↑(a.gcd b):Int)))),vb (Sp.isNeg (Sp.flo b (↑(a.gcd b):Int))),vf (us (Sp.limI (Sp.flo b (↑(a.gcd b):Int))))]) (by kernel_rfl) (bc (beq_t (i_ne.2 d14)) (bc rfl (bc rfl (bc rfl (bc rfl (bc rfl (bc rfl (bc rfl (bc rfl (bc rfl b0)))))))))) q0 (ce (@ev107 (fa) (false) (a) ((↑(a.gcd b):Int)) k15) (ce (@ev107 (fb) (false) (b) ((↑(a.gcd b):Int)) k16) c0)) H
  ·have H:=H.2 d14
   exact path_rq (G:=given kp71 [] []) 1000 [false] (ag [vb (Sp.isNeg a),AV.vec fa 1 (us (Sp.limI a)),vb (Sp.isNeg b),AV.vec fb 1 (us (Sp.limI b))]) (by kernel_rfl) (bc (beq_f (fun h => d14 (i_ne.1 h))) (bc rfl (bc rfl (bc rfl b0)))) q0 c0 H
theorem vRSign (fa ga:Bool) (p q:Int)  (dq:AV) (H :
  vi (Sp.sgnI p) = dq) :
 vRSign_at fa ga p q (PureQ dq):=by
 unfold vRSign_at
 exact path_re (G:=given kp75 [(1,2,.call (vi (Sp.sgnI p)) none)] []) 1000 [] (vi (Sp.sgnI p)) (by kernel_rfl) (bc rfl b0) q0 (ce (@ev104 (fa) (p)) c0) H
theorem vRNeg (fa ga:Bool) (p q:Int)  (dq:AV) (H :
  (Sp.okB p) /\
  Weak (ag [vb (Sp.isNeg (-p)),vf (us (Sp.limI (-p))),vb (Sp.isNeg q),AV.vec ga 1 (us (Sp.limI q))]) dq) :
 vRNeg_at fa ga p q (PureQ dq):=by
 unfold vRNeg_at
 obtain ⟨k1,H⟩:=H
 exact path_rq (G:=given kp63 [(1,2,.call (bigA false (-p)) none)] []) 1000 [] (ag [vb (Sp.isNeg (-p)),vf (us (Sp.limI (-p))),vb (Sp.isNeg q),AV.vec ga 1 (us (Sp.limI q))]) (by kernel_rfl) (bc rfl (bc rfl (bc rfl b0))) q0 (ce (@ev93 (fa) (p) k1) c0) H
theorem vSide (fa:Bool) (a:Int)  (dq:AV) (H :
  (Sp.okS a) /\
  ((Sp.sqe a = 0) -> (Sp.okB (Sp.sq a) /\ Sp.okB (Sp.sq a))) /\
  ((Sp.sqe a = 0) -> (Sp.okB (Sp.sq a * Sp.sq a) /\ Sp.okB a)) /\
  Weak (tu [bigA false (Sp.sq a),vb (bif Sp.sqe a == 0 then Sp.sgnI (Sp.sq a * Sp.sq a - a) == 0 else false)]) dq) :
 vSide_at fa a (PureQ dq):=by
 unfold vSide_at
 obtain ⟨k1,H⟩:=H
 obtain ⟨k3,H⟩:=H
 obtain ⟨k5,H⟩:=H
 exact path_rq (G:=given kp119 [(1,1,.call (tu [bigA false (Sp.sq a),vi (Sp.sqe a)]) none),(2,6,.call (bigA false (Sp.sq a * Sp.sq a)) none),(2,8,.call (vi (Sp.sgnI (Sp.sq a * Sp.sq a - a))) none)] []) 1000 [] (asm:=[true,true,true,!((Sp.sqe a == 0) == true && true) || true,!((Sp.sqe a == 0) == true && true) || true,!((Sp.sqe a == 0) == true && true) || true,true]) (calls:=[⟨true,false,117,[bigA fa a],[],tu [bigA false (Sp.sq a),vi (Sp.sqe a)],[]⟩,⟨(Sp.sqe a == 0) == true && true && true,false,77,[bigA false (Sp.sq a),bigA false (Sp.sq a)],[],bigA false (Sp.sq a * Sp.sq a),[]⟩,⟨(Sp.sqe a == 0) == true && true && true,false,76,[bigA false (Sp.sq a * Sp.sq a),bigA fa a],[],vi (Sp.sgnI (Sp.sq a * Sp.sq a - a)),[]⟩]) (tu [bigA false (Sp.sq a),vb (bif Sp.sqe a == 0 then Sp.sgnI (Sp.sq a * Sp.sq a - a) == 0 else false)]) (by kernel_rfl) (bc rfl (bc rfl (bc rfl (bc (Bool.or_true _) (bc (Bool.or_true _) (bc (Bool.or_true _) (bc rfl b0))))))) q0 (cc (fun _ => (@ev117 (fa) (a) k1)) (cc (fun hc => ((@ev77 (false) (false) (Sp.sq a) (Sp.sq a) (k3 ((i_at (i_at (i_bt i_eq))).1 hc))):Ev M1 (Conf.pure 77 [bigA false (Sp.sq a),bigA false (Sp.sq a)]) (bigA false (Sp.sq a * Sp.sq a)) [])) (cc (fun hc => ((@ev76 (false) (fa) (Sp.sq a * Sp.sq a) (a) (k5 ((i_at (i_at (i_bt i_eq))).1 hc))):Ev M1 (Conf.pure 76 [bigA false (Sp.sq a * Sp.sq a),bigA fa a]) (vi (Sp.sgnI (Sp.sq a * Sp.sq a - a))) [])) c0))) H
end Go.Av

namespace Go.Av
open Go.Proofs
abbrev ratA (f g:Bool) (r:Rat):AV:=.agg [.bool (Sp.isNeg r.num),.vec f 1 ((Sp.limI r.num).map (.int .u32)),.bool (Sp.isNeg (r.den:Int)),.vec g 1 ((Sp.limI (r.den:Int)).map (.int .u32))]
theorem weak_rat (b d f g:Bool) (xs ys:List AV):Weak (.agg [.bool b,.vec f 1 xs,.bool d,.vec g 1 ys]) (.agg [.bool b,.vec false 1 xs,.bool d,.vec false 1 ys]):=by
 refine .agg _ _ rfl fun i x y hx hy => ?_
 match i with
 | 0 => simp at hx hy;subst hx;subst hy;exact .refl _
 | 1 => simp at hx hy;subst hx;subst hy;exact weak_vec _ _ _
 | 2 => simp at hx hy;subst hx;subst hy;exact .refl _
 | 3 => simp at hx hy;subst hx;subst hy;exact weak_vec _ _ _
 | i + 4 => simp at hx
theorem rat_neg {a b:Int} (h:b < 0):(Rat.divInt a b).num = (-a) / (((-a).gcd (-b):Nat):Int) /\ ((Rat.divInt a b).den:Int) = (-b) / (((-a).gcd (-b):Nat):Int):=by
 have e:(-a).gcd (-b) = b.gcd a:=by rw [Int.neg_gcd,Int.gcd_neg,Int.gcd_comm]
 rw [e,Rat.num_divInt,Rat.den_divInt,if_neg (by omega),Int.sign_eq_neg_one_of_neg h]
 refine ⟨by rw [Int.neg_mul,Int.one_mul],?_⟩
 have e2:((b.natAbs / b.gcd a:Nat):Int) = (b.natAbs:Int) / (b.gcd a:Int):=rfl
 rw [e2]
 congr 1;omega
theorem rat_pos {a b:Int} (h:0 < b):(Rat.divInt a b).num = a / ((a.gcd b:Nat):Int) /\ ((Rat.divInt a b).den:Int) = b / ((a.gcd b:Nat):Int):=by
 have e:a.gcd b = b.gcd a:=Int.gcd_comm _ _
 rw [e,Rat.num_divInt,Rat.den_divInt,if_neg (by omega),Int.sign_eq_one_of_pos h]
 refine ⟨by rw [Int.one_mul],?_⟩
 have e2:((b.natAbs / b.gcd a:Nat):Int) = (b.natAbs:Int) / (b.gcd a:Int):=rfl
 rw [e2]
 congr 1;omega
theorem gcd_okB {a b:Int} (hb:b ≠ 0) (h:Sp.okB b):Sp.okB ((a.gcd b:Nat):Int) /\ ((a.gcd b:Nat):Int) ≠ 0:=by
 have h1:0 < a.gcd b:=Int.gcd_pos_of_ne_zero_right _ hb
 have h2:a.gcd b <= b.natAbs:=Nat.le_of_dvd (by omega) (Int.gcd_dvd_natAbs_right a b)
 have:=cnt_mono h2
 refine ⟨?_,by omega⟩
 unfold Sp.okB at *
 rw [Int.natAbs_natCast];omega
theorem flo_pos {a:Int} {g:Nat} (h:(g:Int) ≠ 0):Sp.flo a (g:Int) = a / (g:Int):=by
 unfold Sp.flo
 rw [if_pos (by omega)]
theorem ev71 (fa fb:Bool) (a b:Int) (h:Sp.okB a /\ Sp.okB b /\ b ≠ 0):Ev M1 (.pure 71 [bigA fa a,bigA fb b]) (ratA false false (Rat.divInt a b)) []:=by
 obtain ⟨ha,hb,h0⟩:=h
 have hna:Sp.okB (-a):=by unfold Sp.okB at *;rwa [Int.natAbs_neg]
 have hnb:Sp.okB (-b):=by unfold Sp.okB at *;rwa [Int.natAbs_neg]
 refine call71 (vReduce _ _ _ _ _ ⟨fun k => ?_,fun k => ?_⟩)
 ·rw [sgnI_lt] at k
  obtain ⟨g1,g2⟩:=gcd_okB (a:=-a) (b:=-b) (by omega) hnb
  obtain ⟨r1,r2⟩:=rat_neg (a:=a) k
  refine ⟨ha,hb,⟨hna,hnb⟩,g1,fun _ => ⟨⟨hna,g1,g2⟩,⟨hnb,g1,g2⟩,?_⟩,fun k2 => ?_⟩
  ·show Weak _ (AV.agg [.bool (Sp.isNeg (Rat.divInt a b).num),.vec false 1 ((Sp.limI (Rat.divInt a b).num).map (.int .u32)),.bool (Sp.isNeg ((Rat.divInt a b).den:Int)),.vec false 1 ((Sp.limI ((Rat.divInt a b).den:Int)).map (.int .u32))])
   rw [r1,r2,flo_pos g2,flo_pos g2];exact .refl _
  ·have k2:=sgnI_zero.1 (Classical.not_not.1 k2)
   have e:(((-a).gcd (-b):Nat):Int) = 1:=by omega
   show Weak _ (AV.agg [.bool (Sp.isNeg (Rat.divInt a b).num),.vec false 1 ((Sp.limI (Rat.divInt a b).num).map (.int .u32)),.bool (Sp.isNeg ((Rat.divInt a b).den:Int)),.vec false 1 ((Sp.limI ((Rat.divInt a b).den:Int)).map (.int .u32))])
   rw [r1,r2,e,Int.ediv_one,Int.ediv_one];exact weak_rat _ _ _ _ _ _
 ·rw [sgnI_lt] at k
  obtain ⟨g1,g2⟩:=gcd_okB (a:=a) (b:=b) h0 hb
  obtain ⟨r1,r2⟩:=rat_pos (a:=a) (show 0 < b by omega)
  refine ⟨⟨ha,hb⟩,g1,fun _ => ⟨⟨ha,g1,g2⟩,⟨hb,g1,g2⟩,?_⟩,fun k2 => ?_⟩
  ·show Weak _ (AV.agg [.bool (Sp.isNeg (Rat.divInt a b).num),.vec false 1 ((Sp.limI (Rat.divInt a b).num).map (.int .u32)),.bool (Sp.isNeg ((Rat.divInt a b).den:Int)),.vec false 1 ((Sp.limI ((Rat.divInt a b).den:Int)).map (.int .u32))])
   rw [r1,r2,flo_pos g2,flo_pos g2];exact .refl _
  ·have k2:=sgnI_zero.1 (Classical.not_not.1 k2)
   have e:((a.gcd b:Nat):Int) = 1:=by omega
   show Weak _ (AV.agg [.bool (Sp.isNeg (Rat.divInt a b).num),.vec false 1 ((Sp.limI (Rat.divInt a b).num).map (.int .u32)),.bool (Sp.isNeg ((Rat.divInt a b).den:Int)),.vec false 1 ((Sp.limI ((Rat.divInt a b).den:Int)).map (.int .u32))])
   rw [r1,r2,e,Int.ediv_one,Int.ediv_one];exact weak_rat _ _ _ _ _ _
theorem ev75 (fa ga:Bool) (p q:Int):Ev M1 (.pure 75 [.agg [.bool (Sp.isNeg p),.vec fa 1 ((Sp.limI p).map (.int .u32)),.bool (Sp.isNeg q),.vec ga 1 ((Sp.limI q).map (.int .u32))]]) (.int .i64 (Sp.sgnI p)) []:=
 call75 (vRSign _ _ _ _ _ rfl)
end Go.Av

namespace Go.Av
open Go.Proofs
theorem ev63 (fa ga:Bool) (r:Rat) (h:Sp.okB r.num):Ev M1 (.pure 63 [ratA fa ga r]) (ratA false false (-r)) []:=by
 refine call63 (vRNeg _ _ _ _ _ ⟨h,?_⟩)
 show Weak _ (AV.agg [.bool (Sp.isNeg (-r).num),.vec false 1 ((Sp.limI (-r).num).map (.int .u32)),.bool (Sp.isNeg ((-r).den:Int)),.vec false 1 ((Sp.limI ((-r).den:Int)).map (.int .u32))])
 rw [Rat.neg_num,Rat.neg_den]
 exact weak_rat _ _ _ _ _ _
namespace Sp
noncomputable def isSq (a:Int):Bool:=bif sqe a == 0 then sgnI (sq a * sq a - a) == 0 else false
end Sp
theorem sq_le {a:Int} (h:0 <= a):(Sp.sq a).natAbs * (Sp.sq a).natAbs <= a.natAbs /\ (Sp.sq a).natAbs <= a.natAbs:=by
 have:=isqrt_spec a.natAbs
 unfold Sp.sq
 rw [if_neg (by omega),Int.natAbs_natCast]
 refine ⟨this.1,?_⟩
 have h1:=this.1
 by_cases hz:Sp.isqrt a.natAbs = 0
 ·omega
 ·have:=Nat.le_mul_of_pos_left (Sp.isqrt a.natAbs) (Nat.pos_of_ne_zero hz)
  omega
theorem ev119 (fa:Bool) (a:Int) (h:Sp.okS a):Ev M1 (.pure 119 [bigA fa a]) (.tup [bigA false (Sp.sq a),.bool (Sp.isSq a)]) []:=by
 have ha:Sp.okB a:=by unfold Sp.okS at h;unfold Sp.okB;omega
 have hk:Sp.sqe a = 0 -> 0 <= a:=by
  intro k
  unfold Sp.sqe at k
  split at k <;> omega
 refine call119 (vSide _ _ _ ⟨h,fun k => ?_,fun k => ⟨?_,ha⟩,.refl _⟩)
 ·have:=cnt_mono (sq_le (hk k)).2
  unfold Sp.okS at h
  unfold Sp.okB
  omega
 ·have:=cnt_mono (sq_le (hk k)).1
  unfold Sp.okS at h
  unfold Sp.okB
  rw [Int.natAbs_mul];omega
theorem ev73 (fa:Bool) (a:Int):Ev M1 (.pure 73 [bigA fa a]) (ratA false false (a:Rat)) []:=by
 refine call73 (vWhole _ _ _ ?_)
 show Weak _ (AV.agg [.bool (Sp.isNeg (a:Rat).num),.vec false 1 ((Sp.limI (a:Rat).num).map (.int .u32)),.bool (Sp.isNeg ((a:Rat).den:Int)),.vec false 1 ((Sp.limI ((a:Rat).den:Int)).map (.int .u32))])
 rw [Rat.num_intCast,Rat.den_intCast]
 exact weak_rat _ _ _ _ _ _
end Go.Av

namespace Go.Av
open Go.Proofs
set_option maxRecDepth 100000
def fi35:Fi:=⟨6,[.cell 2 36]⟩
def kp35:List (Nat × List Nat):=[(0,[0,2]),(1,[2])]
def fi36:Fi:=⟨25,[.tmp 4]⟩
def kp36:List (Nat × List Nat):=[(0,[2,3]),(1,[2,3,5]),(2,[2,3,5,12]),(3,[4]),(4,[4])]
def fi37:Fi:=⟨16,[.cell 4 36]⟩
def kp37:List (Nat × List Nat):=[(0,[2,3,4]),(1,[4])]
def fi38:Fi:=⟨36,[.cell 4 36]⟩
def kp38:List (Nat × List Nat):=[(0,[2,3,4]),(1,[2,3,4,10]),(2,[4]),(3,[4])]
def fi58:Fi:=⟨21,[.cell 4 36,.tmp 5]⟩
def kp58:List (Nat × List Nat):=[(0,[2,3,4]),(1,[2,3,4,8]),(2,[4,5]),(3,[4,5])]
def fi89:Fi:=⟨26,[.cell 2 36,.tmp 3]⟩
def kp89:List (Nat × List Nat):=[(0,[1,2]),(1,[1,2,4,5]),(2,[1,2,4,14]),(3,[2,4,6,7]),(4,[2,4,6,21]),(5,[2,3]),(6,[2,3])]
def vRAdd_at (fa ga fb gb:Bool) (r s:Rat) (Q:AV -> Heap -> Prop):Prop:=Wp M1 (.run fi38 (atC (cd Tryz.f38) []) [(0,ratA fa ga r),(1,ratA fb gb s)] []) Q
def vRMul_at (fa ga fb gb:Bool) (r s:Rat) (Q:AV -> Heap -> Prop):Prop:=Wp M1 (.run fi37 (atC (cd Tryz.f37) []) [(0,ratA fa ga r),(1,ratA fb gb s)] []) Q
def vRDiv_at (fa ga fb gb:Bool) (r s:Rat) (Q:AV -> Heap -> Prop):Prop:=Wp M1 (.run fi58 (atC (cd Tryz.f58) []) [(0,ratA fa ga r),(1,ratA fb gb s)] []) Q
def vRCmp_at (fa ga fb gb:Bool) (r s:Rat) (Q:AV -> Heap -> Prop):Prop:=Wp M1 (.run fi36 (atC (cd Tryz.f36) []) [(0,ratA fa ga r),(1,ratA fb gb s)] []) Q
def vRFrom_at (n:Int) (Q:AV -> Heap -> Prop):Prop:=Wp M1 (.run fi35 (atC (cd Tryz.f35) []) [(0,.int .i64 n)] []) Q
def vRSqrt_at (fa ga:Bool) (r:Rat) (Q:AV -> Heap -> Prop):Prop:=Wp M1 (.run fi89 (atC (cd Tryz.f89) []) [(0,ratA fa ga r)] []) Q
theorem call35 {args:List AV} {d:AV} (h:wc M1 fi35 Tryz.f35 args d):Ev M1 (.pure 35 args) d []:=pcl _ _ (by kernel_rfl) h
theorem call36 {args:List AV} {d:AV} (h:wc M1 fi36 Tryz.f36 args d):Ev M1 (.pure 36 args) d []:=pcl _ _ (by kernel_rfl) h
theorem call37 {args:List AV} {d:AV} (h:wc M1 fi37 Tryz.f37 args d):Ev M1 (.pure 37 args) d []:=pcl _ _ (by kernel_rfl) h
theorem call38 {args:List AV} {d:AV} (h:wc M1 fi38 Tryz.f38 args d):Ev M1 (.pure 38 args) d []:=pcl _ _ (by kernel_rfl) h
theorem call58 {args:List AV} {d:AV} (h:wc M1 fi58 Tryz.f58 args d):Ev M1 (.pure 58 args) d []:=pcl _ _ (by kernel_rfl) h
theorem call89 {args:List AV} {d:AV} (h:wc M1 fi89 Tryz.f89 args d):Ev M1 (.pure 89 args) d []:=pcl _ _ (by kernel_rfl) h
theorem vRAdd (fa ga fb gb:Bool) (r s:Rat)  (dq:AV) (H :
  (Sp.okB (↑r.den:Int) /\ Sp.okB (↑s.den:Int)) /\
  ((Sp.sgnI ((↑r.den:Int) - (↑s.den:Int)) = 0) -> (Sp.okB r.num /\ Sp.okB s.num) /\
   (Sp.okB (r.num + s.num) /\ Sp.okB (↑r.den:Int) /\ (↑r.den:Int) ≠ 0) /\
   Weak (ratA false false (Rat.divInt (r.num + s.num) (↑r.den:Int))) dq) /\
  (¬(Sp.sgnI ((↑r.den:Int) - (↑s.den:Int)) = 0) -> (Sp.okB r.num /\ Sp.okB (↑s.den:Int)) /\
   (Sp.okB s.num /\ Sp.okB (↑r.den:Int)) /\
   (Sp.okB (r.num * (↑s.den:Int)) /\ Sp.okB (s.num * (↑r.den:Int))) /\
   (Sp.okB (r.num * (↑s.den:Int) + s.num * (↑r.den:Int)) /\ Sp.okB ((↑r.den:Int) * (↑s.den:Int)) /\ (↑r.den:Int) * (↑s.den:Int) ≠ 0) /\
   Weak (ratA false false (Rat.divInt (r.num * (↑s.den:Int) + s.num * (↑r.den:Int)) ((↑r.den:Int) * (↑s.den:Int)))) dq)) :
 vRAdd_at fa ga fb gb r s (PureQ dq):=by
 unfold vRAdd_at
 obtain ⟨k1,H⟩:=H
 refine path_wp (G:=given kp38 [(1,4,.call (vi (Sp.sgnI ((↑r.den:Int) - (↑s.den:Int)))) none)] []) 5 [] ⟨(atC (cd Tryz.f38) [1,0,1]),[(2,AV.ptr 0 0 0 0),(3,AV.ptr 1 0 0 0),(4,AV.ptr 2 0 0 0),(10,vb (Sp.sgnI ((↑r.den:Int) - (↑s.den:Int)) == 0))],[⟨[ratA fa ga r],4,0,false,false⟩,⟨[ratA fb gb s],4,0,false,false⟩,⟨[ag [vb false,AV.vnil,vb false,AV.vnil]],4,0,false,false⟩],_,[],_⟩ (by kernel_rfl) (bc rfl (bc rfl b0)) q0 (ce (@ev76 (ga) (gb) ((↑r.den:Int)) ((↑s.den:Int)) k1) c0) ?_
 rcases xm (Sp.sgnI ((↑r.den:Int) - (↑s.den:Int)) = 0) with d3 | d3
 ·have H:=H.1 d3
  obtain ⟨k4,H⟩:=H
  obtain ⟨k5,H⟩:=H
  exact path_rq (G:=given kp38 [(2,4,.call (bigA false (r.num + s.num)) none),(2,7,.call (ratA false false (Rat.divInt (r.num + s.num) (↑r.den:Int))) none)] []) 1000 [true] (ratA false false (Rat.divInt (r.num + s.num) (↑r.den:Int))) (by kernel_rfl) (bc (beq_t (i_eq.2 d3)) (bc rfl (bc rfl (bc rfl (bc rfl b0))))) q0 (ce (@ev78 (fa) (fb) (r.num) (s.num) k4) (ce (@ev71 (false) (ga) (r.num + s.num) ((↑r.den:Int)) k5) c0)) H
 ·have H:=H.2 d3
  obtain ⟨k6,H⟩:=H
  obtain ⟨k7,H⟩:=H
  obtain ⟨k8,H⟩:=H
  obtain ⟨k9,H⟩:=H
  exact path_rq (G:=given kp38 [(3,4,.call (bigA false (r.num * (↑s.den:Int))) none),(3,9,.call (bigA false (s.num * (↑r.den:Int))) none),(3,10,.call (bigA false (r.num * (↑s.den:Int) + s.num * (↑r.den:Int))) none),(3,15,.call (bigA false ((↑r.den:Int) * (↑s.den:Int))) none),(3,16,.call (ratA false false (Rat.divInt (r.num * (↑s.den:Int) + s.num * (↑r.den:Int)) ((↑r.den:Int) * (↑s.den:Int)))) none)] []) 1000 [false] (ratA false false (Rat.divInt (r.num * (↑s.den:Int) + s.num * (↑r.den:Int)) ((↑r.den:Int) * (↑s.den:Int)))) (by kernel_rfl) (bc (beq_f (fun h => d3 (i_eq.1 h))) (bc rfl (bc rfl (bc rfl (bc rfl (bc rfl (bc rfl (bc rfl b0)))))))) q0 (ce (@ev77 (fa) (gb) (r.num) ((↑s.den:Int)) k6) (ce (@ev77 (fb) (ga) (s.num) ((↑r.den:Int)) k7) (ce (@ev78 (false) (false) (r.num * (↑s.den:Int)) (s.num * (↑r.den:Int)) k8) (ce (@ev77 (ga) (gb) ((↑r.den:Int)) ((↑s.den:Int)) k1) (ce (@ev71 (false) (false) (r.num * (↑s.den:Int) + s.num * (↑r.den:Int)) ((↑r.den:Int) * (↑s.den:Int)) k9) c0))))) H
theorem vRMul (fa ga fb gb:Bool) (r s:Rat)  (dq:AV) (H :
  (Sp.okB r.num /\ Sp.okB s.num) /\
  (Sp.okB (↑r.den:Int) /\ Sp.okB (↑s.den:Int)) /\
  (Sp.okB (r.num * s.num) /\ Sp.okB ((↑r.den:Int) * (↑s.den:Int)) /\ (↑r.den:Int) * (↑s.den:Int) ≠ 0) /\
  Weak (ratA false false (Rat.divInt (r.num * s.num) ((↑r.den:Int) * (↑s.den:Int)))) dq) :
 vRMul_at fa ga fb gb r s (PureQ dq):=by
 unfold vRMul_at
 obtain ⟨k1,H⟩:=H
 obtain ⟨k2,H⟩:=H
 obtain ⟨k3,H⟩:=H
 exact path_rq (G:=given kp37 [(1,4,.call (bigA false (r.num * s.num)) none),(1,9,.call (bigA false ((↑r.den:Int) * (↑s.den:Int))) none),(1,10,.call (ratA false false (Rat.divInt (r.num * s.num) ((↑r.den:Int) * (↑s.den:Int)))) none)] []) 1000 [] (ratA false false (Rat.divInt (r.num * s.num) ((↑r.den:Int) * (↑s.den:Int)))) (by kernel_rfl) (bc rfl (bc rfl (bc rfl (bc rfl (bc rfl b0))))) q0 (ce (@ev77 (fa) (fb) (r.num) (s.num) k1) (ce (@ev77 (ga) (gb) ((↑r.den:Int)) ((↑s.den:Int)) k2) (ce (@ev71 (false) (false) (r.num * s.num) ((↑r.den:Int) * (↑s.den:Int)) k3) c0))) H
theorem vRDiv (fa ga fb gb:Bool) (r s:Rat)  (dq:AV) (H :
  ((Sp.sgnI s.num = 0) -> Weak (tu [ag [vb false,AV.vnil,vb false,AV.vnil],vi 6]) dq) /\
  (¬(Sp.sgnI s.num = 0) -> (Sp.okB r.num /\ Sp.okB (↑s.den:Int)) /\
   (Sp.okB (↑r.den:Int) /\ Sp.okB s.num) /\
   (Sp.okB (r.num * (↑s.den:Int)) /\ Sp.okB ((↑r.den:Int) * s.num) /\ (↑r.den:Int) * s.num ≠ 0) /\
   Weak (tu [ratA false false (Rat.divInt (r.num * (↑s.den:Int)) ((↑r.den:Int) * s.num)),vi 0]) dq)) :
 vRDiv_at fa ga fb gb r s (PureQ dq):=by
 unfold vRDiv_at
 refine path_wp (G:=given kp58 [(1,1,.call (vi (Sp.sgnI s.num)) none)] []) 5 [] ⟨(atC (cd Tryz.f58) [1,0,1]),[(2,AV.ptr 0 0 0 0),(3,AV.ptr 1 0 0 0),(4,AV.ptr 2 0 0 0),(8,vb (Sp.sgnI s.num == 0))],[⟨[ratA fa ga r],4,0,false,false⟩,⟨[ratA fb gb s],4,0,false,false⟩,⟨[ag [vb false,AV.vnil,vb false,AV.vnil]],4,0,false,false⟩],_,[],_⟩ (by kernel_rfl) (bc rfl b0) q0 (ce (@ev75 (fb) (gb) (s.num) ((↑s.den:Int))) c0) ?_
 rcases xm (Sp.sgnI s.num = 0) with d2 | d2
 ·have H:=H.1 d2
  exact path_rq (G:=given kp58 [] []) 1000 [true] (tu [ag [vb false,AV.vnil,vb false,AV.vnil],vi 6]) (by kernel_rfl) (bc (beq_t (i_eq.2 d2)) (bc rfl b0)) q0 c0 H
 ·have H:=H.2 d2
  obtain ⟨k3,H⟩:=H
  obtain ⟨k4,H⟩:=H
  obtain ⟨k5,H⟩:=H
  exact path_rq (G:=given kp58 [(3,4,.call (bigA false (r.num * (↑s.den:Int))) none),(3,9,.call (bigA false ((↑r.den:Int) * s.num)) none),(3,10,.call (ratA false false (Rat.divInt (r.num * (↑s.den:Int)) ((↑r.den:Int) * s.num))) none)] []) 1000 [false] (tu [ratA false false (Rat.divInt (r.num * (↑s.den:Int)) ((↑r.den:Int) * s.num)),vi 0]) (by kernel_rfl) (bc (beq_f (fun h => d2 (i_eq.1 h))) (bc rfl (bc rfl (bc rfl (bc rfl (bc rfl b0)))))) q0 (ce (@ev77 (fa) (gb) (r.num) ((↑s.den:Int)) k3) (ce (@ev77 (ga) (fb) ((↑r.den:Int)) (s.num) k4) (ce (@ev71 (false) (false) (r.num * (↑s.den:Int)) ((↑r.den:Int) * s.num) k5) c0))) H
theorem vRCmp (fa ga fb gb:Bool) (r s:Rat)  (dq:AV) (H :
  ∃ (n1:Int),
  (Ev M1 (Conf.pure 74 [vi (Sp.sgnI r.num),vi (Sp.sgnI s.num)]) (vi n1) []) /\
  ((¬n1 = 0) -> vi n1 = dq) /\
  (¬(¬n1 = 0) -> (Sp.okB r.num /\ Sp.okB (↑s.den:Int)) /\
   (Sp.okB s.num /\ Sp.okB (↑r.den:Int)) /\
   (Sp.okB (r.num * (↑s.den:Int)) /\ Sp.okB (s.num * (↑r.den:Int))) /\
   vi (Sp.sgnI (r.num * (↑s.den:Int) - s.num * (↑r.den:Int))) = dq)) :
 vRCmp_at fa ga fb gb r s (PureQ dq):=by
 unfold vRCmp_at
 obtain ⟨n1,H⟩:=H
 obtain ⟨k1,H⟩:=H
 refine path_wp (G:=given kp36 [(1,1,.call (vi (Sp.sgnI r.num)) none),(1,3,.call (vi (Sp.sgnI s.num)) none),(1,4,.call (vi n1) none)] []) 7 [] ⟨(atC (cd Tryz.f36) [1,0,1,1]),[(2,AV.ptr 0 0 0 0),(3,AV.ptr 1 0 0 0),(5,vi n1),(12,vb (n1 != 0))],[⟨[ratA fa ga r],4,0,false,false⟩,⟨[ratA fb gb s],4,0,false,false⟩],_,[],_⟩ (by kernel_rfl) (bc rfl (bc rfl b0)) q0 (ce (@ev75 (fa) (ga) (r.num) ((↑r.den:Int))) (ce (@ev75 (fb) (gb) (s.num) ((↑s.den:Int))) (ce k1 c0))) ?_
 rcases xm (¬n1 = 0) with d3 | d3
 ·have H:=H.1 d3
  exact path_re (G:=given kp36 [] []) 1000 [true] (vi n1) (by kernel_rfl) (bc (beq_t (i_ne.2 d3)) b0) q0 c0 H
 ·have H:=H.2 d3
  obtain ⟨k4,H⟩:=H
  obtain ⟨k5,H⟩:=H
  obtain ⟨k6,H⟩:=H
  exact path_re (G:=given kp36 [(4,4,.call (bigA false (r.num * (↑s.den:Int))) none),(4,9,.call (bigA false (s.num * (↑r.den:Int))) none),(4,10,.call (vi (Sp.sgnI (r.num * (↑s.den:Int) - s.num * (↑r.den:Int)))) none)] []) 1000 [false] (vi (Sp.sgnI (r.num * (↑s.den:Int) - s.num * (↑r.den:Int)))) (by kernel_rfl) (bc (beq_f (fun h => d3 (i_ne.1 h))) (bc rfl (bc rfl (bc rfl (bc rfl b0))))) q0 (ce (@ev77 (fa) (gb) (r.num) ((↑s.den:Int)) k4) (ce (@ev77 (fb) (ga) (s.num) ((↑r.den:Int)) k5) (ce (@ev76 (false) (false) (r.num * (↑s.den:Int)) (s.num * (↑r.den:Int)) k6) c0))) H
theorem vRFrom (n:Int)  (dq:AV) (H :
  (Sp.inI n) /\
  Weak (ratA false false (↑n:Rat)) dq) :
 vRFrom_at n (PureQ dq):=by
 unfold vRFrom_at
 obtain ⟨k1,H⟩:=H
 exact path_rq (G:=given kp35 [(1,1,.call (bigA false n) none),(1,2,.call (ratA false false (↑n:Rat)) none)] []) 1000 [] (ratA false false (↑n:Rat)) (by kernel_rfl) (bc rfl b0) q0 (ce (@ev72 (n) k1) (ce (@ev73 (false) (n)) c0)) H
noncomputable abbrev zNvK1:=ag [vb false,AV.vnil,vb false,AV.vnil]
theorem vRSqrt (fa ga:Bool) (r:Rat)  (dq:AV) (H :
  (Sp.okS r.num) /\
  ((Sp.isSq r.num = true) -> (Sp.okS (↑r.den:Int)) /\
   ((Sp.isSq (↑r.den:Int) = true) -> Weak (tu [ag [vb (Sp.isNeg (Sp.sq r.num)),vf (us (Sp.limI (Sp.sq r.num))),vb (Sp.isNeg (Sp.sq (↑r.den:Int))),vf (us (Sp.limI (Sp.sq (↑r.den:Int))))],vb true]) dq) /\
   (¬(Sp.isSq (↑r.den:Int) = true) -> Weak (tu [ag [vb false,AV.vnil,vb false,AV.vnil],vb false]) dq)) /\
  (¬(Sp.isSq r.num = true) -> Weak (tu [ag [vb false,AV.vnil,vb false,AV.vnil],vb false]) dq)) :
 vRSqrt_at fa ga r (PureQ dq):=by
 unfold vRSqrt_at
 obtain ⟨k1,H⟩:=H
 refine path_wp (G:=given kp89 [(1,2,.call (tu [bigA false (Sp.sq r.num),vb (Sp.isSq r.num)]) none)] []) 7 [] ⟨(atC (cd Tryz.f89) [1,0,1,1]),[(1,AV.ptr 0 0 0 0),(2,AV.ptr 1 0 0 0),(4,AV.ptr 2 0 0 0),(14,vb (Sp.isSq r.num))],[⟨[ratA fa ga r],4,0,false,false⟩,⟨[zNvK1],4,0,false,false⟩,⟨[bigA false (Sp.sq r.num)],2,0,false,false⟩],_,[],_⟩ (by kernel_rfl) (bc rfl (bc rfl b0)) q0 (ce (@ev119 (fa) (r.num) k1) c0) ?_
 rcases xm (Sp.isSq r.num = true) with d3 | d3
 ·have H:=H.1 d3
  obtain ⟨k4,H⟩:=H
  refine path_wp (G:=given kp89 [(3,2,.call (tu [bigA false (Sp.sq (↑r.den:Int)),vb (Sp.isSq (↑r.den:Int))]) none)] []) 5 [true] ⟨(atC (cd Tryz.f89) [1,0,1,1,0,1,1]),[(2,AV.ptr 1 0 0 0),(4,AV.ptr 2 0 0 0),(6,AV.ptr 3 0 0 0),(21,vb (Sp.isSq (↑r.den:Int)))],[⟨[ratA fa ga r],4,0,false,false⟩,⟨[zNvK1],4,0,false,false⟩,⟨[bigA false (Sp.sq r.num)],2,0,false,false⟩,⟨[bigA false (Sp.sq (↑r.den:Int))],2,0,false,false⟩],[(Sp.isSq r.num) == true,true,true],[],_⟩ (by kernel_rfl) (bc (beq_t ((i_var _).2 d3)) (bc rfl (bc rfl b0))) q0 (ce (@ev119 (ga) ((↑r.den:Int)) k4) c0) ?_
  rcases xm (Sp.isSq (↑r.den:Int) = true) with d6 | d6
  ·have H:=H.1 d6
   exact path_rq (G:=given kp89 [] []) 1000 [true] (asm:=[(Sp.isSq (↑r.den:Int)) == true,true,true,true]) (tu [ag [vb (Sp.isNeg (Sp.sq r.num)),vf (us (Sp.limI (Sp.sq r.num))),vb (Sp.isNeg (Sp.sq (↑r.den:Int))),vf (us (Sp.limI (Sp.sq (↑r.den:Int))))],vb true]) (by kernel_rfl) (bc (beq_t ((i_var _).2 d6)) (bc rfl (bc rfl (bc rfl b0)))) q0 c0 H
  ·have H:=H.2 d6
   exact path_rq (G:=given kp89 [] []) 1000 [false] (asm:=[(Sp.isSq (↑r.den:Int)) == false,true]) (tu [zNvK1,vb false]) (by kernel_rfl) (bc (beq_f (fun h => d6 ((i_var _).1 h))) (bc rfl b0)) q0 c0 H
 ·have H:=H.2 d3
  exact path_rq (G:=given kp89 [] []) 1000 [false] (asm:=[(Sp.isSq r.num) == false,true]) (tu [zNvK1,vb false]) (by kernel_rfl) (bc (beq_f (fun h => d3 ((i_var _).1 h))) (bc rfl b0)) q0 c0 H
end Go.Av

namespace Go.Av
open Go.Proofs
def Sp.okR (r:Rat):Prop:=Sp.cnt r.num.natAbs <= 90000 /\ Sp.cnt r.den <= 90000
theorem okR_B {r:Rat} (h:Sp.okR r):Sp.okB r.num /\ Sp.okB (r.den:Int):=by
 unfold Sp.okR at h
 unfold Sp.okB
 rw [Int.natAbs_natCast];omega
theorem cnt_mulI {a b:Int} {n m:Nat} (ha:Sp.cnt a.natAbs <= n) (hb:Sp.cnt b.natAbs <= m):Sp.cnt (a * b).natAbs <= n + m:=by
 rw [Int.natAbs_mul]
 exact fits_cnt.1 (fits_prod (fits_cnt.2 ha) (fits_cnt.2 hb))
theorem cnt_addI {a b:Int} {n:Nat} (ha:Sp.cnt a.natAbs <= n) (hb:Sp.cnt b.natAbs <= n):Sp.cnt (a + b).natAbs <= n + 1:=by
 have h:=fits_cnt.1 (fits_sum (fits_cnt.2 ha) (fits_cnt.2 hb))
 exact Nat.le_trans (cnt_mono (Int.natAbs_add_le a b)) h
theorem cnt_den {r:Rat} {n:Nat} (h:Sp.cnt r.den <= n):Sp.cnt ((r.den:Int)).natAbs <= n:=by rwa [Int.natAbs_natCast]
theorem den_ne (r:Rat):(r.den:Int) ≠ 0:=by have:=r.den_pos;omega
theorem rat_add (r s:Rat):Rat.divInt (r.num * (s.den:Int) + s.num * (r.den:Int)) ((r.den:Int) * (s.den:Int)) = r + s:=by
 rw [<- Rat.divInt_add_divInt _ _ (den_ne r) (den_ne s),Rat.num_divInt_den,Rat.num_divInt_den]
theorem rat_add_same {r s:Rat} (h:(r.den:Int) = (s.den:Int)):Rat.divInt (r.num + s.num) (r.den:Int) = r + s:=by
 rw [<- rat_add,<- h,<- Int.add_mul,Rat.divInt_mul_right (den_ne r)]
theorem rat_mul (r s:Rat):Rat.divInt (r.num * s.num) ((r.den:Int) * (s.den:Int)) = r * s:=by
 rw [<- Rat.divInt_mul_divInt,Rat.num_divInt_den,Rat.num_divInt_den]
theorem rat_div (r s:Rat):Rat.divInt (r.num * (s.den:Int)) ((r.den:Int) * s.num) = r / s:=by
 rw [<- Rat.divInt_mul_divInt,Rat.num_divInt_den,<- Rat.inv_divInt,Rat.num_divInt_den,Rat.div_def]
theorem ev38 (fa ga fb gb:Bool) (r s:Rat) (h:Sp.okR r /\ Sp.okR s):Ev M1 (.pure 38 [ratA fa ga r,ratA fb gb s]) (ratA false false (r + s)) []:=by
 obtain ⟨hr,hs⟩:=h
 obtain ⟨r1,r2⟩:=okR_B hr
 obtain ⟨s1,s2⟩:=okR_B hs
 obtain ⟨cr1,cr2⟩:=hr
 obtain ⟨cs1,cs2⟩:=hs
 have m1:=cnt_mulI cr1 (cnt_den cs2)
 have m2:=cnt_mulI cs1 (cnt_den cr2)
 have m3:=cnt_mulI (cnt_den cr2) (cnt_den cs2)
 have a1:=cnt_addI m1 m2
 have a2:=cnt_addI cr1 cs1
 refine call38 (vRAdd _ _ _ _ _ _ _ ⟨⟨r2,s2⟩,fun k => ⟨⟨r1,s1⟩,⟨by unfold Sp.okB;omega,r2,den_ne r⟩,?_⟩,fun k => ⟨⟨r1,s2⟩,⟨s1,r2⟩,⟨by unfold Sp.okB;omega,by unfold Sp.okB;omega⟩,⟨by unfold Sp.okB;omega,by unfold Sp.okB;omega,Int.mul_ne_zero (den_ne r) (den_ne s)⟩,?_⟩⟩)
 ·have k:=sgnI_zero.1 k
  rw [rat_add_same (by omega)];exact .refl _
 ·rw [rat_add];exact .refl _
theorem ev37 (fa ga fb gb:Bool) (r s:Rat) (h:Sp.okR r /\ Sp.okR s):Ev M1 (.pure 37 [ratA fa ga r,ratA fb gb s]) (ratA false false (r * s)) []:=by
 obtain ⟨hr,hs⟩:=h
 obtain ⟨r1,r2⟩:=okR_B hr
 obtain ⟨s1,s2⟩:=okR_B hs
 obtain ⟨cr1,cr2⟩:=hr
 obtain ⟨cs1,cs2⟩:=hs
 have m1:=cnt_mulI cr1 cs1
 have m3:=cnt_mulI (cnt_den cr2) (cnt_den cs2)
 refine call37 (vRMul _ _ _ _ _ _ _ ⟨⟨r1,s1⟩,⟨r2,s2⟩,⟨by unfold Sp.okB;omega,by unfold Sp.okB;omega,Int.mul_ne_zero (den_ne r) (den_ne s)⟩,?_⟩)
 rw [rat_mul];exact .refl _
theorem hid_ex (r:Rat):∃ s:Rat,s = r:=⟨r,rfl⟩
noncomputable def Sp.hid (r:Rat):Rat:=Classical.choose (hid_ex r)
theorem hid_eq (r:Rat):Sp.hid r = r:=Classical.choose_spec (hid_ex r)
noncomputable def Sp.qi (n:Int):Rat:=Sp.hid n
theorem qi_eq (n:Int):Sp.qi n = (n:Rat):=hid_eq _
theorem ev35 (n:Int) (h:Sp.inI n):Ev M1 (.pure 35 [.int .i64 n]) (ratA false false (Sp.qi n)) []:=by
 rw [qi_eq]
 exact call35 (vRFrom _ _ ⟨h,.refl _⟩)
end Go.Av

namespace Go.Av
open Go.Proofs
theorem isSq_iff (a:Int):Sp.isSq a = true ↔ 0 <= a /\ Sp.sq a * Sp.sq a = a:=by
 unfold Sp.isSq Sp.sqe
 by_cases h:a < 0
 ·rw [if_pos h];simp;omega
 ·rw [if_neg h]
  have:=@sgnI_zero (Sp.sq a * Sp.sq a - a)
  simp only [beq_self_eq_true,cond_true,beq_iff_eq,this]
  omega
theorem sq_nonneg (a:Int):0 <= Sp.sq a:=by
 unfold Sp.sq;split <;> omega
namespace Sp
def rsq (r:Rat):Prop:=isSq r.num = true /\ isSq (r.den:Int) = true
noncomputable def rt (r:Rat):Rat:=Rat.divInt (sq r.num) (sq (r.den:Int))
end Sp
theorem dvd_one {g:Nat} (h:g ∣ 1):g = 1:=Nat.dvd_one.1 h
theorem gcd_sq {r:Rat} (h:Sp.rsq r):Int.gcd (Sp.sq r.num) (Sp.sq (r.den:Int)) = 1:=by
 obtain ⟨h1,h2⟩:=h
 obtain ⟨_,h1⟩:=(isSq_iff _).1 h1
 obtain ⟨_,h2⟩:=(isSq_iff _).1 h2
 have c:Nat.gcd r.num.natAbs r.den = 1:=r.reduced
 generalize Sp.sq r.num = x at *
 generalize Sp.sq (r.den:Int) = y at *
 have e1:x.natAbs ∣ r.num.natAbs:=by rw [<- h1,Int.natAbs_mul];exact Nat.dvd_mul_right _ _
 have e2:y.natAbs ∣ r.den:=by
  have:r.den = (r.den:Int).natAbs:=rfl
  rw [this,<- h2,Int.natAbs_mul];exact Nat.dvd_mul_right _ _
 apply Nat.dvd_one.1
 rw [<- c]
 exact Nat.dvd_gcd (Nat.dvd_trans (Nat.gcd_dvd_left _ _) e1) (Nat.dvd_trans (Nat.gcd_dvd_right _ _) e2)
theorem sq_den_pos {r:Rat} (h:Sp.rsq r):0 < Sp.sq (r.den:Int):=by
 obtain ⟨_,h2⟩:=(isSq_iff _).1 h.2
 have:=sq_nonneg (r.den:Int)
 have hd:=r.den_pos
 by_cases e:Sp.sq (r.den:Int) = 0
 ·rw [e] at h2;omega
 ·omega
theorem rt_num {r:Rat} (h:Sp.rsq r):(Sp.rt r).num = Sp.sq r.num /\ ((Sp.rt r).den:Int) = Sp.sq (r.den:Int):=by
 obtain ⟨e1,e2⟩:=rat_pos (a:=Sp.sq r.num) (sq_den_pos h)
 unfold Sp.rt
 rw [e1,e2,gcd_sq h];simp
theorem rt_mul {r:Rat} (h:Sp.rsq r):Sp.rt r * Sp.rt r = r:=by
 obtain ⟨e1,e2⟩:=rt_num h
 rw [<- rat_mul,e1,e2,((isSq_iff _).1 h.1).2,((isSq_iff _).1 h.2).2,Rat.num_divInt_den]
end Go.Av

namespace Go.Av
open Go.Proofs
end Go.Av

namespace Go.Av
open Go.Proofs
set_option maxRecDepth 100000
def fi15:Fi:=⟨17,[.tmp 4]⟩
def kp15:List (Nat × List Nat):=[(0,[2,3]),(1,[4])]
def fi46:Fi:=⟨2,[.cell 0 34]⟩
def kp46:List (Nat × List Nat):=[(0,[0]),(1,[0])]
def fi56:Fi:=⟨6,[.cell 2 36]⟩
def kp56:List (Nat × List Nat):=[(0,[1,2]),(1,[2])]
def fi95:Fi:=⟨39,[.cell 4 36]⟩
def kp95:List (Nat × List Nat):=[(0,[2,3,4]),(1,[2,3,4,14]),(2,[2,3,4]),(3,[2,3,4,5]),(4,[3,4,5,6]),(5,[4,6,9]),(6,[4])]
def fi98:Fi:=⟨9,[.cell 2 36]⟩
def kp98:List (Nat × List Nat):=[(0,[1,2]),(1,[2])]
def rUnit_at  (Q:AV -> Heap -> Prop):Prop:=Wp M1 (.run fi46 (atC (cd Tryz.f46) []) [] []) Q
def rFromInt_at (fa:Bool) (a:Int) (Q:AV -> Heap -> Prop):Prop:=Wp M1 (.run fi56 (atC (cd Tryz.f56) []) [(0,bigA fa a)] []) Q
def rOf_at (fa fb:Bool) (a b:Int) (Q:AV -> Heap -> Prop):Prop:=Wp M1 (.run fi95 (atC (cd Tryz.f95) []) [(0,bigA fa a),(1,bigA fb b)] []) Q
def rRNeg_at (fa ga:Bool) (p q:Int) (Q:AV -> Heap -> Prop):Prop:=Wp M1 (.run fi98 (atC (cd Tryz.f98) []) [(0,.agg [.bool (Sp.isNeg p),.vec fa 1 ((Sp.limI p).map (.int .u32)),.bool (Sp.isNeg q),.vec ga 1 ((Sp.limI q).map (.int .u32))])] []) Q
def rRSame_at (fa ga fb gb:Bool) (p q p2 q2:Int) (Q:AV -> Heap -> Prop):Prop:=Wp M1 (.run fi15 (atC (cd Tryz.f15) []) [(0,.agg [.bool (Sp.isNeg p),.vec fa 1 ((Sp.limI p).map (.int .u32)),.bool (Sp.isNeg q),.vec ga 1 ((Sp.limI q).map (.int .u32))]),(1,.agg [.bool (Sp.isNeg p2),.vec fb 1 ((Sp.limI p2).map (.int .u32)),.bool (Sp.isNeg q2),.vec gb 1 ((Sp.limI q2).map (.int .u32))])] []) Q
theorem call15 {args:List AV} {d:AV} (h:wc M1 fi15 Tryz.f15 args d):Ev M1 (.pure 15 args) d []:=pcl _ _ (by kernel_rfl) h
theorem call46 {args:List AV} {d:AV} (h:wc M1 fi46 Tryz.f46 args d):Ev M1 (.pure 46 args) d []:=pcl _ _ (by kernel_rfl) h
theorem call56 {args:List AV} {d:AV} (h:wc M1 fi56 Tryz.f56 args d):Ev M1 (.pure 56 args) d []:=pcl _ _ (by kernel_rfl) h
theorem call95 {args:List AV} {d:AV} (h:wc M1 fi95 Tryz.f95 args d):Ev M1 (.pure 95 args) d []:=pcl _ _ (by kernel_rfl) h
theorem call98 {args:List AV} {d:AV} (h:wc M1 fi98 Tryz.f98 args d):Ev M1 (.pure 98 args) d []:=pcl _ _ (by kernel_rfl) h
theorem rUnit   (dq:AV) (H :
  (Sp.inI 1) /\
  Weak (ag [vb false,vf (us (Sp.limI 1))]) dq) :
 rUnit_at  (PureQ dq):=by
 unfold rUnit_at
 obtain ⟨k1,H⟩:=H
 exact path_rq (G:=given kp46 [(1,0,.call (ag [vb false,vf (us (Sp.limI 1))]) none)] []) 1000 [] (ag [vb false,vf (us (Sp.limI 1))]) (by kernel_rfl) (bc rfl b0) q0 (ce (@ev57 (1) k1) c0) H
theorem rFromInt (fa:Bool) (a:Int)  (dq:AV) (H :
  ∃ (b1:Bool) (l1:List (Int)),
  (Ev M1 (Conf.pure 46 []) (ag [vb b1,vf (us l1)]) []) /\
  Weak (ag [vb (Sp.isNeg a),AV.vec fa 1 (us (Sp.limI a)),vb b1,vf (us l1)]) dq) :
 rFromInt_at fa a (PureQ dq):=by
 unfold rFromInt_at
 obtain ⟨b1,l1,H⟩:=H
 obtain ⟨k1,H⟩:=H
 exact path_rq (G:=given kp56 [(1,1,.call (ag [vb b1,vf (us l1)]) none)] []) 1000 [] (ag [vb (Sp.isNeg a),AV.vec fa 1 (us (Sp.limI a)),vb b1,vf (us l1)]) (by kernel_rfl) (bc rfl (bc rfl b0)) q0 (ce k1 c0) H
theorem rOf (fa fb:Bool) (a b:Int)  (dq:AV) (H :
  ((Sp.sgnI b < 0) -> (Sp.ok a) /\
   (Sp.ok b) /\
   (Sp.cnt (-a).natAbs <= 399000 /\ Sp.cnt (-b).natAbs <= 399000) /\
   (Sp.cnt (-a).natAbs <= 399000 /\ Sp.cnt (↑((-a).gcd (-b)):Int).natAbs <= 399000 /\ (↑((-a).gcd (-b)):Int) ≠ 0) /\
   (Sp.cnt (-b).natAbs <= 399000 /\ Sp.cnt (↑((-a).gcd (-b)):Int).natAbs <= 399000 /\ (↑((-a).gcd (-b)):Int) ≠ 0) /\
   Weak (ag [vb (Sp.isNeg (Sp.flo (-a) (↑((-a).gcd (-b)):Int))),vf (us (Sp.limI (Sp.flo (-a) (↑((-a).gcd (-b)):Int)))),vb (Sp.isNeg (Sp.flo (-b) (↑((-a).gcd (-b)):Int))),vf (us (Sp.limI (Sp.flo (-b) (↑((-a).gcd (-b)):Int))))]) dq) /\
  (¬(Sp.sgnI b < 0) -> (Sp.cnt a.natAbs <= 399000 /\ Sp.cnt b.natAbs <= 399000) /\
   (Sp.cnt a.natAbs <= 399000 /\ Sp.cnt (↑(a.gcd b):Int).natAbs <= 399000 /\ (↑(a.gcd b):Int) ≠ 0) /\
   (Sp.cnt b.natAbs <= 399000 /\ Sp.cnt (↑(a.gcd b):Int).natAbs <= 399000 /\ (↑(a.gcd b):Int) ≠ 0) /\
   Weak (ag [vb (Sp.isNeg (Sp.flo a (↑(a.gcd b):Int))),vf (us (Sp.limI (Sp.flo a (↑(a.gcd b):Int)))),vb (Sp.isNeg (Sp.flo b (↑(a.gcd b):Int))),vf (us (Sp.limI (Sp.flo b (↑(a.gcd b):Int))))]) dq)) :
 rOf_at fa fb a b (PureQ dq):=by
 unfold rOf_at
 refine path_wp (G:=given kp95 [(1,1,.call (vi (Sp.sgnI b)) none)] []) 5 [] ⟨(atC (cd Tryz.f95) [1,0,1]),[(2,AV.ptr 0 0 0 0),(3,AV.ptr 1 0 0 0),(4,AV.ptr 2 0 0 0),(14,vb (decide (Sp.sgnI b < 0)))],[⟨[bigA fa a],2,0,false,false⟩,⟨[bigA fb b],2,0,false,false⟩,⟨[ag [vb false,AV.vnil,vb false,AV.vnil]],4,0,false,false⟩],_,[],_⟩ (by kernel_rfl) (bc rfl b0) q0 (ce (@ev43 (fb) (b)) c0) ?_
 rcases xm (Sp.sgnI b < 0) with d2 | d2
 ·have H:=H.1 d2
  obtain ⟨k3,H⟩:=H
  obtain ⟨k4,H⟩:=H
  obtain ⟨k5,H⟩:=H
  obtain ⟨k6,H⟩:=H
  obtain ⟨k7,H⟩:=H
  exact path_rq (G:=given kp95 [(2,1,.call (bigA false (-a)) none),(2,3,.call (bigA false (-b)) none),(3,2,.call (bigA false (↑((-a).gcd (-b)):Int)) none),(4,2,.call (tu [bigA false (Sp.flo (-a) (↑((-a).gcd (-b)):Int)),bigA false (Sp.flr (-a) (↑((-a).gcd (-b)):Int)),vi 0]) none),(5,2,.call (tu [bigA false (Sp.flo (-b) (↑((-a).gcd (-b)):Int)),bigA false (Sp.flr (-b) (↑((-a).gcd (-b)):Int)),vi 0]) none)] []) 1000 [true] (ag [vb (Sp.isNeg (Sp.flo (-a) (↑((-a).gcd (-b)):Int))),vf (us (Sp.limI (Sp.flo (-a) (↑((-a).gcd (-b)):Int)))),vb (Sp.isNeg (Sp.flo (-b) (↑((-a).gcd (-b)):Int))),vf (us (Sp.limI (Sp.flo (-b) (↑((-a).gcd (-b)):Int))))]) (by kernel_rfl) (bc (beq_t (i_dec.2 d2)) (bc rfl (bc rfl (bc rfl (bc rfl (bc rfl (bc rfl (bc rfl (bc rfl (bc rfl (bc rfl (bc rfl (bc rfl (bc rfl (bc rfl (bc rfl (bc rfl (bc rfl (bc rfl b0))))))))))))))))))) q0 (ce (@ev120 (fa) (a) k3) (ce (@ev120 (fb) (b) k4) (ce (@ev45 (false) (false) (-a) (-b) k5) (ce (@ev121 (false) (false) (-a) ((↑((-a).gcd (-b)):Int)) k6) (ce (@ev121 (false) (false) (-b) ((↑((-a).gcd (-b)):Int)) k7) c0))))) H
 ·have H:=H.2 d2
  obtain ⟨k8,H⟩:=H
  obtain ⟨k9,H⟩:=H
  obtain ⟨k10,H⟩:=H
  exact path_rq (G:=given kp95 [(3,2,.call (bigA false (↑(a.gcd b):Int)) none),(4,2,.call (tu [bigA false (Sp.flo a (↑(a.gcd b):Int)),bigA false (Sp.flr a (↑(a.gcd b):Int)),vi 0]) none),(5,2,.call (tu [bigA false (Sp.flo b (↑(a.gcd b):Int)),bigA false (Sp.flr b (↑(a.gcd b):Int)),vi 0]) none)] []) 1000 [false] (ag [vb (Sp.isNeg (Sp.flo a (↑(a.gcd b):Int))),vf (us (Sp.limI (Sp.flo a (↑(a.gcd b):Int)))),vb (Sp.isNeg (Sp.flo b (↑(a.gcd b):Int))),vf (us (Sp.limI (Sp.flo b (↑(a.gcd b):Int))))]) (by kernel_rfl) (bc (beq_f (fun h => d2 (i_dec.1 h))) (bc rfl (bc rfl (bc rfl (bc rfl (bc rfl (bc rfl (bc rfl (bc rfl (bc rfl (bc rfl (bc rfl (bc rfl (bc rfl (bc rfl b0))))))))))))))) q0 (ce (@ev45 (fa) (fb) (a) (b) k8) (ce (@ev121 (fa) (false) (a) ((↑(a.gcd b):Int)) k9) (ce (@ev121 (fb) (false) (b) ((↑(a.gcd b):Int)) k10) c0))) H
theorem rRNeg (fa ga:Bool) (p q:Int)  (dq:AV) (H :
  (Sp.ok p) /\
  Weak (ag [vb (Sp.isNeg (-p)),vf (us (Sp.limI (-p))),vb (Sp.isNeg q),AV.vec ga 1 (us (Sp.limI q))]) dq) :
 rRNeg_at fa ga p q (PureQ dq):=by
 unfold rRNeg_at
 obtain ⟨k1,H⟩:=H
 exact path_rq (G:=given kp98 [(1,2,.call (bigA false (-p)) none)] []) 1000 [] (ag [vb (Sp.isNeg (-p)),vf (us (Sp.limI (-p))),vb (Sp.isNeg q),AV.vec ga 1 (us (Sp.limI q))]) (by kernel_rfl) (bc rfl (bc rfl (bc rfl b0))) q0 (ce (@ev120 (fa) (p) k1) c0) H
theorem rRSame (fa ga fb gb:Bool) (p q p2 q2:Int)  (dq:AV) (H :
  (Sp.ok p /\ Sp.ok p2) /\
  ((p = p2) -> (Sp.ok q /\ Sp.ok q2)) /\
  vb (bif decide (p = p2) then decide (q = q2) else false) = dq) :
 rRSame_at fa ga fb gb p q p2 q2 (PureQ dq):=by
 unfold rRSame_at
 obtain ⟨k1,H⟩:=H
 obtain ⟨k3,H⟩:=H
 exact path_re (G:=given kp15 [(1,4,.call (vb (decide (p = p2))) none),(1,10,.call (vb (decide (q = q2))) none)] []) 1000 [] (asm:=[true,true,!(decide (p = p2) == true && true) || true,!(decide (p = p2) == true && true) || true]) (calls:=[⟨true,false,44,[bigA fa p,bigA fb p2],[],vb (decide (p = p2)),[]⟩,⟨decide (p = p2) == true && true && true,false,44,[bigA ga q,bigA gb q2],[],vb (decide (q = q2)),[]⟩]) (vb (bif decide (p = p2) then decide (q = q2) else false)) (by kernel_rfl) (bc rfl (bc rfl (bc (Bool.or_true _) (bc (Bool.or_true _) b0)))) q0 (cc (fun _ => (@ev44 (fa) (fb) (p) (p2) k1)) (cc (fun hc => ((@ev44 (ga) (gb) (q) (q2) (k3 ((i_at (i_at (i_bt i_dec))).1 hc))):Ev M1 (Conf.pure 44 [bigA ga q,bigA gb q2]) (vb (decide (q = q2))) [])) c0)) H
end Go.Av

namespace Go.Av
open Go.Proofs
set_option maxRecDepth 100000
def fi110:Fi:=⟨6,[.tmp 2]⟩
def kp110:List (Nat × List Nat):=[(0,[0]),(1,[2])]
def vIsNaN_at (x:Int) (Q:AV -> Heap -> Prop):Prop:=Wp M1 (.run fi110 (atC (cd Tryz.f110) []) [(0,.int .i64 x)] []) Q
theorem call110 {args:List AV} {d:AV} (h:wc M1 fi110 Tryz.f110 args d):Ev M1 (.pure 110 args) d []:=pcl _ _ (by kernel_rfl) h
theorem vIsNaN (x:Int)  (dq:AV) (H :
  (vb (x != x)) = dq) :
 vIsNaN_at x (PureQ dq):=by
 unfold vIsNaN_at
 exact path_re (G:=given kp110 [] []) 1000 [] (vb (x != x)) (by kernel_rfl) b0 q0 c0 H
end Go.Av

namespace Go.Av
open Go.Proofs
theorem ev110 (x:Int):Ev M1 (.pure 110 [.int .i64 x]) (.bool false) []:=
 call110 (vIsNaN _ _ (by simp))
theorem ev58 (fa ga fb gb:Bool) (r s:Rat) (h:Sp.okR r /\ Sp.okR s /\ s.num ≠ 0):Ev M1 (.pure 58 [ratA fa ga r,ratA fb gb s]) (.tup [ratA false false (r / s),.int .i64 0]) []:=by
 obtain ⟨hr,hs,h0⟩:=h
 obtain ⟨r1,r2⟩:=okR_B hr
 obtain ⟨s1,s2⟩:=okR_B hs
 obtain ⟨cr1,cr2⟩:=hr
 obtain ⟨cs1,cs2⟩:=hs
 have m1:=cnt_mulI cr1 (cnt_den cs2)
 have m3:=cnt_mulI (cnt_den cr2) cs1
 refine call58 (vRDiv _ _ _ _ _ _ _ ⟨fun k => absurd (sgnI_zero.1 k) h0,fun _ => ⟨⟨r1,s2⟩,⟨r2,s1⟩,⟨by unfold Sp.okB;omega,by unfold Sp.okB;omega,Int.mul_ne_zero (den_ne r) h0⟩,?_⟩⟩)
 rw [rat_div];exact .refl _
end Go.Av

namespace Go.Av
open Go.Proofs
set_option maxRecDepth 100000
def fi39:Fi:=⟨9,[.cell 4 36]⟩
def kp39:List (Nat × List Nat):=[(0,[2,3,4]),(1,[4])]
def fi74:Fi:=⟨20,[.tmp 4]⟩
def kp74:List (Nat × List Nat):=[(0,[0,1]),(1,[0,1,5]),(2,[0,1,5,6]),(3,[0,1,6,11]),(4,[12]),(5,[4]),(6,[4]),(7,[0,1,13]),(8,[4]),(9,[0,1,16]),(10,[4]),(11,[19]),(12,[4]),(13,[4])]
def vCmpInt_at (x y:Int) (Q:AV -> Heap -> Prop):Prop:=Wp M1 (.run fi74 (atC (cd Tryz.f74) []) [(0,.int .i64 x),(1,.int .i64 y)] []) Q
def vRSub_at (fa ga fb gb:Bool) (r s:Rat) (Q:AV -> Heap -> Prop):Prop:=Wp M1 (.run fi39 (atC (cd Tryz.f39) []) [(0,ratA fa ga r),(1,ratA fb gb s)] []) Q
theorem call39 {args:List AV} {d:AV} (h:wc M1 fi39 Tryz.f39 args d):Ev M1 (.pure 39 args) d []:=pcl _ _ (by kernel_rfl) h
theorem call74 {args:List AV} {d:AV} (h:wc M1 fi74 Tryz.f74 args d):Ev M1 (.pure 74 args) d []:=pcl _ _ (by kernel_rfl) h
theorem vCmpInt (x y:Int)  (dq:AV) (H :
  ((x < y) -> vi (-1) = dq) /\
  (¬(x < y) -> ((x > y) -> vi 1 = dq) /\
   (¬(x > y) -> vi 0 = dq))) :
 vCmpInt_at x y (PureQ dq):=by
 unfold vCmpInt_at
 refine path_wp (G:=given kp74 [(1,1,.call (vb false) none),(2,1,.call (vb false) none)] []) 19 [false,false] ⟨(atC (cd Tryz.f74) [1,1,1,1,1,0,1]),[(0,vi x),(1,vi y),(16,vb (decide (x < y)))],[],_,[],_⟩ (by kernel_rfl) (bc rfl (bc rfl b0)) q0 (ce (@ev110 (x)) (ce (@ev110 (y)) c0)) ?_
 rcases xm (x < y) with d2 | d2
 ·have H:=H.1 d2
  exact path_re (G:=given kp74 [] []) 1000 [true] (vi (-1)) (by kernel_rfl) (bc (beq_t (i_dec.2 d2)) b0) q0 c0 H
 ·have H:=H.2 d2
  rcases xm (x > y) with d4 | d4
  ·have H:=H.1 d4
   exact path_re (G:=given kp74 [] []) 1000 [false,true] (vi 1) (by kernel_rfl) (bc (beq_f (fun h => d2 (i_dec.1 h))) (bc (beq_t (i_dec.2 d4)) b0)) q0 c0 H
  ·have H:=H.2 d4
   exact path_re (G:=given kp74 [] []) 1000 [false,false] (vi 0) (by kernel_rfl) (bc (beq_f (fun h => d2 (i_dec.1 h))) (bc (beq_f (fun h => d4 (i_dec.1 h))) b0)) q0 c0 H
theorem vRSub (fa ga fb gb:Bool) (r s:Rat)  (dq:AV) (H :
  (Sp.okB s.num) /\
  (Sp.okR r /\ Sp.okR (-s)) /\
  Weak (ratA false false (r + -s)) dq) :
 vRSub_at fa ga fb gb r s (PureQ dq):=by
 unfold vRSub_at
 obtain ⟨k1,H⟩:=H
 obtain ⟨k2,H⟩:=H
 exact path_rq (G:=given kp39 [(1,2,.call (ratA false false (-s)) none),(1,3,.call (ratA false false (r + -s)) none)] []) 1000 [] (ratA false false (r + -s)) (by kernel_rfl) (bc rfl (bc rfl (bc rfl b0))) q0 (ce (@ev63 (fb) (gb) (s) k1) (ce (@ev38 (fa) (ga) (false) (false) (r) (-s) k2) c0)) H
end Go.Av

namespace Go.Av
open Go.Proofs
theorem ev74 (x y:Int):Ev M1 (.pure 74 [.int .i64 x,.int .i64 y]) (.int .i64 (Sp.sgnI (x - y))) []:=by
 refine call74 (vCmpInt _ _ _ ⟨fun h => ?_,fun h => ⟨fun k => ?_,fun k => ?_⟩⟩)
 ·unfold Sp.sgnI;rw [if_pos (by omega)]
 ·unfold Sp.sgnI;rw [if_neg (by omega),if_pos (by omega)]
 ·unfold Sp.sgnI;rw [if_neg (by omega),if_neg (by omega)]
theorem okR_neg {s:Rat} (h:Sp.okR s):Sp.okR (-s):=by
 unfold Sp.okR at *
 rw [Rat.neg_num,Rat.neg_den,Int.natAbs_neg];exact h
theorem ev39 (fa ga fb gb:Bool) (r s:Rat) (h:Sp.okR r /\ Sp.okR s):Ev M1 (.pure 39 [ratA fa ga r,ratA fb gb s]) (ratA false false (r - s)) []:=by
 refine call39 (vRSub _ _ _ _ _ _ _ ⟨(okR_B h.2).1,⟨h.1,okR_neg h.2⟩,?_⟩)
 rw [<- Rat.sub_eq_add_neg];exact .refl _
theorem sgn_mul (a:Int) {d:Int} (h:0 < d):(a < 0 -> a * d < 0) /\ (a = 0 -> a * d = 0) /\ (0 < a -> 0 < a * d):=
 ⟨fun k => Int.mul_neg_of_neg_of_pos k h,fun k => by rw [k,Int.zero_mul],fun k => Int.mul_pos k h⟩
theorem ev36 (fa ga fb gb:Bool) (r s:Rat) (h:Sp.okR r /\ Sp.okR s):Ev M1 (.pure 36 [ratA fa ga r,ratA fb gb s]) (.int .i64 (Sp.sgnI (r.num * (s.den:Int) - s.num * (r.den:Int)))) []:=by
 obtain ⟨hr,hs⟩:=h
 obtain ⟨r1,r2⟩:=okR_B hr
 obtain ⟨s1,s2⟩:=okR_B hs
 obtain ⟨cr1,cr2⟩:=hr
 obtain ⟨cs1,cs2⟩:=hs
 have m1:=cnt_mulI cr1 (cnt_den cs2)
 have m2:=cnt_mulI cs1 (cnt_den cr2)
 refine call36 (vRCmp _ _ _ _ _ _ _ ⟨_,ev74 _ _,fun k => ?_,fun _ => ⟨⟨r1,s2⟩,⟨s1,r2⟩,⟨by unfold Sp.okB;omega,by unfold Sp.okB;omega⟩,rfl⟩⟩)
 obtain ⟨a1,a2,a3⟩:=sgn_mul r.num (d:=(s.den:Int)) (by have:=s.den_pos;omega)
 obtain ⟨b1,b2,b3⟩:=sgn_mul s.num (d:=(r.den:Int)) (by have:=r.den_pos;omega)
 congr 1
 generalize r.num * (s.den:Int) = A at a1 a2 a3 ⊢
 generalize s.num * (r.den:Int) = B at b1 b2 b3 ⊢
 unfold Sp.sgnI at k ⊢
 (repeat' split at k) <;> (repeat' split) <;> omega
end Go.Av

namespace Go.Av
open Go.Proofs
abbrev noR:AV:=.agg [.bool false,.vec false 1 [],.bool false,.vec false 1 []]
theorem weak_nr:Weak (.agg [.bool false,.vnil,.bool false,.vnil]) noR:=by
 have w:Weak .vnil (.vec false 1 []):=by
  have:=weak_bnil false
  cases this with
  | agg xs ys hl h => exact h 1 _ _ rfl rfl
 refine .agg _ _ rfl fun i x y hx hy => ?_
 match i with
 | 0 => simp at hx hy;subst hx;subst hy;exact .refl _
 | 1 => simp at hx hy;subst hx;subst hy;exact w
 | 2 => simp at hx hy;subst hx;subst hy;exact .refl _
 | 3 => simp at hx hy;subst hx;subst hy;exact w
 | i + 4 => simp at hx
theorem okR_S {r:Rat} (h:Sp.okR r):Sp.okS r.num /\ Sp.okS (r.den:Int):=by
 unfold Sp.okR at h
 unfold Sp.okS
 rw [Int.natAbs_natCast];omega
theorem ev89_y (fa ga:Bool) (r:Rat) (h:Sp.okR r) (k:Sp.rsq r):Ev M1 (.pure 89 [ratA fa ga r]) (.tup [ratA false false (Sp.rt r),.bool true]) []:=by
 obtain ⟨h1,h2⟩:=okR_S h
 obtain ⟨e1,e2⟩:=rt_num k
 refine call89 (vRSqrt _ _ _ _ ⟨h1,fun _ => ⟨h2,fun _ => ?_,fun x => absurd k.2 x⟩,fun x => absurd k.1 x⟩)
 show Weak _ (AV.tup [AV.agg [.bool (Sp.isNeg (Sp.rt r).num),.vec false 1 ((Sp.limI (Sp.rt r).num).map (.int .u32)),.bool (Sp.isNeg ((Sp.rt r).den:Int)),.vec false 1 ((Sp.limI ((Sp.rt r).den:Int)).map (.int .u32))],.bool true])
 rw [e1,e2];exact .refl _
theorem ev89_n (fa ga:Bool) (r:Rat) (h:Sp.okR r) (k:¬(Sp.rsq r)):Ev M1 (.pure 89 [ratA fa ga r]) (.tup [noR,.bool false]) []:=by
 obtain ⟨h1,h2⟩:=okR_S h
 exact call89 (vRSqrt _ _ _ _ ⟨h1,fun x => ⟨h2,fun y => absurd ⟨x,y⟩ k,fun _ => weak_two weak_nr (.refl _)⟩,fun _ => weak_two weak_nr (.refl _)⟩)
end Go.Av

namespace Go.Av
open Go.Proofs
theorem gcd_cnt {a b:Int} (hb:b ≠ 0) (h:Sp.cnt b.natAbs <= 399000):Sp.cnt ((a.gcd b:Nat):Int).natAbs <= 399000 /\ ((a.gcd b:Nat):Int) ≠ 0:=by
 have h1:0 < a.gcd b:=Int.gcd_pos_of_ne_zero_right _ hb
 have h2:a.gcd b <= b.natAbs:=Nat.le_of_dvd (by omega) (Int.gcd_dvd_natAbs_right a b)
 have:=cnt_mono h2
 rw [Int.natAbs_natCast]
 omega
theorem ev46:Ev M1 (.pure 46 []) (.agg [.bool false,.vec false 1 ((Sp.limI 1).map (.int .u32))]) []:=
 call46 (rUnit _ ⟨by unfold Sp.inI;omega,.refl _⟩)
theorem ev95 (fa fb:Bool) (a b:Int) (h:Sp.cnt a.natAbs <= 399000 /\ Sp.cnt b.natAbs <= 399000 /\ b ≠ 0):Ev M1 (.pure 95 [bigA fa a,bigA fb b]) (ratA false false (Rat.divInt a b)) []:=by
 obtain ⟨ha,hb,h0⟩:=h
 have hna:Sp.cnt (-a).natAbs <= 399000:=by rwa [Int.natAbs_neg]
 have hnb:Sp.cnt (-b).natAbs <= 399000:=by rwa [Int.natAbs_neg]
 refine call95 (rOf _ _ _ _ _ ⟨fun k => ?_,fun k => ?_⟩)
 ·rw [sgnI_lt] at k
  obtain ⟨g1,g2⟩:=gcd_cnt (a:=-a) (b:=-b) (by omega) hnb
  obtain ⟨r1,r2⟩:=rat_neg (a:=a) k
  refine ⟨by unfold Sp.ok;omega,by unfold Sp.ok;omega,⟨hna,hnb⟩,⟨hna,g1,g2⟩,⟨hnb,g1,g2⟩,?_⟩
  show Weak _ (AV.agg [.bool (Sp.isNeg (Rat.divInt a b).num),.vec false 1 ((Sp.limI (Rat.divInt a b).num).map (.int .u32)),.bool (Sp.isNeg ((Rat.divInt a b).den:Int)),.vec false 1 ((Sp.limI ((Rat.divInt a b).den:Int)).map (.int .u32))])
  rw [r1,r2,flo_pos g2,flo_pos g2];exact .refl _
 ·rw [sgnI_lt] at k
  obtain ⟨g1,g2⟩:=gcd_cnt (a:=a) (b:=b) h0 hb
  obtain ⟨r1,r2⟩:=rat_pos (a:=a) (show 0 < b by omega)
  refine ⟨⟨ha,hb⟩,⟨ha,g1,g2⟩,⟨hb,g1,g2⟩,?_⟩
  show Weak _ (AV.agg [.bool (Sp.isNeg (Rat.divInt a b).num),.vec false 1 ((Sp.limI (Rat.divInt a b).num).map (.int .u32)),.bool (Sp.isNeg ((Rat.divInt a b).den:Int)),.vec false 1 ((Sp.limI ((Rat.divInt a b).den:Int)).map (.int .u32))])
  rw [r1,r2,flo_pos g2,flo_pos g2];exact .refl _
theorem ev98 (fa ga:Bool) (r:Rat) (h:Sp.ok r.num):Ev M1 (.pure 98 [ratA fa ga r]) (ratA false false (-r)) []:=by
 refine call98 (rRNeg _ _ _ _ _ ⟨h,?_⟩)
 show Weak _ (AV.agg [.bool (Sp.isNeg (-r).num),.vec false 1 ((Sp.limI (-r).num).map (.int .u32)),.bool (Sp.isNeg ((-r).den:Int)),.vec false 1 ((Sp.limI ((-r).den:Int)).map (.int .u32))])
 rw [Rat.neg_num,Rat.neg_den]
 exact weak_rat _ _ _ _ _ _
theorem ev15 (fa ga fb gb:Bool) (r s:Rat) (h:Sp.okR r /\ Sp.okR s):Ev M1 (.pure 15 [ratA fa ga r,ratA fb gb s]) (.bool (decide (r = s))) []:=by
 obtain ⟨⟨h1,h2⟩,⟨h3,h4⟩⟩:=h
 refine call15 (rRSame _ _ _ _ _ _ _ _ _ ⟨by unfold Sp.ok;omega,fun _ => by unfold Sp.ok;rw [Int.natAbs_natCast,Int.natAbs_natCast];omega,?_⟩)
 congr 1
 by_cases e:r = s
 ·subst e;simp
 ·rw [decide_eq_false e]
  by_cases e1:r.num = s.num
  ·have:¬(r.den:Int) = (s.den:Int):=fun e2 => e (Rat.ext e1 (by omega))
   rw [decide_eq_false this];simp
  ·rw [decide_eq_false e1];rfl
end Go.Av

namespace Go.Av
open Go.Proofs
set_option maxRecDepth 100000
def fi16:Fi:=⟨16,[.tmp 4]⟩
def kp16:List (Nat × List Nat):=[(0,[2,3]),(1,[4])]
def fi51:Fi:=⟨7,[.cell 2 36]⟩
def kp51:List (Nat × List Nat):=[(0,[0,2]),(1,[2])]
def fi65:Fi:=⟨26,[.cell 4 36]⟩
def kp65:List (Nat × List Nat):=[(0,[2,3,4]),(1,[2,3,4,5]),(2,[2,3,4,5,6]),(3,[4])]
def fi68:Fi:=⟨16,[.cell 4 36]⟩
def kp68:List (Nat × List Nat):=[(0,[2,3,4]),(1,[4])]
def fi79:Fi:=⟨12,[.cell 4 36]⟩
def kp79:List (Nat × List Nat):=[(0,[0,1,4]),(1,[0,1,4,6]),(2,[0,1,4]),(3,[4])]
def fi123:Fi:=⟨13,[.cell 4 36,.tmp 5]⟩
def kp123:List (Nat × List Nat):=[(0,[2,3,4]),(1,[2,3,4,8]),(2,[4,5]),(3,[4,5])]
def rRFrom_at (n:Int) (Q:AV -> Heap -> Prop):Prop:=Wp M1 (.run fi51 (atC (cd Tryz.f51) []) [(0,.int .i64 n)] []) Q
def rRAdd_at (fa ga fb gb:Bool) (r s:Rat) (Q:AV -> Heap -> Prop):Prop:=Wp M1 (.run fi65 (atC (cd Tryz.f65) []) [(0,ratA fa ga r),(1,ratA fb gb s)] []) Q
def rRMul_at (fa ga fb gb:Bool) (r s:Rat) (Q:AV -> Heap -> Prop):Prop:=Wp M1 (.run fi68 (atC (cd Tryz.f68) []) [(0,ratA fa ga r),(1,ratA fb gb s)] []) Q
def rRCmp_at (fa ga fb gb:Bool) (r s:Rat) (Q:AV -> Heap -> Prop):Prop:=Wp M1 (.run fi16 (atC (cd Tryz.f16) []) [(0,ratA fa ga r),(1,ratA fb gb s)] []) Q
def rRMake_at (fa fb:Bool) (a b:Int) (Q:AV -> Heap -> Prop):Prop:=Wp M1 (.run fi123 (atC (cd Tryz.f123) []) [(0,bigA fa a),(1,bigA fb b)] []) Q
def rRFrac_at (n d:Int) (Q:AV -> Heap -> Prop):Prop:=Wp M1 (.run fi79 (atC (cd Tryz.f79) []) [(0,.int .i64 n),(1,.int .i64 d)] []) Q
theorem call16 {args:List AV} {d:AV} (h:wc M1 fi16 Tryz.f16 args d):Ev M1 (.pure 16 args) d []:=pcl _ _ (by kernel_rfl) h
theorem call51 {args:List AV} {d:AV} (h:wc M1 fi51 Tryz.f51 args d):Ev M1 (.pure 51 args) d []:=pcl _ _ (by kernel_rfl) h
theorem call65 {args:List AV} {d:AV} (h:wc M1 fi65 Tryz.f65 args d):Ev M1 (.pure 65 args) d []:=pcl _ _ (by kernel_rfl) h
theorem call68 {args:List AV} {d:AV} (h:wc M1 fi68 Tryz.f68 args d):Ev M1 (.pure 68 args) d []:=pcl _ _ (by kernel_rfl) h
theorem call79 {args:List AV} {d:AV} (h:wc M1 fi79 Tryz.f79 args d):Ev M1 (.pure 79 args) d []:=pcl _ _ (by kernel_rfl) h
theorem call123 {args:List AV} {d:AV} (h:wc M1 fi123 Tryz.f123 args d):Ev M1 (.pure 123 args) d []:=pcl _ _ (by kernel_rfl) h
theorem rRFrom (n:Int)  (dq:AV) (H :
  (Sp.inI n) /\
  Weak (ag [vb (Sp.isNeg n),vf (us (Sp.limI n)),vb false,vf (us (Sp.limI 1))]) dq) :
 rRFrom_at n (PureQ dq):=by
 unfold rRFrom_at
 obtain ⟨k1,H⟩:=H
 exact path_rq (G:=given kp51 [(1,1,.call (bigA false n) none),(1,2,.call (ag [vb false,vf (us (Sp.limI 1))]) none)] []) 1000 [] (ag [vb (Sp.isNeg n),vf (us (Sp.limI n)),vb false,vf (us (Sp.limI 1))]) (by kernel_rfl) (bc rfl b0) q0 (ce (@ev57 (n) k1) (ce (@ev46 ) c0)) H
theorem rRAdd (fa ga fb gb:Bool) (r s:Rat)  (dq:AV) (H :
  (Sp.okB r.num /\ Sp.okB (↑s.den:Int)) /\
  (Sp.okB s.num /\ Sp.okB (↑r.den:Int)) /\
  (Sp.okB (r.num * (↑s.den:Int)) /\ Sp.okB (s.num * (↑r.den:Int))) /\
  (Sp.okB (↑r.den:Int) /\ Sp.okB (↑s.den:Int)) /\
  (Sp.cnt (r.num * (↑s.den:Int) + s.num * (↑r.den:Int)).natAbs <= 399000 /\ Sp.cnt ((↑r.den:Int) * (↑s.den:Int)).natAbs <= 399000 /\ (↑r.den:Int) * (↑s.den:Int) ≠ 0) /\
  Weak (ratA false false (Rat.divInt (r.num * (↑s.den:Int) + s.num * (↑r.den:Int)) ((↑r.den:Int) * (↑s.den:Int)))) dq) :
 rRAdd_at fa ga fb gb r s (PureQ dq):=by
 unfold rRAdd_at
 obtain ⟨k1,H⟩:=H
 obtain ⟨k2,H⟩:=H
 obtain ⟨k3,H⟩:=H
 obtain ⟨k4,H⟩:=H
 obtain ⟨k5,H⟩:=H
 exact path_rq (G:=given kp65 [(1,4,.call (bigA false (r.num * (↑s.den:Int))) none),(2,4,.call (bigA false (s.num * (↑r.den:Int))) none),(3,2,.call (bigA false (r.num * (↑s.den:Int) + s.num * (↑r.den:Int))) none),(3,7,.call (bigA false ((↑r.den:Int) * (↑s.den:Int))) none),(3,8,.call (ratA false false (Rat.divInt (r.num * (↑s.den:Int) + s.num * (↑r.den:Int)) ((↑r.den:Int) * (↑s.den:Int)))) none)] []) 1000 [] (ratA false false (Rat.divInt (r.num * (↑s.den:Int) + s.num * (↑r.den:Int)) ((↑r.den:Int) * (↑s.den:Int)))) (by kernel_rfl) (bc rfl (bc rfl (bc rfl (bc rfl (bc rfl (bc rfl (bc rfl (bc rfl (bc rfl (bc rfl (bc rfl b0))))))))))) q0 (ce (@ev48 (fa) (gb) (r.num) ((↑s.den:Int)) k1) (ce (@ev48 (fb) (ga) (s.num) ((↑r.den:Int)) k2) (ce (@ev96 (false) (false) (r.num * (↑s.den:Int)) (s.num * (↑r.den:Int)) k3) (ce (@ev48 (ga) (gb) ((↑r.den:Int)) ((↑s.den:Int)) k4) (ce (@ev95 (false) (false) (r.num * (↑s.den:Int) + s.num * (↑r.den:Int)) ((↑r.den:Int) * (↑s.den:Int)) k5) c0))))) H
theorem rRMul (fa ga fb gb:Bool) (r s:Rat)  (dq:AV) (H :
  (Sp.okB r.num /\ Sp.okB s.num) /\
  (Sp.okB (↑r.den:Int) /\ Sp.okB (↑s.den:Int)) /\
  (Sp.cnt (r.num * s.num).natAbs <= 399000 /\ Sp.cnt ((↑r.den:Int) * (↑s.den:Int)).natAbs <= 399000 /\ (↑r.den:Int) * (↑s.den:Int) ≠ 0) /\
  Weak (ratA false false (Rat.divInt (r.num * s.num) ((↑r.den:Int) * (↑s.den:Int)))) dq) :
 rRMul_at fa ga fb gb r s (PureQ dq):=by
 unfold rRMul_at
 obtain ⟨k1,H⟩:=H
 obtain ⟨k2,H⟩:=H
 obtain ⟨k3,H⟩:=H
 exact path_rq (G:=given kp68 [(1,4,.call (bigA false (r.num * s.num)) none),(1,9,.call (bigA false ((↑r.den:Int) * (↑s.den:Int))) none),(1,10,.call (ratA false false (Rat.divInt (r.num * s.num) ((↑r.den:Int) * (↑s.den:Int)))) none)] []) 1000 [] (ratA false false (Rat.divInt (r.num * s.num) ((↑r.den:Int) * (↑s.den:Int)))) (by kernel_rfl) (bc rfl (bc rfl (bc rfl (bc rfl (bc rfl b0))))) q0 (ce (@ev48 (fa) (fb) (r.num) (s.num) k1) (ce (@ev48 (ga) (gb) ((↑r.den:Int)) ((↑s.den:Int)) k2) (ce (@ev95 (false) (false) (r.num * s.num) ((↑r.den:Int) * (↑s.den:Int)) k3) c0))) H
theorem rRCmp (fa ga fb gb:Bool) (r s:Rat)  (dq:AV) (H :
  (Sp.okB r.num /\ Sp.okB (↑s.den:Int)) /\
  (Sp.okB s.num /\ Sp.okB (↑r.den:Int)) /\
  (Sp.okB (r.num * (↑s.den:Int)) /\ Sp.okB (s.num * (↑r.den:Int))) /\
  vi (Sp.sgnI (r.num * (↑s.den:Int) - s.num * (↑r.den:Int))) = dq) :
 rRCmp_at fa ga fb gb r s (PureQ dq):=by
 unfold rRCmp_at
 obtain ⟨k1,H⟩:=H
 obtain ⟨k2,H⟩:=H
 obtain ⟨k3,H⟩:=H
 exact path_re (G:=given kp16 [(1,4,.call (bigA false (r.num * (↑s.den:Int))) none),(1,9,.call (bigA false (s.num * (↑r.den:Int))) none),(1,10,.call (vi (Sp.sgnI (r.num * (↑s.den:Int) - s.num * (↑r.den:Int)))) none)] []) 1000 [] (vi (Sp.sgnI (r.num * (↑s.den:Int) - s.num * (↑r.den:Int)))) (by kernel_rfl) (bc rfl (bc rfl (bc rfl (bc rfl b0)))) q0 (ce (@ev48 (fa) (gb) (r.num) ((↑s.den:Int)) k1) (ce (@ev48 (fb) (ga) (s.num) ((↑r.den:Int)) k2) (ce (@ev47 (false) (false) (r.num * (↑s.den:Int)) (s.num * (↑r.den:Int)) k3) c0))) H
theorem rRMake (fa fb:Bool) (a b:Int)  (dq:AV) (H :
  ((Sp.sgnI b = 0) -> Weak (tu [ag [vb false,AV.vnil,vb false,AV.vnil],vi 6]) dq) /\
  (¬(Sp.sgnI b = 0) -> (Sp.cnt a.natAbs <= 399000 /\ Sp.cnt b.natAbs <= 399000 /\ b ≠ 0) /\
   Weak (tu [ratA false false (Rat.divInt a b),vi 0]) dq)) :
 rRMake_at fa fb a b (PureQ dq):=by
 unfold rRMake_at
 refine path_wp (G:=given kp123 [(1,1,.call (vi (Sp.sgnI b)) none)] []) 5 [] ⟨(atC (cd Tryz.f123) [1,0,1]),[(2,AV.ptr 0 0 0 0),(3,AV.ptr 1 0 0 0),(4,AV.ptr 2 0 0 0),(8,vb (Sp.sgnI b == 0))],[⟨[bigA fa a],2,0,false,false⟩,⟨[bigA fb b],2,0,false,false⟩,⟨[ag [vb false,AV.vnil,vb false,AV.vnil]],4,0,false,false⟩],_,[],_⟩ (by kernel_rfl) (bc rfl b0) q0 (ce (@ev43 (fb) (b)) c0) ?_
 rcases xm (Sp.sgnI b = 0) with d2 | d2
 ·have H:=H.1 d2
  exact path_rq (G:=given kp123 [] []) 1000 [true] (tu [ag [vb false,AV.vnil,vb false,AV.vnil],vi 6]) (by kernel_rfl) (bc (beq_t (i_eq.2 d2)) (bc rfl b0)) q0 c0 H
 ·have H:=H.2 d2
  obtain ⟨k3,H⟩:=H
  exact path_rq (G:=given kp123 [(3,2,.call (ratA false false (Rat.divInt a b)) none)] []) 1000 [false] (tu [ratA false false (Rat.divInt a b),vi 0]) (by kernel_rfl) (bc (beq_f (fun h => d2 (i_eq.1 h))) (bc rfl (bc rfl (bc rfl b0)))) q0 (ce (@ev95 (fa) (fb) (a) (b) k3) c0) H
theorem rRFrac (n d:Int)  (dq:AV) (H :
  ((d = 0) -> (Sp.inI 0) /\
   (Sp.inI 1) /\
   ∃ (b1:Bool) (l1:List (Int)) (b2:Bool) (l2:List (Int)),
   (Ev M1 (Conf.pure 95 [ag [vb false,vf (us (Sp.limI 0))],ag [vb false,vf (us (Sp.limI 1))]]) (ag [vb b1,vf (us l1),vb b2,vf (us l2)]) []) /\
   Weak (ag [vb b1,vf (us l1),vb b2,vf (us l2)]) dq) /\
  (¬(d = 0) -> (Sp.inI n) /\
   (Sp.inI d) /\
   (Sp.cnt n.natAbs <= 399000 /\ Sp.cnt d.natAbs <= 399000 /\ d ≠ 0) /\
   Weak (ratA false false (Rat.divInt n d)) dq)) :
 rRFrac_at n d (PureQ dq):=by
 unfold rRFrac_at
 rcases xm (d = 0) with d2 | d2
 ·have H:=H.1 d2
  obtain ⟨k3,H⟩:=H
  obtain ⟨k4,H⟩:=H
  obtain ⟨b1,l1,b2,l2,H⟩:=H
  obtain ⟨k5,H⟩:=H
  exact path_rq (G:=given kp79 [(3,1,.call (ag [vb false,vf (us (Sp.limI 0))]) none),(3,3,.call (ag [vb false,vf (us (Sp.limI 1))]) none),(3,4,.call (ag [vb b1,vf (us l1),vb b2,vf (us l2)]) none)] []) 1000 [true] (ag [vb b1,vf (us l1),vb b2,vf (us l2)]) (by kernel_rfl) (bc (beq_t (i_eq.2 d2)) (bc rfl b0)) q0 (ce (@ev57 (0) k3) (ce (@ev57 (1) k4) (ce k5 c0))) H
 ·have H:=H.2 d2
  obtain ⟨k6,H⟩:=H
  obtain ⟨k7,H⟩:=H
  obtain ⟨k8,H⟩:=H
  exact path_rq (G:=given kp79 [(3,1,.call (bigA false n) none),(3,3,.call (bigA false d) none),(3,4,.call (ratA false false (Rat.divInt n d)) none)] []) 1000 [false] (ratA false false (Rat.divInt n d)) (by kernel_rfl) (bc (beq_f (fun h => d2 (i_eq.1 h))) (bc rfl b0)) q0 (ce (@ev57 (n) k6) (ce (@ev57 (d) k7) (ce (@ev95 (false) (false) (n) (d) k8) c0))) H
end Go.Av

namespace Go.Av
open Go.Proofs
set_option maxRecDepth 100000
def fi34:Fi:=⟨13,[.cell 4 36]⟩
def kp34:List (Nat × List Nat):=[(0,[0,1,4]),(1,[0,1,4,6]),(2,[4]),(3,[4])]
def vRFrac_at (n d:Int) (Q:AV -> Heap -> Prop):Prop:=Wp M1 (.run fi34 (atC (cd Tryz.f34) []) [(0,.int .i64 n),(1,.int .i64 d)] []) Q
theorem call34 {args:List AV} {d:AV} (h:wc M1 fi34 Tryz.f34 args d):Ev M1 (.pure 34 args) d []:=pcl _ _ (by kernel_rfl) h
theorem vRFrac (n d:Int)  (dq:AV) (H :
  ((d = 0) -> (Sp.inI 0) /\
   Weak (ratA false false (Sp.qi 0)) dq) /\
  (¬(d = 0) -> (Sp.inI n) /\
   (Sp.inI d) /\
   (Sp.okB n /\ Sp.okB d /\ d ≠ 0) /\
   Weak (ratA false false (Rat.divInt n d)) dq)) :
 vRFrac_at n d (PureQ dq):=by
 unfold vRFrac_at
 rcases xm (d = 0) with d2 | d2
 ·have H:=H.1 d2
  obtain ⟨k3,H⟩:=H
  exact path_rq (G:=given kp34 [(2,0,.call (ratA false false (Sp.qi 0)) none)] []) 1000 [true] (ratA false false (Sp.qi 0)) (by kernel_rfl) (bc (beq_t (i_eq.2 d2)) (bc rfl b0)) q0 (ce (@ev35 (0) k3) c0) H
 ·have H:=H.2 d2
  obtain ⟨k4,H⟩:=H
  obtain ⟨k5,H⟩:=H
  obtain ⟨k6,H⟩:=H
  exact path_rq (G:=given kp34 [(3,1,.call (bigA false n) none),(3,3,.call (bigA false d) none),(3,4,.call (ratA false false (Rat.divInt n d)) none)] []) 1000 [false] (ratA false false (Rat.divInt n d)) (by kernel_rfl) (bc (beq_f (fun h => d2 (i_eq.1 h))) (bc rfl b0)) q0 (ce (@ev72 (n) k4) (ce (@ev72 (d) k5) (ce (@ev71 (false) (false) (n) (d) k6) c0))) H
end Go.Av

namespace Go.Av
open Go.Proofs
def Sp.okA (a b:List Int):Prop:=(a.length <= 90000 /\ ∀ x ∈ a,0 <= x) /\ (b.length <= 90000 /\ ∀ x ∈ b,0 <= x)
end Go.Av

namespace Go.Av
open Go.Proofs
theorem ev51 (n:Int) (h:Sp.inI n):Ev M1 (.pure 51 [.int .i64 n]) (ratA false false (Sp.qi n)) []:=by
 rw [qi_eq]
 refine call51 (rRFrom _ _ ⟨h,?_⟩)
 show Weak _ (AV.agg [.bool (Sp.isNeg (n:Rat).num),.vec false 1 ((Sp.limI (n:Rat).num).map (.int .u32)),.bool (Sp.isNeg ((n:Rat).den:Int)),.vec false 1 ((Sp.limI ((n:Rat).den:Int)).map (.int .u32))])
 rw [Rat.num_intCast,Rat.den_intCast]
 exact .refl _
theorem ev65 (fa ga fb gb:Bool) (r s:Rat) (h:Sp.okR r /\ Sp.okR s):Ev M1 (.pure 65 [ratA fa ga r,ratA fb gb s]) (ratA false false (r + s)) []:=by
 obtain ⟨hr,hs⟩:=h
 obtain ⟨r1,r2⟩:=okR_B hr
 obtain ⟨s1,s2⟩:=okR_B hs
 obtain ⟨cr1,cr2⟩:=hr
 obtain ⟨cs1,cs2⟩:=hs
 have m1:=cnt_mulI cr1 (cnt_den cs2)
 have m2:=cnt_mulI cs1 (cnt_den cr2)
 have m3:=cnt_mulI (cnt_den cr2) (cnt_den cs2)
 have a1:=cnt_addI m1 m2
 refine call65 (rRAdd _ _ _ _ _ _ _ ⟨⟨r1,s2⟩,⟨s1,r2⟩,⟨by unfold Sp.okB;omega,by unfold Sp.okB;omega⟩,⟨r2,s2⟩,⟨by omega,by omega,Int.mul_ne_zero (den_ne r) (den_ne s)⟩,?_⟩)
 rw [rat_add];exact .refl _
theorem ev68 (fa ga fb gb:Bool) (r s:Rat) (h:Sp.okR r /\ Sp.okR s):Ev M1 (.pure 68 [ratA fa ga r,ratA fb gb s]) (ratA false false (r * s)) []:=by
 obtain ⟨hr,hs⟩:=h
 obtain ⟨r1,r2⟩:=okR_B hr
 obtain ⟨s1,s2⟩:=okR_B hs
 obtain ⟨cr1,cr2⟩:=hr
 obtain ⟨cs1,cs2⟩:=hs
 have m1:=cnt_mulI cr1 cs1
 have m3:=cnt_mulI (cnt_den cr2) (cnt_den cs2)
 refine call68 (rRMul _ _ _ _ _ _ _ ⟨⟨r1,s1⟩,⟨r2,s2⟩,⟨by omega,by omega,Int.mul_ne_zero (den_ne r) (den_ne s)⟩,?_⟩)
 rw [rat_mul];exact .refl _
theorem ev16 (fa ga fb gb:Bool) (r s:Rat) (h:Sp.okR r /\ Sp.okR s):Ev M1 (.pure 16 [ratA fa ga r,ratA fb gb s]) (.int .i64 (Sp.sgnI (r.num * (s.den:Int) - s.num * (r.den:Int)))) []:=by
 obtain ⟨hr,hs⟩:=h
 obtain ⟨r1,r2⟩:=okR_B hr
 obtain ⟨s1,s2⟩:=okR_B hs
 obtain ⟨cr1,cr2⟩:=hr
 obtain ⟨cs1,cs2⟩:=hs
 have m1:=cnt_mulI cr1 (cnt_den cs2)
 have m2:=cnt_mulI cs1 (cnt_den cr2)
 exact call16 (rRCmp _ _ _ _ _ _ _ ⟨⟨r1,s2⟩,⟨s1,r2⟩,⟨by unfold Sp.okB;omega,by unfold Sp.okB;omega⟩,rfl⟩)
theorem ev123 (fa fb:Bool) (a b:Int) (h:Sp.cnt a.natAbs <= 399000 /\ Sp.cnt b.natAbs <= 399000 /\ b ≠ 0):Ev M1 (.pure 123 [bigA fa a,bigA fb b]) (.tup [ratA false false (Rat.divInt a b),.int .i64 0]) []:=
 call123 (rRMake _ _ _ _ _ ⟨fun k => absurd (sgnI_zero.1 k) h.2.2,fun _ => ⟨h,.refl _⟩⟩)
def Sp.okF (n d:Int):Prop:=Sp.inI n /\ Sp.inI d /\ d ≠ 0
noncomputable def Sp.qf (n d:Int):Rat:=Sp.hid (Rat.divInt n d)
theorem qf_eq (n d:Int):Sp.qf n d = Rat.divInt n d:=hid_eq _
theorem inI_cnt {n:Int} (h:Sp.inI n):Sp.cnt n.natAbs <= 3:=by
 unfold Sp.inI at h
 exact cnt_u64 (by omega)
theorem ev79 (n d:Int) (h:Sp.okF n d):Ev M1 (.pure 79 [.int .i64 n,.int .i64 d]) (ratA false false (Sp.qf n d)) []:=by
 obtain ⟨h1,h2,h3⟩:=h
 have c1:=inI_cnt h1
 have c2:=inI_cnt h2
 rw [qf_eq]
 exact call79 (rRFrac _ _ _ ⟨fun k => absurd k h3,fun _ => ⟨h1,h2,⟨by omega,by omega,h3⟩,.refl _⟩⟩)
end Go.Av

namespace Go.Av
open Go.Proofs
set_option maxRecDepth 100000
def fi67:Fi:=⟨9,[.cell 4 36]⟩
def kp67:List (Nat × List Nat):=[(0,[2,3,4]),(1,[4])]
def fi97:Fi:=⟨19,[.cell 4 36,.tmp 5]⟩
def kp97:List (Nat × List Nat):=[(0,[2,3,4]),(1,[4,5])]
def rRSub_at (fa ga fb gb:Bool) (r s:Rat) (Q:AV -> Heap -> Prop):Prop:=Wp M1 (.run fi67 (atC (cd Tryz.f67) []) [(0,ratA fa ga r),(1,ratA fb gb s)] []) Q
def rRDiv_at (fa ga fb gb:Bool) (r s:Rat) (Q:AV -> Heap -> Prop):Prop:=Wp M1 (.run fi97 (atC (cd Tryz.f97) []) [(0,ratA fa ga r),(1,ratA fb gb s)] []) Q
theorem call67 {args:List AV} {d:AV} (h:wc M1 fi67 Tryz.f67 args d):Ev M1 (.pure 67 args) d []:=pcl _ _ (by kernel_rfl) h
theorem call97 {args:List AV} {d:AV} (h:wc M1 fi97 Tryz.f97 args d):Ev M1 (.pure 97 args) d []:=pcl _ _ (by kernel_rfl) h
theorem rRSub (fa ga fb gb:Bool) (r s:Rat)  (dq:AV) (H :
  (Sp.ok s.num) /\
  (Sp.okR r /\ Sp.okR (-s)) /\
  Weak (ratA false false (r + -s)) dq) :
 rRSub_at fa ga fb gb r s (PureQ dq):=by
 unfold rRSub_at
 obtain ⟨k1,H⟩:=H
 obtain ⟨k2,H⟩:=H
 exact path_rq (G:=given kp67 [(1,2,.call (ratA false false (-s)) none),(1,3,.call (ratA false false (r + -s)) none)] []) 1000 [] (ratA false false (r + -s)) (by kernel_rfl) (bc rfl (bc rfl (bc rfl b0))) q0 (ce (@ev98 (fb) (gb) (s) k1) (ce (@ev65 (fa) (ga) (false) (false) (r) (-s) k2) c0)) H
theorem rRDiv (fa ga fb gb:Bool) (r s:Rat)  (dq:AV) (H :
  (Sp.okB r.num /\ Sp.okB (↑s.den:Int)) /\
  (Sp.okB (↑r.den:Int) /\ Sp.okB s.num) /\
  (Sp.cnt (r.num * (↑s.den:Int)).natAbs <= 399000 /\ Sp.cnt ((↑r.den:Int) * s.num).natAbs <= 399000 /\ (↑r.den:Int) * s.num ≠ 0) /\
  Weak (tu [ratA false false (Rat.divInt (r.num * (↑s.den:Int)) ((↑r.den:Int) * s.num)),vi 0]) dq) :
 rRDiv_at fa ga fb gb r s (PureQ dq):=by
 unfold rRDiv_at
 obtain ⟨k1,H⟩:=H
 obtain ⟨k2,H⟩:=H
 obtain ⟨k3,H⟩:=H
 exact path_rq (G:=given kp97 [(1,4,.call (bigA false (r.num * (↑s.den:Int))) none),(1,9,.call (bigA false ((↑r.den:Int) * s.num)) none),(1,10,.call (tu [ratA false false (Rat.divInt (r.num * (↑s.den:Int)) ((↑r.den:Int) * s.num)),vi 0]) none)] []) 1000 [] (tu [ratA false false (Rat.divInt (r.num * (↑s.den:Int)) ((↑r.den:Int) * s.num)),vi 0]) (by kernel_rfl) (bc rfl (bc rfl (bc rfl (bc rfl (bc rfl b0))))) q0 (ce (@ev48 (fa) (gb) (r.num) ((↑s.den:Int)) k1) (ce (@ev48 (ga) (fb) ((↑r.den:Int)) (s.num) k2) (ce (@ev123 (false) (false) (r.num * (↑s.den:Int)) ((↑r.den:Int) * s.num) k3) c0))) H
end Go.Av

namespace Go.Av
open Go.Proofs
theorem ev67 (fa ga fb gb:Bool) (r s:Rat) (h:Sp.okR r /\ Sp.okR s):Ev M1 (.pure 67 [ratA fa ga r,ratA fb gb s]) (ratA false false (r - s)) []:=by
 refine call67 (rRSub _ _ _ _ _ _ _ ⟨?_,⟨h.1,okR_neg h.2⟩,?_⟩)
 ·have:=h.2.1;unfold Sp.ok;omega
 ·rw [<- Rat.sub_eq_add_neg];exact .refl _
theorem ev97 (fa ga fb gb:Bool) (r s:Rat) (h:Sp.okR r /\ Sp.okR s /\ s.num ≠ 0):Ev M1 (.pure 97 [ratA fa ga r,ratA fb gb s]) (.tup [ratA false false (r / s),.int .i64 0]) []:=by
 obtain ⟨hr,hs,h0⟩:=h
 obtain ⟨r1,r2⟩:=okR_B hr
 obtain ⟨s1,s2⟩:=okR_B hs
 obtain ⟨cr1,cr2⟩:=hr
 obtain ⟨cs1,cs2⟩:=hs
 have m1:=cnt_mulI cr1 (cnt_den cs2)
 have m3:=cnt_mulI (cnt_den cr2) cs1
 refine call97 (rRDiv _ _ _ _ _ _ _ ⟨⟨r1,s2⟩,⟨r2,s1⟩,⟨by omega,by omega,Int.mul_ne_zero (den_ne r) h0⟩,?_⟩)
 rw [rat_div];exact .refl _
end Go.Av

namespace Go.Av
open Go.Proofs
set_option maxRecDepth 100000
def fi91:Fi:=⟨26,[.cell 4 36,.tmp 5]⟩
def kp91:List (Nat × List Nat):=[(0,[2,3,4]),(1,[2,3,4,9]),(2,[4,5]),(3,[4,5])]
def fi92:Fi:=⟨2,[.cell 0 36]⟩
def kp92:List (Nat × List Nat):=[(0,[0]),(1,[0])]
def fi94:Fi:=⟨17,[.cell 2 36]⟩
def kp94:List (Nat × List Nat):=[(0,[1,2]),(1,[2])]
def oZero_at  (Q:AV -> Heap -> Prop):Prop:=Wp M1 (.run fi92 (atC (cd Tryz.f92) []) [] []) Q
def oNorm_at (f1 f2 f3 f4 f5 f6:Bool) (a b c:Rat) (Q:AV -> Heap -> Prop):Prop:=Wp M1 (.run fi94 (atC (cd Tryz.f94) []) [(0,.agg [.bool (Sp.isNeg a.num),.vec f1 1 ((Sp.limI a.num).map (.int .u32)),.bool (Sp.isNeg (a.den:Int)),.vec f2 1 ((Sp.limI (a.den:Int)).map (.int .u32)),.bool (Sp.isNeg b.num),.vec f3 1 ((Sp.limI b.num).map (.int .u32)),.bool (Sp.isNeg (b.den:Int)),.vec f4 1 ((Sp.limI (b.den:Int)).map (.int .u32)),.bool (Sp.isNeg c.num),.vec f5 1 ((Sp.limI c.num).map (.int .u32)),.bool (Sp.isNeg (c.den:Int)),.vec f6 1 ((Sp.limI (c.den:Int)).map (.int .u32))])] []) Q
def oCommon_at (f1 f2 f3 f4 f5 f6 g1 g2 g3 g4 g5 g6:Bool) (a b c x y z:Rat) (Q:AV -> Heap -> Prop):Prop:=Wp M1 (.run fi91 (atC (cd Tryz.f91) []) [(0,.agg [.bool (Sp.isNeg a.num),.vec f1 1 ((Sp.limI a.num).map (.int .u32)),.bool (Sp.isNeg (a.den:Int)),.vec f2 1 ((Sp.limI (a.den:Int)).map (.int .u32)),.bool (Sp.isNeg b.num),.vec f3 1 ((Sp.limI b.num).map (.int .u32)),.bool (Sp.isNeg (b.den:Int)),.vec f4 1 ((Sp.limI (b.den:Int)).map (.int .u32)),.bool (Sp.isNeg c.num),.vec f5 1 ((Sp.limI c.num).map (.int .u32)),.bool (Sp.isNeg (c.den:Int)),.vec f6 1 ((Sp.limI (c.den:Int)).map (.int .u32))]),(1,.agg [.bool (Sp.isNeg x.num),.vec g1 1 ((Sp.limI x.num).map (.int .u32)),.bool (Sp.isNeg (x.den:Int)),.vec g2 1 ((Sp.limI (x.den:Int)).map (.int .u32)),.bool (Sp.isNeg y.num),.vec g3 1 ((Sp.limI y.num).map (.int .u32)),.bool (Sp.isNeg (y.den:Int)),.vec g4 1 ((Sp.limI (y.den:Int)).map (.int .u32)),.bool (Sp.isNeg z.num),.vec g5 1 ((Sp.limI z.num).map (.int .u32)),.bool (Sp.isNeg (z.den:Int)),.vec g6 1 ((Sp.limI (z.den:Int)).map (.int .u32))])] []) Q
theorem call91 {args:List AV} {d:AV} (h:wc M1 fi91 Tryz.f91 args d):Ev M1 (.pure 91 args) d []:=pcl _ _ (by kernel_rfl) h
theorem call92 {args:List AV} {d:AV} (h:wc M1 fi92 Tryz.f92 args d):Ev M1 (.pure 92 args) d []:=pcl _ _ (by kernel_rfl) h
theorem call94 {args:List AV} {d:AV} (h:wc M1 fi94 Tryz.f94 args d):Ev M1 (.pure 94 args) d []:=pcl _ _ (by kernel_rfl) h
theorem oZero   (dq:AV) (H :
  (Sp.inI 0) /\
  Weak (ratA false false (Sp.qi 0)) dq) :
 oZero_at  (PureQ dq):=by
 unfold oZero_at
 obtain ⟨k1,H⟩:=H
 exact path_rq (G:=given kp92 [(1,0,.call (ratA false false (Sp.qi 0)) none)] []) 1000 [] (ratA false false (Sp.qi 0)) (by kernel_rfl) (bc rfl b0) q0 (ce (@ev35 (0) k1) c0) H
theorem oNorm (f1 f2 f3 f4 f5 f6:Bool) (a b c:Rat)  (dq:AV) (H :
  (Sp.okR a /\ Sp.okR a) /\
  (Sp.okR b /\ Sp.okR b) /\
  (Sp.okR (b * b) /\ Sp.okR c) /\
  (Sp.okR (a * a) /\ Sp.okR (b * b * c)) /\
  Weak (ratA false false (a * a - b * b * c)) dq) :
 oNorm_at f1 f2 f3 f4 f5 f6 a b c (PureQ dq):=by
 unfold oNorm_at
 obtain ⟨k1,H⟩:=H
 obtain ⟨k2,H⟩:=H
 obtain ⟨k3,H⟩:=H
 obtain ⟨k4,H⟩:=H
 exact path_rq (G:=given kp94 [(1,4,.call (ratA false false (a * a)) none),(1,9,.call (ratA false false (b * b)) none),(1,12,.call (ratA false false (b * b * c)) none),(1,13,.call (ratA false false (a * a - b * b * c)) none)] []) 1000 [] (ratA false false (a * a - b * b * c)) (by kernel_rfl) (bc rfl (bc rfl (bc rfl (bc rfl (bc rfl (bc rfl b0)))))) q0 (ce (@ev37 (f1) (f2) (f1) (f2) (a) (a) k1) (ce (@ev37 (f3) (f4) (f3) (f4) (b) (b) k2) (ce (@ev37 (false) (false) (f5) (f6) (b * b) (c) k3) (ce (@ev39 (false) (false) (false) (false) (a * a) (b * b * c) k4) c0)))) H
theorem oCommon (f1 f2 f3 f4 f5 f6 g1 g2 g3 g4 g5 g6:Bool) (a b c x y z:Rat)  (dq:AV) (H :
  ((Sp.sgnI b.num = 0) -> Weak (tu [ratA g5 g6 z,vb true]) dq) /\
  (¬(Sp.sgnI b.num = 0) -> ((¬(Sp.sgnI y.num = 0)) -> (Sp.okR c /\ Sp.okR z)) /\
   Weak (tu [ratA f5 f6 c,vb (bif Sp.sgnI y.num == 0 then true else Sp.sgnI (c.num * (↑z.den:Int) - z.num * (↑c.den:Int)) == 0)]) dq)) :
 oCommon_at f1 f2 f3 f4 f5 f6 g1 g2 g3 g4 g5 g6 a b c x y z (PureQ dq):=by
 unfold oCommon_at
 refine path_wp (G:=given kp91 [(1,2,.call (vi (Sp.sgnI b.num)) none)] []) 5 [] ⟨(atC (cd Tryz.f91) [1,0,1]),[(2,AV.ptr 0 0 0 0),(3,AV.ptr 1 0 0 0),(4,AV.ptr 2 0 0 0),(9,vb (Sp.sgnI b.num == 0))],[⟨[ag [vb (Sp.isNeg a.num),AV.vec f1 1 (us (Sp.limI a.num)),vb (Sp.isNeg (↑a.den:Int)),AV.vec f2 1 (us (Sp.limI (↑a.den:Int))),vb (Sp.isNeg b.num),AV.vec f3 1 (us (Sp.limI b.num)),vb (Sp.isNeg (↑b.den:Int)),AV.vec f4 1 (us (Sp.limI (↑b.den:Int))),vb (Sp.isNeg c.num),AV.vec f5 1 (us (Sp.limI c.num)),vb (Sp.isNeg (↑c.den:Int)),AV.vec f6 1 (us (Sp.limI (↑c.den:Int)))]],12,0,false,false⟩,⟨[ag [vb (Sp.isNeg x.num),AV.vec g1 1 (us (Sp.limI x.num)),vb (Sp.isNeg (↑x.den:Int)),AV.vec g2 1 (us (Sp.limI (↑x.den:Int))),vb (Sp.isNeg y.num),AV.vec g3 1 (us (Sp.limI y.num)),vb (Sp.isNeg (↑y.den:Int)),AV.vec g4 1 (us (Sp.limI (↑y.den:Int))),vb (Sp.isNeg z.num),AV.vec g5 1 (us (Sp.limI z.num)),vb (Sp.isNeg (↑z.den:Int)),AV.vec g6 1 (us (Sp.limI (↑z.den:Int)))]],12,0,false,false⟩,⟨[ag [vb false,AV.vnil,vb false,AV.vnil]],4,0,false,false⟩],_,[],_⟩ (by kernel_rfl) (bc rfl b0) q0 (ce (@ev75 (f3) (f4) (b.num) ((↑b.den:Int))) c0) ?_
 rcases xm (Sp.sgnI b.num = 0) with d2 | d2
 ·have H:=H.1 d2
  exact path_rq (G:=given kp91 [] []) 1000 [true] (tu [ratA g5 g6 z,vb true]) (by kernel_rfl) (bc (beq_t (i_eq.2 d2)) (bc rfl (bc rfl b0))) q0 c0 H
 ·have H:=H.2 d2
  obtain ⟨k4,H⟩:=H
  exact path_rq (G:=given kp91 [(3,4,.call (vi (Sp.sgnI y.num)) none),(3,11,.call (vi (Sp.sgnI (c.num * (↑z.den:Int) - z.num * (↑c.den:Int)))) none)] []) 1000 [false] (asm:=[(Sp.sgnI b.num == 0) == false,true,true,!((Sp.sgnI y.num == 0) == false && true) || true,!((Sp.sgnI y.num == 0) == false && true) || true,true]) (calls:=[⟨true,false,75,[ratA g3 g4 y],[],vi (Sp.sgnI y.num),[]⟩,⟨(Sp.sgnI y.num == 0) == false && true && true,false,36,[ratA f5 f6 c,ratA g5 g6 z],[],vi (Sp.sgnI (c.num * (↑z.den:Int) - z.num * (↑c.den:Int))),[]⟩]) (tu [ratA f5 f6 c,vb (bif Sp.sgnI y.num == 0 then true else Sp.sgnI (c.num * (↑z.den:Int) - z.num * (↑c.den:Int)) == 0)]) (by kernel_rfl) (bc (beq_f (fun h => d2 (i_eq.1 h))) (bc rfl (bc rfl (bc (Bool.or_true _) (bc (Bool.or_true _) (bc rfl b0)))))) q0 (cc (fun _ => (@ev75 (g3) (g4) (y.num) ((↑y.den:Int)))) (cc (fun hc => ((@ev36 (f5) (f6) (g5) (g6) (c) (z) (k4 ((i_at (i_at (i_bf i_eq))).1 hc))):Ev M1 (Conf.pure 36 [ratA f5 f6 c,ratA g5 g6 z]) (vi (Sp.sgnI (c.num * (↑z.den:Int) - z.num * (↑c.den:Int)))) [])) c0)) H
end Go.Av

namespace Go.Av
open Go.Proofs
abbrev rootA (f1 f2 f3 f4 f5 f6:Bool) (a b c:Rat):AV:=.agg [.bool (Sp.isNeg a.num),.vec f1 1 ((Sp.limI a.num).map (.int .u32)),.bool (Sp.isNeg (a.den:Int)),.vec f2 1 ((Sp.limI (a.den:Int)).map (.int .u32)),.bool (Sp.isNeg b.num),.vec f3 1 ((Sp.limI b.num).map (.int .u32)),.bool (Sp.isNeg (b.den:Int)),.vec f4 1 ((Sp.limI (b.den:Int)).map (.int .u32)),.bool (Sp.isNeg c.num),.vec f5 1 ((Sp.limI c.num).map (.int .u32)),.bool (Sp.isNeg (c.den:Int)),.vec f6 1 ((Sp.limI (c.den:Int)).map (.int .u32))]
abbrev rootF (a b c:Rat):AV:=rootA false false false false false false a b c
theorem weak_rf {f1 f2:Bool} (a:Rat):Weak (ratA f1 f2 a) (ratA false false a):=weak_rat _ _ _ _ _ _
theorem weak_root {f1 f2 f3 f4 f5 f6:Bool} (a b c:Rat):Weak (rootA f1 f2 f3 f4 f5 f6 a b c) (rootF a b c):=by
 refine .agg _ _ rfl fun i x y hx hy => ?_
 match i with
 | 0 => simp at hx hy;subst hx;subst hy;exact .refl _
 | 1 => simp at hx hy;subst hx;subst hy;exact weak_vec _ _ _
 | 2 => simp at hx hy;subst hx;subst hy;exact .refl _
 | 3 => simp at hx hy;subst hx;subst hy;exact weak_vec _ _ _
 | 4 => simp at hx hy;subst hx;subst hy;exact .refl _
 | 5 => simp at hx hy;subst hx;subst hy;exact weak_vec _ _ _
 | 6 => simp at hx hy;subst hx;subst hy;exact .refl _
 | 7 => simp at hx hy;subst hx;subst hy;exact weak_vec _ _ _
 | 8 => simp at hx hy;subst hx;subst hy;exact .refl _
 | 9 => simp at hx hy;subst hx;subst hy;exact weak_vec _ _ _
 | 10 => simp at hx hy;subst hx;subst hy;exact .refl _
 | 11 => simp at hx hy;subst hx;subst hy;exact weak_vec _ _ _
 | i + 12 => simp at hx
theorem sgn_num {r:Rat}:Sp.sgnI r.num = 0 ↔ r = 0:=by rw [sgnI_zero,Rat.num_eq_zero]
def Sp.okT (k:Nat) (r:Rat):Prop:=Sp.cnt r.num.natAbs <= k /\ Sp.cnt r.den <= k
theorem okT_R {k:Nat} {r:Rat} (h:Sp.okT k r) (hk:k <= 90000):Sp.okR r:=⟨Nat.le_trans h.1 hk,Nat.le_trans h.2 hk⟩
theorem okT_le {k m:Nat} {r:Rat} (h:Sp.okT k r) (hk:k <= m):Sp.okT m r:=⟨Nat.le_trans h.1 hk,Nat.le_trans h.2 hk⟩
theorem divInt_le {p q:Int} (hq:q ≠ 0):(Rat.divInt p q).num.natAbs <= p.natAbs /\ (Rat.divInt p q).den <= q.natAbs:=by
 by_cases h:0 < q
 ·obtain ⟨e1,e2⟩:=rat_pos (a:=p) h
  have e3:(Rat.divInt p q).den = ((q / ((p.gcd q:Nat):Int))).natAbs:=by omega
  rw [e1,e3]
  refine ⟨?_,?_⟩
  ·rw [Int.natAbs_ediv_of_dvd (Int.gcd_dvd_left ..)];exact Nat.div_le_self _ _
  ·rw [Int.natAbs_ediv_of_dvd (Int.gcd_dvd_right ..)];exact Nat.div_le_self _ _
 ·obtain ⟨e1,e2⟩:=rat_neg (a:=p) (b:=q) (by omega)
  have e3:(Rat.divInt p q).den = ((-q / (((-p).gcd (-q):Nat):Int))).natAbs:=by omega
  rw [e1,e3]
  refine ⟨?_,?_⟩
  ·rw [Int.natAbs_ediv_of_dvd (Int.gcd_dvd_left ..),Int.natAbs_neg];exact Nat.div_le_self _ _
  ·rw [Int.natAbs_ediv_of_dvd (Int.gcd_dvd_right ..),Int.natAbs_neg];exact Nat.div_le_self _ _
theorem okT_mul {k m:Nat} {r s:Rat} (h:Sp.okT k r) (h2:Sp.okT m s):Sp.okT (k + m) (r * s):=by
 have e:=divInt_le (p:=r.num * s.num) (q:=(r.den:Int) * (s.den:Int)) (Int.mul_ne_zero (den_ne r) (den_ne s))
 rw [rat_mul] at e
 refine ⟨Nat.le_trans (cnt_mono e.1) (cnt_mulI h.1 h2.1),Nat.le_trans (cnt_mono e.2) (cnt_mulI (cnt_den h.2) (cnt_den h2.2))⟩
theorem okT_add {k m:Nat} {r s:Rat} (h:Sp.okT k r) (h2:Sp.okT m s):Sp.okT (k + m + 1) (r + s):=by
 have e:=divInt_le (p:=r.num * (s.den:Int) + s.num * (r.den:Int)) (q:=(r.den:Int) * (s.den:Int)) (Int.mul_ne_zero (den_ne r) (den_ne s))
 rw [rat_add] at e
 have m1:=cnt_mulI h.1 (cnt_den h2.2)
 have m2:=cnt_mulI h2.1 (cnt_den h.2)
 have m3:=cnt_mulI (cnt_den h.2) (cnt_den h2.2)
 have:=cnt_addI m1 (Nat.le_trans m2 (by omega))
 exact ⟨Nat.le_trans (cnt_mono e.1) this,Nat.le_trans (cnt_mono e.2) (Nat.le_trans m3 (by omega))⟩
theorem okT_neg {k:Nat} {r:Rat} (h:Sp.okT k r):Sp.okT k (-r):=by
 unfold Sp.okT
 rw [Rat.neg_num,Rat.neg_den,Int.natAbs_neg];exact h
theorem okT_sub {k m:Nat} {r s:Rat} (h:Sp.okT k r) (h2:Sp.okT m s):Sp.okT (k + m + 1) (r - s):=by
 rw [Rat.sub_eq_add_neg];exact okT_add h (okT_neg h2)
theorem okT_rt {k:Nat} {r:Rat} (h:Sp.rsq r) (hr:Sp.okT k r):Sp.okT k (Sp.rt r):=by
 obtain ⟨e1,e2⟩:=rt_num h
 obtain ⟨a1,a2⟩:=hr
 have h1:=(sq_le ((isSq_iff _).1 h.1).1).2
 have h2:=(sq_le ((isSq_iff _).1 h.2).1).2
 unfold Sp.okT
 rw [e1]
 have:(Sp.rt r).den = (Sp.sq (r.den:Int)).natAbs:=by omega
 rw [this]
 exact ⟨Nat.le_trans (cnt_mono h1) a1,Nat.le_trans (cnt_mono h2) a2⟩
theorem okT_int {n:Int} (h:Sp.inI n):Sp.okT 3 (Sp.qi n):=by
 rw [qi_eq]
 unfold Sp.okT
 rw [Rat.num_intCast,Rat.den_intCast]
 exact ⟨inI_cnt h,by have:=cnt_small (n:=1) (by decide);omega⟩
theorem okT_zero:Sp.okT 1 (0:Rat):=by
 have h0:Sp.cnt ((0:Rat).num.natAbs) = 0:=cnt_zero
 have h1:=cnt_small (n:=1) (by decide)
 have h2:(0:Rat).den = 1:=rfl
 unfold Sp.okT
 rw [h0,h2]
 omega
theorem ev92:Ev M1 (.pure 92 []) (ratA false false (Sp.qi 0)) []:=
 call92 (oZero _ ⟨by unfold Sp.inI;omega,.refl _⟩)
def Sp.okO (a b c:Rat):Prop:=Sp.okT 9000 a /\ Sp.okT 9000 b /\ Sp.okT 9000 c
def Sp.okP (a b:Rat):Prop:=Sp.okT 9000 a /\ Sp.okT 9000 b
theorem ev94 (f1 f2 f3 f4 f5 f6:Bool) (a b c:Rat) (h:Sp.okO a b c):Ev M1 (.pure 94 [rootA f1 f2 f3 f4 f5 f6 a b c]) (ratA false false (a * a - b * b * c)) []:=by
 obtain ⟨ha,hb,hc⟩:=h
 have aa:=okT_mul ha ha
 have bb:=okT_mul hb hb
 have bbc:=okT_mul bb hc
 exact call94 (oNorm _ _ _ _ _ _ _ _ _ _ ⟨⟨okT_R ha (by omega),okT_R ha (by omega)⟩,⟨okT_R hb (by omega),okT_R hb (by omega)⟩,⟨okT_R bb (by omega),okT_R hc (by omega)⟩,⟨okT_R aa (by omega),okT_R bbc (by omega)⟩,.refl _⟩)
def Sp.com (b c z:Rat):Rat:=if b = 0 then z else c
def Sp.isCom (b c y z:Rat):Prop:=b = 0 \/ y = 0 \/ c = z
instance (b c y z:Rat):Decidable (Sp.isCom b c y z):=inferInstanceAs (Decidable (_ \/ _))
theorem cross {c z:Rat}:Sp.sgnI (c.num * (z.den:Int) - z.num * (c.den:Int)) = 0 ↔ c = z:=by
 rw [sgnI_zero]
 constructor
 ·intro h
  have h1:c.num * (z.den:Int) = z.num * (c.den:Int):=by omega
  have e:=(Rat.divInt_eq_divInt_iff (den_ne c) (den_ne z)).2 h1
  rwa [Rat.num_divInt_den,Rat.num_divInt_den] at e
 ·intro h;subst h;omega
theorem com_bool (c y z:Rat):(bif Sp.sgnI y.num == 0 then true else Sp.sgnI (c.num * (z.den:Int) - z.num * (c.den:Int)) == 0) = decide (y = 0 \/ c = z):=by
 by_cases h:y = 0
 ·rw [show (Sp.sgnI y.num == 0) = true from beq_iff_eq.2 (sgn_num.2 h),cond_true,decide_eq_true (.inl h)]
 ·rw [show (Sp.sgnI y.num == 0) = false from beq_eq_false_iff_ne.2 fun k => h (sgn_num.1 k),cond_false]
  by_cases k:c = z
  ·rw [decide_eq_true (.inr k)];exact beq_iff_eq.2 (cross.2 k)
  ·rw [decide_eq_false (fun x => x.elim h k)];exact beq_eq_false_iff_ne.2 fun x => k (cross.1 x)
theorem ev91 (f1 f2 f3 f4 f5 f6 g1 g2 g3 g4 g5 g6:Bool) (a b c x y z:Rat) (h:Sp.okP c z):Ev M1 (.pure 91 [rootA f1 f2 f3 f4 f5 f6 a b c,rootA g1 g2 g3 g4 g5 g6 x y z]) (.tup [ratA false false (Sp.com b c z),.bool (decide (Sp.isCom b c y z))]) []:=by
 refine call91 (oCommon _ _ _ _ _ _ _ _ _ _ _ _ _ _ _ _ _ _ _ ⟨fun k => ?_,fun k => ⟨fun _ => ⟨okT_R h.1 (by omega),okT_R h.2 (by omega)⟩,?_⟩⟩)
 ·have k:=sgn_num.1 k
  rw [show Sp.com b c z = z from if_pos k,decide_eq_true (show Sp.isCom b c y z from .inl k)]
  exact weak_two (weak_rf z) (.refl _)
 ·have k:¬b = 0:=fun e => k (sgn_num.2 e)
  rw [show Sp.com b c z = c from if_neg k,com_bool]
  have:decide (Sp.isCom b c y z) = decide (y = 0 \/ c = z):=by
   unfold Sp.isCom
   congr 1
   exact propext ⟨fun x => x.resolve_left k,.inr⟩
  rw [this]
  exact weak_two (weak_rf c) (.refl _)
end Go.Av

namespace Go.Av
open Go.Proofs
set_option maxRecDepth 100000
def fi62:Fi:=⟨7,[.cell 2 79]⟩
def kp62:List (Nat × List Nat):=[(0,[1,2]),(1,[2])]
def fi64:Fi:=⟨29,[.tmp 2]⟩
def kp64:List (Nat × List Nat):=[(0,[1]),(1,[1,3,4]),(2,[1,3,4,11]),(3,[2]),(4,[1,3,4,20]),(5,[2]),(6,[2])]
def fi90:Fi:=⟨15,[.cell 6 79]⟩
def kp90:List (Nat × List Nat):=[(0,[3,4,5,6]),(1,[3,4,5,6,9]),(2,[3,4,5,6]),(3,[6])]
def oFrom_at (f1 f2:Bool) (a:Rat) (Q:AV -> Heap -> Prop):Prop:=Wp M1 (.run fi62 (atC (cd Tryz.f62) []) [(0,ratA f1 f2 a)] []) Q
def oRed_at (f1 f2 f3 f4 f5 f6:Bool) (a b c:Rat) (Q:AV -> Heap -> Prop):Prop:=Wp M1 (.run fi90 (atC (cd Tryz.f90) []) [(0,ratA f1 f2 a),(1,ratA f3 f4 b),(2,ratA f5 f6 c)] []) Q
def oSign_at (f1 f2 f3 f4 f5 f6:Bool) (a b c:Rat) (Q:AV -> Heap -> Prop):Prop:=Wp M1 (.run fi64 (atC (cd Tryz.f64) []) [(0,rootA f1 f2 f3 f4 f5 f6 a b c)] []) Q
theorem call62 {args:List AV} {d:AV} (h:wc M1 fi62 Tryz.f62 args d):Ev M1 (.pure 62 args) d []:=pcl _ _ (by kernel_rfl) h
theorem call64 {args:List AV} {d:AV} (h:wc M1 fi64 Tryz.f64 args d):Ev M1 (.pure 64 args) d []:=pcl _ _ (by kernel_rfl) h
theorem call90 {args:List AV} {d:AV} (h:wc M1 fi90 Tryz.f90 args d):Ev M1 (.pure 90 args) d []:=pcl _ _ (by kernel_rfl) h
theorem oFrom (f1 f2:Bool) (a:Rat)  (dq:AV) (H :
  Weak (rootA f1 f2 false false false false a (Sp.qi 0) (Sp.qi 0)) dq) :
 oFrom_at f1 f2 a (PureQ dq):=by
 unfold oFrom_at
 exact path_rq (G:=given kp62 [(1,1,.call (ratA false false (Sp.qi 0)) none),(1,2,.call (ratA false false (Sp.qi 0)) none)] []) 1000 [] (rootA f1 f2 false false false false a (Sp.qi 0) (Sp.qi 0)) (by kernel_rfl) (bc rfl (bc rfl b0)) q0 (ce (@ev92 ) (ce (@ev92 ) c0)) H
theorem oRed (f1 f2 f3 f4 f5 f6:Bool) (a b c:Rat)  (dq:AV) (H :
  ((Sp.sgnI b.num = 0) -> Weak (rootA f1 f2 f3 f4 false false a b (Sp.qi 0)) dq) /\
  (¬(Sp.sgnI b.num = 0) -> Weak (rootA f1 f2 f3 f4 f5 f6 a b c) dq)) :
 oRed_at f1 f2 f3 f4 f5 f6 a b c (PureQ dq):=by
 unfold oRed_at
 refine path_wp (G:=given kp90 [(1,1,.call (vi (Sp.sgnI b.num)) none)] []) 5 [] ⟨(atC (cd Tryz.f90) [1,0,1]),[(3,AV.ptr 0 0 0 0),(4,AV.ptr 1 0 0 0),(5,AV.ptr 2 0 0 0),(6,AV.ptr 3 0 0 0),(9,vb (Sp.sgnI b.num == 0))],[⟨[ratA f1 f2 a],4,0,false,false⟩,⟨[ratA f3 f4 b],4,0,false,false⟩,⟨[ratA f5 f6 c],4,0,false,false⟩,⟨[ag [vb false,AV.vnil,vb false,AV.vnil,vb false,AV.vnil,vb false,AV.vnil,vb false,AV.vnil,vb false,AV.vnil]],12,0,false,false⟩],_,[],_⟩ (by kernel_rfl) (bc rfl b0) q0 (ce (@ev75 (f3) (f4) (b.num) ((↑b.den:Int))) c0) ?_
 rcases xm (Sp.sgnI b.num = 0) with d2 | d2
 ·have H:=H.1 d2
  exact path_rq (G:=given kp90 [(2,0,.call (ratA false false (Sp.qi 0)) none)] []) 1000 [true] (asm:=[(Sp.sgnI b.num == 0) == true,0 == 0,true,true,true,true]) (rootA f1 f2 f3 f4 false false a b (Sp.qi 0)) (by kernel_rfl) (bc (beq_t (i_eq.2 d2)) (bc (beq_self_eq_true _) (bc rfl (bc rfl (bc rfl (bc rfl b0)))))) q0 (ce (@ev92 ) c0) H
 ·have H:=H.2 d2
  exact path_rq (G:=given kp90 [] []) 1000 [false] (rootA f1 f2 f3 f4 f5 f6 a b c) (by kernel_rfl) (bc (beq_f (fun h => d2 (i_eq.1 h))) (bc rfl (bc rfl (bc rfl (bc rfl b0))))) q0 c0 H
theorem oSign (f1 f2 f3 f4 f5 f6:Bool) (a b c:Rat)  (dq:AV) (H :
  (((Sp.sgnI b.num = 0) \/ (Sp.sgnI a.num = Sp.sgnI b.num)) -> vi (Sp.sgnI a.num) = dq) /\
  (¬((Sp.sgnI b.num = 0) \/ (Sp.sgnI a.num = Sp.sgnI b.num)) -> ((Sp.sgnI a.num = 0) -> vi (Sp.sgnI b.num) = dq) /\
   (¬(Sp.sgnI a.num = 0) -> (Sp.okO a b c) /\
    (-9223372036854775808 <= Sp.sgnI a.num * Sp.sgnI (a * a - b * b * c).num /\ Sp.sgnI a.num * Sp.sgnI (a * a - b * b * c).num <= 9223372036854775807) /\
    vi (Sp.sgnI a.num * Sp.sgnI (a * a - b * b * c).num) = dq))) :
 oSign_at f1 f2 f3 f4 f5 f6 a b c (PureQ dq):=by
 unfold oSign_at
 refine path_wp (G:=given kp64 [(1,2,.call (vi (Sp.sgnI a.num)) none),(1,5,.call (vi (Sp.sgnI b.num)) none)] []) 8 [] ⟨(atC (cd Tryz.f64) [1,1,0,0,1]),[(1,AV.ptr 0 0 0 0),(3,vi (Sp.sgnI a.num)),(4,vi (Sp.sgnI b.num)),(11,vb (bif Sp.sgnI b.num == 0 then true else Sp.sgnI a.num == Sp.sgnI b.num))],[⟨[rootA f1 f2 f3 f4 f5 f6 a b c],12,0,false,false⟩],_,[],_⟩ (by kernel_rfl) (bc rfl (bc rfl b0)) q0 (ce (@ev75 (f1) (f2) (a.num) ((↑a.den:Int))) (ce (@ev75 (f3) (f4) (b.num) ((↑b.den:Int))) c0)) ?_
 rcases xm ((Sp.sgnI b.num = 0) \/ (Sp.sgnI a.num = Sp.sgnI b.num)) with d2 | d2
 ·have H:=H.1 d2
  exact path_re (G:=given kp64 [] []) 1000 [true] (vi (Sp.sgnI a.num)) (by kernel_rfl) (bc (beq_t ((i_bor i_eq i_eq).2 d2)) b0) q0 c0 H
 ·have H:=H.2 d2
  rcases xm (Sp.sgnI a.num = 0) with d4 | d4
  ·have H:=H.1 d4
   exact path_re (G:=given kp64 [] []) 1000 [false,true] (vi (Sp.sgnI b.num)) (by kernel_rfl) (bc (beq_f (fun h => d2 ((i_bor i_eq i_eq).1 h))) (bc (beq_t (i_eq.2 d4)) b0)) q0 c0 H
  ·have H:=H.2 d4
   obtain ⟨k5,H⟩:=H
   obtain ⟨k6,H⟩:=H
   have w7:wi (Sp.sgnI a.num * Sp.sgnI (a * a - b * b * c).num) = Sp.sgnI a.num * Sp.sgnI (a * a - b * b * c).num:=wI64 k6
   exact path_re (G:=given kp64 [(6,2,.call (ratA false false (a * a - b * b * c)) none),(6,3,.call (vi (Sp.sgnI (a * a - b * b * c).num)) none)] []) 1000 [false,false] (vi (wi (Sp.sgnI a.num * Sp.sgnI (a * a - b * b * c).num))) (by kernel_rfl) (bc (beq_f (fun h => d2 ((i_bor i_eq i_eq).1 h))) (bc (beq_f (fun h => d4 (i_eq.1 h))) (bc rfl b0))) q0 (ce (@ev94 (f1) (f2) (f3) (f4) (f5) (f6) (a) (b) (c) k5) (ce (@ev75 (false) (false) ((a * a - b * b * c).num) ((↑(a * a - b * b * c).den:Int))) c0)) (by (try rw [w7]);all_goals exact H)
end Go.Av

namespace Go.Av
open Go.Proofs
theorem ev62 (f1 f2:Bool) (a:Rat):Ev M1 (.pure 62 [ratA f1 f2 a]) (rootF a (Sp.qi 0) (Sp.qi 0)) []:=
 call62 (oFrom _ _ _ _ (weak_root a (Sp.qi 0) (Sp.qi 0)))
noncomputable def Sp.rad (b c:Rat):Rat:=if b = 0 then Sp.qi 0 else c
theorem ev90 (f1 f2 f3 f4 f5 f6:Bool) (a b c:Rat):Ev M1 (.pure 90 [ratA f1 f2 a,ratA f3 f4 b,ratA f5 f6 c]) (rootF a b (Sp.rad b c)) []:=by
 refine call90 (oRed _ _ _ _ _ _ _ _ _ _ ⟨fun k => ?_,fun k => ?_⟩)
 ·rw [show Sp.rad b c = Sp.qi 0 from if_pos (sgn_num.1 k)];exact weak_root a b (Sp.qi 0)
 ·rw [show Sp.rad b c = c from if_neg fun e => k (sgn_num.2 e)];exact weak_root a b c
def Sp.sgR (r:Rat):Int:=Sp.sgnI r.num
noncomputable def Sp.sgO (a b c:Rat):Int:=if Sp.sgR b = 0 \/ Sp.sgR a = Sp.sgR b then Sp.sgR a else if Sp.sgR a = 0 then Sp.sgR b else Sp.sgR a * Sp.sgR (a * a - b * b * c)
theorem sgnI_le (n:Int):-1 <= Sp.sgnI n /\ Sp.sgnI n <= 1:=by
 unfold Sp.sgnI
 (repeat' split) <;> omega
theorem sgn_bound {x y:Int} (hx:-1 <= x /\ x <= 1) (hy:-1 <= y /\ y <= 1):-1 <= x * y /\ x * y <= 1:=by
 obtain ⟨x1,x2⟩:=hx
 rcases (by omega:x = -1 \/ x = 0 \/ x = 1) with e | e | e <;> subst e <;> omega
theorem ev64 (f1 f2 f3 f4 f5 f6:Bool) (a b c:Rat) (h:Sp.okO a b c):Ev M1 (.pure 64 [rootA f1 f2 f3 f4 f5 f6 a b c]) (.int .i64 (Sp.sgO a b c)) []:=by
 refine call64 (oSign _ _ _ _ _ _ _ _ _ _ ⟨fun k => ?_,fun k => ⟨fun k2 => ?_,fun k2 => ⟨h,?_,?_⟩⟩⟩)
 ·unfold Sp.sgO Sp.sgR;rw [if_pos k]
 ·unfold Sp.sgO Sp.sgR;rw [if_neg k,if_pos k2]
 ·have:=sgn_bound (sgnI_le a.num) (sgnI_le (a * a - b * b * c).num)
  omega
 ·unfold Sp.sgO Sp.sgR;rw [if_neg k,if_neg k2]
end Go.Av

namespace Go.Av
open Go.Proofs
set_option maxRecDepth 100000
def fi59:Fi:=⟨30,[.cell 6 79,.tmp 7]⟩
def kp59:List (Nat × List Nat):=[(0,[3,4,5,6]),(1,[3,4,5,6,12]),(2,[6,7]),(3,[3,4,5,6,8,9]),(4,[3,4,5,6,8,19]),(5,[6,7]),(6,[6,7])]
def fi60:Fi:=⟨16,[.cell 4 79]⟩
def kp60:List (Nat × List Nat):=[(0,[2,3,4]),(1,[4])]
def fi61:Fi:=⟨29,[.cell 4 79,.tmp 5]⟩
def kp61:List (Nat × List Nat):=[(0,[2,3,4]),(1,[2,3,4,6,7]),(2,[2,3,4,6,15]),(3,[4,5]),(4,[4,5])]
def oMake_at (f1 f2 f3 f4 f5 f6:Bool) (a b c:Rat) (Q:AV -> Heap -> Prop):Prop:=Wp M1 (.run fi59 (atC (cd Tryz.f59) []) [(0,ratA f1 f2 a),(1,ratA f3 f4 b),(2,ratA f5 f6 c)] []) Q
def oAdd_at (f1 f2 f3 f4 f5 f6 g1 g2 g3 g4 g5 g6:Bool) (a b c x y z:Rat) (Q:AV -> Heap -> Prop):Prop:=Wp M1 (.run fi61 (atC (cd Tryz.f61) []) [(0,rootA f1 f2 f3 f4 f5 f6 a b c),(1,rootA g1 g2 g3 g4 g5 g6 x y z)] []) Q
def oScale_at (f1 f2 f3 f4 f5 f6:Bool) (k l:Bool) (a b c r:Rat) (Q:AV -> Heap -> Prop):Prop:=Wp M1 (.run fi60 (atC (cd Tryz.f60) []) [(0,rootA f1 f2 f3 f4 f5 f6 a b c),(1,ratA k l r)] []) Q
theorem call59 {args:List AV} {d:AV} (h:wc M1 fi59 Tryz.f59 args d):Ev M1 (.pure 59 args) d []:=pcl _ _ (by kernel_rfl) h
theorem call60 {args:List AV} {d:AV} (h:wc M1 fi60 Tryz.f60 args d):Ev M1 (.pure 60 args) d []:=pcl _ _ (by kernel_rfl) h
theorem call61 {args:List AV} {d:AV} (h:wc M1 fi61 Tryz.f61 args d):Ev M1 (.pure 61 args) d []:=pcl _ _ (by kernel_rfl) h
noncomputable abbrev zNxC1:=ag [vb false,AV.vnil,vb false,AV.vnil,vb false,AV.vnil,vb false,AV.vnil,vb false,AV.vnil,vb false,AV.vnil]
theorem oMake (f1 f2 f3 f4 f5 f6:Bool) (a b c:Rat)  (dq:AV) (H :
  ((Sp.sgnI c.num < 0) -> Weak (tu [ag [vb false,AV.vnil,vb false,AV.vnil,vb false,AV.vnil,vb false,AV.vnil,vb false,AV.vnil,vb false,AV.vnil],vi 7]) dq) /\
  (¬(Sp.sgnI c.num < 0) -> ((Sp.rsq c) -> (Sp.okR c) /\
    (Sp.okR b /\ Sp.okR (Sp.rt c)) /\
    (Sp.okR a /\ Sp.okR (b * Sp.rt c)) /\
    Weak (tu [rootF (a + b * Sp.rt c) (Sp.qi 0) (Sp.qi 0),vi 0]) dq) /\
   (¬(Sp.rsq c) -> (Sp.okR c) /\
    Weak (tu [rootF a b (Sp.rad b c),vi 0]) dq))) :
 oMake_at f1 f2 f3 f4 f5 f6 a b c (PureQ dq):=by
 unfold oMake_at
 refine path_wp (G:=given kp59 [(1,1,.call (vi (Sp.sgnI c.num)) none)] []) 5 [] ⟨(atC (cd Tryz.f59) [1,0,1]),[(3,AV.ptr 0 0 0 0),(4,AV.ptr 1 0 0 0),(5,AV.ptr 2 0 0 0),(6,AV.ptr 3 0 0 0),(12,vb (decide (Sp.sgnI c.num < 0)))],[⟨[ratA f1 f2 a],4,0,false,false⟩,⟨[ratA f3 f4 b],4,0,false,false⟩,⟨[ratA f5 f6 c],4,0,false,false⟩,⟨[zNxC1],12,0,false,false⟩],_,[],_⟩ (by kernel_rfl) (bc rfl b0) q0 (ce (@ev75 (f5) (f6) (c.num) ((↑c.den:Int))) c0) ?_
 rcases xm (Sp.sgnI c.num < 0) with d2 | d2
 ·have H:=H.1 d2
  exact path_rq (G:=given kp59 [] []) 1000 [true] (tu [zNxC1,vi 7]) (by kernel_rfl) (bc (beq_t (i_dec.2 d2)) (bc rfl b0)) q0 c0 H
 ·have H:=H.2 d2
  rcases xm (Sp.rsq c) with d3 | d3
  ·have H:=H.1 d3
   obtain ⟨k4,H⟩:=H
   obtain ⟨k5,H⟩:=H
   obtain ⟨k6,H⟩:=H
   exact path_rq (G:=given kp59 [(3,1,.call (tu [ratA false false (Sp.rt c),vb true]) none),(5,3,.call (ratA false false (b * Sp.rt c)) none),(5,4,.call (ratA false false (a + b * Sp.rt c)) none),(5,5,.call (rootF (a + b * Sp.rt c) (Sp.qi 0) (Sp.qi 0)) none)] []) 1000 [false,true] (tu [rootF (a + b * Sp.rt c) (Sp.qi 0) (Sp.qi 0),vi 0]) (by kernel_rfl) (bc (beq_f (fun h => d2 (i_dec.1 h))) (bc rfl (bc rfl (bc rfl (bc rfl (bc rfl (bc rfl (bc rfl b0)))))))) q0 (ce (@ev89_y (f5) (f6) (c) k4 d3) (ce (@ev37 (f3) (f4) (false) (false) (b) (Sp.rt c) k5) (ce (@ev38 (f1) (f2) (false) (false) (a) (b * Sp.rt c) k6) (ce (@ev62 (false) (false) (a + b * Sp.rt c)) c0)))) H
  ·have H:=H.2 d3
   obtain ⟨k7,H⟩:=H
   exact path_rq (G:=given kp59 [(3,1,.call (tu [ag [vb false,vf [],vb false,vf []],vb false]) none),(6,3,.call (rootF a b (Sp.rad b c)) none)] []) 1000 [false,false] (tu [rootF a b (Sp.rad b c),vi 0]) (by kernel_rfl) (bc (beq_f (fun h => d2 (i_dec.1 h))) (bc rfl (bc rfl (bc rfl (bc rfl (bc rfl (bc rfl (bc rfl b0)))))))) q0 (ce (@ev89_n (f5) (f6) (c) k7 d3) (ce (@ev90 (f1) (f2) (f3) (f4) (f5) (f6) (a) (b) (c)) c0)) H
noncomputable abbrev zNxC2:=ag [vb false,AV.vnil,vb false,AV.vnil,vb false,AV.vnil,vb false,AV.vnil,vb false,AV.vnil,vb false,AV.vnil]
theorem oAdd (f1 f2 f3 f4 f5 f6 g1 g2 g3 g4 g5 g6:Bool) (a b c x y z:Rat)  (dq:AV) (H :
  (Sp.okP c z) /\
  ((¬(Sp.isCom b c y z)) -> Weak (tu [ag [vb false,AV.vnil,vb false,AV.vnil,vb false,AV.vnil,vb false,AV.vnil,vb false,AV.vnil,vb false,AV.vnil],vi 1]) dq) /\
  (¬(¬(Sp.isCom b c y z)) -> (Sp.okR a /\ Sp.okR x) /\
   (Sp.okR b /\ Sp.okR y) /\
   Weak (tu [rootF (a + x) (b + y) (Sp.rad (b + y) (Sp.com b c z)),vi 0]) dq)) :
 oAdd_at f1 f2 f3 f4 f5 f6 g1 g2 g3 g4 g5 g6 a b c x y z (PureQ dq):=by
 unfold oAdd_at
 obtain ⟨k1,H⟩:=H
 refine path_wp (G:=given kp61 [(1,2,.call (tu [ratA false false (Sp.com b c z),vb (decide (Sp.isCom b c y z))]) none)] []) 7 [] ⟨(atC (cd Tryz.f61) [1,1,0,1]),[(2,AV.ptr 0 0 0 0),(3,AV.ptr 1 0 0 0),(4,AV.ptr 2 0 0 0),(6,AV.ptr 3 0 0 0),(15,vb !decide (Sp.isCom b c y z))],[⟨[rootA f1 f2 f3 f4 f5 f6 a b c],12,0,false,false⟩,⟨[rootA g1 g2 g3 g4 g5 g6 x y z],12,0,false,false⟩,⟨[zNxC2],12,0,false,false⟩,⟨[ratA false false (Sp.com b c z)],4,0,false,false⟩],_,[],_⟩ (by kernel_rfl) (bc rfl (bc rfl (bc rfl b0))) q0 (ce (@ev91 (f1) (f2) (f3) (f4) (f5) (f6) (g1) (g2) (g3) (g4) (g5) (g6) (a) (b) (c) (x) (y) (z) k1) c0) ?_
 rcases xm (¬(Sp.isCom b c y z)) with d3 | d3
 ·have H:=H.1 d3
  exact path_rq (G:=given kp61 [] []) 1000 [true] (tu [zNxC2,vi 1]) (by kernel_rfl) (bc (beq_t ((i_not i_dec).2 d3)) (bc rfl b0)) q0 c0 H
 ·have H:=H.2 d3
  obtain ⟨k4,H⟩:=H
  obtain ⟨k5,H⟩:=H
  exact path_rq (G:=given kp61 [(4,4,.call (ratA false false (a + x)) none),(4,9,.call (ratA false false (b + y)) none),(4,11,.call (rootF (a + x) (b + y) (Sp.rad (b + y) (Sp.com b c z))) none)] []) 1000 [false] (tu [rootF (a + x) (b + y) (Sp.rad (b + y) (Sp.com b c z)),vi 0]) (by kernel_rfl) (bc (beq_f (fun h => d3 ((i_not i_dec).1 h))) (bc rfl (bc rfl (bc rfl (bc rfl (bc rfl (bc rfl b0))))))) q0 (ce (@ev38 (f1) (f2) (g1) (g2) (a) (x) k4) (ce (@ev38 (f3) (f4) (g3) (g4) (b) (y) k5) (ce (@ev90 (false) (false) (false) (false) (false) (false) (a + x) (b + y) (Sp.com b c z)) c0))) H
theorem oScale (f1 f2 f3 f4 f5 f6:Bool) (k l:Bool) (a b c r:Rat)  (dq:AV) (H :
  (Sp.okR a /\ Sp.okR r) /\
  (Sp.okR b /\ Sp.okR r) /\
  Weak (rootF (a * r) (b * r) (Sp.rad (b * r) c)) dq) :
 oScale_at f1 f2 f3 f4 f5 f6 k l a b c r (PureQ dq):=by
 unfold oScale_at
 obtain ⟨k1,H⟩:=H
 obtain ⟨k2,H⟩:=H
 exact path_rq (G:=given kp60 [(1,3,.call (ratA false false (a * r)) none),(1,7,.call (ratA false false (b * r)) none),(1,10,.call (rootF (a * r) (b * r) (Sp.rad (b * r) c)) none)] []) 1000 [] (rootF (a * r) (b * r) (Sp.rad (b * r) c)) (by kernel_rfl) (bc rfl (bc rfl (bc rfl (bc rfl (bc rfl (bc rfl b0)))))) q0 (ce (@ev37 (f1) (f2) (k) (l) (a) (r) k1) (ce (@ev37 (f3) (f4) (k) (l) (b) (r) k2) (ce (@ev90 (false) (false) (false) (false) (f5) (f6) (a * r) (b * r) (c)) c0))) H
end Go.Av

namespace Go.Av
open Go.Proofs
abbrev noO:AV:=.agg [.bool false,.vec false 1 [],.bool false,.vec false 1 [],.bool false,.vec false 1 [],.bool false,.vec false 1 [],.bool false,.vec false 1 [],.bool false,.vec false 1 []]
theorem weak_vnil1:Weak .vnil (.vec false 1 []):=by
 have:=weak_bnil false
 cases this with
 | agg xs ys hl h => exact h 1 _ _ rfl rfl
theorem weak_no:Weak (.agg [.bool false,.vnil,.bool false,.vnil,.bool false,.vnil,.bool false,.vnil,.bool false,.vnil,.bool false,.vnil]) noO:=by
 refine .agg _ _ rfl fun i x y hx hy => ?_
 match i with
 | 0 => simp at hx hy;subst hx;subst hy;exact .refl _
 | 1 => simp at hx hy;subst hx;subst hy;exact weak_vnil1
 | 2 => simp at hx hy;subst hx;subst hy;exact .refl _
 | 3 => simp at hx hy;subst hx;subst hy;exact weak_vnil1
 | 4 => simp at hx hy;subst hx;subst hy;exact .refl _
 | 5 => simp at hx hy;subst hx;subst hy;exact weak_vnil1
 | 6 => simp at hx hy;subst hx;subst hy;exact .refl _
 | 7 => simp at hx hy;subst hx;subst hy;exact weak_vnil1
 | 8 => simp at hx hy;subst hx;subst hy;exact .refl _
 | 9 => simp at hx hy;subst hx;subst hy;exact weak_vnil1
 | 10 => simp at hx hy;subst hx;subst hy;exact .refl _
 | 11 => simp at hx hy;subst hx;subst hy;exact weak_vnil1
 | i + 12 => simp at hx
namespace Sp
def isNN (c:Rat):Prop:=0 <= c.num
open Classical in
noncomputable def mkA (a b c:Rat):Rat:=if rsq c then a + b * rt c else a
open Classical in
noncomputable def mkB (b c:Rat):Rat:=if rsq c then qi 0 else b
open Classical in
noncomputable def mkC (b c:Rat):Rat:=if rsq c then qi 0 else rad b c
end Sp
theorem nn_sgn {c:Rat}:Sp.sgnI c.num < 0 ↔ ¬Sp.isNN c:=by
 rw [sgnI_lt];unfold Sp.isNN;omega
theorem ev59_y (f1 f2 f3 f4 f5 f6:Bool) (a b c:Rat) (h:Sp.okO a b c) (k:Sp.isNN c):Ev M1 (.pure 59 [ratA f1 f2 a,ratA f3 f4 b,ratA f5 f6 c]) (.tup [rootF (Sp.mkA a b c) (Sp.mkB b c) (Sp.mkC b c),.int .i64 0]) []:=by
 obtain ⟨ha,hb,hc⟩:=h
 refine call59 (oMake _ _ _ _ _ _ _ _ _ _ ⟨fun x => absurd k (nn_sgn.1 x),fun _ => ⟨fun s => ?_,fun s => ?_⟩⟩)
 ·have hr:=okT_rt s hc
  have hm:=okT_mul hb hr
  refine ⟨okT_R hc (by omega),⟨okT_R hb (by omega),okT_R hr (by omega)⟩,⟨okT_R ha (by omega),okT_R hm (by omega)⟩,?_⟩
  rw [show Sp.mkA a b c = a + b * Sp.rt c from if_pos s,show Sp.mkB b c = Sp.qi 0 from if_pos s,show Sp.mkC b c = Sp.qi 0 from if_pos s]
  exact .refl _
 ·refine ⟨okT_R hc (by omega),?_⟩
  rw [show Sp.mkA a b c = a from if_neg s,show Sp.mkB b c = b from if_neg s,show Sp.mkC b c = Sp.rad b c from if_neg s]
  exact .refl _
theorem ev59_n (f1 f2 f3 f4 f5 f6:Bool) (a b c:Rat) (h:Sp.okO a b c) (k:¬(Sp.isNN c)):Ev M1 (.pure 59 [ratA f1 f2 a,ratA f3 f4 b,ratA f5 f6 c]) (.tup [noO,.int .i64 7]) []:=
 call59 (oMake _ _ _ _ _ _ _ _ _ _ ⟨fun _ => weak_two weak_no (.refl _),fun x => absurd (nn_sgn.2 k) x⟩)
theorem ev61_y (f1 f2 f3 f4 f5 f6 g1 g2 g3 g4 g5 g6:Bool) (a b c x y z:Rat) (h:Sp.okO a b c /\ Sp.okO x y z) (k:Sp.isCom b c y z):Ev M1 (.pure 61 [rootA f1 f2 f3 f4 f5 f6 a b c,rootA g1 g2 g3 g4 g5 g6 x y z]) (.tup [rootF (a + x) (b + y) (Sp.rad (b + y) (Sp.com b c z)),.int .i64 0]) []:=by
 obtain ⟨⟨h1,h2,h3⟩,h4,h5,h6⟩:=h
 exact call61 (oAdd _ _ _ _ _ _ _ _ _ _ _ _ _ _ _ _ _ _ _ ⟨⟨h3,h6⟩,fun n => absurd k n,fun _ => ⟨⟨okT_R h1 (by omega),okT_R h4 (by omega)⟩,⟨okT_R h2 (by omega),okT_R h5 (by omega)⟩,.refl _⟩⟩)
theorem okT_com {k:Nat} {b c z:Rat} (h:Sp.okT k c) (h2:Sp.okT k z):Sp.okT k (Sp.com b c z):=by
 unfold Sp.com;split <;> assumption
theorem ev60 (f1 f2 f3 f4 f5 f6 l1 l2:Bool) (a b c r:Rat) (h:Sp.okP a b /\ Sp.okR r):Ev M1 (.pure 60 [rootA f1 f2 f3 f4 f5 f6 a b c,ratA l1 l2 r]) (rootF (a * r) (b * r) (Sp.rad (b * r) c)) []:=by
 obtain ⟨⟨h1,h2⟩,h3⟩:=h
 exact call60 (oScale _ _ _ _ _ _ _ _ _ _ _ _ _ ⟨⟨okT_R h1 (by omega),h3⟩,⟨okT_R h2 (by omega),h3⟩,.refl _⟩)
noncomputable def Sp.flW (a b c:Rat):Int:=Sp.sq ((a.den:Int) * (a.den:Int) * ((b * b * c).num * ((b * b * c).den:Int)))
noncomputable def Sp.fl (a b c:Rat):Int:=if b = 0 then Sp.flo a.num (a.den:Int) else Sp.flo (a.num * ((b * b * c).den:Int) + (if b.num < 0 then -(Sp.flW a b c + 1) else Sp.flW a b c)) ((a.den:Int) * ((b * b * c).den:Int))
end Go.Av

namespace Go.Av
open Go.Proofs
theorem qi_zero:Sp.qi 0 = 0:=by rw [qi_eq];rfl
end Go.Av

namespace Go.Av
open Go.Proofs
set_option maxRecDepth 100000
end Go.Av

namespace Go.Av
open Go.Proofs
theorem okT_div {k m:Nat} {r s:Rat} (h:Sp.okT k r) (h2:Sp.okT m s) (h0:s.num ≠ 0):Sp.okT (k + m) (r / s):=by
 have e:=divInt_le (p:=r.num * (s.den:Int)) (q:=(r.den:Int) * s.num) (Int.mul_ne_zero (den_ne r) h0)
 rw [rat_div] at e
 exact ⟨Nat.le_trans (cnt_mono e.1) (cnt_mulI h.1 (cnt_den h2.2)),Nat.le_trans (cnt_mono e.2) (cnt_mulI (cnt_den h.2) h2.1)⟩
end Go.Av

namespace Go.Av
open Go.Proofs
set_option maxRecDepth 100000
end Go.Av

namespace Go.Av
open Go.Proofs
theorem cnt_le {n m:Nat} {k:Nat} (h:n <= m) (hm:Sp.cnt m <= k):Sp.cnt n <= k:=Nat.le_trans (cnt_mono h) hm
theorem okT_qf {n d:Int} (h:Sp.okF n d):Sp.okT 3 (Sp.qf n d):=by
 obtain ⟨h1,h2,h3⟩:=h
 obtain ⟨e1,e2⟩:=divInt_le (p:=n) h3
 rw [qf_eq]
 exact ⟨cnt_le e1 (inI_cnt h1),cnt_le e2 (inI_cnt h2)⟩
theorem okT_O {a b c:Rat} {k:Nat} (h1:Sp.okT k a) (h2:Sp.okT k b) (h3:Sp.okT k c) (hk:k <= 9000):Sp.okO a b c:=⟨okT_le h1 hk,okT_le h2 hk,okT_le h3 hk⟩
end Go.Av

namespace Go.Av
open Go.Proofs
set_option maxRecDepth 100000
end Go.Av

namespace Go.Av
open Go.Proofs
theorem qi_mul (a b:Int):Sp.qi a * Sp.qi b = Sp.qi (a * b):=by rw [qi_eq,qi_eq,qi_eq,Rat.intCast_mul]
end Go.Av

namespace Go.Av
open Go.Proofs
end Go.Av

namespace Go.Av
open Go.Proofs
theorem okT_mkA {k:Nat} {a b c:Rat} (ha:Sp.okT k a) (hb:Sp.okT k b) (hc:Sp.okT k c):Sp.okT (3 * k + 1) (Sp.mkA a b c):=by
 unfold Sp.mkA
 split
 ·rename_i s
  exact okT_le (okT_add ha (okT_mul hb (okT_rt s hc))) (by omega)
 ·exact okT_le ha (by omega)
theorem okT_q0:Sp.okT 1 (Sp.qi 0):=by rw [qi_zero];exact okT_zero
theorem okT_mkB {k:Nat} {b c:Rat} (hb:Sp.okT k b):Sp.okT (k + 1) (Sp.mkB b c):=by
 unfold Sp.mkB
 split
 ·exact okT_le okT_q0 (by omega)
 ·exact okT_le hb (by omega)
theorem okT_rad {k:Nat} {b c:Rat} (hc:Sp.okT k c):Sp.okT (k + 1) (Sp.rad b c):=by
 unfold Sp.rad
 split
 ·exact okT_le okT_q0 (by omega)
 ·exact okT_le hc (by omega)
theorem okT_mkC {k:Nat} {b c:Rat} (hc:Sp.okT k c):Sp.okT (k + 1) (Sp.mkC b c):=by
 unfold Sp.mkC
 split
 ·exact okT_le okT_q0 (by omega)
 ·exact okT_rad hc
end Go.Av

namespace Go.Av
open Go.Proofs
theorem num_lt {r:Rat}:r.num < 0 ↔ r < 0:=by
 have h:=@Rat.num_nonneg r
 constructor
 ·intro k
  apply Classical.byContradiction
  intro n
  have:0 <= r:=by grind
  have:=h.2 this
  omega
 ·intro k
  apply Classical.byContradiction
  intro n
  have:0 <= r:=h.1 (by omega)
  grind
theorem num_gt {r:Rat}:0 < r.num ↔ 0 < r:=by
 have h:=@num_lt r
 have h0:=@Rat.num_eq_zero r
 constructor
 ·intro k
  have h1:¬r < 0:=fun x => by have:=h.2 x;omega
  have h2:r ≠ 0:=fun x => by have:=h0.2 x;omega
  grind
 ·intro k
  have h1:¬r.num < 0:=fun x => by have:=h.1 x;grind
  have h2:r.num ≠ 0:=fun x => by have:=h0.1 x;grind
  omega
theorem sgR_pos {r:Rat} (h:0 < r):Sp.sgR r = 1:=by
 have:=num_gt.2 h
 unfold Sp.sgR Sp.sgnI;rw [if_neg (by omega),if_pos this]
theorem sgR_neg {r:Rat} (h:r < 0):Sp.sgR r = -1:=by
 have:=num_lt.2 h
 unfold Sp.sgR Sp.sgnI;rw [if_pos this]
theorem sgR_zero:Sp.sgR 0 = 0:=rfl
theorem tri (r:Rat):r < 0 \/ r = 0 \/ 0 < r:=by grind
theorem mul_pp {p q:Rat} (h1:0 < p) (h2:0 < q):0 < p * q:=Rat.mul_pos h1 h2
theorem mul_nn {p q:Rat} (h1:p < 0) (h2:q < 0):0 < p * q:=by
 have:=Rat.mul_pos (show 0 < -p by grind) (show 0 < -q by grind)
 grind
theorem mul_pn {p q:Rat} (h1:0 < p) (h2:q < 0):p * q < 0:=by
 have:=Rat.mul_pos h1 (show 0 < -q by grind)
 grind
theorem mul_np {p q:Rat} (h1:p < 0) (h2:0 < q):p * q < 0:=by
 have:=Rat.mul_pos (show 0 < -p by grind) h2
 grind
theorem sgR_mul (p q:Rat):Sp.sgR (p * q) = Sp.sgR p * Sp.sgR q:=by
 rcases tri p with h | h | h
 ·rcases tri q with k | k | k
  ·rw [sgR_neg h,sgR_neg k,sgR_pos (mul_nn h k)];rfl
  ·subst k;rw [Rat.mul_zero,sgR_zero,Int.mul_zero]
  ·rw [sgR_neg h,sgR_pos k,sgR_neg (mul_np h k)];rfl
 ·subst h;rw [Rat.zero_mul,sgR_zero,Int.zero_mul]
 ·rcases tri q with k | k | k
  ·rw [sgR_pos h,sgR_neg k,sgR_neg (mul_pn h k)];rfl
  ·subst k;rw [Rat.mul_zero,sgR_zero,Int.mul_zero]
  ·rw [sgR_pos h,sgR_pos k,sgR_pos (mul_pp h k)];rfl
theorem mul_ge {p q:Rat} (h1:0 <= p) (h2:0 <= q):0 <= p * q:=Rat.mul_nonneg h1 h2
end Go.Av
