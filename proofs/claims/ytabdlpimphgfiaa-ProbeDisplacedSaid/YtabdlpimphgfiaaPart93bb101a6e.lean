/- PART 5 of the texts of a claim, joined by a program: what each part shows stands at its head. -/
import Derived.Test.YtabdlpimphgfiaaPartfbeeed07d6

namespace Go.Av
open Go.Proofs
theorem scl_facts1 {D:Nat} (h:1<=Sp.cnt D):0<Sp.scl D/\Sp.scl D<1000000000/\Sp.fits (Sp.cnt D) (D*Sp.scl D)/\1000000000 ^ (Sp.cnt D-1)<=D*Sp.scl D/\D / 1000000000 ^ (Sp.cnt D-1)<1000000000:=by
 have hf:=Zag D
 have ht:D / 1000000000 ^ (Sp.cnt D-1)<1000000000:=ZbB (by rw [show Sp.cnt D-1+1=Sp.cnt D by omega];exact hf)
 have hnf:¬Sp.fits (Sp.cnt D-1) D:=fun k=>by have:=Zav.1 k;omega
 have hge:1000000000 ^ (Sp.cnt D-1)<=D:=by unfold Sp.fits at hnf;omega
 have ht1:0<D / 1000000000 ^ (Sp.cnt D-1):=Nat.div_pos hge (Nat.pow_pos (by omega))
 have hlt:D<1000000000 ^ (Sp.cnt D-1)*(D / 1000000000 ^ (Sp.cnt D-1)+1):=Nat.lt_mul_div_succ D (Nat.pow_pos (by omega))
 have hp:1000000000 ^ Sp.cnt D=1000000000 ^ (Sp.cnt D-1)*1000000000:=by rw [<- Nat.pow_succ];congr 1;omega
 have hs1:0<Sp.scl D:=Nat.div_pos (by omega) (by omega)
 have hs2:Sp.scl D*(D / 1000000000 ^ (Sp.cnt D-1)+1)<=1000000000:=Nat.div_mul_le_self _ _
 unfold Sp.fits
 rw [hp]
 generalize D / 1000000000 ^ (Sp.cnt D-1)=t at ht1 ht hlt hs2
 generalize 1000000000 ^ (Sp.cnt D-1)=P at hge hlt
 have hs3:Sp.scl D<1000000000:=by
  have:Sp.scl D*2<=Sp.scl D*(t+1):=Nat.mul_le_mul_left _ (by omega)
  omega
 generalize Sp.scl D=s at hs1 hs2 hs3
 refine ⟨hs1,hs3,?_,?_,ht⟩
 ·have h1:D*s<P*(t+1)*s:=Nat.mul_lt_mul_of_pos_right hlt hs1
  have h2:P*(t+1)*s=P*(s*(t+1)):=by grind
  have h3:P*(s*(t+1))<=P*1000000000:=Nat.mul_le_mul_left _ hs2
  omega
 ·have:D*1<=D*s:=Nat.mul_le_mul_left _ hs1
  omega
theorem Zf1 {V:Nat} (hV:V ≠ 0):1<=Sp.cnt V/\1<=V / 1000000000 ^ (Sp.cnt V-1)/\V / 1000000000 ^ (Sp.cnt V-1)<1000000000:=by
 have hm:1<=Sp.cnt V:=by
  have:=ZaC (v:=V)
  omega
 have hnf:¬Sp.fits (Sp.cnt V-1) V:=fun k=>by have:=Zav.1 k;omega
 have hge:1000000000 ^ (Sp.cnt V-1)<=V:=by unfold Sp.fits at hnf;omega
 exact ⟨hm,Nat.div_pos hge (Nat.pow_pos (by omega)),ZbB (by rw [show Sp.cnt V-1+1=Sp.cnt V by omega];exact Zag V)⟩
theorem fits_row {V R:Nat} (h:R<V*1000000000):Sp.fits (Sp.cnt V+1) R:=by
 have h1:=Zag V
 unfold Sp.fits at h1 ⊢
 rw [Nat.pow_succ]
 exact Nat.lt_of_lt_of_le h (Nat.mul_le_mul_right _ (Nat.le_of_lt h1))
theorem partsTail {V R2 T:Nat} {t:Int} {G:Nat->Int->Prop} (hV:V ≠ 0) (hc:Sp.cnt V<=400000) (hT:T=V / 1000000000 ^ (Sp.cnt V-1)) (ht:t=(T:Int)) (hR:R2<V*1000000000)
  (hG:∀ g:Nat,R2 / V<=g->g<1000000000->G (V*g) (g:Int)) :
   (((↑(Sp.lim R2).length:Int)>(↑(Sp.lim V).length:Int))->(0<=(↑(Sp.lim V).length:Int)) /\
    ((↑(Sp.lim V).length:Int).toNat<(Sp.lim R2).length) /\
    (0<=(Sp.lim R2).getD (↑(Sp.lim V).length:Int).toNat default/\(Sp.lim R2).getD (↑(Sp.lim V).length:Int).toNat default<=18446744073709551615) /\
    (0<=(Sp.lim R2).getD (↑(Sp.lim V).length:Int).toNat default*1000000000/\(Sp.lim R2).getD (↑(Sp.lim V).length:Int).toNat default*1000000000<=18446744073709551615) /\
    (((↑(Sp.lim R2).length:Int)>=(↑(Sp.lim V).length:Int))->(-9223372036854775808<=(↑(Sp.lim V).length:Int)-1/\(↑(Sp.lim V).length:Int)-1<=9223372036854775807) /\
     (0<=(↑(Sp.lim V).length:Int)-1) /\
     (((↑(Sp.lim V).length:Int)-1).toNat<(Sp.lim R2).length) /\
     (0<=(Sp.lim R2).getD ((↑(Sp.lim V).length:Int)-1).toNat default/\(Sp.lim R2).getD ((↑(Sp.lim V).length:Int)-1).toNat default<=18446744073709551615) /\
     (0<=(Sp.lim R2).getD (↑(Sp.lim V).length:Int).toNat default*1000000000+(Sp.lim R2).getD ((↑(Sp.lim V).length:Int)-1).toNat default/\(Sp.lim R2).getD (↑(Sp.lim V).length:Int).toNat default*1000000000+(Sp.lim R2).getD ((↑(Sp.lim V).length:Int)-1).toNat default<=18446744073709551615) /\
     (¬t=0) /\
     (0<=((Sp.lim R2).getD (↑(Sp.lim V).length:Int).toNat default*1000000000+(Sp.lim R2).getD ((↑(Sp.lim V).length:Int)-1).toNat default).tdiv t/\((Sp.lim R2).getD (↑(Sp.lim V).length:Int).toNat default*1000000000+(Sp.lim R2).getD ((↑(Sp.lim V).length:Int)-1).toNat default).tdiv t<=18446744073709551615) /\
     ((((Sp.lim R2).getD (↑(Sp.lim V).length:Int).toNat default*1000000000+(Sp.lim R2).getD ((↑(Sp.lim V).length:Int)-1).toNat default).tdiv t>999999999)->(Sp.okB (↑V:Int)/\Sp.dig 999999999) /\
      G (V*Int.toNat 999999999) 999999999) /\
     (¬(((Sp.lim R2).getD (↑(Sp.lim V).length:Int).toNat default*1000000000+(Sp.lim R2).getD ((↑(Sp.lim V).length:Int)-1).toNat default).tdiv t>999999999)->(0<=((Sp.lim R2).getD (↑(Sp.lim V).length:Int).toNat default*1000000000+(Sp.lim R2).getD ((↑(Sp.lim V).length:Int)-1).toNat default).tdiv t/\((Sp.lim R2).getD (↑(Sp.lim V).length:Int).toNat default*1000000000+(Sp.lim R2).getD ((↑(Sp.lim V).length:Int)-1).toNat default).tdiv t<=4294967295) /\
      (Sp.okB (↑V:Int)/\Sp.dig (((Sp.lim R2).getD (↑(Sp.lim V).length:Int).toNat default*1000000000+(Sp.lim R2).getD ((↑(Sp.lim V).length:Int)-1).toNat default).tdiv t)) /\
      G (V*(((Sp.lim R2).getD (↑(Sp.lim V).length:Int).toNat default*1000000000+(Sp.lim R2).getD ((↑(Sp.lim V).length:Int)-1).toNat default).tdiv t).toNat) (((Sp.lim R2).getD (↑(Sp.lim V).length:Int).toNat default*1000000000+(Sp.lim R2).getD ((↑(Sp.lim V).length:Int)-1).toNat default).tdiv t))) /\
    (¬((↑(Sp.lim R2).length:Int)>=(↑(Sp.lim V).length:Int))->(¬t=0) /\
     (0<=((Sp.lim R2).getD (↑(Sp.lim V).length:Int).toNat default*1000000000).tdiv t/\((Sp.lim R2).getD (↑(Sp.lim V).length:Int).toNat default*1000000000).tdiv t<=18446744073709551615) /\
     ((((Sp.lim R2).getD (↑(Sp.lim V).length:Int).toNat default*1000000000).tdiv t>999999999)->(Sp.okB (↑V:Int)/\Sp.dig 999999999) /\
      G (V*Int.toNat 999999999) 999999999) /\
     (¬(((Sp.lim R2).getD (↑(Sp.lim V).length:Int).toNat default*1000000000).tdiv t>999999999)->(0<=((Sp.lim R2).getD (↑(Sp.lim V).length:Int).toNat default*1000000000).tdiv t/\((Sp.lim R2).getD (↑(Sp.lim V).length:Int).toNat default*1000000000).tdiv t<=4294967295) /\
      (Sp.okB (↑V:Int)/\Sp.dig (((Sp.lim R2).getD (↑(Sp.lim V).length:Int).toNat default*1000000000).tdiv t)) /\
      G (V*(((Sp.lim R2).getD (↑(Sp.lim V).length:Int).toNat default*1000000000).tdiv t).toNat) (((Sp.lim R2).getD (↑(Sp.lim V).length:Int).toNat default*1000000000).tdiv t)))) /\
   (¬((↑(Sp.lim R2).length:Int)>(↑(Sp.lim V).length:Int))->(((↑(Sp.lim R2).length:Int)>=(↑(Sp.lim V).length:Int))->(-9223372036854775808<=(↑(Sp.lim V).length:Int)-1/\(↑(Sp.lim V).length:Int)-1<=9223372036854775807) /\
     (0<=(↑(Sp.lim V).length:Int)-1) /\
     (((↑(Sp.lim V).length:Int)-1).toNat<(Sp.lim R2).length) /\
     (0<=(Sp.lim R2).getD ((↑(Sp.lim V).length:Int)-1).toNat default/\(Sp.lim R2).getD ((↑(Sp.lim V).length:Int)-1).toNat default<=18446744073709551615) /\
     (0<=0+(Sp.lim R2).getD ((↑(Sp.lim V).length:Int)-1).toNat default/\0+(Sp.lim R2).getD ((↑(Sp.lim V).length:Int)-1).toNat default<=18446744073709551615) /\
     (¬t=0) /\
     (0<=(0+(Sp.lim R2).getD ((↑(Sp.lim V).length:Int)-1).toNat default).tdiv t/\(0+(Sp.lim R2).getD ((↑(Sp.lim V).length:Int)-1).toNat default).tdiv t<=18446744073709551615) /\
     (((0+(Sp.lim R2).getD ((↑(Sp.lim V).length:Int)-1).toNat default).tdiv t>999999999)->(Sp.okB (↑V:Int)/\Sp.dig 999999999) /\
      G (V*Int.toNat 999999999) 999999999) /\
     (¬((0+(Sp.lim R2).getD ((↑(Sp.lim V).length:Int)-1).toNat default).tdiv t>999999999)->(0<=(0+(Sp.lim R2).getD ((↑(Sp.lim V).length:Int)-1).toNat default).tdiv t/\(0+(Sp.lim R2).getD ((↑(Sp.lim V).length:Int)-1).toNat default).tdiv t<=4294967295) /\
      (Sp.okB (↑V:Int)/\Sp.dig ((0+(Sp.lim R2).getD ((↑(Sp.lim V).length:Int)-1).toNat default).tdiv t)) /\
      G (V*((0+(Sp.lim R2).getD ((↑(Sp.lim V).length:Int)-1).toNat default).tdiv t).toNat) ((0+(Sp.lim R2).getD ((↑(Sp.lim V).length:Int)-1).toNat default).tdiv t))) /\
    (¬((↑(Sp.lim R2).length:Int)>=(↑(Sp.lim V).length:Int))->(¬t=0) /\
     (0<=Int.tdiv 0 t/\Int.tdiv 0 t<=18446744073709551615) /\
     ((Int.tdiv 0 t>999999999)->(Sp.okB (↑V:Int)/\Sp.dig 999999999) /\
      G (V*Int.toNat 999999999) 999999999) /\
     (¬(Int.tdiv 0 t>999999999)->(0<=Int.tdiv 0 t/\Int.tdiv 0 t<=4294967295) /\
      (Sp.okB (↑V:Int)/\Sp.dig (Int.tdiv 0 t)) /\
      G (V*(Int.tdiv 0 t).toNat) (Int.tdiv 0 t)))):=by
 obtain ⟨hm,hT1,hTlt⟩:=Zf1 hV
 rw [<- hT] at hT1 hTlt
 have hqB:R2 / V<1000000000:=Nat.div_lt_of_lt_mul hR
 have hfR:Sp.fits (Sp.cnt V+1) R2:=fits_row hR
 have hcR:=Zav.1 hfR
 have hq:R2 / V<=R2 / 1000000000 ^ (Sp.cnt V-1) / T:=by
  rw [Nat.le_div_iff_mul_le hT1,Nat.le_div_iff_mul_le (Nat.pow_pos (by omega))]
  have h1:T*1000000000 ^ (Sp.cnt V-1)<=V:=by rw [hT];exact Nat.div_mul_le_self _ _
  have h2:=Nat.mul_le_mul_left (R2 / V) h1
  have h3:=Nat.div_mul_le_self R2 V
  rw [Nat.mul_assoc];omega
 have hsp:=ZaN R2 (Sp.cnt V-1)
 rw [show Sp.cnt V-1+1=Sp.cnt V by omega] at hsp
 have hd1:R2 / 1000000000 ^ Sp.cnt V<1000000000:=ZbB hfR
 have hd0:R2 / 1000000000 ^ (Sp.cnt V-1) % 1000000000<1000000000:=Nat.mod_lt _ (by omega)
 have e0:((Sp.cnt V:Int)-1).toNat=Sp.cnt V-1:=by omega
 have okV:Sp.okB (V:Int):=by unfold Sp.okB;rw [Int.natAbs_natCast];exact hc
 subst ht
 have hHb:R2 / 1000000000 ^ (Sp.cnt V-1)<=18446744073709551615:=by
  generalize R2 / 1000000000 ^ Sp.cnt V=d1 at hsp hd1
  omega
 have key:∀ x:Int,x=((R2 / 1000000000 ^ (Sp.cnt V-1):Nat):Int)->(¬(T:Int)=0)/\(0<=x.tdiv T/\x.tdiv T<=18446744073709551615) /\
   ((x.tdiv T>999999999)->(Sp.okB (V:Int)/\Sp.dig 999999999)/\G (V*Int.toNat 999999999) 999999999) /\
   (¬(x.tdiv T>999999999)->(0<=x.tdiv T/\x.tdiv T<=4294967295)/\(Sp.okB (V:Int)/\Sp.dig (x.tdiv T))/\G (V*(x.tdiv T).toNat) (x.tdiv T)):=by
  intro x hx
  have e:x.tdiv T=((R2 / 1000000000 ^ (Sp.cnt V-1) / T:Nat):Int):=by rw [hx];exact (Int.ofNat_tdiv _ _).symm
  have hb:R2 / 1000000000 ^ (Sp.cnt V-1) / T<=18446744073709551615:=Nat.le_trans (Nat.div_le_self _ _) hHb
  rw [e,Int.toNat_natCast]
  generalize R2 / 1000000000 ^ (Sp.cnt V-1) / T=z at hq hb
  refine ⟨by omega,by omega,fun _=>⟨⟨okV,by unfold Sp.dig;omega⟩,hG 999999999 (by omega) (by omega)⟩,fun h=>⟨by omega,⟨okV,by unfold Sp.dig;omega⟩,hG z hq (by omega)⟩⟩
 simp only [ZaG,Int.toNat_natCast,e0]
 refine ⟨fun h => ?_,fun h=>⟨fun h2 => ?_,fun h2 => ?_⟩⟩
 ·have g1:(Sp.lim R2).getD (Sp.cnt V) default=((R2 / 1000000000 ^ Sp.cnt V % 1000000000:Nat):Int):=Zaw R2 (show Sp.cnt V<Sp.cnt R2 by omega)
  have g0:(Sp.lim R2).getD (Sp.cnt V-1) default=((R2 / 1000000000 ^ (Sp.cnt V-1) % 1000000000:Nat):Int):=Zaw R2 (show Sp.cnt V-1<Sp.cnt R2 by omega)
  rw [g1,g0,Nat.mod_eq_of_lt hd1]
  have hx:((R2 / 1000000000 ^ Sp.cnt V:Nat):Int)*1000000000+((R2 / 1000000000 ^ (Sp.cnt V-1) % 1000000000:Nat):Int)=((R2 / 1000000000 ^ (Sp.cnt V-1):Nat):Int):=by
   generalize R2 / 1000000000 ^ Sp.cnt V=d1 at hsp hd1
   generalize R2 / 1000000000 ^ (Sp.cnt V-1)=d0 at hsp hd0
   omega
  have kk:=key _ hx
  generalize R2 / 1000000000 ^ Sp.cnt V=d1 at hd1 kk
  generalize R2 / 1000000000 ^ (Sp.cnt V-1) % 1000000000=d0 at hd0 kk
  exact ⟨by omega,by omega,by omega,by omega,fun _=>⟨by omega,by omega,by omega,by omega,by omega,kk⟩,fun h3=>absurd h (by omega)⟩
 ·have g0:(Sp.lim R2).getD (Sp.cnt V-1) default=((R2 / 1000000000 ^ (Sp.cnt V-1) % 1000000000:Nat):Int):=Zaw R2 (show Sp.cnt V-1<Sp.cnt R2 by omega)
  have hz:R2 / 1000000000 ^ Sp.cnt V=0:=ZaE (Zag R2) (by omega)
  rw [g0]
  have hx:0+((R2 / 1000000000 ^ (Sp.cnt V-1) % 1000000000:Nat):Int)=((R2 / 1000000000 ^ (Sp.cnt V-1):Nat):Int):=by
   rw [hz] at hsp
   generalize R2 / 1000000000 ^ (Sp.cnt V-1)=d0 at hsp hd0
   omega
  have kk:=key _ hx
  generalize R2 / 1000000000 ^ (Sp.cnt V-1) % 1000000000=d0 at hd0 kk
  exact ⟨by omega,by omega,by omega,by omega,by omega,kk⟩
 ·have hz:R2 / 1000000000 ^ (Sp.cnt V-1)=0:=ZaE (Zag R2) (by omega)
  exact key 0 (by rw [hz];rfl)
theorem rloopG {V U R2 n:Nat} {s t i:Int} {o:List Int} {dq:AV} (hV:V ≠ 0) (hc:Sp.cnt V<=400000) (hR:R2<V*1000000000) (hi:0<=i/\i.toNat<n/\i.toNat<o.length/\i<=9000000)
  (hn:ZbU V U s t (i-1) n (o.set i.toNat ((R2 / V:Nat):Int)) (R2 % V) (Zad dq)) :
  ∀ (k g:Nat),g=R2 / V+k->g<1000000000->Za1 V U s t i n o R2 (V*g) (g:Int) (Zad dq):=by
 have hqm:=Nat.div_add_mod R2 V
 have hml:=Nat.mod_lt R2 (Nat.pos_of_ne_zero hV)
 have hcR:Sp.cnt R2<=Sp.cnt V+1:=Zav.1 (fits_row hR)
 generalize R2 / V=q at hn hqm ⊢
 generalize R2 % V=r at hn hqm hml
 have hcp:∀ g,g<1000000000->Sp.cnt (V*g)<=Sp.cnt V+1:=fun g hg=>Zav.1 (Zc5 (Zag V) (by unfold Sp.fits;omega))
 intro k
 induction k with
 | zero =>
  intro g hg hlt
  have hg:g=q:=by omega
  subst hg
  have e:R2-V*g=r:=by omega
  have hcp:=hcp _ hlt
  refine rPartsG _ _ _ _ _ _ _ _ _ _ _ ⟨⟨by unfold Sp.Zay;omega,by unfold Sp.Zay;omega⟩,fun h => ?_,fun h=>⟨⟨by unfold Sp.Zay;omega,by omega⟩,hi.1,hi.2.1,by omega,by omega,by omega,?_⟩⟩
  ·exfalso
   have:¬(((V*g:Nat):Int)-(R2:Int)>0):=by omega
   unfold Sp.sgnI at h
   (repeat' split at h) <;> omega
  ·rw [Nat.zero_add,e];exact hn
 | succ k ih =>
  intro g hg hlt
  have hgt:R2<V*g:=by
   have:V*(q+1)<=V*g:=Nat.mul_le_mul_left _ (by omega)
   rw [Nat.mul_succ] at this;omega
  have hcp:=hcp _ hlt
  have hVg:V<=V*g:=Nat.le_mul_of_pos_right _ (by omega)
  have e:V*g-V=V*(g-1):=by
   rw [Nat.mul_sub];simp
  refine rPartsG _ _ _ _ _ _ _ _ _ _ _ ⟨⟨by unfold Sp.Zay;omega,by unfold Sp.Zay;omega⟩,fun h=>⟨by omega,⟨by unfold Sp.Zay;omega,hVg⟩,?_⟩,fun h => ?_⟩
  ·rw [e,show (g:Int)-1=((g-1:Nat):Int) by omega]
   exact ih (g-1) (by omega) (by omega)
  ·exfalso
   unfold Sp.sgnI at h
   (repeat' split at h) <;> omega
end Go.Av

namespace Go.Av
open Go.Proofs
theorem loopLR {R s n Q:Nat} {o:List Int} (hs:0<s/\s<1000000000) (ho:o.take n=Sp.Zaq n Q) (hQ:Sp.fits n Q) (hn:n<=1000000) (hR:Sp.cnt R<=1000000):∀ (i k:Nat) (l:List Int),i+k=Sp.cnt R->l.length=Sp.cnt R->l.drop i=Sp.Zaq k (R / 1000000000 ^ i / s) ->
  Zcv R s ((R / 1000000000 ^ i % s:Nat):Int) ((i:Int)-1) n o l (Zad (.tup [usA false (Sp.lim Q),usA false (Sp.lim (R / s))]))
 | 0,k,l,hi,hol,hl=>by
  have hk:k=Sp.cnt R:=by omega
  subst hk
  rw [List.drop_zero] at hl
  simp only [Nat.pow_zero,Nat.div_one] at hl ⊢
  refine rPartsL _ _ _ _ _ _ _ _ ⟨fun h=>by omega,fun _ => ?_⟩
  rw [List.drop_zero,ho,hl,Zal,Zal,ZbS hQ,ZbS (ZcG (Zag R) (Nat.div_le_self _ _))]
  exact ⟨hn,hR,.refl _⟩
 | i+1,k,l,hi,hol,hl=>by
  have gx:(Sp.lim R).getD i default=((R / 1000000000 ^ i % 1000000000:Nat):Int):=Zaw R (show i<Sp.cnt R by omega)
  have e1:(((i+1:Nat):Int)-1)=(i:Nat):=by omega
  have hsp:=ZaN R i
  have hx:R / 1000000000 ^ i % 1000000000<1000000000:=Nat.mod_lt _ (by omega)
  obtain ⟨b1,b2,b3⟩:=ZcI (R / 1000000000 ^ (i+1)) (R / 1000000000 ^ i % 1000000000) s hx hs.1
  have hs':R / 1000000000 ^ i % 1000000000+1000000000*(R / 1000000000 ^ (i+1))=R / 1000000000 ^ i:=by omega
  rw [hs'] at b1 b2
  have hr:=Nat.mod_lt (R / 1000000000 ^ (i+1)) hs.1
  rw [e1]
  refine rPartsL _ _ _ _ _ _ _ _ ⟨fun _ => ?_,fun h=>by omega⟩
  rw [Int.toNat_natCast,gx,ZaG]
  have c1:((R / 1000000000 ^ (i+1) % s:Nat):Int)*1000000000+((R / 1000000000 ^ i % 1000000000:Nat):Int)=((R / 1000000000 ^ (i+1) % s*1000000000+R / 1000000000 ^ i % 1000000000:Nat):Int):=by omega
  obtain ⟨q0,hq0⟩:∃ q0,q0=(R / 1000000000 ^ (i+1) % s*1000000000+R / 1000000000 ^ i % 1000000000) / s:=⟨_,rfl⟩
  have c2:(((R / 1000000000 ^ (i+1) % s*1000000000+R / 1000000000 ^ i % 1000000000:Nat):Int)).tdiv s=(q0:Nat):=by rw [hq0];exact (Int.ofNat_tdiv _ _).symm
  have c3:(((R / 1000000000 ^ (i+1) % s*1000000000+R / 1000000000 ^ i % 1000000000:Nat):Int)).tmod s=((R / 1000000000 ^ i % s:Nat):Int):=by rw [b2];exact (Int.ofNat_tmod _ _).symm
  rw [<- hq0] at b1 b3
  rw [c1,c2,c3]
  have main:Zcv R s ((R / 1000000000 ^ i % s:Nat):Int) ((i:Int)-1) n o (l.set i (q0:Nat)) (Zad (.tup [usA false (Sp.lim Q),usA false (Sp.lim (R / s))])):=by
   refine loopLR hs ho hQ hn hR i (k+1) _ (by omega) (by simpa using hol) ?_
   rw [Zcp (by omega),hl,Zaz,b1]
   generalize R / 1000000000 ^ (i+1) / s=z
   have e2:(1000000000*z+q0) % 1000000000=q0:=by omega
   have e3:(1000000000*z+q0) / 1000000000=z:=by omega
   rw [e2,e3]
  have hx':((R / 1000000000 ^ i % 1000000000:Nat):Int)<1000000000:=by omega
  have hr':R / 1000000000 ^ (i+1) % s<1000000000:=by omega
  generalize R / 1000000000 ^ (i+1) % s=X at hr' main ⊢
  generalize R / 1000000000 ^ i % 1000000000=Y at hx' main ⊢
  exact ⟨by omega,by omega,by omega,by omega,by omega,by omega,by omega,by omega,by omega,by omega,by omega,main⟩
theorem stepH {V U s j n:Nat} {t:Int} {o:List Int} {dq:AV} (hV:V ≠ 0) (hc:Sp.cnt V<=400000) (hn:n=Sp.cnt U) (hU:n<=500000) (ht:t=((V / 1000000000 ^ (Sp.cnt V-1):Nat):Int)) (hj:j<n) (hol:n<=o.length)
  (ih:ZbU V U s t ((j:Int)-1) n (o.set j ((U / 1000000000 ^ j % 1000000000+1000000000*(U / 1000000000 ^ (j+1) % V)) / V:Nat)) (U / 1000000000 ^ j % V) (Zad dq)) :
  (U / 1000000000 ^ (j+1) % V=0->Zdb V U s t j n o (Zad dq)/\ZcE V U s t j n o (Zad dq)) /\
  (∀ c l,Sp.lim (U / 1000000000 ^ (j+1) % V)=c::l->ZdV V U s t j n o c l (Zad dq)):=by
 subst hn
 have gx:(Sp.lim U).getD j default=((U / 1000000000 ^ j % 1000000000:Nat):Int):=Zaw U hj
 have hx:U / 1000000000 ^ j % 1000000000<1000000000:=Nat.mod_lt _ (by omega)
 have hsp:=ZaN U j
 have hs':U / 1000000000 ^ j % 1000000000+1000000000*(U / 1000000000 ^ (j+1))=U / 1000000000 ^ j:=by omega
 obtain ⟨b1,b2,b3⟩:=ZcI (U / 1000000000 ^ (j+1)) (U / 1000000000 ^ j % 1000000000) V hx (Nat.pos_of_ne_zero hV)
 rw [hs'] at b2
 have hr:=Nat.mod_lt (U / 1000000000 ^ (j+1)) (Nat.pos_of_ne_zero hV)
 rw [b2] at ih
 generalize U / 1000000000 ^ (j+1) % V=R at hr ih b3 ⊢
 generalize U / 1000000000 ^ j % 1000000000=x at hx gx ih b3
 have e2:R*1000000000+x=x+1000000000*R:=by omega
 rw [e2] at ih b3
 have hlu:=ZaG U
 have hR2:x+1000000000*R<V*1000000000:=by omega
 have tl:=partsTail (G:=fun p g=>Za1 V U s t j (Sp.cnt U) o (x+1000000000*R) p g (Zad dq)) (R2:=x+1000000000*R) hV hc rfl ht hR2
  (fun g hg hlt=>rloopG (i:=(j:Int)) hV hc hR2 ⟨by omega,by omega,by omega,by omega⟩ (by rw [Int.toNat_natCast];exact ih) (g-(x+1000000000*R) / V) g (by omega) hlt)
 have one:R=0->Ev M1 (.pure 99 [.vec true 1 [.int .u32 ((Sp.lim U).getD (j:Int).toNat default)]]) (usA false (Sp.lim (x+1000000000*R))) []:=by
  intro h0
  have:=rtrimN true 1 x ⟨by unfold Sp.Zay;omega,by unfold Sp.fits;omega⟩
  rw [h0,Int.toNat_natCast,gx]
  rw [Zd2 hx] at this
  exact this
 refine ⟨fun h0=>⟨?_,?_⟩,fun c l hcl => ?_⟩
 ·exact rPartsAE _ _ _ _ _ _ _ (x+1000000000*R) _ ⟨fun _=>⟨one h0,by omega,by omega,rPartsB _ _ _ _ _ _ _ _ _ tl⟩,fun h=>absurd h (by omega)⟩
 ·exact rPartsA0 _ _ _ _ _ _ _ (x+1000000000*R) _ ⟨fun _=>⟨one h0,by omega,by omega,rPartsB _ _ _ _ _ _ _ _ _ tl⟩,fun h=>absurd h (by omega)⟩
 ·have hcR:Sp.cnt R<=Sp.cnt V:=ZaQ (Nat.le_of_lt hr)
  have ev:=ev99_c false (x:Int) R ⟨by omega,by omega,by omega⟩
  rw [Int.toNat_natCast,hcl,<- gx] at ev
  have hll:=ZaG R
  rw [hcl] at hll
  simp only [List.length_cons] at hll
  refine rPartsA _ _ _ _ _ _ _ _ _ (x+1000000000*R) _ ⟨fun _=>⟨?_,by omega,by omega,by omega,rPartsB _ _ _ _ _ _ _ _ _ tl⟩,fun h=>absurd h (by omega)⟩
  rw [Int.toNat_natCast];exact ev
theorem Zet {o:List Int} {j n:Nat} {d:Int} (hj:j<n) (hn:n<=o.length):((o.set j d).take n).drop j=d::(o.take n).drop (j+1):=by
 rw [List.take_set,Zcp (by simp;omega)]
theorem loopHR {V U s n:Nat} {t:Int} (hV:V ≠ 0) (hc:Sp.cnt V<=400000) (hn:n=Sp.cnt U) (hU:n<=500000) (ht:t=((V / 1000000000 ^ (Sp.cnt V-1):Nat):Int)) (hs:0<s/\s<1000000000):∀ (j:Nat) (o:List Int),j<=n->n<=o.length ->
  (o.take n).drop j=Sp.Zaq (n-j) (U / 1000000000 ^ j / V)->ZbU V U s t ((j:Int)-1) n o (U / 1000000000 ^ j % V) (Zad (.tup [usA false (Sp.lim (U / V)),usA false (Sp.lim (U % V / s))]))
 | 0,o,hj,hol,ho=>by
  simp only [Nat.pow_zero,Nat.div_one,List.drop_zero,Nat.sub_zero] at ho ⊢
  have hm:=Nat.mod_lt U (Nat.pos_of_ne_zero hV)
  have hcR:Sp.cnt (U % V)<=Sp.cnt V:=ZaQ (Nat.le_of_lt hm)
  have hfQ:Sp.fits n (U / V):=by rw [hn];exact ZcG (Zag U) (Nat.div_le_self _ _)
  refine rPartsH _ _ _ _ _ _ _ _ _ ⟨fun h=>by omega,fun _ => ?_⟩
  rw [ZaG,Int.toNat_natCast]
  refine ⟨by omega,by omega,by omega,by omega,?_⟩
  have:=loopLR (R:=U % V) (s:=s) (o:=o) hs ho hfQ (by omega) (by omega) (Sp.cnt (U % V)) 0 (List.replicate (Sp.cnt (U % V)) 0) (by omega) (by simp) (by simp [Sp.Zaq])
  rw [ZaE (Zag (U % V)) (Nat.le_refl _),Nat.zero_mod] at this
  exact this
 | j+1,o,hj,hol,ho=>by
  have hx:U / 1000000000 ^ j % 1000000000<1000000000:=Nat.mod_lt _ (by omega)
  have hsp:=ZaN U j
  have hs':U / 1000000000 ^ j % 1000000000+1000000000*(U / 1000000000 ^ (j+1))=U / 1000000000 ^ j:=by omega
  obtain ⟨b1,b2,b3⟩:=ZcI (U / 1000000000 ^ (j+1)) (U / 1000000000 ^ j % 1000000000) V hx (Nat.pos_of_ne_zero hV)
  rw [hs'] at b1
  have e2:U / 1000000000 ^ (j+1) % V*1000000000+U / 1000000000 ^ j % 1000000000=U / 1000000000 ^ j % 1000000000+1000000000*(U / 1000000000 ^ (j+1) % V):=by omega
  rw [e2] at b1 b3
  have ih:=loopHR hV hc hn hU ht hs j (o.set j ((U / 1000000000 ^ j % 1000000000+1000000000*(U / 1000000000 ^ (j+1) % V)) / V:Nat)) (by omega) (by simpa using hol) (by
   rw [Zet (by omega) hol,ho,show n-j=(n-(j+1))+1 by omega,Zaz,b1]
   generalize U / 1000000000 ^ (j+1) / V=z
   generalize (U / 1000000000 ^ j % 1000000000+1000000000*(U / 1000000000 ^ (j+1) % V)) / V=q0 at b3
   have e2:(1000000000*z+q0) % 1000000000=q0:=by omega
   have e3:(1000000000*z+q0) / 1000000000=z:=by omega
   rw [e2,e3])
  obtain ⟨k1,k2⟩:=stepH (s:=s) hV hc hn hU ht (show j<n by omega) hol ih
  rw [show (((j+1:Nat):Int)-1)=(j:Nat) by omega]
  by_cases h0:U / 1000000000 ^ (j+1) % V=0
  ·have:=(k1 h0).1
   unfold Zdb at this
   unfold ZbU
   rw [h0,Zco];exact this
  ·have hne:Sp.lim (U / 1000000000 ^ (j+1) % V) ≠ []:=by
    intro e
    have:=ZaG (U / 1000000000 ^ (j+1) % V)
    rw [e] at this
    exact h0 (ZaC.1 this.symm)
   obtain ⟨c,l,hcl⟩:=List.exists_cons_of_ne_nil hne
   have:=k2 c l hcl
   unfold ZdV at this
   rw [<- hcl] at this
   exact this
end Go.Av

namespace Go.Av
open Go.Proofs
theorem partsN (fa fb:Bool) (A D:Nat) (hD:D ≠ 0) (hA:Sp.cnt A<=399000) (hd:Sp.cnt D<=399000):Ev M1 (.pure 100 [usA fa (Sp.lim A),usA fb (Sp.lim D)]) (.tup [usA false (Sp.lim (A / D)),usA false (Sp.lim (A % D))]) []:=by
 obtain ⟨m1,m2,m3⟩:=Zf1 hD
 obtain ⟨s1,s2,s3,s4,s5⟩:=scl_facts1 m1
 refine call100 (rParts _ _ _ _ _ ⟨fun h => ?_,fun h => ?_⟩)
 ·rw [ZaG,ZaG] at h
  have f1:=ZaW (Zag A) (show Sp.cnt A<=2 by omega)
  have hA2:A<1000000000000000000:=by unfold Sp.fits at f1;simpa using f1
  have f2:=ZaW (Zag D) (show Sp.cnt D<=2 by omega)
  have hD2:D<1000000000000000000:=by unfold Sp.fits at f2;simpa using f2
  have c1:(A:Int).tdiv D=((A / D:Nat):Int):=(Int.ofNat_tdiv _ _).symm
  have c2:(A:Int).tmod D=((A % D:Nat):Int):=(Int.ofNat_tmod _ _).symm
  have d1:=Nat.div_le_self A D
  have d2:=Nat.mod_lt A (Nat.pos_of_ne_zero hD)
  rw [c1,c2,Int.toNat_natCast,Int.toNat_natCast]
  exact ⟨by omega,by omega,le8 (by omega),le8 (by omega),by omega,.refl _⟩
 ·have e0:((Sp.cnt D:Int)-1).toNat=Sp.cnt D-1:=by omega
  have gD:(Sp.lim D).getD (Sp.cnt D-1) default=((D / 1000000000 ^ (Sp.cnt D-1):Nat):Int):=by
   have:=Zaw (n:=Sp.cnt D) D (show Sp.cnt D-1<Sp.cnt D by omega)
   rw [Nat.mod_eq_of_lt s5] at this
   exact this
  have hs:Int.tdiv 1000000000 ((Sp.lim D).getD (Sp.cnt D-1) default+1)=(Sp.scl D:Int):=by
   rw [gD]
   unfold Sp.scl
   generalize D / 1000000000 ^ (Sp.cnt D-1)=t
   have:((t:Int)+1)=((t+1:Nat):Int):=by omega
   rw [this]
   exact (Int.ofNat_tdiv 1000000000 (t+1)).symm
  have hV:D*Sp.scl D ≠ 0:=Nat.mul_ne_zero hD (by omega)
  obtain ⟨v1,v2,v3⟩:=Zf1 hV
  have hcV:Sp.cnt (D*Sp.scl D)<=Sp.cnt D:=Zav.1 s3
  have f1:Sp.fits 1 (Sp.scl D):=by unfold Sp.fits;omega
  have hcU:Sp.cnt (A*Sp.scl D)<=Sp.cnt A+1:=Zav.1 (Zc5 (Zag A) f1)
  have e1:((Sp.cnt (D*Sp.scl D):Int)-1).toNat=Sp.cnt (D*Sp.scl D)-1:=by omega
  have gV:(Sp.lim (D*Sp.scl D)).getD (Sp.cnt (D*Sp.scl D)-1) default=((D*Sp.scl D / 1000000000 ^ (Sp.cnt (D*Sp.scl D)-1):Nat):Int):=by
   have:=Zaw (n:=Sp.cnt (D*Sp.scl D)) (D*Sp.scl D) (show Sp.cnt (D*Sp.scl D)-1<Sp.cnt (D*Sp.scl D) by omega)
   rw [Nat.mod_eq_of_lt v3] at this
   exact this
  have okD:Sp.okB (D:Int):=by unfold Sp.okB;rw [Int.natAbs_natCast];omega
  have okA:Sp.okB (A:Int):=by unfold Sp.okB;rw [Int.natAbs_natCast];omega
  have dg:Sp.dig (Sp.scl D:Int):=by unfold Sp.dig;omega
  obtain ⟨q1,q2⟩:=ZgO (A:=A) (D:=D) s1
  simp only [ZaG,e0,hs,Int.toNat_natCast,e1,gV,Nat.sub_zero]
  have go:ZcE (D*Sp.scl D) (A*Sp.scl D) (Sp.scl D:Int) ((D*Sp.scl D / 1000000000 ^ (Sp.cnt (D*Sp.scl D)-1):Nat):Int) ((Sp.cnt (A*Sp.scl D):Int)-1) (Sp.cnt (A*Sp.scl D)) (List.replicate ((Sp.cnt A:Int)+1).toNat 0) (Zad (.tup [usA false (Sp.lim (A / D)),usA false (Sp.lim (A % D))])):=by
   have eL:((Sp.cnt A:Int)+1).toNat=Sp.cnt A+1:=by omega
   rw [eL]
   by_cases hz:Sp.cnt (A*Sp.scl D)=0
   ·have hU:=ZaC.1 hz
    have hA0:A=0:=by
     rcases Nat.mul_eq_zero.1 hU with h | h
     ·exact h
     ·omega
    subst hA0
    rw [hz]
    have l0:Sp.lim 0=[]:=Zco
    have tr:=rtrimN false 0 0 ⟨by unfold Sp.Zay;omega,Za6.2 rfl⟩
    rw [l0] at tr
    refine rPartsA0 _ _ _ _ _ _ _ 0 _ ⟨fun h=>by omega,fun _=>rPartsL0 _ _ _ _ ⟨by simp [Sp.Zay],[],tr,?_⟩⟩
    rw [Nat.zero_div,Nat.zero_mod,l0]
    exact .refl _
   ·obtain ⟨j,hj⟩:∃ j,Sp.cnt (A*Sp.scl D)=j+1:=⟨Sp.cnt (A*Sp.scl D)-1,by omega⟩
    have hn:j+1=Sp.cnt (A*Sp.scl D):=hj.symm
    have hc1:Sp.cnt (D*Sp.scl D)<=400000:=by omega
    have hU5:j+1<=500000:=by omega
    have hj0:j<=j+1:=by omega
    have hj1:j<j+1:=by omega
    have hol:j+1<=(List.replicate (Sp.cnt A+1) (0:Int)).length:=by simp;omega
    have hzero:A*Sp.scl D / 1000000000 ^ (j+1)=0:=ZaE (Zag _) (by omega)
    have hx:A*Sp.scl D / 1000000000 ^ j % 1000000000<1000000000:=Nat.mod_lt _ (by omega)
    obtain ⟨b1,b2,b3⟩:=ZcI (A*Sp.scl D / 1000000000 ^ (j+1)) (A*Sp.scl D / 1000000000 ^ j % 1000000000) (D*Sp.scl D) hx (Nat.pos_of_ne_zero hV)
    have hsp:=ZaN (A*Sp.scl D) j
    have hs':A*Sp.scl D / 1000000000 ^ j % 1000000000+1000000000*(A*Sp.scl D / 1000000000 ^ (j+1))=A*Sp.scl D / 1000000000 ^ j:=by omega
    have ih:=loopHR (V:=D*Sp.scl D) (U:=A*Sp.scl D) (s:=Sp.scl D) hV hc1 hn hU5 rfl ⟨s1,s2⟩ j ((List.replicate (Sp.cnt A+1) (0:Int)).set j ((A*Sp.scl D / 1000000000 ^ j % 1000000000+1000000000*(A*Sp.scl D / 1000000000 ^ (j+1) % (D*Sp.scl D))) / (D*Sp.scl D):Nat)) hj0 (by simpa using hol) (by
     rw [Zet hj1 hol,show j+1-j=0+1 by omega,Zaz,List.drop_of_length_le (by simp;omega)]
     rw [hs'] at b1
     rw [hzero] at b1 b3 ⊢
     rw [Nat.zero_div,Nat.zero_mod] at b1
     rw [Nat.zero_mod] at b3 ⊢
     rw [b1]
     have e5:0*1000000000+A*Sp.scl D / 1000000000 ^ j % 1000000000=A*Sp.scl D / 1000000000 ^ j % 1000000000+1000000000*0:=by simp only [Nat.zero_mul,Nat.mul_zero,Nat.zero_add,Nat.add_zero]
     rw [e5] at b3 ⊢
     rw [Nat.mul_zero,Nat.zero_add,Nat.mod_eq_of_lt b3];rfl)
    obtain ⟨k1,_⟩:=stepH (s:=Sp.scl D) hV hc1 hn hU5 rfl hj1 hol ih
    have:=(k1 (by rw [hzero,Nat.zero_mod])).2
    rw [q1,q2] at this
    rw [hj,show (((j+1:Nat):Int)-1)=(j:Nat) by omega]
    exact this
  have hscl:(Sp.scl D:Int)<=4294967295:=by omega
  have hb1:D / 1000000000 ^ (Sp.cnt D-1)<1000000000:=s5
  rw [gD]
  generalize D / 1000000000 ^ (Sp.cnt D-1)=T at hb1 ⊢
  generalize D*Sp.scl D / 1000000000 ^ (Sp.cnt (D*Sp.scl D)-1)=T2 at v3 go ⊢
  exact ⟨by omega,by omega,by omega,by omega,by omega,by omega,by omega,by omega,⟨okD,dg⟩,by omega,by omega,by omega,by omega,by omega,by omega,by omega,by omega,⟨okA,dg⟩,by omega,by omega,by rw [List.length_replicate];omega,by omega,go⟩
theorem ev100 (fa fb:Bool) (A D:Nat) (h:Sp.cnt A<=399000/\Sp.cnt D<=399000/\D ≠ 0):Ev M1 (.pure 100 [usA fa (Sp.lim A),usA fb (Sp.lim D)]) (.tup [usA false (Sp.lim (A / D)),usA false (Sp.lim (A % D))]) []:=partsN fa fb A D h.2.2 h.1 h.2.1
theorem ev100_a (fa fb:Bool) (v w:Int) (h:Sp.cnt v.natAbs<=399000/\Sp.cnt w.natAbs<=399000/\w ≠ 0):Ev M1 (.pure 100 [usA fa (Sp.Zau v),usA fb (Sp.Zau w)]) (.tup [usA false (Sp.lim (v.natAbs / w.natAbs)),usA false (Sp.lim (v.natAbs % w.natAbs))]) []:=partsN fa fb _ _ (by have:=h.2.2;omega) h.1 h.2.1
end Go.Av

namespace Go.Av
open Go.Proofs
set_option maxRecDepth 100000
def fi74:Fi:=⟨54,[.cell 4 28]⟩
def kp74:List (Nat × List Nat):=[(0,[2,3,4]),(1,[4,5,6]),(2,[4,5,6,27]),(3,[4,6,8]),(4,[4,5,6]),(5,[4,5,6,38]),(6,[4]),(7,[4,9,10]),(8,[4,9,10,46]),(9,[4,9,10]),(10,[4])]
def fi88:Fi:=⟨54,[.cell 4 28,.cell 5 28,.tmp 6]⟩
def kp88:List (Nat × List Nat):=[(0,[2,3,4,5]),(1,[2,3,4,5,14]),(2,[4,5,6]),(3,[2,3,4,5,7,8]),(4,[2,3,4,5,8,9,10]),(5,[3,4,5,9,10,45]),(6,[4,5,9,10]),(7,[4,5,6])]
def Zhm (fa fb:Bool) (a b:Int) (Q:AV->Heap->Prop):Prop:=Wp M1 (.run fi88 (atC (cd Try.f88) []) [(0,bigA fa a),(1,bigA fb b)] []) Q
def rGCD_at (fa fb:Bool) (a b:Int) (Q:AV->Heap->Prop):Prop:=Wp M1 (.run fi74 (atC (cd Try.f74) []) [(0,bigA fa a),(1,bigA fb b)] []) Q
def ZfG (fx fy:Bool) (x y:Nat) (Q:AV->Heap->Prop):Prop:=Wp M1 (.run fi74 (atC (cd Try.f74) [1,1,0,0,0]) [(4,.ptr 0 0 0 0),(5,.vec fx 1 ((Sp.lim x).map (.int .u32))),(6,.vec fy 1 ((Sp.lim y).map (.int .u32)))] [⟨[.agg [.bool false,.vnil]],2,0,false,false⟩]) Q
def ZdW (u v:Int) (Q:AV->Heap->Prop):Prop:=Wp M1 (.run fi74 (atC (cd Try.f74) [1,1,1,1,1,0,0,0]) [(4,.ptr 0 0 0 0),(9,.int .u64 u),(10,.int .u64 v)] [⟨[.agg [.bool false,.vnil]],2,0,false,false⟩]) Q
theorem call74 {args:List AV} {d:AV} (h:wc M1 fi74 Try.f74 args d):Ev M1 (.pure 74 args) d []:=pcl _ _ (by kernel_rfl) h
theorem call88 {args:List AV} {d:AV} (h:wc M1 fi88 Try.f88 args d):Ev M1 (.pure 88 args) d []:=pcl _ _ (by kernel_rfl) h
noncomputable abbrev zNwE1 (a:Int) (b:Int):=Sp.sg (!Sp.Zaf a==Sp.Zaf b) (a.natAbs / b.natAbs)
noncomputable abbrev zNwE2 (a:Int) (b:Int):=tu [vf (us (Sp.lim (a.natAbs / b.natAbs))),vf (us (Sp.lim (a.natAbs % b.natAbs)))]
theorem rDivMod (fa fb:Bool) (a b:Int)  (dq:AV) (H :
  (((↑(Sp.Zau b).length:Int)=0)->Weak (tu [ag [vb false,AV.vnil],ag [vb false,AV.vnil],vi 6]) dq) /\
  (¬((↑(Sp.Zau b).length:Int)=0)->(Sp.cnt a.natAbs<=399000/\Sp.cnt b.natAbs<=399000/\b ≠ 0) /\
   (Sp.Zay (Sp.cnt (a.natAbs / b.natAbs))) /\
   (Sp.Zay (Sp.cnt (a.natAbs % b.natAbs))) /\
   ((((↑(Sp.lim (a.natAbs % b.natAbs)).length:Int)>0)/\(¬(Sp.Zaf a=Sp.Zaf b)))->(Sp.inI 1) /\
    (Sp.okB (Sp.sg (!Sp.Zaf a==Sp.Zaf b) (a.natAbs / b.natAbs))) /\
    (Sp.okB (Sp.sg (Sp.Zaf a) (a.natAbs % b.natAbs))/\Sp.okB b) /\
    Weak (tu [bigA false (Sp.sg (!Sp.Zaf a==Sp.Zaf b) (a.natAbs / b.natAbs)-1),bigA false (Sp.sg (Sp.Zaf a) (a.natAbs % b.natAbs)+b),vi 0]) dq) /\
   (¬(((↑(Sp.lim (a.natAbs % b.natAbs)).length:Int)>0)/\(¬(Sp.Zaf a=Sp.Zaf b)))->Weak (tu [bigA false (Sp.sg (!Sp.Zaf a==Sp.Zaf b) (a.natAbs / b.natAbs)),bigA false (Sp.sg (Sp.Zaf a) (a.natAbs % b.natAbs)),vi 0]) dq))) :
 Zhm fa fb a b (Zad dq):=by
 unfold Zhm
 have w1:(us (Sp.Zau b)).length=(Sp.Zau b).length:=List.length_map ..
 have i2:((↑(us (Sp.Zau b)).length:Int)==0)=true ↔ ((↑(Sp.Zau b).length:Int)=0):=(by (try rw [w1]);all_goals exact i_eq)
 rcases xq H with ⟨d3,H⟩|⟨d3,H⟩
 ·exact Zai (G:=Zab kp88 [] []) 1000 [true] (tu [ag [vb false,AV.vnil],ag [vb false,AV.vnil],vi 6]) (by kernel_rfl) (bc rfl (bc (Zak (i2.2 d3)) (bc rfl (bc rfl b0)))) q0 c0 H
 ·obtain ⟨k4,k5,k6,H⟩:=H
  refine Zac (G:=Zab kp88 [(3,4,.call (zNwE2 a b) none),(4,6,.call (bigA false (zNwE1 a b)) none),(4,10,.call (bigA false (Sp.sg (Sp.Zaf a) (a.natAbs % b.natAbs))) none)] []) 10 [false] ⟨(atC (cd Try.f88) [1,1,1,0]),[(2,AV.ptr 0 0 0 0),(3,AV.ptr 1 0 0 0),(4,AV.ptr 2 0 0 0),(5,AV.ptr 3 0 0 0),(7,vf (us (Sp.lim (a.natAbs / b.natAbs)))),(8,vf (us (Sp.lim (a.natAbs % b.natAbs))))],[⟨[bigA fa a],2,0,false,false⟩,⟨[bigA fb b],2,0,false,false⟩,⟨[ag [vb false,AV.vnil]],2,0,false,false⟩,⟨[ag [vb false,AV.vnil]],2,0,false,false⟩],_,[],_⟩ (by kernel_rfl) (bc rfl (bc (Zah (fun h=>d3 (i2.1 h))) (bc rfl (bc rfl b0)))) q0 (ce (@ev100_a fa fb a b k4) c0) (wp_both (G:=Zab kp88 [(3,4,.call (zNwE2 a b) none),(4,6,.call (bigA false (zNwE1 a b)) none),(4,10,.call (bigA false (Sp.sg (Sp.Zaf a) (a.natAbs % b.natAbs))) none)] []) [0,1,2,3,5,4] 11 (e1:=[(2,AV.ptr 0 0 0 0),(3,AV.ptr 1 0 0 0),(4,AV.ptr 2 0 0 0),(5,AV.ptr 3 0 0 0),(8,vf (us (Sp.lim (a.natAbs % b.natAbs)))),(9,AV.ptr 4 0 0 0),(10,AV.ptr 5 0 0 0)]) (L1:=[⟨[bigA fa a],2,0,false,false⟩,⟨[bigA fb b],2,0,false,false⟩,⟨[ag [vb false,AV.vnil]],2,0,false,false⟩,⟨[ag [vb false,AV.vnil]],2,0,false,false⟩,⟨[bigA false (zNwE1 a b)],2,0,false,false⟩,⟨[bigA false (Sp.sg (Sp.Zaf a) (a.natAbs % b.natAbs))],2,0,false,false⟩]) (a:=[true,true,true,true,true]) (q:=[]) (cs:=[⟨true,false,87,[vb !Sp.Zaf a==Sp.Zaf b,vf (us (Sp.lim (a.natAbs / b.natAbs)))],[],bigA false (zNwE1 a b),[]⟩,⟨true,false,87,[vb (Sp.Zaf a),vf (us (Sp.lim (a.natAbs % b.natAbs)))],[],bigA false (Sp.sg (Sp.Zaf a) (a.natAbs % b.natAbs)),[]⟩]) (by kernel_rfl) (by kernel_rfl) (Zam rfl (Zam rfl (Zam rfl (Zam rfl (Zam rfl ZaF))))) Za7 (Zcf (fun _=>(@ZeN (!Sp.Zaf a==Sp.Zaf b) false (a.natAbs / b.natAbs) k5)) (Zcf (fun _=>(@ZeN (Sp.Zaf a) false (a.natAbs % b.natAbs) k6)) Za9)) ?_)
  have w7:(us (Sp.lim (a.natAbs % b.natAbs))).length=(Sp.lim (a.natAbs % b.natAbs)).length:=List.length_map ..
  have i8:(bif decide ((↑(us (Sp.lim (a.natAbs % b.natAbs))).length:Int)>0) then !Sp.Zaf a==Sp.Zaf b else false)=true ↔ (((↑(Sp.lim (a.natAbs % b.natAbs)).length:Int)>0)/\(¬(Sp.Zaf a=Sp.Zaf b))):=(by (try rw [w7]);all_goals exact (Zck Zaa (Zas i_eq)))
  rcases xq H with ⟨d9,H⟩|⟨d9,H⟩
  ·obtain ⟨k10,k11,k12,H⟩:=H
   exact Zai (G:=Zab kp88 [(6,1,.call (ag [vb false,vf (us (Sp.Zau 1))]) none),(6,2,.call (bigA false (Sp.sg (!Sp.Zaf a==Sp.Zaf b) (a.natAbs / b.natAbs)-1)) none),(6,5,.call (bigA false (Sp.sg (Sp.Zaf a) (a.natAbs % b.natAbs)+b)) none)] [(7,[5003,4002,7001,6000])]) 1000 [true] (asm:=[!(decide ((↑(us (Sp.lim (a.natAbs % b.natAbs))).length:Int)>0)==true&&true)||true,!(decide ((↑(us (Sp.lim (a.natAbs % b.natAbs))).length:Int)>0)==true&&true)||true,(bif decide ((↑(us (Sp.lim (a.natAbs % b.natAbs))).length:Int)>0) then !Sp.Zaf a==Sp.Zaf b else false)==true,true,true,true,true,true,true,true,true,true]) (tu [bigA false (Sp.sg (!Sp.Zaf a==Sp.Zaf b) (a.natAbs / b.natAbs)-1),bigA false (Sp.sg (Sp.Zaf a) (a.natAbs % b.natAbs)+b),vi 0]) (by kernel_rfl) (bc (Bool.or_true _) (bc (Bool.or_true _) (bc (Zak (i8.2 d9)) (bc rfl (bc rfl (bc rfl (bc rfl (bc rfl (bc rfl (bc rfl (bc rfl (bc rfl b0)))))))))))) q0 (ce (@ev60 1 k10) (ce (@ev111_a false (zNwE1 a b) k11) (ce (@ev89 false fb (Sp.sg (Sp.Zaf a) (a.natAbs % b.natAbs)) b k12) c0))) H
  ·exact Zai (G:=Zab kp88 [] [(7,[5003,4002,7001,6000])]) 1000 [false] (asm:=[!(decide ((↑(us (Sp.lim (a.natAbs % b.natAbs))).length:Int)>0)==true&&true)||true,!(decide ((↑(us (Sp.lim (a.natAbs % b.natAbs))).length:Int)>0)==true&&true)||true,(bif decide ((↑(us (Sp.lim (a.natAbs % b.natAbs))).length:Int)>0) then !Sp.Zaf a==Sp.Zaf b else false)==false,true,true,true,true]) (tu [bigA false (zNwE1 a b),bigA false (Sp.sg (Sp.Zaf a) (a.natAbs % b.natAbs)),vi 0]) (by kernel_rfl) (bc (Bool.or_true _) (bc (Bool.or_true _) (bc (Zah (fun h=>d9 (i8.1 h))) (bc rfl (bc rfl (bc rfl (bc rfl b0))))))) q0 c0 H
theorem rGCD (fa fb:Bool) (a b:Int)  (dq:AV) (H :
  Wp M1 (.run fi74 (atC (cd Try.f74) [1,1,0,0,0]) [(4,AV.ptr 0 0 0 0),(5,AV.vec fa 1 (us (Sp.Zau a))),(6,AV.vec fb 1 (us (Sp.Zau b)))] [{ elems:=[ag [vb false,AV.vnil]],es:=2,ver:=0,frozen:=false,clean:=false }]) (Zad dq)) :
 rGCD_at fa fb a b (Zad dq):=by
 unfold rGCD_at
 exact Zac (G:=Zab kp74 [] []) 1000 [] ⟨(atC (cd Try.f74) [1,1,0,0,0]),[(4,AV.ptr 2 0 0 0),(5,AV.vec fa 1 (us (Sp.Zau a))),(6,AV.vec fb 1 (us (Sp.Zau b)))],[⟨[bigA fa a],2,0,false,false⟩,⟨[bigA fb b],2,0,false,false⟩,⟨[ag [vb false,AV.vnil]],2,0,false,false⟩],_,[],_⟩ (by kernel_rfl) (bc rfl (bc rfl b0)) q0 c0 (ZaV [2] (by kernel_rfl) H)
theorem rGCDH (fx fy:Bool) (x y:Nat)  (dq:AV) (H :
  ((((↑(Sp.lim y).length:Int)>0)/\(((↑(Sp.lim x).length:Int)>2)\/((↑(Sp.lim y).length:Int)>2)))->(Sp.cnt x<=399000/\Sp.cnt y<=399000/\y ≠ 0) /\
   ZfG fy false y (x % y) (Zad dq)) /\
  (¬(((↑(Sp.lim y).length:Int)>0)/\(((↑(Sp.lim x).length:Int)>2)\/((↑(Sp.lim y).length:Int)>2)))->(((↑(Sp.lim y).length:Int)=0)->(Sp.Zay (Sp.cnt x)) /\
    Weak (bigA false (Sp.sg false x)) dq) /\
   (¬((↑(Sp.lim y).length:Int)=0)->(Sp.cnt x<=2) /\
    (Sp.cnt y<=2) /\
    ZdW ((↑x:Int)) ((↑y:Int)) (Zad dq)))) :
 ZfG fx fy x y (Zad dq):=by
 unfold ZfG
 have w1:(us (Sp.lim y)).length=(Sp.lim y).length:=List.length_map ..
 have w2:(us (Sp.lim x)).length=(Sp.lim x).length:=List.length_map ..
 have i3:(bif decide ((↑(us (Sp.lim y)).length:Int)>0) then bif decide ((↑(us (Sp.lim x)).length:Int)>2) then true else decide ((↑(us (Sp.lim y)).length:Int)>2) else false)=true ↔ (((↑(Sp.lim y).length:Int)>0)/\(((↑(Sp.lim x).length:Int)>2)\/((↑(Sp.lim y).length:Int)>2))):=(by (try rw [w1]);(try rw [w2]);all_goals exact (Zck Zaa (Zar Zaa Zaa)))
 rcases xq H with ⟨d4,H⟩|⟨d4,H⟩
 ·obtain ⟨k5,H⟩:=H
  exact Zac (G:=Zab kp74 [(3,2,.call (tu [vf (us (Sp.lim (x / y))),vf (us (Sp.lim (x % y)))]) none)] []) 1000 [true] ⟨(atC (cd Try.f74) [1,1,0,0,0]),[(4,AV.ptr 0 0 0 0),(5,AV.vec fy 1 (us (Sp.lim y))),(6,vf (us (Sp.lim (x % y))))],[⟨[ag [vb false,AV.vnil]],2,0,false,false⟩],_,[],_⟩ (by kernel_rfl) (bc (Zak (i3.2 d4)) b0) q0 (ce (@ev100 fx fy x y k5) c0) H
 ·have i6:((↑(us (Sp.lim y)).length:Int)==0)=true ↔ ((↑(Sp.lim y).length:Int)=0):=(by (try rw [w1]);all_goals exact i_eq)
  rcases xq H with ⟨d7,H⟩|⟨d7,H⟩
  ·obtain ⟨k8,H⟩:=H
   exact Zai (G:=Zab kp74 [(6,1,.call (bigA false (Sp.sg false x)) none)] []) 1000 [false,true] (bigA false (Sp.sg false x)) (by kernel_rfl) (bc (Zah (fun h=>d4 (i3.1 h))) (bc (Zak (i6.2 d7)) (bc rfl b0))) q0 (ce (@ZeN false fx x k8) c0) H
  ·obtain ⟨k9,k10,H⟩:=H
   exact Zac (G:=Zab kp74 [(7,1,.call (vw (↑x:Int)) none),(7,3,.call (vw (↑y:Int)) none)] []) 1000 [false,false] ⟨(atC (cd Try.f74) [1,1,1,1,1,0,0,0]),[(4,AV.ptr 0 0 0 0),(9,vw (↑x:Int)),(10,vw (↑y:Int))],[⟨[ag [vb false,AV.vnil]],2,0,false,false⟩],_,[],_⟩ (by kernel_rfl) (bc (Zah (fun h=>d4 (i3.1 h))) (bc (Zah (fun h=>d7 (i6.1 h))) b0)) q0 (ce (@ev86 fx x k9) (ce (@ev86 fy y k10) c0)) H
theorem rGCDW (u v:Int)  (dq:AV) (H :
  ((v>0)->(¬v=0) /\
   ZdW v (u.tmod v) (Zad dq)) /\
  (¬(v>0)->(0<=u/\u<=18446744073709551615) /\
   (Sp.Zay (Sp.cnt u.toNat)) /\
   Weak (bigA false (Sp.sg false u.toNat)) dq)) :
 ZdW u v (Zad dq):=by
 unfold ZdW
 rcases xq H with ⟨d2,H⟩|⟨d2,H⟩
 ·obtain ⟨k4,H⟩:=H
  exact Zac (G:=Zab kp74 [] []) 1000 [true] ⟨(atC (cd Try.f74) [1,1,1,1,1,0,0,0]),[(4,AV.ptr 0 0 0 0),(9,vw v),(10,vw (u.tmod v))],[⟨[ag [vb false,AV.vnil]],2,0,false,false⟩],_,[],_⟩ (by kernel_rfl) (bc (Zak (Zaa.2 d2)) (bc (Zds.2 k4) b0)) q0 c0 H
 ·obtain ⟨k5,k6,H⟩:=H
  exact Zai (G:=Zab kp74 [(10,1,.call (vf (us (Sp.lim u.toNat))) none),(10,2,.call (bigA false (Sp.sg false u.toNat)) none)] []) 1000 [false] (bigA false (Sp.sg false u.toNat)) (by kernel_rfl) (bc (Zah (fun h=>d2 (Zaa.1 h))) (bc rfl b0)) q0 (ce (@ev90 u k5) (ce (@ZeN false false (u.toNat) k6) c0)) H
end Go.Av

namespace Go.Av
open Go.Proofs
theorem ev88 (fa fb:Bool) (a b:Int) (h:Sp.cnt a.natAbs<=399000/\Sp.cnt b.natAbs<=399000/\b ≠ 0):Ev M1 (.pure 88 [bigA fa a,bigA fb b]) (.tup [bigA false (Sp.flo a b),bigA false (Sp.flr a b),.int .i64 0]) []:=by
 obtain ⟨ha,hb,h0⟩:=h
 have hl:=Zbp b
 have hd0:b.natAbs ≠ 0:=by omega
 have hm:=Nat.mod_lt a.natAbs (Nat.pos_of_ne_zero hd0)
 have heq:=sg_div (a:=a) h0
 have hc1:=ZaQ (Nat.le_of_lt hm)
 have hc2:=ZaQ (Nat.div_le_self a.natAbs b.natAbs)
 have okb:Sp.okB b:=by unfold Sp.okB;omega
 have okr:Sp.okB (Sp.sg (Sp.Zaf a) (a.natAbs % b.natAbs)):=by unfold Sp.okB;rw [ZcU];omega
 have okq:Sp.okB (Sp.sg (!(Sp.Zaf a==Sp.Zaf b)) (a.natAbs / b.natAbs)):=by unfold Sp.okB;rw [ZcU];omega
 have hra:(Sp.sg (Sp.Zaf a) (a.natAbs % b.natAbs)).natAbs=a.natAbs % b.natAbs:=ZcU _ _
 have hrl:=ZaG (a.natAbs % b.natAbs)
 have hrc:=ZaC (v:=a.natAbs % b.natAbs)
 have hneg:(Sp.Zaf a=true->Sp.sg (Sp.Zaf a) (a.natAbs % b.natAbs)<=0)/\(¬Sp.Zaf a=true->0<=Sp.sg (Sp.Zaf a) (a.natAbs % b.natAbs)):=by
  unfold Sp.sg
  exact ⟨fun h=>by rw [if_pos h];omega,fun h=>by rw [if_neg h];omega⟩
 refine call88 (rDivMod _ _ _ _ _ ⟨fun h => ?_,fun _=>⟨⟨ha,hb,h0⟩,by unfold Sp.Zay;omega,by unfold Sp.Zay;omega,fun k=>⟨by unfold Sp.inI;omega,okq,⟨okr,okb⟩,?_⟩,fun k => ?_⟩⟩)
 ·have:=ZaC (v:=b.natAbs)
  omega
 ·obtain ⟨k1,k2⟩:=k
  have hne:a.natAbs % b.natAbs ≠ 0:=by omega
  generalize Sp.sg (Sp.Zaf a) (a.natAbs % b.natAbs)=r at *
  generalize Sp.sg (!(Sp.Zaf a==Sp.Zaf b)) (a.natAbs / b.natAbs)=q at *
  have hs:(r<0/\0<b)\/(0<r/\b<0):=by
   by_cases ka:Sp.Zaf a=true
   ·have:=hneg.1 ka
    have kb:¬b<0:=fun x=>k2 (by rw [ka,Zan.2 x])
    exact .inl ⟨by omega,by omega⟩
   ·have:=hneg.2 ka
    by_cases kb:b<0
    ·exact .inr ⟨by omega,kb⟩
    ·exact absurd (by rw [Bool.eq_false_iff.2 ka,Zbq kb]) k2
  obtain ⟨e1,e2⟩:=Zd4 (a:=a) (b:=b) (q:=q-1) (r:=r+b) (by grind) (by omega)
  rw [e1,e2]
  exact .refl _
 ·generalize hr:Sp.sg (Sp.Zaf a) (a.natAbs % b.natAbs)=r at *
  generalize Sp.sg (!(Sp.Zaf a==Sp.Zaf b)) (a.natAbs / b.natAbs)=q at *
  have hs:r=0\/(r<0/\b<0)\/(0<r/\0<b):=by
   by_cases hz:a.natAbs % b.natAbs=0
   ·left;omega
   ·right
    have k:Sp.Zaf a=Sp.Zaf b:=Classical.byContradiction fun k2=>k ⟨by omega,k2⟩
    by_cases ka:Sp.Zaf a=true
    ·have:=hneg.1 ka
     exact .inl ⟨by omega,Zan.1 (k ▸ ka)⟩
    ·have:=hneg.2 ka
     have:¬b<0:=fun x=>ka (by rw [k];exact Zan.2 x)
     exact .inr ⟨by omega,by omega⟩
  obtain ⟨e1,e2⟩:=Zd4 (a:=a) (b:=b) (q:=q) (r:=r) heq (by omega)
  rw [e1,e2]
  exact .refl _
theorem gcd_step (x y:Nat):Nat.gcd y (x % y)=Nat.gcd x y:=by rw [Nat.gcd_comm x y,Nat.gcd_rec y x,Nat.gcd_comm]
theorem rgcdW (n:Nat):∀ u v:Nat,v<=n->u<=18446744073709551615->v<=18446744073709551615->ZdW u v (Zad (bigA false (Nat.gcd u v:Nat))):=by
 have base:∀ u:Nat,u<=18446744073709551615->ZdW u (0:Nat) (Zad (bigA false (Nat.gcd u 0:Nat))):=by
  intro u hu
  refine rGCDW _ _ _ ⟨fun h=>by omega,fun _=>⟨by omega,by have:=cnt_u64 (u:=u) hu;rw [Int.toNat_natCast];unfold Sp.Zay;omega,?_⟩⟩
  rw [Int.toNat_natCast,Zb1,Nat.gcd_zero_right];exact .refl _
 induction n with
 | zero =>
  intro u v hv hu hv2
  have:v=0:=by omega
  subst this
  exact base u hu
 | succ n ih =>
  intro u v hv hu hv2
  by_cases h0:v=0
  ·subst h0;exact base u hu
  ·refine rGCDW _ _ _ ⟨fun h=>⟨by omega,?_⟩,fun h=>absurd h (by omega)⟩
   rw [<- Int.ofNat_tmod]
   have hlt:=Nat.mod_lt u (show 0<v by omega)
   have:=ih v (u % v) (by omega) hv2 (by omega)
   rwa [gcd_step] at this
theorem rgcdH (n:Nat):∀ (fx fy:Bool) (x y:Nat),y<=n->Sp.cnt x<=399000->Sp.cnt y<=399000->ZfG fx fy x y (Zad (bigA false (Nat.gcd x y:Nat))):=by
 have small:∀ x:Nat,Sp.cnt x<=2->x<=18446744073709551615:=by
  intro x h
  have f:=ZaW (Zag x) h
  have:x<1000000000000000000:=by unfold Sp.fits at f;simpa using f
  omega
 induction n with
 | zero =>
  intro fx fy x y hy hx hcy
  have:y=0:=by omega
  subst this
  refine rGCDH _ _ _ _ _ ⟨fun h => ?_,fun _=>⟨fun _=>⟨by unfold Sp.Zay;omega,?_⟩,fun h => ?_⟩⟩
  ·have:=h.1
   rw [ZaG,Zbw] at this;omega
  ·rw [Zb1,Nat.gcd_zero_right];exact .refl _
  ·rw [ZaG,Zbw] at h;omega
 | succ n ih =>
  intro fx fy x y hy hx hcy
  have hc:=ZaC (v:=y)
  refine rGCDH _ _ _ _ _ ⟨fun h => ?_,fun h=>⟨fun k=>⟨by unfold Sp.Zay;omega,?_⟩,fun k => ?_⟩⟩
  ·rw [ZaG,ZaG] at h
   have h0:y ≠ 0:=fun e=>by have:=hc.2 e;omega
   have hlt:=Nat.mod_lt x (show 0<y by omega)
   have:=ih fy false y (x % y) (by omega) hcy (by have:=ZaQ (Nat.le_of_lt hlt);omega)
   rw [gcd_step] at this
   exact ⟨⟨hx,hcy,h0⟩,this⟩
  ·rw [ZaG] at k
   have:y=0:=hc.1 (by omega)
   rw [this,Zb1,Nat.gcd_zero_right];exact .refl _
  ·rw [ZaG,ZaG] at h
   rw [ZaG] at k
   exact ⟨by omega,by omega,rgcdW y x y (Nat.le_refl _) (small x (by omega)) (small y (by omega))⟩
theorem ev74 (fa fb:Bool) (a b:Int) (h:Sp.cnt a.natAbs<=399000/\Sp.cnt b.natAbs<=399000):Ev M1 (.pure 74 [bigA fa a,bigA fb b]) (bigA false (Int.gcd a b:Nat)) []:=
 call74 (rGCD _ _ _ _ _ (rgcdH b.natAbs fa fb a.natAbs b.natAbs (Nat.le_refl _) h.1 h.2))
end Go.Av

namespace Go.Av
open Go.Proofs
end Go.Av

namespace Go.Av
open Go.Proofs
set_option maxRecDepth 100000
end Go.Av

namespace Go.Av
open Go.Proofs
set_option maxRecDepth 100000
def fi101:Fi:=⟨2,[.cell 0 28]⟩
def kp101:List (Nat × List Nat):=[(0,[0]),(1,[0])]
def fi104:Fi:=⟨16,[.cell 4 28]⟩
def kp104:List (Nat × List Nat):=[(0,[2,3,4]),(1,[4,5]),(2,[4])]
def vUnit_at  (Q:AV->Heap->Prop):Prop:=Wp M1 (.run fi101 (atC (cd Try.f101) []) [] []) Q
def vExact_at (fa fb:Bool) (a b:Int) (Q:AV->Heap->Prop):Prop:=Wp M1 (.run fi104 (atC (cd Try.f104) []) [(0,bigA fa a),(1,bigA fb b)] []) Q
theorem call101 {args:List AV} {d:AV} (h:wc M1 fi101 Try.f101 args d):Ev M1 (.pure 101 args) d []:=pcl _ _ (by kernel_rfl) h
theorem call104 {args:List AV} {d:AV} (h:wc M1 fi104 Try.f104 args d):Ev M1 (.pure 104 args) d []:=pcl _ _ (by kernel_rfl) h
theorem vUnit   (dq:AV) (H :
  (Sp.inI 1) /\
  Weak (ag [vb false,vf (us (Sp.Zau 1))]) dq) :
 vUnit_at  (Zad dq):=by
 unfold vUnit_at
 obtain ⟨k1,H⟩:=H
 exact Zai (G:=Zab kp101 [(1,0,.call (ag [vb false,vf (us (Sp.Zau 1))]) none)] []) 1000 [] (ag [vb false,vf (us (Sp.Zau 1))]) (by kernel_rfl) (bc rfl b0) q0 (ce (@ev46 1 k1) c0) H
theorem vExact (fa fb:Bool) (a b:Int)  (dq:AV) (H :
  (Sp.okB a/\Sp.okB b/\b ≠ 0) /\
  Weak (bigA false (Sp.flo a b)) dq) :
 vExact_at fa fb a b (Zad dq):=by
 unfold vExact_at
 obtain ⟨k1,H⟩:=H
 exact Zai (G:=Zab kp104 [(1,2,.call (tu [bigA false (Sp.flo a b),bigA false (Sp.flr a b),vi 0]) none)] []) 1000 [] (bigA false (Sp.flo a b)) (by kernel_rfl) (bc rfl (bc rfl (bc rfl (bc rfl (bc rfl (bc rfl b0)))))) q0 (ce (@ev82 fa fb a b k1) c0) H
end Go.Av

namespace Go.Av
open Go.Proofs
theorem ev101:Ev M1 (.pure 101 []) (.agg [.bool false,.vec false 1 ((Sp.Zau 1).map (.int .u32))]) []:=
 call101 (vUnit _ ⟨by unfold Sp.inI;omega,.refl _⟩)
theorem ev104 (fa fb:Bool) (a b:Int) (h:Sp.okB a/\Sp.okB b/\b ≠ 0):Ev M1 (.pure 104 [bigA fa a,bigA fb b]) (bigA false (Sp.flo a b)) []:=
 call104 (vExact _ _ _ _ _ ⟨h,.refl _⟩)
theorem ev47_a (fa:Bool) (a:Int) (h:Sp.okB a):Ev M1 (.pure 47 [bigA fa a,.agg [.bool false,.vec false 1 ((Sp.Zau 1).map (.int .u32))]]) (.int .i64 (Sp.sgnI (a-1))) []:=
 ev47 fa false a 1 ⟨h,Zgm (by decide)⟩
end Go.Av

namespace Go.Av
open Go.Proofs
set_option maxRecDepth 100000
def fi43:Fi:=⟨16,[.cell 2 28]⟩
def kp43:List (Nat × List Nat):=[(0,[1,2]),(1,[2,3]),(2,[2])]
def fi44:Fi:=⟨9,[.cell 2 30]⟩
def kp44:List (Nat × List Nat):=[(0,[1,2]),(1,[2])]
def fi75:Fi:=⟨6,[.cell 2 30]⟩
def kp75:List (Nat × List Nat):=[(0,[1,2]),(1,[2])]
def fi77:Fi:=⟨29,[.cell 4 30]⟩
def kp77:List (Nat × List Nat):=[(0,[2,3,4]),(1,[2,3,4,8]),(2,[2,3,4]),(3,[2,3,4,5]),(4,[2,3,4,5,19]),(5,[2,3,4]),(6,[4])]
def fi80:Fi:=⟨6,[.tmp 2]⟩
def kp80:List (Nat × List Nat):=[(0,[1]),(1,[2])]
def vWhole_at (fa:Bool) (a:Int) (Q:AV->Heap->Prop):Prop:=Wp M1 (.run fi75 (atC (cd Try.f75) []) [(0,bigA fa a)] []) Q
def Zg9 (fa fb:Bool) (a b:Int) (Q:AV->Heap->Prop):Prop:=Wp M1 (.run fi77 (atC (cd Try.f77) []) [(0,bigA fa a),(1,bigA fb b)] []) Q
def vRSign_at (fa ga:Bool) (p q:Int) (Q:AV->Heap->Prop):Prop:=Wp M1 (.run fi80 (atC (cd Try.f80) []) [(0,.agg [.bool (Sp.Zaf p),.vec fa 1 ((Sp.Zau p).map (.int .u32)),.bool (Sp.Zaf q),.vec ga 1 ((Sp.Zau q).map (.int .u32))])] []) Q
def vRNeg_at (fa ga:Bool) (p q:Int) (Q:AV->Heap->Prop):Prop:=Wp M1 (.run fi44 (atC (cd Try.f44) []) [(0,.agg [.bool (Sp.Zaf p),.vec fa 1 ((Sp.Zau p).map (.int .u32)),.bool (Sp.Zaf q),.vec ga 1 ((Sp.Zau q).map (.int .u32))])] []) Q
def Zha (fa ga:Bool) (p q:Int) (Q:AV->Heap->Prop):Prop:=Wp M1 (.run fi43 (atC (cd Try.f43) []) [(0,.agg [.bool (Sp.Zaf p),.vec fa 1 ((Sp.Zau p).map (.int .u32)),.bool (Sp.Zaf q),.vec ga 1 ((Sp.Zau q).map (.int .u32))])] []) Q
theorem call43 {args:List AV} {d:AV} (h:wc M1 fi43 Try.f43 args d):Ev M1 (.pure 43 args) d []:=pcl _ _ (by kernel_rfl) h
theorem call44 {args:List AV} {d:AV} (h:wc M1 fi44 Try.f44 args d):Ev M1 (.pure 44 args) d []:=pcl _ _ (by kernel_rfl) h
theorem call75 {args:List AV} {d:AV} (h:wc M1 fi75 Try.f75 args d):Ev M1 (.pure 75 args) d []:=pcl _ _ (by kernel_rfl) h
theorem call77 {args:List AV} {d:AV} (h:wc M1 fi77 Try.f77 args d):Ev M1 (.pure 77 args) d []:=pcl _ _ (by kernel_rfl) h
theorem call80 {args:List AV} {d:AV} (h:wc M1 fi80 Try.f80 args d):Ev M1 (.pure 80 args) d []:=pcl _ _ (by kernel_rfl) h
theorem vWhole (fa:Bool) (a:Int)  (dq:AV) (H :
  Weak (ag [vb (Sp.Zaf a),AV.vec fa 1 (us (Sp.Zau a)),vb false,vf (us (Sp.Zau 1))]) dq) :
 vWhole_at fa a (Zad dq):=by
 unfold vWhole_at
 exact Zai (G:=Zab kp75 [(1,1,.call (ag [vb false,vf (us (Sp.Zau 1))]) none)] []) 1000 [] (ag [vb (Sp.Zaf a),AV.vec fa 1 (us (Sp.Zau a)),vb false,vf (us (Sp.Zau 1))]) (by kernel_rfl) (bc rfl (bc rfl b0)) q0 (ce (@ev101 ) c0) H
noncomputable abbrev zNvJ1:=ag [vb false,AV.vnil,vb false,AV.vnil]
theorem vReduce (fa fb:Bool) (a b:Int)  (dq:AV) (H :
  ((Sp.sgnI b<0)->(Sp.okB a) /\
   (Sp.okB b) /\
   (Sp.okB (-a)/\Sp.okB (-b)) /\
   (Sp.okB (↑((-a).gcd (-b)):Int)) /\
   ((¬Sp.sgnI ((↑((-a).gcd (-b)):Int)-1)=0)->(Sp.okB (-a)/\Sp.okB (↑((-a).gcd (-b)):Int)/\(↑((-a).gcd (-b)):Int) ≠ 0) /\
    (Sp.okB (-b)/\Sp.okB (↑((-a).gcd (-b)):Int)/\(↑((-a).gcd (-b)):Int) ≠ 0) /\
    Weak (ag [vb (Sp.Zaf (Sp.flo (-a) (↑((-a).gcd (-b)):Int))),vf (us (Sp.Zau (Sp.flo (-a) (↑((-a).gcd (-b)):Int)))),vb (Sp.Zaf (Sp.flo (-b) (↑((-a).gcd (-b)):Int))),vf (us (Sp.Zau (Sp.flo (-b) (↑((-a).gcd (-b)):Int))))]) dq) /\
   (¬(¬Sp.sgnI ((↑((-a).gcd (-b)):Int)-1)=0)->Weak (ag [vb (Sp.Zaf (-a)),vf (us (Sp.Zau (-a))),vb (Sp.Zaf (-b)),vf (us (Sp.Zau (-b)))]) dq)) /\
  (¬(Sp.sgnI b<0)->(Sp.okB a/\Sp.okB b) /\
   (Sp.okB (↑(a.gcd b):Int)) /\
   ((¬Sp.sgnI ((↑(a.gcd b):Int)-1)=0)->(Sp.okB a/\Sp.okB (↑(a.gcd b):Int)/\(↑(a.gcd b):Int) ≠ 0) /\
    (Sp.okB b/\Sp.okB (↑(a.gcd b):Int)/\(↑(a.gcd b):Int) ≠ 0) /\
    Weak (ag [vb (Sp.Zaf (Sp.flo a (↑(a.gcd b):Int))),vf (us (Sp.Zau (Sp.flo a (↑(a.gcd b):Int)))),vb (Sp.Zaf (Sp.flo b (↑(a.gcd b):Int))),vf (us (Sp.Zau (Sp.flo b (↑(a.gcd b):Int))))]) dq) /\
   (¬(¬Sp.sgnI ((↑(a.gcd b):Int)-1)=0)->Weak (ag [vb (Sp.Zaf a),AV.vec fa 1 (us (Sp.Zau a)),vb (Sp.Zaf b),AV.vec fb 1 (us (Sp.Zau b))]) dq))) :
 Zg9 fa fb a b (Zad dq):=by
 unfold Zg9
 refine Zac (G:=Zab kp77 [(1,1,.call (vi (Sp.sgnI b)) none)] []) 5 [] ⟨(atC (cd Try.f77) [1,0,1]),[(2,AV.ptr 0 0 0 0),(3,AV.ptr 1 0 0 0),(4,AV.ptr 2 0 0 0),(8,vb (decide (Sp.sgnI b<0)))],[⟨[bigA fa a],2,0,false,false⟩,⟨[bigA fb b],2,0,false,false⟩,⟨[zNvJ1],4,0,false,false⟩],_,[],_⟩ (by kernel_rfl) (bc rfl b0) q0 (ce (@ev102 fb b) c0) ?_
 rcases xq H with ⟨d2,H⟩|⟨d2,H⟩
 ·obtain ⟨k3,k4,k5,k6,H⟩:=H
  refine Zac (G:=Zab kp77 [(2,1,.call (bigA false (-a)) none),(2,3,.call (bigA false (-b)) none),(3,2,.call (bigA false (↑((-a).gcd (-b)):Int)) none),(4,1,.call (ag [vb false,vf (us (Sp.Zau 1))]) none),(4,2,.call (vi (Sp.sgnI ((↑((-a).gcd (-b)):Int)-1))) none)] []) 7 [true] ⟨(atC (cd Try.f77) [1,1,0,1,1]),[(2,AV.ptr 0 0 0 0),(3,AV.ptr 1 0 0 0),(4,AV.ptr 2 0 0 0),(5,AV.ptr 3 0 0 0),(19,vb (Sp.sgnI ((↑((-a).gcd (-b)):Int)-1) != 0))],[⟨[bigA false (-a)],2,0,false,false⟩,⟨[bigA false (-b)],2,0,false,false⟩,⟨[zNvJ1],4,0,false,false⟩,⟨[bigA false (↑((-a).gcd (-b)):Int)],2,0,false,false⟩],_,[],_⟩ (by kernel_rfl) (bc (Zak (Zaa.2 d2)) (bc rfl (bc rfl (bc rfl (bc rfl (bc rfl (bc rfl (bc rfl (bc rfl b0))))))))) q0 (ce (@ev42 fa a k3) (ce (@ev42 fb b k4) (ce (@ev103 false false (-a) (-b) k5) (ce (@ev101 ) (ce (@ev47_a false ((↑((-a).gcd (-b)):Int)) k6) c0))))) ?_
  rcases xq H with ⟨d8,H⟩|⟨d8,H⟩
  ·obtain ⟨k9,k10,H⟩:=H
   exact Zai (G:=Zab kp77 [(5,2,.call (bigA false (Sp.flo (-a) (↑((-a).gcd (-b)):Int))) none),(5,5,.call (bigA false (Sp.flo (-b) (↑((-a).gcd (-b)):Int))) none)] []) 1000 [true] (ag [vb (Sp.Zaf (Sp.flo (-a) (↑((-a).gcd (-b)):Int))),vf (us (Sp.Zau (Sp.flo (-a) (↑((-a).gcd (-b)):Int)))),vb (Sp.Zaf (Sp.flo (-b) (↑((-a).gcd (-b)):Int))),vf (us (Sp.Zau (Sp.flo (-b) (↑((-a).gcd (-b)):Int))))]) (by kernel_rfl) (bc (Zak (i_ne.2 d8)) (bc rfl (bc rfl (bc rfl (bc rfl (bc rfl (bc rfl (bc rfl (bc rfl (bc rfl b0)))))))))) q0 (ce (@ev104 false false (-a) ((↑((-a).gcd (-b)):Int)) k9) (ce (@ev104 false false (-b) ((↑((-a).gcd (-b)):Int)) k10) c0)) H
  ·exact Zai (G:=Zab kp77 [] []) 1000 [false] (ag [vb (Sp.Zaf (-a)),vf (us (Sp.Zau (-a))),vb (Sp.Zaf (-b)),vf (us (Sp.Zau (-b)))]) (by kernel_rfl) (bc (Zah (fun h=>d8 (i_ne.1 h))) (bc rfl (bc rfl (bc rfl b0)))) q0 c0 H
 ·obtain ⟨k11,k12,H⟩:=H
  refine Zac (G:=Zab kp77 [(3,2,.call (bigA false (↑(a.gcd b):Int)) none),(4,1,.call (ag [vb false,vf (us (Sp.Zau 1))]) none),(4,2,.call (vi (Sp.sgnI ((↑(a.gcd b):Int)-1))) none)] []) 7 [false] ⟨(atC (cd Try.f77) [1,1,0,1,1]),[(2,AV.ptr 0 0 0 0),(3,AV.ptr 1 0 0 0),(4,AV.ptr 2 0 0 0),(5,AV.ptr 3 0 0 0),(19,vb (Sp.sgnI ((↑(a.gcd b):Int)-1) != 0))],[⟨[bigA fa a],2,0,false,false⟩,⟨[bigA fb b],2,0,false,false⟩,⟨[zNvJ1],4,0,false,false⟩,⟨[bigA false (↑(a.gcd b):Int)],2,0,false,false⟩],_,[],_⟩ (by kernel_rfl) (bc (Zah (fun h=>d2 (Zaa.1 h))) (bc rfl (bc rfl (bc rfl (bc rfl b0))))) q0 (ce (@ev103 fa fb a b k11) (ce (@ev101 ) (ce (@ev47_a false ((↑(a.gcd b):Int)) k12) c0))) ?_
  rcases xq H with ⟨d14,H⟩|⟨d14,H⟩
  ·obtain ⟨k15,k16,H⟩:=H
   exact Zai (G:=Zab kp77 [(5,2,.call (bigA false (Sp.flo a (↑(a.gcd b):Int))) none),(5,5,.call (bigA false (Sp.flo b (↑(a.gcd b):Int))) none)] []) 1000 [true] (ag [vb (Sp.Zaf (Sp.flo a (↑(a.gcd b):Int))),vf (us (Sp.Zau (Sp.flo a (↑(a.gcd b):Int)))),vb (Sp.Zaf (Sp.flo b (↑(a.gcd b):Int))),vf (us (Sp.Zau (Sp.flo b (↑(a.gcd b):Int))))]) (by kernel_rfl) (bc (Zak (i_ne.2 d14)) (bc rfl (bc rfl (bc rfl (bc rfl (bc rfl (bc rfl (bc rfl (bc rfl (bc rfl b0)))))))))) q0 (ce (@ev104 fa false a ((↑(a.gcd b):Int)) k15) (ce (@ev104 fb false b ((↑(a.gcd b):Int)) k16) c0)) H
  ·exact Zai (G:=Zab kp77 [] []) 1000 [false] (ag [vb (Sp.Zaf a),AV.vec fa 1 (us (Sp.Zau a)),vb (Sp.Zaf b),AV.vec fb 1 (us (Sp.Zau b))]) (by kernel_rfl) (bc (Zah (fun h=>d14 (i_ne.1 h))) (bc rfl (bc rfl (bc rfl b0)))) q0 c0 H
theorem vRSign (fa ga:Bool) (p q:Int)  (dq:AV) (H :
  vi (Sp.sgnI p)=dq) :
 vRSign_at fa ga p q (Zad dq):=by
 unfold vRSign_at
 exact Zae (G:=Zab kp80 [(1,2,.call (vi (Sp.sgnI p)) none)] []) 1000 [] (vi (Sp.sgnI p)) (by kernel_rfl) (bc rfl b0) q0 (ce (@ev102 fa p) c0) H
theorem vRNeg (fa ga:Bool) (p q:Int)  (dq:AV) (H :
  (Sp.okB p) /\
  Weak (ag [vb (Sp.Zaf (-p)),vf (us (Sp.Zau (-p))),vb (Sp.Zaf q),AV.vec ga 1 (us (Sp.Zau q))]) dq) :
 vRNeg_at fa ga p q (Zad dq):=by
 unfold vRNeg_at
 obtain ⟨k1,H⟩:=H
 exact Zai (G:=Zab kp44 [(1,2,.call (bigA false (-p)) none)] []) 1000 [] (ag [vb (Sp.Zaf (-p)),vf (us (Sp.Zau (-p))),vb (Sp.Zaf q),AV.vec ga 1 (us (Sp.Zau q))]) (by kernel_rfl) (bc rfl (bc rfl (bc rfl b0))) q0 (ce (@ev42 fa p k1) c0) H
theorem vRFloor (fa ga:Bool) (p q:Int)  (dq:AV) (H :
  (Sp.okB p/\Sp.okB q/\q ≠ 0) /\
  Weak (bigA false (Sp.flo p q)) dq) :
 Zha fa ga p q (Zad dq):=by
 unfold Zha
 obtain ⟨k1,H⟩:=H
 exact Zai (G:=Zab kp43 [(1,4,.call (tu [bigA false (Sp.flo p q),bigA false (Sp.flr p q),vi 0]) none)] []) 1000 [] (bigA false (Sp.flo p q)) (by kernel_rfl) (bc rfl (bc rfl (bc rfl (bc rfl (bc rfl (bc rfl b0)))))) q0 (ce (@ev82 fa ga p q k1) c0) H
end Go.Av

namespace Go.Av
open Go.Proofs
abbrev ratA (f g:Bool) (r:Rat):AV:=.agg [.bool (Sp.Zaf r.num),.vec f 1 ((Sp.Zau r.num).map (.int .u32)),.bool (Sp.Zaf (r.den:Int)),.vec g 1 ((Sp.Zau (r.den:Int)).map (.int .u32))]
abbrev ratF (r:Rat):AV:=ratA false false r
theorem Zfy (b d f g:Bool) (xs ys:List AV):Weak (.agg [.bool b,.vec f 1 xs,.bool d,.vec g 1 ys]) (.agg [.bool b,.vec false 1 xs,.bool d,.vec false 1 ys]):=by
 refine .agg _ _ rfl fun i x y hx hy => ?_
 match i with
 | 0=>simp at hx hy;subst hx;subst hy;exact .refl _
 | 1=>simp at hx hy;subst hx;subst hy;exact Zcm _ _ _
 | 2=>simp at hx hy;subst hx;subst hy;exact .refl _
 | 3=>simp at hx hy;subst hx;subst hy;exact Zcm _ _ _
 | i+4=>simp at hx
theorem rat_neg {a b:Int} (h:b<0):(Rat.divInt a b).num=(-a) / (((-a).gcd (-b):Nat):Int)/\((Rat.divInt a b).den:Int)=(-b) / (((-a).gcd (-b):Nat):Int):=by
 have e:(-a).gcd (-b)=b.gcd a:=by rw [Int.neg_gcd,Int.gcd_neg,Int.gcd_comm]
 rw [e,Rat.num_divInt,Rat.den_divInt,if_neg (by omega),Int.sign_eq_neg_one_of_neg h]
 refine ⟨by rw [Int.neg_mul,Int.one_mul],?_⟩
 have e2:((b.natAbs / b.gcd a:Nat):Int)=(b.natAbs:Int) / (b.gcd a:Int):=rfl
 rw [e2]
 congr 1;omega
theorem rat_pos {a b:Int} (h:0<b):(Rat.divInt a b).num=a / ((a.gcd b:Nat):Int)/\((Rat.divInt a b).den:Int)=b / ((a.gcd b:Nat):Int):=by
 have e:a.gcd b=b.gcd a:=Int.gcd_comm _ _
 rw [e,Rat.num_divInt,Rat.den_divInt,if_neg (by omega),Int.sign_eq_one_of_pos h]
 refine ⟨by rw [Int.one_mul],?_⟩
 have e2:((b.natAbs / b.gcd a:Nat):Int)=(b.natAbs:Int) / (b.gcd a:Int):=rfl
 rw [e2]
 congr 1;omega
theorem gcd_okB {a b:Int} (hb:b ≠ 0) (h:Sp.okB b):Sp.okB ((a.gcd b:Nat):Int)/\((a.gcd b:Nat):Int) ≠ 0:=by
 have h1:0<a.gcd b:=Int.gcd_pos_of_ne_zero_right _ hb
 have h2:a.gcd b<=b.natAbs:=Nat.le_of_dvd (by omega) (Int.gcd_dvd_natAbs_right a b)
 have:=ZaQ h2
 refine ⟨?_,by omega⟩
 unfold Sp.okB at *
 rw [Int.natAbs_natCast];omega
theorem Zdg {a:Int} {g:Nat} (h:(g:Int) ≠ 0):Sp.flo a (g:Int)=a / (g:Int):=by
 unfold Sp.flo
 rw [if_pos (by omega)]
theorem ev77 (fa fb:Bool) (a b:Int) (h:Sp.okB a/\Sp.okB b/\b ≠ 0):Ev M1 (.pure 77 [bigA fa a,bigA fb b]) (ratF (Rat.divInt a b)) []:=by
 obtain ⟨ha,hb,h0⟩:=h
 have hna:Sp.okB (-a):=by unfold Sp.okB at *;rwa [Int.natAbs_neg]
 have hnb:Sp.okB (-b):=by unfold Sp.okB at *;rwa [Int.natAbs_neg]
 refine call77 (vReduce _ _ _ _ _ ⟨fun k => ?_,fun k => ?_⟩)
 ·rw [ZbD] at k
  obtain ⟨g1,g2⟩:=gcd_okB (a:=-a) (b:=-b) (by omega) hnb
  obtain ⟨r1,r2⟩:=rat_neg (a:=a) k
  refine ⟨ha,hb,⟨hna,hnb⟩,g1,fun _=>⟨⟨hna,g1,g2⟩,⟨hnb,g1,g2⟩,?_⟩,fun k2 => ?_⟩
  ·show Weak _ (AV.agg [.bool (Sp.Zaf (Rat.divInt a b).num),.vec false 1 ((Sp.Zau (Rat.divInt a b).num).map (.int .u32)),.bool (Sp.Zaf ((Rat.divInt a b).den:Int)),.vec false 1 ((Sp.Zau ((Rat.divInt a b).den:Int)).map (.int .u32))])
   rw [r1,r2,Zdg g2,Zdg g2];exact .refl _
  ·have k2:=Zf8.1 (Classical.not_not.1 k2)
   have e:(((-a).gcd (-b):Nat):Int)=1:=by omega
   show Weak _ (AV.agg [.bool (Sp.Zaf (Rat.divInt a b).num),.vec false 1 ((Sp.Zau (Rat.divInt a b).num).map (.int .u32)),.bool (Sp.Zaf ((Rat.divInt a b).den:Int)),.vec false 1 ((Sp.Zau ((Rat.divInt a b).den:Int)).map (.int .u32))])
   rw [r1,r2,e,Int.ediv_one,Int.ediv_one];exact Zfy _ _ _ _ _ _
 ·rw [ZbD] at k
  obtain ⟨g1,g2⟩:=gcd_okB (a:=a) (b:=b) h0 hb
  obtain ⟨r1,r2⟩:=rat_pos (a:=a) (show 0<b by omega)
  refine ⟨⟨ha,hb⟩,g1,fun _=>⟨⟨ha,g1,g2⟩,⟨hb,g1,g2⟩,?_⟩,fun k2 => ?_⟩
  ·show Weak _ (AV.agg [.bool (Sp.Zaf (Rat.divInt a b).num),.vec false 1 ((Sp.Zau (Rat.divInt a b).num).map (.int .u32)),.bool (Sp.Zaf ((Rat.divInt a b).den:Int)),.vec false 1 ((Sp.Zau ((Rat.divInt a b).den:Int)).map (.int .u32))])
   rw [r1,r2,Zdg g2,Zdg g2];exact .refl _
  ·have k2:=Zf8.1 (Classical.not_not.1 k2)
   have e:((a.gcd b:Nat):Int)=1:=by omega
   show Weak _ (AV.agg [.bool (Sp.Zaf (Rat.divInt a b).num),.vec false 1 ((Sp.Zau (Rat.divInt a b).num).map (.int .u32)),.bool (Sp.Zaf ((Rat.divInt a b).den:Int)),.vec false 1 ((Sp.Zau ((Rat.divInt a b).den:Int)).map (.int .u32))])
   rw [r1,r2,e,Int.ediv_one,Int.ediv_one];exact Zfy _ _ _ _ _ _
theorem ev80 (fa ga:Bool) (p q:Int):Ev M1 (.pure 80 [.agg [.bool (Sp.Zaf p),.vec fa 1 ((Sp.Zau p).map (.int .u32)),.bool (Sp.Zaf q),.vec ga 1 ((Sp.Zau q).map (.int .u32))]]) (.int .i64 (Sp.sgnI p)) []:=
 call80 (vRSign _ _ _ _ _ rfl)
end Go.Av

namespace Go.Av
open Go.Proofs
theorem ev44 (fa ga:Bool) (r:Rat) (h:Sp.okB r.num):Ev M1 (.pure 44 [ratA fa ga r]) (ratF (-r)) []:=by
 refine call44 (vRNeg _ _ _ _ _ ⟨h,?_⟩)
 show Weak _ (AV.agg [.bool (Sp.Zaf (-r).num),.vec false 1 ((Sp.Zau (-r).num).map (.int .u32)),.bool (Sp.Zaf ((-r).den:Int)),.vec false 1 ((Sp.Zau ((-r).den:Int)).map (.int .u32))])
 rw [Rat.neg_num,Rat.neg_den]
 exact Zfy _ _ _ _ _ _
theorem ev43 (fa ga:Bool) (r:Rat) (h:Sp.okB r.num/\Sp.okB r.den):Ev M1 (.pure 43 [ratA fa ga r]) (bigA false (Sp.flo r.num r.den)) []:=
 call43 (vRFloor _ _ _ _ _ ⟨⟨h.1,h.2,by have:=r.den_pos;omega⟩,.refl _⟩)
namespace Sp
end Sp
theorem ev75 (fa:Bool) (a:Int):Ev M1 (.pure 75 [bigA fa a]) (ratF (a:Rat)) []:=by
 refine call75 (vWhole _ _ _ ?_)
 show Weak _ (AV.agg [.bool (Sp.Zaf (a:Rat).num),.vec false 1 ((Sp.Zau (a:Rat).num).map (.int .u32)),.bool (Sp.Zaf ((a:Rat).den:Int)),.vec false 1 ((Sp.Zau ((a:Rat).den:Int)).map (.int .u32))])
 rw [Rat.num_intCast,Rat.den_intCast]
 exact Zfy _ _ _ _ _ _
end Go.Av

namespace Go.Av
open Go.Proofs
set_option maxRecDepth 100000
def fi36:Fi:=⟨6,[.cell 2 30]⟩
def kp36:List (Nat × List Nat):=[(0,[0,2]),(1,[2])]
def fi39:Fi:=⟨16,[.cell 4 30]⟩
def kp39:List (Nat × List Nat):=[(0,[2,3,4]),(1,[4])]
def fi41:Fi:=⟨25,[.tmp 4]⟩
def kp41:List (Nat × List Nat):=[(0,[2,3]),(1,[2,3,5]),(2,[2,3,5,12]),(3,[4]),(4,[4])]
def fi76:Fi:=⟨36,[.cell 4 30]⟩
def kp76:List (Nat × List Nat):=[(0,[2,3,4]),(1,[2,3,4,10]),(2,[4]),(3,[4])]
def vRAdd_at (fa ga fb gb:Bool) (r s:Rat) (Q:AV->Heap->Prop):Prop:=Wp M1 (.run fi76 (atC (cd Try.f76) []) [(0,ratA fa ga r),(1,ratA fb gb s)] []) Q
def vRMul_at (fa ga fb gb:Bool) (r s:Rat) (Q:AV->Heap->Prop):Prop:=Wp M1 (.run fi39 (atC (cd Try.f39) []) [(0,ratA fa ga r),(1,ratA fb gb s)] []) Q
def vRCmp_at (fa ga fb gb:Bool) (r s:Rat) (Q:AV->Heap->Prop):Prop:=Wp M1 (.run fi41 (atC (cd Try.f41) []) [(0,ratA fa ga r),(1,ratA fb gb s)] []) Q
def vRFrom_at (n:Int) (Q:AV->Heap->Prop):Prop:=Wp M1 (.run fi36 (atC (cd Try.f36) []) [(0,.int .i64 n)] []) Q
theorem call36 {args:List AV} {d:AV} (h:wc M1 fi36 Try.f36 args d):Ev M1 (.pure 36 args) d []:=pcl _ _ (by kernel_rfl) h
theorem call39 {args:List AV} {d:AV} (h:wc M1 fi39 Try.f39 args d):Ev M1 (.pure 39 args) d []:=pcl _ _ (by kernel_rfl) h
theorem call41 {args:List AV} {d:AV} (h:wc M1 fi41 Try.f41 args d):Ev M1 (.pure 41 args) d []:=pcl _ _ (by kernel_rfl) h
theorem call76 {args:List AV} {d:AV} (h:wc M1 fi76 Try.f76 args d):Ev M1 (.pure 76 args) d []:=pcl _ _ (by kernel_rfl) h
theorem vRAdd (fa ga fb gb:Bool) (r s:Rat)  (dq:AV) (H :
  (Sp.okB (↑r.den:Int)/\Sp.okB (↑s.den:Int)) /\
  ((Sp.sgnI ((↑r.den:Int)-(↑s.den:Int))=0)->(Sp.okB r.num/\Sp.okB s.num) /\
   (Sp.okB (r.num+s.num)/\Sp.okB (↑r.den:Int)/\(↑r.den:Int) ≠ 0) /\
   Weak (ratF (Rat.divInt (r.num+s.num) (↑r.den:Int))) dq) /\
  (¬(Sp.sgnI ((↑r.den:Int)-(↑s.den:Int))=0)->(Sp.okB r.num/\Sp.okB (↑s.den:Int)) /\
   (Sp.okB s.num/\Sp.okB (↑r.den:Int)) /\
   (Sp.okB (r.num*(↑s.den:Int))/\Sp.okB (s.num*(↑r.den:Int))) /\
   (Sp.okB (r.num*(↑s.den:Int)+s.num*(↑r.den:Int))/\Sp.okB ((↑r.den:Int)*(↑s.den:Int))/\(↑r.den:Int)*(↑s.den:Int) ≠ 0) /\
   Weak (ratF (Rat.divInt (r.num*(↑s.den:Int)+s.num*(↑r.den:Int)) ((↑r.den:Int)*(↑s.den:Int)))) dq)) :
 vRAdd_at fa ga fb gb r s (Zad dq):=by
 unfold vRAdd_at
 obtain ⟨k1,H⟩:=H
 refine Zac (G:=Zab kp76 [(1,4,.call (vi (Sp.sgnI ((↑r.den:Int)-(↑s.den:Int)))) none)] []) 5 [] ⟨(atC (cd Try.f76) [1,0,1]),[(2,AV.ptr 0 0 0 0),(3,AV.ptr 1 0 0 0),(4,AV.ptr 2 0 0 0),(10,vb (Sp.sgnI ((↑r.den:Int)-(↑s.den:Int))==0))],[⟨[ratA fa ga r],4,0,false,false⟩,⟨[ratA fb gb s],4,0,false,false⟩,⟨[ag [vb false,AV.vnil,vb false,AV.vnil]],4,0,false,false⟩],_,[],_⟩ (by kernel_rfl) (bc rfl (bc rfl b0)) q0 (ce (@ev47 ga gb ((↑r.den:Int)) ((↑s.den:Int)) k1) c0) ?_
 rcases xq H with ⟨d3,H⟩|⟨d3,H⟩
 ·obtain ⟨k4,k5,H⟩:=H
  exact Zai (G:=Zab kp76 [(2,4,.call (bigA false (r.num+s.num)) none),(2,7,.call (ratF (Rat.divInt (r.num+s.num) (↑r.den:Int))) none)] []) 1000 [true] (ratF (Rat.divInt (r.num+s.num) (↑r.den:Int))) (by kernel_rfl) (bc (Zak (i_eq.2 d3)) (bc rfl (bc rfl (bc rfl (bc rfl b0))))) q0 (ce (@ev83 fa fb (r.num) (s.num) k4) (ce (@ev77 false ga (r.num+s.num) ((↑r.den:Int)) k5) c0)) H
 ·obtain ⟨k6,k7,k8,k9,H⟩:=H
  exact Zai (G:=Zab kp76 [(3,4,.call (bigA false (r.num*(↑s.den:Int))) none),(3,9,.call (bigA false (s.num*(↑r.den:Int))) none),(3,10,.call (bigA false (r.num*(↑s.den:Int)+s.num*(↑r.den:Int))) none),(3,15,.call (bigA false ((↑r.den:Int)*(↑s.den:Int))) none),(3,16,.call (ratF (Rat.divInt (r.num*(↑s.den:Int)+s.num*(↑r.den:Int)) ((↑r.den:Int)*(↑s.den:Int)))) none)] []) 1000 [false] (ratF (Rat.divInt (r.num*(↑s.den:Int)+s.num*(↑r.den:Int)) ((↑r.den:Int)*(↑s.den:Int)))) (by kernel_rfl) (bc (Zah (fun h=>d3 (i_eq.1 h))) (bc rfl (bc rfl (bc rfl (bc rfl (bc rfl (bc rfl (bc rfl b0)))))))) q0 (ce (@ev78 fa gb (r.num) ((↑s.den:Int)) k6) (ce (@ev78 fb ga (s.num) ((↑r.den:Int)) k7) (ce (@ev83 false false (r.num*(↑s.den:Int)) (s.num*(↑r.den:Int)) k8) (ce (@ev78 ga gb ((↑r.den:Int)) ((↑s.den:Int)) k1) (ce (@ev77 false false (r.num*(↑s.den:Int)+s.num*(↑r.den:Int)) ((↑r.den:Int)*(↑s.den:Int)) k9) c0))))) H
theorem vRMul (fa ga fb gb:Bool) (r s:Rat)  (dq:AV) (H :
  (Sp.okB r.num/\Sp.okB s.num) /\
  (Sp.okB (↑r.den:Int)/\Sp.okB (↑s.den:Int)) /\
  (Sp.okB (r.num*s.num)/\Sp.okB ((↑r.den:Int)*(↑s.den:Int))/\(↑r.den:Int)*(↑s.den:Int) ≠ 0) /\
  Weak (ratF (Rat.divInt (r.num*s.num) ((↑r.den:Int)*(↑s.den:Int)))) dq) :
 vRMul_at fa ga fb gb r s (Zad dq):=by
 unfold vRMul_at
 obtain ⟨k1,k2,k3,H⟩:=H
 exact Zai (G:=Zab kp39 [(1,4,.call (bigA false (r.num*s.num)) none),(1,9,.call (bigA false ((↑r.den:Int)*(↑s.den:Int))) none),(1,10,.call (ratF (Rat.divInt (r.num*s.num) ((↑r.den:Int)*(↑s.den:Int)))) none)] []) 1000 [] (ratF (Rat.divInt (r.num*s.num) ((↑r.den:Int)*(↑s.den:Int)))) (by kernel_rfl) (bc rfl (bc rfl (bc rfl (bc rfl (bc rfl b0))))) q0 (ce (@ev78 fa fb (r.num) (s.num) k1) (ce (@ev78 ga gb ((↑r.den:Int)) ((↑s.den:Int)) k2) (ce (@ev77 false false (r.num*s.num) ((↑r.den:Int)*(↑s.den:Int)) k3) c0))) H
theorem vRCmp (fa ga fb gb:Bool) (r s:Rat)  (dq:AV) (H :
  ∃ (n1:Int),
  (Ev M1 (Conf.pure 79 [vi (Sp.sgnI r.num),vi (Sp.sgnI s.num)]) (vi n1) []) /\
  ((¬n1=0)->vi n1=dq) /\
  (¬(¬n1=0)->(Sp.okB r.num/\Sp.okB (↑s.den:Int)) /\
   (Sp.okB s.num/\Sp.okB (↑r.den:Int)) /\
   (Sp.okB (r.num*(↑s.den:Int))/\Sp.okB (s.num*(↑r.den:Int))) /\
   vi (Sp.sgnI (r.num*(↑s.den:Int)-s.num*(↑r.den:Int)))=dq)) :
 vRCmp_at fa ga fb gb r s (Zad dq):=by
 unfold vRCmp_at
 obtain ⟨n1,k1,H⟩:=H
 refine Zac (G:=Zab kp41 [(1,1,.call (vi (Sp.sgnI r.num)) none),(1,3,.call (vi (Sp.sgnI s.num)) none),(1,4,.call (vi n1) none)] []) 7 [] ⟨(atC (cd Try.f41) [1,0,1,1]),[(2,AV.ptr 0 0 0 0),(3,AV.ptr 1 0 0 0),(5,vi n1),(12,vb (n1 != 0))],[⟨[ratA fa ga r],4,0,false,false⟩,⟨[ratA fb gb s],4,0,false,false⟩],_,[],_⟩ (by kernel_rfl) (bc rfl (bc rfl b0)) q0 (ce (@ev80 fa ga (r.num) ((↑r.den:Int))) (ce (@ev80 fb gb (s.num) ((↑s.den:Int))) (ce k1 c0))) ?_
 rcases xq H with ⟨d3,H⟩|⟨d3,H⟩
 ·exact Zae (G:=Zab kp41 [] []) 1000 [true] (vi n1) (by kernel_rfl) (bc (Zak (i_ne.2 d3)) b0) q0 c0 H
 ·obtain ⟨k4,k5,k6,H⟩:=H
  exact Zae (G:=Zab kp41 [(4,4,.call (bigA false (r.num*(↑s.den:Int))) none),(4,9,.call (bigA false (s.num*(↑r.den:Int))) none),(4,10,.call (vi (Sp.sgnI (r.num*(↑s.den:Int)-s.num*(↑r.den:Int)))) none)] []) 1000 [false] (vi (Sp.sgnI (r.num*(↑s.den:Int)-s.num*(↑r.den:Int)))) (by kernel_rfl) (bc (Zah (fun h=>d3 (i_ne.1 h))) (bc rfl (bc rfl (bc rfl (bc rfl b0))))) q0 (ce (@ev78 fa gb (r.num) ((↑s.den:Int)) k4) (ce (@ev78 fb ga (s.num) ((↑r.den:Int)) k5) (ce (@ev47 false false (r.num*(↑s.den:Int)) (s.num*(↑r.den:Int)) k6) c0))) H
theorem vRFrom (n:Int)  (dq:AV) (H :
  (Sp.inI n) /\
  Weak (ratF (↑n:Rat)) dq) :
 vRFrom_at n (Zad dq):=by
 unfold vRFrom_at
 obtain ⟨k1,H⟩:=H
 exact Zai (G:=Zab kp36 [(1,1,.call (bigA false n) none),(1,2,.call (ratF (↑n:Rat)) none)] []) 1000 [] (ratF (↑n:Rat)) (by kernel_rfl) (bc rfl b0) q0 (ce (@ev46 n k1) (ce (@ev75 false n) c0)) H
end Go.Av

namespace Go.Av
open Go.Proofs
def Sp.okR (r:Rat):Prop:=Sp.cnt r.num.natAbs<=90000/\Sp.cnt r.den<=90000
theorem Zea {r:Rat} (h:Sp.okR r):Sp.okB r.num/\Sp.okB (r.den:Int):=by
 unfold Sp.okR at h
 unfold Sp.okB
 rw [Int.natAbs_natCast];omega
theorem ZbC {a b:Int} {n m:Nat} (ha:Sp.cnt a.natAbs<=n) (hb:Sp.cnt b.natAbs<=m):Sp.cnt (a*b).natAbs<=n+m:=by
 rw [Int.natAbs_mul]
 exact Zav.1 (Zc5 (Zav.2 ha) (Zav.2 hb))
theorem cnt_addI {a b:Int} {n:Nat} (ha:Sp.cnt a.natAbs<=n) (hb:Sp.cnt b.natAbs<=n):Sp.cnt (a+b).natAbs<=n+1:=by
 have h:=Zav.1 (ZeL (Zav.2 ha) (Zav.2 hb))
 exact Nat.le_trans (ZaQ (Int.natAbs_add_le a b)) h
theorem ZbO {r:Rat} {n:Nat} (h:Sp.cnt r.den<=n):Sp.cnt ((r.den:Int)).natAbs<=n:=by rwa [Int.natAbs_natCast]
theorem Zdm (r:Rat):(r.den:Int) ≠ 0:=by have:=r.den_pos;omega
theorem rat_add (r s:Rat):Rat.divInt (r.num*(s.den:Int)+s.num*(r.den:Int)) ((r.den:Int)*(s.den:Int))=r+s:=by
 rw [<- Rat.divInt_add_divInt _ _ (Zdm r) (Zdm s),Rat.num_divInt_den,Rat.num_divInt_den]
theorem rat_add_same {r s:Rat} (h:(r.den:Int)=(s.den:Int)):Rat.divInt (r.num+s.num) (r.den:Int)=r+s:=by
 rw [<- rat_add,<- h,<- Int.add_mul,Rat.divInt_mul_right (Zdm r)]
theorem rat_mul (r s:Rat):Rat.divInt (r.num*s.num) ((r.den:Int)*(s.den:Int))=r*s:=by
 rw [<- Rat.divInt_mul_divInt,Rat.num_divInt_den,Rat.num_divInt_den]
theorem ev76 (fa ga fb gb:Bool) (r s:Rat) (h:Sp.okR r/\Sp.okR s):Ev M1 (.pure 76 [ratA fa ga r,ratA fb gb s]) (ratF (r+s)) []:=by
 obtain ⟨hr,hs⟩:=h
 obtain ⟨r1,r2⟩:=Zea hr
 obtain ⟨s1,s2⟩:=Zea hs
 obtain ⟨cr1,cr2⟩:=hr
 obtain ⟨cs1,cs2⟩:=hs
 have m1:=ZbC cr1 (ZbO cs2)
 have m2:=ZbC cs1 (ZbO cr2)
 have m3:=ZbC (ZbO cr2) (ZbO cs2)
 have a1:=cnt_addI m1 m2
 have a2:=cnt_addI cr1 cs1
 refine call76 (vRAdd _ _ _ _ _ _ _ ⟨⟨r2,s2⟩,fun k=>⟨⟨r1,s1⟩,⟨by unfold Sp.okB;omega,r2,Zdm r⟩,?_⟩,fun k=>⟨⟨r1,s2⟩,⟨s1,r2⟩,⟨by unfold Sp.okB;omega,by unfold Sp.okB;omega⟩,⟨by unfold Sp.okB;omega,by unfold Sp.okB;omega,Int.mul_ne_zero (Zdm r) (Zdm s)⟩,?_⟩⟩)
 ·have k:=Zf8.1 k
  rw [rat_add_same (by omega)];exact .refl _
 ·rw [rat_add];exact .refl _
theorem ev39 (fa ga fb gb:Bool) (r s:Rat) (h:Sp.okR r/\Sp.okR s):Ev M1 (.pure 39 [ratA fa ga r,ratA fb gb s]) (ratF (r*s)) []:=by
 obtain ⟨hr,hs⟩:=h
 obtain ⟨r1,r2⟩:=Zea hr
 obtain ⟨s1,s2⟩:=Zea hs
 obtain ⟨cr1,cr2⟩:=hr
 obtain ⟨cs1,cs2⟩:=hs
 have m1:=ZbC cr1 cs1
 have m3:=ZbC (ZbO cr2) (ZbO cs2)
 refine call39 (vRMul _ _ _ _ _ _ _ ⟨⟨r1,s1⟩,⟨r2,s2⟩,⟨by unfold Sp.okB;omega,by unfold Sp.okB;omega,Int.mul_ne_zero (Zdm r) (Zdm s)⟩,?_⟩)
 rw [rat_mul];exact .refl _
theorem hid_ex (r:Rat):∃ s:Rat,s=r:=⟨r,rfl⟩
noncomputable def Sp.hid (r:Rat):Rat:=Classical.choose (hid_ex r)
theorem hid_eq (r:Rat):Sp.hid r=r:=Classical.choose_spec (hid_ex r)
noncomputable def Sp.qi (n:Int):Rat:=Sp.hid n
theorem ZbK (n:Int):Sp.qi n=(n:Rat):=hid_eq _
theorem ev36 (n:Int) (h:Sp.inI n):Ev M1 (.pure 36 [.int .i64 n]) (ratF (Sp.qi n)) []:=by
 rw [ZbK]
 exact call36 (vRFrom _ _ ⟨h,.refl _⟩)
end Go.Av

namespace Go.Av
open Go.Proofs
namespace Sp
end Sp
end Go.Av

namespace Go.Av
open Go.Proofs
end Go.Av

namespace Go.Av
open Go.Proofs
set_option maxRecDepth 100000
def fi61:Fi:=⟨2,[.cell 0 28]⟩
def kp61:List (Nat × List Nat):=[(0,[0]),(1,[0])]
def fi72:Fi:=⟨39,[.cell 4 30]⟩
def kp72:List (Nat × List Nat):=[(0,[2,3,4]),(1,[2,3,4,14]),(2,[2,3,4]),(3,[2,3,4,5]),(4,[3,4,5,6]),(5,[4,6,9]),(6,[4])]
def rUnit_at  (Q:AV->Heap->Prop):Prop:=Wp M1 (.run fi61 (atC (cd Try.f61) []) [] []) Q
def rOf_at (fa fb:Bool) (a b:Int) (Q:AV->Heap->Prop):Prop:=Wp M1 (.run fi72 (atC (cd Try.f72) []) [(0,bigA fa a),(1,bigA fb b)] []) Q
theorem call61 {args:List AV} {d:AV} (h:wc M1 fi61 Try.f61 args d):Ev M1 (.pure 61 args) d []:=pcl _ _ (by kernel_rfl) h
theorem call72 {args:List AV} {d:AV} (h:wc M1 fi72 Try.f72 args d):Ev M1 (.pure 72 args) d []:=pcl _ _ (by kernel_rfl) h
theorem rUnit   (dq:AV) (H :
  (Sp.inI 1) /\
  Weak (ag [vb false,vf (us (Sp.Zau 1))]) dq) :
 rUnit_at  (Zad dq):=by
 unfold rUnit_at
 obtain ⟨k1,H⟩:=H
 exact Zai (G:=Zab kp61 [(1,0,.call (ag [vb false,vf (us (Sp.Zau 1))]) none)] []) 1000 [] (ag [vb false,vf (us (Sp.Zau 1))]) (by kernel_rfl) (bc rfl b0) q0 (ce (@ev60 1 k1) c0) H
theorem rOf (fa fb:Bool) (a b:Int)  (dq:AV) (H :
  ((Sp.sgnI b<0)->(Sp.ok a) /\
   (Sp.ok b) /\
   (Sp.cnt (-a).natAbs<=399000/\Sp.cnt (-b).natAbs<=399000) /\
   (Sp.cnt (-a).natAbs<=399000/\Sp.cnt (↑((-a).gcd (-b)):Int).natAbs<=399000/\(↑((-a).gcd (-b)):Int) ≠ 0) /\
   (Sp.cnt (-b).natAbs<=399000/\Sp.cnt (↑((-a).gcd (-b)):Int).natAbs<=399000/\(↑((-a).gcd (-b)):Int) ≠ 0) /\
   Weak (ag [vb (Sp.Zaf (Sp.flo (-a) (↑((-a).gcd (-b)):Int))),vf (us (Sp.Zau (Sp.flo (-a) (↑((-a).gcd (-b)):Int)))),vb (Sp.Zaf (Sp.flo (-b) (↑((-a).gcd (-b)):Int))),vf (us (Sp.Zau (Sp.flo (-b) (↑((-a).gcd (-b)):Int))))]) dq) /\
  (¬(Sp.sgnI b<0)->(Sp.cnt a.natAbs<=399000/\Sp.cnt b.natAbs<=399000) /\
   (Sp.cnt a.natAbs<=399000/\Sp.cnt (↑(a.gcd b):Int).natAbs<=399000/\(↑(a.gcd b):Int) ≠ 0) /\
   (Sp.cnt b.natAbs<=399000/\Sp.cnt (↑(a.gcd b):Int).natAbs<=399000/\(↑(a.gcd b):Int) ≠ 0) /\
   Weak (ag [vb (Sp.Zaf (Sp.flo a (↑(a.gcd b):Int))),vf (us (Sp.Zau (Sp.flo a (↑(a.gcd b):Int)))),vb (Sp.Zaf (Sp.flo b (↑(a.gcd b):Int))),vf (us (Sp.Zau (Sp.flo b (↑(a.gcd b):Int))))]) dq)) :
 rOf_at fa fb a b (Zad dq):=by
 unfold rOf_at
 refine Zac (G:=Zab kp72 [(1,1,.call (vi (Sp.sgnI b)) none)] []) 5 [] ⟨(atC (cd Try.f72) [1,0,1]),[(2,AV.ptr 0 0 0 0),(3,AV.ptr 1 0 0 0),(4,AV.ptr 2 0 0 0),(14,vb (decide (Sp.sgnI b<0)))],[⟨[bigA fa a],2,0,false,false⟩,⟨[bigA fb b],2,0,false,false⟩,⟨[ag [vb false,AV.vnil,vb false,AV.vnil]],4,0,false,false⟩],_,[],_⟩ (by kernel_rfl) (bc rfl b0) q0 (ce (@ev65 fb b) c0) ?_
 rcases xq H with ⟨d2,H⟩|⟨d2,H⟩
 ·obtain ⟨k3,k4,k5,k6,k7,H⟩:=H
  exact Zai (G:=Zab kp72 [(2,1,.call (bigA false (-a)) none),(2,3,.call (bigA false (-b)) none),(3,2,.call (bigA false (↑((-a).gcd (-b)):Int)) none),(4,2,.call (tu [bigA false (Sp.flo (-a) (↑((-a).gcd (-b)):Int)),bigA false (Sp.flr (-a) (↑((-a).gcd (-b)):Int)),vi 0]) none),(5,2,.call (tu [bigA false (Sp.flo (-b) (↑((-a).gcd (-b)):Int)),bigA false (Sp.flr (-b) (↑((-a).gcd (-b)):Int)),vi 0]) none)] []) 1000 [true] (ag [vb (Sp.Zaf (Sp.flo (-a) (↑((-a).gcd (-b)):Int))),vf (us (Sp.Zau (Sp.flo (-a) (↑((-a).gcd (-b)):Int)))),vb (Sp.Zaf (Sp.flo (-b) (↑((-a).gcd (-b)):Int))),vf (us (Sp.Zau (Sp.flo (-b) (↑((-a).gcd (-b)):Int))))]) (by kernel_rfl) (bc (Zak (Zaa.2 d2)) (bc rfl (bc rfl (bc rfl (bc rfl (bc rfl (bc rfl (bc rfl (bc rfl (bc rfl (bc rfl (bc rfl (bc rfl (bc rfl (bc rfl (bc rfl (bc rfl (bc rfl (bc rfl b0))))))))))))))))))) q0 (ce (@ev54 fa a k3) (ce (@ev54 fb b k4) (ce (@ev74 false false (-a) (-b) k5) (ce (@ev88 false false (-a) ((↑((-a).gcd (-b)):Int)) k6) (ce (@ev88 false false (-b) ((↑((-a).gcd (-b)):Int)) k7) c0))))) H
 ·obtain ⟨k8,k9,k10,H⟩:=H
  exact Zai (G:=Zab kp72 [(3,2,.call (bigA false (↑(a.gcd b):Int)) none),(4,2,.call (tu [bigA false (Sp.flo a (↑(a.gcd b):Int)),bigA false (Sp.flr a (↑(a.gcd b):Int)),vi 0]) none),(5,2,.call (tu [bigA false (Sp.flo b (↑(a.gcd b):Int)),bigA false (Sp.flr b (↑(a.gcd b):Int)),vi 0]) none)] []) 1000 [false] (ag [vb (Sp.Zaf (Sp.flo a (↑(a.gcd b):Int))),vf (us (Sp.Zau (Sp.flo a (↑(a.gcd b):Int)))),vb (Sp.Zaf (Sp.flo b (↑(a.gcd b):Int))),vf (us (Sp.Zau (Sp.flo b (↑(a.gcd b):Int))))]) (by kernel_rfl) (bc (Zah (fun h=>d2 (Zaa.1 h))) (bc rfl (bc rfl (bc rfl (bc rfl (bc rfl (bc rfl (bc rfl (bc rfl (bc rfl (bc rfl (bc rfl (bc rfl (bc rfl (bc rfl b0))))))))))))))) q0 (ce (@ev74 fa fb a b k8) (ce (@ev88 fa false a ((↑(a.gcd b):Int)) k9) (ce (@ev88 fb false b ((↑(a.gcd b):Int)) k10) c0))) H
end Go.Av

namespace Go.Av
open Go.Proofs
set_option maxRecDepth 100000
def fi106:Fi:=⟨6,[.tmp 2]⟩
def kp106:List (Nat × List Nat):=[(0,[0]),(1,[2])]
def vIsNaN_at (x:Int) (Q:AV->Heap->Prop):Prop:=Wp M1 (.run fi106 (atC (cd Try.f106) []) [(0,.int .i64 x)] []) Q
theorem call106 {args:List AV} {d:AV} (h:wc M1 fi106 Try.f106 args d):Ev M1 (.pure 106 args) d []:=pcl _ _ (by kernel_rfl) h
theorem vIsNaN (x:Int)  (dq:AV) (H :
  (vb (x != x))=dq) :
 vIsNaN_at x (Zad dq):=by
 unfold vIsNaN_at
 exact Zae (G:=Zab kp106 [] []) 1000 [] (vb (x != x)) (by kernel_rfl) b0 q0 c0 H
end Go.Av

namespace Go.Av
open Go.Proofs
theorem ev106 (x:Int):Ev M1 (.pure 106 [.int .i64 x]) (.bool false) []:=
 call106 (vIsNaN _ _ (by simp))
end Go.Av

namespace Go.Av
open Go.Proofs
set_option maxRecDepth 100000
def fi38:Fi:=⟨9,[.cell 4 30]⟩
def kp38:List (Nat × List Nat):=[(0,[2,3,4]),(1,[4])]
def fi79:Fi:=⟨20,[.tmp 4]⟩
def kp79:List (Nat × List Nat):=[(0,[0,1]),(1,[0,1,5]),(2,[0,1,5,6]),(3,[0,1,6,11]),(4,[12]),(5,[4]),(6,[4]),(7,[0,1,13]),(8,[4]),(9,[0,1,16]),(10,[4]),(11,[19]),(12,[4]),(13,[4])]
def Zhc (x y:Int) (Q:AV->Heap->Prop):Prop:=Wp M1 (.run fi79 (atC (cd Try.f79) []) [(0,.int .i64 x),(1,.int .i64 y)] []) Q
def vRSub_at (fa ga fb gb:Bool) (r s:Rat) (Q:AV->Heap->Prop):Prop:=Wp M1 (.run fi38 (atC (cd Try.f38) []) [(0,ratA fa ga r),(1,ratA fb gb s)] []) Q
theorem call38 {args:List AV} {d:AV} (h:wc M1 fi38 Try.f38 args d):Ev M1 (.pure 38 args) d []:=pcl _ _ (by kernel_rfl) h
theorem call79 {args:List AV} {d:AV} (h:wc M1 fi79 Try.f79 args d):Ev M1 (.pure 79 args) d []:=pcl _ _ (by kernel_rfl) h
theorem vCmpInt (x y:Int)  (dq:AV) (H :
  ((x<y)->vi (-1)=dq) /\
  (¬(x<y)->((x>y)->vi 1=dq) /\
   (¬(x>y)->vi 0=dq))) :
 Zhc x y (Zad dq):=by
 unfold Zhc
 refine Zac (G:=Zab kp79 [(1,1,.call (vb false) none),(2,1,.call (vb false) none)] []) 19 [false,false] ⟨(atC (cd Try.f79) [1,1,1,1,1,0,1]),[(0,vi x),(1,vi y),(16,vb (decide (x<y)))],[],_,[],_⟩ (by kernel_rfl) (bc rfl (bc rfl b0)) q0 (ce (@ev106 x) (ce (@ev106 y) c0)) ?_
 rcases xq H with ⟨d2,H⟩|⟨d2,H⟩
 ·exact Zae (G:=Zab kp79 [] []) 1000 [true] (vi (-1)) (by kernel_rfl) (bc (Zak (Zaa.2 d2)) b0) q0 c0 H
 ·rcases xq H with ⟨d4,H⟩|⟨d4,H⟩
  ·exact Zae (G:=Zab kp79 [] []) 1000 [false,true] (vi 1) (by kernel_rfl) (bc (Zah (fun h=>d2 (Zaa.1 h))) (bc (Zak (Zaa.2 d4)) b0)) q0 c0 H
  ·exact Zae (G:=Zab kp79 [] []) 1000 [false,false] (vi 0) (by kernel_rfl) (bc (Zah (fun h=>d2 (Zaa.1 h))) (bc (Zah (fun h=>d4 (Zaa.1 h))) b0)) q0 c0 H
theorem vRSub (fa ga fb gb:Bool) (r s:Rat)  (dq:AV) (H :
  (Sp.okB s.num) /\
  (Sp.okR r/\Sp.okR (-s)) /\
  Weak (ratF (r + -s)) dq) :
 vRSub_at fa ga fb gb r s (Zad dq):=by
 unfold vRSub_at
 obtain ⟨k1,k2,H⟩:=H
 exact Zai (G:=Zab kp38 [(1,2,.call (ratF (-s)) none),(1,3,.call (ratF (r + -s)) none)] []) 1000 [] (ratF (r + -s)) (by kernel_rfl) (bc rfl (bc rfl (bc rfl b0))) q0 (ce (@ev44 fb gb s k1) (ce (@ev76 fa ga false false r (-s) k2) c0)) H
end Go.Av

namespace Go.Av
open Go.Proofs
theorem ev79 (x y:Int):Ev M1 (.pure 79 [.int .i64 x,.int .i64 y]) (.int .i64 (Sp.sgnI (x-y))) []:=by
 refine call79 (vCmpInt _ _ _ ⟨fun h => ?_,fun h=>⟨fun k => ?_,fun k => ?_⟩⟩)
 ·unfold Sp.sgnI;rw [if_pos (by omega)]
 ·unfold Sp.sgnI;rw [if_neg (by omega),if_pos (by omega)]
 ·unfold Sp.sgnI;rw [if_neg (by omega),if_neg (by omega)]
theorem okR_neg {s:Rat} (h:Sp.okR s):Sp.okR (-s):=by
 unfold Sp.okR at *
 rw [Rat.neg_num,Rat.neg_den,Int.natAbs_neg];exact h
theorem ev38 (fa ga fb gb:Bool) (r s:Rat) (h:Sp.okR r/\Sp.okR s):Ev M1 (.pure 38 [ratA fa ga r,ratA fb gb s]) (ratF (r-s)) []:=by
 refine call38 (vRSub _ _ _ _ _ _ _ ⟨(Zea h.2).1,⟨h.1,okR_neg h.2⟩,?_⟩)
 rw [<- Rat.sub_eq_add_neg];exact .refl _
theorem sgn_mul (a:Int) {d:Int} (h:0<d):(a<0->a*d<0)/\(a=0->a*d=0)/\(0<a->0<a*d):=
 ⟨fun k=>Int.mul_neg_of_neg_of_pos k h,fun k=>by rw [k,Int.zero_mul],fun k=>Int.mul_pos k h⟩
theorem ev41 (fa ga fb gb:Bool) (r s:Rat) (h:Sp.okR r/\Sp.okR s):Ev M1 (.pure 41 [ratA fa ga r,ratA fb gb s]) (.int .i64 (Sp.sgnI (r.num*(s.den:Int)-s.num*(r.den:Int)))) []:=by
 obtain ⟨hr,hs⟩:=h
 obtain ⟨r1,r2⟩:=Zea hr
 obtain ⟨s1,s2⟩:=Zea hs
 obtain ⟨cr1,cr2⟩:=hr
 obtain ⟨cs1,cs2⟩:=hs
 have m1:=ZbC cr1 (ZbO cs2)
 have m2:=ZbC cs1 (ZbO cr2)
 refine call41 (vRCmp _ _ _ _ _ _ _ ⟨_,ev79 _ _,fun k => ?_,fun _=>⟨⟨r1,s2⟩,⟨s1,r2⟩,⟨by unfold Sp.okB;omega,by unfold Sp.okB;omega⟩,rfl⟩⟩)
 obtain ⟨a1,a2,a3⟩:=sgn_mul r.num (d:=(s.den:Int)) (by have:=s.den_pos;omega)
 obtain ⟨b1,b2,b3⟩:=sgn_mul s.num (d:=(r.den:Int)) (by have:=r.den_pos;omega)
 congr 1
 generalize r.num*(s.den:Int)=A at a1 a2 a3 ⊢
 generalize s.num*(r.den:Int)=B at b1 b2 b3 ⊢
 unfold Sp.sgnI at k ⊢
 (repeat' split at k) <;> (repeat' split) <;> omega
end Go.Av

namespace Go.Av
open Go.Proofs
end Go.Av

namespace Go.Av
open Go.Proofs
theorem gcd_cnt {a b:Int} (hb:b ≠ 0) (h:Sp.cnt b.natAbs<=399000):Sp.cnt ((a.gcd b:Nat):Int).natAbs<=399000/\((a.gcd b:Nat):Int) ≠ 0:=by
 have h1:0<a.gcd b:=Int.gcd_pos_of_ne_zero_right _ hb
 have h2:a.gcd b<=b.natAbs:=Nat.le_of_dvd (by omega) (Int.gcd_dvd_natAbs_right a b)
 have:=ZaQ h2
 rw [Int.natAbs_natCast]
 omega
theorem ev61:Ev M1 (.pure 61 []) (.agg [.bool false,.vec false 1 ((Sp.Zau 1).map (.int .u32))]) []:=
 call61 (rUnit _ ⟨by unfold Sp.inI;omega,.refl _⟩)
theorem ev72 (fa fb:Bool) (a b:Int) (h:Sp.cnt a.natAbs<=399000/\Sp.cnt b.natAbs<=399000/\b ≠ 0):Ev M1 (.pure 72 [bigA fa a,bigA fb b]) (ratF (Rat.divInt a b)) []:=by
 obtain ⟨ha,hb,h0⟩:=h
 have hna:Sp.cnt (-a).natAbs<=399000:=by rwa [Int.natAbs_neg]
 have hnb:Sp.cnt (-b).natAbs<=399000:=by rwa [Int.natAbs_neg]
 refine call72 (rOf _ _ _ _ _ ⟨fun k => ?_,fun k => ?_⟩)
 ·rw [ZbD] at k
  obtain ⟨g1,g2⟩:=gcd_cnt (a:=-a) (b:=-b) (by omega) hnb
  obtain ⟨r1,r2⟩:=rat_neg (a:=a) k
  refine ⟨by unfold Sp.ok;omega,by unfold Sp.ok;omega,⟨hna,hnb⟩,⟨hna,g1,g2⟩,⟨hnb,g1,g2⟩,?_⟩
  show Weak _ (AV.agg [.bool (Sp.Zaf (Rat.divInt a b).num),.vec false 1 ((Sp.Zau (Rat.divInt a b).num).map (.int .u32)),.bool (Sp.Zaf ((Rat.divInt a b).den:Int)),.vec false 1 ((Sp.Zau ((Rat.divInt a b).den:Int)).map (.int .u32))])
  rw [r1,r2,Zdg g2,Zdg g2];exact .refl _
 ·rw [ZbD] at k
  obtain ⟨g1,g2⟩:=gcd_cnt (a:=a) (b:=b) h0 hb
  obtain ⟨r1,r2⟩:=rat_pos (a:=a) (show 0<b by omega)
  refine ⟨⟨ha,hb⟩,⟨ha,g1,g2⟩,⟨hb,g1,g2⟩,?_⟩
  show Weak _ (AV.agg [.bool (Sp.Zaf (Rat.divInt a b).num),.vec false 1 ((Sp.Zau (Rat.divInt a b).num).map (.int .u32)),.bool (Sp.Zaf ((Rat.divInt a b).den:Int)),.vec false 1 ((Sp.Zau ((Rat.divInt a b).den:Int)).map (.int .u32))])
  rw [r1,r2,Zdg g2,Zdg g2];exact .refl _
end Go.Av

namespace Go.Av
open Go.Proofs
set_option maxRecDepth 100000
def fi14:Fi:=⟨7,[.cell 2 30]⟩
def kp14:List (Nat × List Nat):=[(0,[0,2]),(1,[2])]
def fi32:Fi:=⟨12,[.cell 4 30]⟩
def kp32:List (Nat × List Nat):=[(0,[0,1,4]),(1,[0,1,4,6]),(2,[0,1,4]),(3,[4])]
def rRFrom_at (n:Int) (Q:AV->Heap->Prop):Prop:=Wp M1 (.run fi14 (atC (cd Try.f14) []) [(0,.int .i64 n)] []) Q
def rRFrac_at (n d:Int) (Q:AV->Heap->Prop):Prop:=Wp M1 (.run fi32 (atC (cd Try.f32) []) [(0,.int .i64 n),(1,.int .i64 d)] []) Q
theorem call14 {args:List AV} {d:AV} (h:wc M1 fi14 Try.f14 args d):Ev M1 (.pure 14 args) d []:=pcl _ _ (by kernel_rfl) h
theorem call32 {args:List AV} {d:AV} (h:wc M1 fi32 Try.f32 args d):Ev M1 (.pure 32 args) d []:=pcl _ _ (by kernel_rfl) h
theorem rRFrom (n:Int)  (dq:AV) (H :
  (Sp.inI n) /\
  Weak (ag [vb (Sp.Zaf n),vf (us (Sp.Zau n)),vb false,vf (us (Sp.Zau 1))]) dq) :
 rRFrom_at n (Zad dq):=by
 unfold rRFrom_at
 obtain ⟨k1,H⟩:=H
 exact Zai (G:=Zab kp14 [(1,1,.call (bigA false n) none),(1,2,.call (ag [vb false,vf (us (Sp.Zau 1))]) none)] []) 1000 [] (ag [vb (Sp.Zaf n),vf (us (Sp.Zau n)),vb false,vf (us (Sp.Zau 1))]) (by kernel_rfl) (bc rfl b0) q0 (ce (@ev60 n k1) (ce (@ev61 ) c0)) H
theorem rRFrac (n d:Int)  (dq:AV) (H :
  ((d=0)->(Sp.inI 0) /\
   (Sp.inI 1) /\
   ∃ (b1:Bool) (l1:List Int) (b2:Bool) (l2:List Int),
   (Ev M1 (Conf.pure 72 [ag [vb false,vf (us (Sp.Zau 0))],ag [vb false,vf (us (Sp.Zau 1))]]) (ag [vb b1,vf (us l1),vb b2,vf (us l2)]) []) /\
   Weak (ag [vb b1,vf (us l1),vb b2,vf (us l2)]) dq) /\
  (¬(d=0)->(Sp.inI n) /\
   (Sp.inI d) /\
   (Sp.cnt n.natAbs<=399000/\Sp.cnt d.natAbs<=399000/\d ≠ 0) /\
   Weak (ratF (Rat.divInt n d)) dq)) :
 rRFrac_at n d (Zad dq):=by
 unfold rRFrac_at
 rcases xq H with ⟨d2,H⟩|⟨d2,H⟩
 ·obtain ⟨k3,k4,b1,l1,b2,l2,k5,H⟩:=H
  exact Zai (G:=Zab kp32 [(3,1,.call (ag [vb false,vf (us (Sp.Zau 0))]) none),(3,3,.call (ag [vb false,vf (us (Sp.Zau 1))]) none),(3,4,.call (ag [vb b1,vf (us l1),vb b2,vf (us l2)]) none)] []) 1000 [true] (ag [vb b1,vf (us l1),vb b2,vf (us l2)]) (by kernel_rfl) (bc (Zak (i_eq.2 d2)) (bc rfl b0)) q0 (ce (@ev60 0 k3) (ce (@ev60 1 k4) (ce k5 c0))) H
 ·obtain ⟨k6,k7,k8,H⟩:=H
  exact Zai (G:=Zab kp32 [(3,1,.call (bigA false n) none),(3,3,.call (bigA false d) none),(3,4,.call (ratF (Rat.divInt n d)) none)] []) 1000 [false] (ratF (Rat.divInt n d)) (by kernel_rfl) (bc (Zah (fun h=>d2 (i_eq.1 h))) (bc rfl b0)) q0 (ce (@ev60 n k6) (ce (@ev60 d k7) (ce (@ev72 false false n d k8) c0))) H
end Go.Av

namespace Go.Av
open Go.Proofs
set_option maxRecDepth 100000
end Go.Av

namespace Go.Av
open Go.Proofs
def Sp.okA (a b:List Int):Prop:=(a.length<=90000 /\ ∀ x ∈ a,0<=x)/\(b.length<=90000 /\ ∀ x ∈ b,0<=x)
end Go.Av

namespace Go.Av
open Go.Proofs
theorem ev14 (n:Int) (h:Sp.inI n):Ev M1 (.pure 14 [.int .i64 n]) (ratF (Sp.qi n)) []:=by
 rw [ZbK]
 refine call14 (rRFrom _ _ ⟨h,?_⟩)
 show Weak _ (AV.agg [.bool (Sp.Zaf (n:Rat).num),.vec false 1 ((Sp.Zau (n:Rat).num).map (.int .u32)),.bool (Sp.Zaf ((n:Rat).den:Int)),.vec false 1 ((Sp.Zau ((n:Rat).den:Int)).map (.int .u32))])
 rw [Rat.num_intCast,Rat.den_intCast]
 exact .refl _
def Sp.okF (n d:Int):Prop:=Sp.inI n/\Sp.inI d/\d ≠ 0
noncomputable def Sp.qf (n d:Int):Rat:=Sp.hid (Rat.divInt n d)
theorem qf_eq (n d:Int):Sp.qf n d=Rat.divInt n d:=hid_eq _
theorem inI_cnt {n:Int} (h:Sp.inI n):Sp.cnt n.natAbs<=3:=by
 unfold Sp.inI at h
 exact cnt_u64 (by omega)
theorem ev32 (n d:Int) (h:Sp.okF n d):Ev M1 (.pure 32 [.int .i64 n,.int .i64 d]) (ratF (Sp.qf n d)) []:=by
 obtain ⟨h1,h2,h3⟩:=h
 have c1:=inI_cnt h1
 have c2:=inI_cnt h2
 rw [qf_eq]
 exact call32 (rRFrac _ _ _ ⟨fun k=>absurd k h3,fun _=>⟨h1,h2,⟨by omega,by omega,h3⟩,.refl _⟩⟩)
end Go.Av

namespace Go.Av
open Go.Proofs
end Go.Av

namespace Go.Av
open Go.Proofs
set_option maxRecDepth 100000
end Go.Av

namespace Go.Av
open Go.Proofs
end Go.Av

namespace Go.Av
open Go.Proofs
set_option maxRecDepth 100000
end Go.Av

namespace Go.Av
open Go.Proofs
def Sp.okT (k:Nat) (r:Rat):Prop:=Sp.cnt r.num.natAbs<=k/\Sp.cnt r.den<=k
theorem ZbW {k:Nat} {r:Rat} (h:Sp.okT k r) (hk:k<=90000):Sp.okR r:=⟨Nat.le_trans h.1 hk,Nat.le_trans h.2 hk⟩
theorem okT_le {k m:Nat} {r:Rat} (h:Sp.okT k r) (hk:k<=m):Sp.okT m r:=⟨Nat.le_trans h.1 hk,Nat.le_trans h.2 hk⟩
theorem divInt_le {p q:Int} (hq:q ≠ 0):(Rat.divInt p q).num.natAbs<=p.natAbs/\(Rat.divInt p q).den<=q.natAbs:=by
 by_cases h:0<q
 ·obtain ⟨e1,e2⟩:=rat_pos (a:=p) h
  have e3:(Rat.divInt p q).den=((q / ((p.gcd q:Nat):Int))).natAbs:=by omega
  rw [e1,e3]
  refine ⟨?_,?_⟩
  ·rw [Int.natAbs_ediv_of_dvd (Int.gcd_dvd_left ..)];exact Nat.div_le_self _ _
  ·rw [Int.natAbs_ediv_of_dvd (Int.gcd_dvd_right ..)];exact Nat.div_le_self _ _
 ·obtain ⟨e1,e2⟩:=rat_neg (a:=p) (b:=q) (by omega)
  have e3:(Rat.divInt p q).den=((-q / (((-p).gcd (-q):Nat):Int))).natAbs:=by omega
  rw [e1,e3]
  refine ⟨?_,?_⟩
  ·rw [Int.natAbs_ediv_of_dvd (Int.gcd_dvd_left ..),Int.natAbs_neg];exact Nat.div_le_self _ _
  ·rw [Int.natAbs_ediv_of_dvd (Int.gcd_dvd_right ..),Int.natAbs_neg];exact Nat.div_le_self _ _
theorem Ze1 {k m:Nat} {r s:Rat} (h:Sp.okT k r) (h2:Sp.okT m s):Sp.okT (k+m) (r*s):=by
 have e:=divInt_le (p:=r.num*s.num) (q:=(r.den:Int)*(s.den:Int)) (Int.mul_ne_zero (Zdm r) (Zdm s))
 rw [rat_mul] at e
 refine ⟨Nat.le_trans (ZaQ e.1) (ZbC h.1 h2.1),Nat.le_trans (ZaQ e.2) (ZbC (ZbO h.2) (ZbO h2.2))⟩
theorem okT_add {k m:Nat} {r s:Rat} (h:Sp.okT k r) (h2:Sp.okT m s):Sp.okT (k+m+1) (r+s):=by
 have e:=divInt_le (p:=r.num*(s.den:Int)+s.num*(r.den:Int)) (q:=(r.den:Int)*(s.den:Int)) (Int.mul_ne_zero (Zdm r) (Zdm s))
 rw [rat_add] at e
 have m1:=ZbC h.1 (ZbO h2.2)
 have m2:=ZbC h2.1 (ZbO h.2)
 have m3:=ZbC (ZbO h.2) (ZbO h2.2)
 have:=cnt_addI m1 (Nat.le_trans m2 (by omega))
 exact ⟨Nat.le_trans (ZaQ e.1) this,Nat.le_trans (ZaQ e.2) (Nat.le_trans m3 (by omega))⟩
theorem Zgl {k:Nat} {r:Rat} (h:Sp.okT k r):Sp.okT k (-r):=by
 unfold Sp.okT
 rw [Rat.neg_num,Rat.neg_den,Int.natAbs_neg];exact h
theorem Zgk {k m:Nat} {r s:Rat} (h:Sp.okT k r) (h2:Sp.okT m s):Sp.okT (k+m+1) (r-s):=by
 rw [Rat.sub_eq_add_neg];exact okT_add h (Zgl h2)
theorem Zbc {n:Int} (h:Sp.inI n):Sp.okT 3 (Sp.qi n):=by
 rw [ZbK]
 unfold Sp.okT
 rw [Rat.num_intCast,Rat.den_intCast]
 exact ⟨inI_cnt h,by have:=cnt_small (n:=1) (by decide);omega⟩
def Sp.isCom (b c y z:Rat):Prop:=b=0\/y=0\/c=z
instance (b c y z:Rat):Decidable (Sp.isCom b c y z):=inferInstanceAs (Decidable (_\/_))
end Go.Av

namespace Go.Av
open Go.Proofs
end Go.Av

namespace Go.Av
open Go.Proofs
set_option maxRecDepth 100000
def fi48:Fi:=⟨39,[.tmp 2,.tmp 3]⟩
def kp48:List (Nat × List Nat):=[(0,[1]),(1,[1,15]),(2,[2,3]),(3,[1,4]),(4,[1,4,5]),(5,[1,4,5,21]),(6,[1,4,5]),(7,[1,4,5]),(8,[4,34]),(9,[4]),(10,[2,3])]
def pI64_at (fa:Bool) (a:Int) (Q:AV->Heap->Prop):Prop:=Wp M1 (.run fi48 (atC (cd Try.f48) []) [(0,bigA fa a)] []) Q
def ZdX (fa:Bool) (a u i:Int) (Q:AV->Heap->Prop):Prop:=Wp M1 (.run fi48 (atC (cd Try.f48) [1,1,1,0,1,0,0]) [(1,.ptr 0 0 0 0),(4,.int .u64 u),(5,.int .i64 i)] [⟨[bigA fa a],2,0,false,false⟩]) Q
def pI64N_at (fa:Bool) (a u i:Int) (Q:AV->Heap->Prop):Prop:=Wp M1 (.run fi48 (atC (cd Try.f48) [1,1,1,0,1,0,0]) [(1,.ptr 0 0 0 0),(4,.int .u64 u),(5,.int .i64 i)] [⟨[bigA fa a],2,0,false,false⟩]) Q
theorem call48 {args:List AV} {d:AV} (h:wc M1 fi48 Try.f48 args d):Ev M1 (.pure 48 args) d []:=pcl _ _ (by kernel_rfl) h
noncomputable abbrev zNpE1:=ag [vb false,vf (us (Sp.Zau 9223372036854775807))]
noncomputable abbrev zNpE2:=ag [vb true,vf (us (Sp.Zau (-9223372036854775808)))]
theorem pI64 (fa:Bool) (a:Int)  (dq:AV) (H :
  (Sp.inI (-9223372036854775808)) /\
  ∃ (n1:Int),
  (Ev M1 (Conf.pure 47 [bigA fa a,ag [vb true,vf (us (Sp.Zau (-9223372036854775808)))]]) (vi n1) []) /\
  ((¬(n1<0))->(Sp.inI 9223372036854775807)) /\
  ∃ (n2:Int),
  ((¬(n1<0))->(Ev M1 (Conf.pure 47 [bigA fa a,ag [vb false,vf (us (Sp.Zau 9223372036854775807))]]) (vi n2) [])) /\
  (((n1<0)\/(n2>0))->tu [vi 0,vb false]=dq) /\
  (¬((n1<0)\/(n2>0))->(-9223372036854775808<=(↑(Sp.Zau a).length:Int)-1/\(↑(Sp.Zau a).length:Int)-1<=9223372036854775807) /\
   ZdX fa a 0 ((↑(Sp.Zau a).length:Int)-1) (Zad dq))) :
 pI64_at fa a (Zad dq):=by
 unfold pI64_at
 obtain ⟨k1,n1,k2,k4,n2,k6,H⟩:=H
 refine Zac (G:=Zab kp48 [(1,1,.call zNpE2 none),(1,2,.call (vi n1) none),(1,6,.call zNpE1 none),(1,7,.call (vi n2) none)] []) 5 [] ⟨(atC (cd Try.f48) [1,0,1]),[(1,AV.ptr 0 0 0 0),(15,vb (bif decide (n1<0) then true else decide (n2>0)))],[⟨[bigA fa a],2,0,false,false⟩],[true,!(decide (n1<0)==false&&true)||true],[],[⟨true,false,46,[vi (-9223372036854775808)],[],zNpE2,[]⟩,⟨true,false,47,[bigA fa a,zNpE2],[],vi n1,[]⟩,⟨decide (n1<0)==false&&true&&true,false,46,[vi 9223372036854775807],[],zNpE1,[]⟩,⟨decide (n1<0)==false&&true&&true,false,47,[bigA fa a,zNpE1],[],vi n2,[]⟩]⟩ (by kernel_rfl) (bc rfl (bc (Bool.or_true _) b0)) q0 (cc (fun _=>(@ev46 (-9223372036854775808) k1)) (cc (fun _=>k2) (cc (fun hc=>((@ev46 9223372036854775807 (k4 ((i_at (i_at (i_bf Zaa))).1 hc))):Ev M1 (Conf.pure 46 [vi 9223372036854775807]) zNpE1 [])) (cc (fun hc=>((k6 ((i_at (i_at (i_bf Zaa))).1 hc)):Ev M1 (Conf.pure 47 [bigA fa a,zNpE1]) (vi n2) [])) c0)))) ?_
 rcases xq H with ⟨d8,H⟩|⟨d8,H⟩
 ·exact Zae (G:=Zab kp48 [] []) 1000 [true] (tu [vi 0,vb false]) (by kernel_rfl) (bc (Zak ((Zar Zaa Zaa).2 d8)) b0) q0 c0 H
 ·have w9:(us (Sp.Zau a)).length=(Sp.Zau a).length:=List.length_map ..
  obtain ⟨k10,H⟩:=H
  have w11:wi ((↑(Sp.Zau a).length:Int)-1)=(↑(Sp.Zau a).length:Int)-1:=wI64 k10
  exact Zac (G:=Zab kp48 [] []) 1000 [false] ⟨(atC (cd Try.f48) [1,1,1,0,1,0,0]),[(1,AV.ptr 0 0 0 0),(4,vw 0),(5,vi (wi ((↑(us (Sp.Zau a)).length:Int)-1)))],[⟨[bigA fa a],2,0,false,false⟩],_,[],_⟩ (by kernel_rfl) (bc (Zah (fun h=>d8 ((Zar Zaa Zaa).1 h))) (bc rfl b0)) q0 c0 (by (try rw [w9]);(try rw [w11]);all_goals exact H)
theorem pI64H (fa:Bool) (a u i:Int)  (dq:AV) (H :
  ((i>=0)->(0<=i) /\
   (i.toNat<(Sp.Zau a).length) /\
   (0<=u*1000000000/\u*1000000000<=18446744073709551615) /\
   (0<=(Sp.Zau a).getD i.toNat default/\(Sp.Zau a).getD i.toNat default<=18446744073709551615) /\
   (0<=u*1000000000+(Sp.Zau a).getD i.toNat default/\u*1000000000+(Sp.Zau a).getD i.toNat default<=18446744073709551615) /\
   (-9223372036854775808<=i-1/\i-1<=9223372036854775807) /\
   ZdX fa a (u*1000000000+(Sp.Zau a).getD i.toNat default) (i-1) (Zad dq)) /\
  (¬(i>=0)->((Sp.Zaf a=true)->(0<=0-u/\0-u<=18446744073709551615) /\
    (-9223372036854775808<=0-u/\0-u<=9223372036854775807) /\
    tu [vi (0-u),vb true]=dq) /\
   (¬(Sp.Zaf a=true)->(-9223372036854775808<=u/\u<=9223372036854775807) /\
    tu [vi u,vb true]=dq))) :
 ZdX fa a u i (Zad dq):=by
 unfold ZdX
 rcases xq H with ⟨d2,H⟩|⟨d2,H⟩
 ·obtain ⟨k4,H⟩:=H
  have w5:(us (Sp.Zau a)).length=(Sp.Zau a).length:=List.length_map ..
  have i6:(decide (i.toNat<(us (Sp.Zau a)).length))=true ↔ (i.toNat<(Sp.Zau a).length):=(by (try rw [w5]);all_goals exact Zaa)
  obtain ⟨k7,k8,H⟩:=H
  have w9:wu (u*1000000000)=u*1000000000:=wU64 k8
  obtain ⟨k10,H⟩:=H
  have w11:wu ((Sp.Zau a).getD i.toNat default)=(Sp.Zau a).getD i.toNat default:=wU64 k10
  obtain ⟨k12,H⟩:=H
  have w13:wu (u*1000000000+(Sp.Zau a).getD i.toNat default)=u*1000000000+(Sp.Zau a).getD i.toNat default:=wU64 k12
  obtain ⟨k14,H⟩:=H
  have w15:wi (i-1)=i-1:=wI64 k14
  exact Zac (G:=Zab kp48 [(7,6,.elem (vu ((Sp.Zau a).getD i.toNat default)))] []) 1000 [true] ⟨(atC (cd Try.f48) [1,1,1,0,1,0,0]),[(1,AV.ptr 0 0 0 0),(4,vw (wu (wu (u*1000000000)+wu ((Sp.Zau a).getD i.toNat default)))),(5,vi (wi (i-1)))],[⟨[bigA fa a],2,0,false,false⟩],_,[((us (Sp.Zau a)).get?Internal i.toNat=some (vu ((Sp.Zau a).getD i.toNat default)))],_⟩ (by kernel_rfl) (bc (Zak (Zaa.2 d2)) (bc rfl (bc (Zaa.2 k4) (bc (i6.2 k7) b0)))) (qc (Zap k7) q0) c0 (by (try rw [w9]);(try rw [w11]);(try rw [w13]);(try rw [w15]);all_goals exact H)
 ·rcases xq H with ⟨d17,H⟩|⟨d17,H⟩
  ·obtain ⟨k18,H⟩:=H
   have w19:wu (0-u)=0-u:=wU64 k18
   obtain ⟨k20,H⟩:=H
   have w21:wi (0-u)=0-u:=wI64 k20
   exact Zae (G:=Zab kp48 [] []) 1000 [false,true] (asm:=[(decide (i>=0))==false,0==0,(Sp.Zaf a)==true]) (tu [vi (wi (wu (0-u))),vb true]) (by kernel_rfl) (bc (Zah (fun h=>d2 (Zaa.1 h))) (bc (beq_self_eq_true _) (bc (Zak ((ZbE _).2 d17)) b0))) q0 c0 (by (try rw [w19]);(try rw [w21]);all_goals exact H)
  ·obtain ⟨k22,H⟩:=H
   have w23:wi u=u:=wI64 k22
   exact Zae (G:=Zab kp48 [] []) 1000 [false,false] (asm:=[(decide (i>=0))==false,0==0,(Sp.Zaf a)==false]) (tu [vi (wi u),vb true]) (by kernel_rfl) (bc (Zah (fun h=>d2 (Zaa.1 h))) (bc (beq_self_eq_true _) (bc (Zah (fun h=>d17 ((ZbE _).1 h))) b0))) q0 c0 (by (try rw [w23]);all_goals exact H)
theorem pI64N (fa:Bool) (a u i:Int)  (dq:AV) (H :
  ((i>=0)->(0<=i) /\
   (i.toNat<(us (Sp.Zau a)).length) /\
   (i.toNat<(Sp.Zau a).length) /\
   ZdX fa a (IntKind.u64.wrap (IntKind.u64.wrap (u*1000000000)+IntKind.u64.wrap ((Sp.Zau a).getD i.toNat default))) (IntKind.i64.wrap (i-1)) (Zad dq)) /\
  (¬(i>=0)->((Sp.Zaf a=true)->tu [vi (IntKind.i64.wrap (IntKind.u64.wrap (0-u))),vb true]=dq) /\
   (¬(Sp.Zaf a=true)->tu [vi (IntKind.i64.wrap u),vb true]=dq))) :
 pI64N_at fa a u i (Zad dq):=by
 unfold pI64N_at
 rcases xq H with ⟨d2,H⟩|⟨d2,H⟩
 ·obtain ⟨k4,k6,k7,H⟩:=H
  exact Zac (G:=Zab kp48 [(7,6,.elem (vu ((Sp.Zau a).getD i.toNat default)))] []) 1000 [true] ⟨(atC (cd Try.f48) [1,1,1,0,1,0,0]),[(1,AV.ptr 0 0 0 0),(4,vw (wu (wu (u*1000000000)+wu ((Sp.Zau a).getD i.toNat default)))),(5,vi (wi (i-1)))],[⟨[bigA fa a],2,0,false,false⟩],_,[((us (Sp.Zau a)).get?Internal i.toNat=some (vu ((Sp.Zau a).getD i.toNat default)))],_⟩ (by kernel_rfl) (bc (Zak (Zaa.2 d2)) (bc rfl (bc (Zaa.2 k4) (bc (Zaa.2 k6) b0)))) (qc (Zap k7) q0) c0 H
 ·rcases xq H with ⟨d9,H⟩|⟨d9,H⟩
  ·exact Zae (G:=Zab kp48 [] []) 1000 [false,true] (asm:=[(decide (i>=0))==false,0==0,(Sp.Zaf a)==true]) (tu [vi (wi (wu (0-u))),vb true]) (by kernel_rfl) (bc (Zah (fun h=>d2 (Zaa.1 h))) (bc (beq_self_eq_true _) (bc (Zak ((ZbE _).2 d9)) b0))) q0 c0 H
  ·exact Zae (G:=Zab kp48 [] []) 1000 [false,false] (asm:=[(decide (i>=0))==false,0==0,(Sp.Zaf a)==false]) (tu [vi (wi u),vb true]) (by kernel_rfl) (bc (Zah (fun h=>d2 (Zaa.1 h))) (bc (beq_self_eq_true _) (bc (Zah (fun h=>d9 ((ZbE _).1 h))) b0))) q0 c0 H
end Go.Av

namespace Go.Av
open Go.Proofs
theorem cnt3 {a:Int} (h:a.natAbs<1000000000000000000000000000):Sp.cnt a.natAbs<=3:=Zav.1 (by unfold Sp.fits;omega)
theorem okB3 {a:Int} (h:a.natAbs<1000000000000000000000000000):Sp.okB a:=by have:=cnt3 h;unfold Sp.okB;omega
theorem wneg {v:Int} (h:0<v) (k:v<=9000000000000000000):IntKind.i64.wrap (IntKind.u64.wrap (0-v)) = -v:=by
 have e0:(2:Int) ^ IntKind.u64.bits=18446744073709551616:=rfl
 have e1:(2:Int) ^ IntKind.i64.bits=18446744073709551616:=rfl
 have e2:(2:Int) ^ (IntKind.i64.bits-1)=9223372036854775808:=rfl
 have e3:IntKind.i64.signed=true:=rfl
 have e4:IntKind.u64.signed=false:=rfl
 simp only [IntKind.wrap,e0,e1,e2,e3,e4,Bool.true_and,Bool.false_and,decide_eq_true_eq,Bool.false_eq_true,if_false]
 split <;> omega
theorem no_end {a n1 n2:Int} (h:-2000000000000000000<=a/\a<=2000000000000000000) (e1:n1=Sp.sgnI (a - -9223372036854775808)) (e2:n2=Sp.sgnI (a-9223372036854775807)):¬(n1<0\/n2>0):=by
 subst e1 e2
 rintro (b | b)
 ·rw [ZbD] at b;omega
 ·unfold Sp.sgnI at b
  rw [if_pos (by omega)] at b;omega
theorem bigL {K:Nat} {x v:AV} {c:Int} {b:Bool} (h:Ev M1 (.pure K [x,bigA false c]) v []) (e:Sp.Zaf c=b):Ev M1 (.pure K [x,.agg [.bool b,.vec false 1 ((Sp.Zau c).map (.int .u32))]]) v []:=by
 subst e;exact h
theorem ev48 (fa:Bool) (a:Int) (h:-2000000000000000000<=a/\a<=2000000000000000000):Ev M1 (.pure 48 [bigA fa a]) (.tup [.int .i64 a,.bool true]) []:=by
 have hc:=cnt3 (a:=a) (by omega)
 have len:(Sp.Zau a).length=Sp.cnt a.natAbs:=ZaG _
 refine call48 (pI64 fa a _ ⟨by unfold Sp.inI;omega,_,bigL (ev47 fa false a (-9223372036854775808) ⟨okB3 (by omega),okB3 (by decide)⟩) rfl,fun _=>by unfold Sp.inI;omega,_,fun _=>ev47 fa false a 9223372036854775807 ⟨okB3 (by omega),okB3 (by decide)⟩,fun bad=>absurd bad (no_end h rfl rfl),fun _=>⟨by rw [len];omega,?_⟩⟩)
 have loop:∀ k,k<=Sp.cnt a.natAbs->ZdX fa a ((a.natAbs / 1000000000 ^ k:Nat):Int) ((k:Int)-1) (Zad (.tup [.int .i64 a,.bool true])):=by
  intro k
  induction k with
  | zero =>
   intro _
   rw [Nat.pow_zero,Nat.div_one]
   by_cases hn:Sp.Zaf a=true
   ·have hneg:a<0:=by simpa [Sp.Zaf] using hn
    show pI64N_at fa a ((a.natAbs:Nat):Int) (((0:Nat):Int)-1) _
    refine pI64N _ _ _ _ _ ⟨fun x=>absurd x (by omega),fun _=>⟨fun _ => ?_,fun x=>absurd hn x⟩⟩
    rw [wneg (v:=((a.natAbs:Nat):Int)) (by omega) (by omega),show -((a.natAbs:Nat):Int)=a by omega]
   ·have hp:¬a<0:=by simpa [Sp.Zaf] using hn
    refine pI64H _ _ _ _ _ ⟨fun x=>absurd x (by omega),fun _=>⟨fun x=>absurd x hn,fun _=>⟨by omega,?_⟩⟩⟩
    rw [show ((a.natAbs:Nat):Int)=a by omega]
  | succ k ih =>
   intro hk
   have e1:(((k+1:Nat):Int)-1)=(k:Nat):=by omega
   have g:(Sp.Zau a).getD k default=((a.natAbs / 1000000000 ^ k % 1000000000:Nat):Int):=Zaw _ (show k<Sp.cnt a.natAbs by omega)
   have hs:=ZaN a.natAbs k
   have hb:a.natAbs / 1000000000 ^ k<=a.natAbs:=Nat.div_le_self _ _
   refine pI64H _ _ _ _ _ ⟨fun _ => ?_,fun x=>absurd x (by omega)⟩
   rw [e1,Int.toNat_natCast,g,len]
   have e2:((a.natAbs / 1000000000 ^ (k+1):Nat):Int)*1000000000+((a.natAbs / 1000000000 ^ k % 1000000000:Nat):Int)=((a.natAbs / 1000000000 ^ k:Nat):Int):=by omega
   rw [e2]
   exact ⟨by omega,by omega,by omega,by omega,by omega,by omega,ih (by omega)⟩
 have l:=loop (Sp.cnt a.natAbs) (Nat.le_refl _)
 rw [ZaE (Zag _) (Nat.le_refl _)] at l
 rw [len];exact l
namespace Sp
noncomputable def dsA (x y z a s:Int) (q:Rat):Rat:=if s<0 then -(q-qi (alg x y z a)) else q-qi (alg x y z a)
noncomputable def dst (x y z a s r:Int) (q:Rat):Rat:=if a<2 then dsA x y z a s q-qi r else dsA x y z a s q
end Sp
theorem inI_M {n:Int} (h:Sp.pM n):Sp.inI n:=by unfold Sp.pM at h;unfold Sp.inI;omega
theorem okT_dsA {x y z a s:Int} {q:Rat} (hq:Sp.okT 2 q) (hp:Sp.pP x y z):Sp.okT 6 (Sp.dsA x y z a s q):=by
 have t:=Zgk hq (Zbc (inI_M (alg_in hp a)))
 unfold Sp.dsA
 split
 ·exact Zgl t
 ·exact t
theorem okT_dst {x y z a s r:Int} {q:Rat} (hq:Sp.okT 2 q) (hp:Sp.pP x y z) (hr:Sp.inI r):Sp.okT 10 (Sp.dst x y z a s r q):=by
 have t:=okT_dsA (a:=a) (s:=s) hq hp
 unfold Sp.dst
 split
 ·exact Zgk t (Zbc hr)
 ·exact okT_le t (by omega)
theorem inI_W {a s r:Int} (h:Sp.pW a s r):Sp.inI r:=by have:=h.2.2;unfold Sp.inI;omega
end Go.Av

namespace Go.Av
open Go.Proofs
set_option maxRecDepth 100000
def fi10:Fi:=⟨94,[.cell 12 23,.tmp 13]⟩
def kp10:List (Nat × List Nat):=[(0,[1,2,4,5,6,9,12]),(1,[1,2,4,5,6,9,12,14]),(2,[1,2,4,5,6,9,12,32]),(3,[12,13]),(4,[1,2,4,5,6,9,12,36]),(5,[12,13]),(6,[1,2,4,5,6,9,12,15]),(7,[1,2,4,5,6,9,12,15,16]),(8,[1,2,4,5,6,9,12,15,16,17]),(9,[2,5,6,12,16,17,18]),(10,[2,5,6,12,16,17,18,59]),(11,[12,13]),(12,[2,5,6,12,16,17,19]),(13,[2,5,6,12,16,19,20]),(14,[2,6,12,16,19,73]),(15,[12,13]),(16,[2,6,12,16,21,22]),(17,[2,6,12,16,21,86]),(18,[12,13]),(19,[6,12]),(20,[12,13])]
def Zhr (f g:Bool) (q:Rat) (x y z a s r m:Int) (Q:AV->Heap->Prop):Prop:=Wp M1 (.run fi10 (atC (cd Try.f10) []) [(0,.agg [.int .i64 x,.int .i64 y,.int .i64 z]),(1,.int .i64 a),(2,.int .i64 s),(3,ratA f g q),(4,.int .i64 r),(5,.int .i64 m)] []) Q
def Ze0 (f g:Bool) (q:Rat) (x y z s r m:Int) (Q:AV->Heap->Prop):Prop:=Wp M1 (.run fi10 (atC (cd Try.f10) []) [(0,.agg [.int .i64 x,.int .i64 y,.int .i64 z]),(1,.int .i64 0),(2,.int .i64 s),(3,ratA f g q),(4,.int .i64 r),(5,.int .i64 m)] []) Q
def ZeZ (f g:Bool) (q:Rat) (x y z s r m:Int) (Q:AV->Heap->Prop):Prop:=Wp M1 (.run fi10 (atC (cd Try.f10) []) [(0,.agg [.int .i64 x,.int .i64 y,.int .i64 z]),(1,.int .i64 1),(2,.int .i64 s),(3,ratA f g q),(4,.int .i64 r),(5,.int .i64 m)] []) Q
def ZeY (f g:Bool) (q:Rat) (x y z s r m:Int) (Q:AV->Heap->Prop):Prop:=Wp M1 (.run fi10 (atC (cd Try.f10) []) [(0,.agg [.int .i64 x,.int .i64 y,.int .i64 z]),(1,.int .i64 2),(2,.int .i64 s),(3,ratA f g q),(4,.int .i64 r),(5,.int .i64 m)] []) Q
theorem call10 {args:List AV} {d:AV} (h:wc M1 fi10 Try.f10 args d):Ev M1 (.pure 10 args) d []:=pcl _ _ (by kernel_rfl) h
noncomputable abbrev zNpF1:=ag [vi 0,vi 0,vi 0]
theorem pTouchX (f g:Bool) (q:Rat) (x y z a s r m:Int)  (dq:AV) (H :
  (((¬Sp.chk a s r=0)\/(m<0))->tu [ag [vi 0,vi 0,vi 0],vi 1]=dq) /\
  (¬((¬Sp.chk a s r=0)\/(m<0))->((¬(Sp.pP x y z))->tu [ag [vi 0,vi 0,vi 0],vi 11]=dq) /\
   (¬(¬(Sp.pP x y z))->False))) :
 Zhr f g q x y z a s r m (Zad dq):=by
 unfold Zhr
 refine Zac (G:=Zab kp10 [(1,3,.call (vi (Sp.chk a s r)) none)] []) 7 [] ⟨(atC (cd Try.f10) [1,0,1,1]),[(1,vi a),(2,vi s),(4,vi r),(5,vi m),(6,AV.ptr 0 0 0 0),(9,AV.ptr 1 0 0 0),(12,AV.ptr 2 0 0 0),(32,vb (bif Sp.chk a s r != 0 then true else decide (m<0)))],[⟨[ag [vi x,vi y,vi z]],3,0,false,false⟩,⟨[ratA f g q],4,0,false,false⟩,⟨[zNpF1],3,0,false,false⟩],_,[],_⟩ (by kernel_rfl) b0 q0 (ce (@ev34 a s r) c0) ?_
 rcases xq H with ⟨d2,H⟩|⟨d2,H⟩
 ·exact Zae (G:=Zab kp10 [] []) 1000 [true] (tu [zNpF1,vi 1]) (by kernel_rfl) (bc (Zak ((Zar i_ne Zaa).2 d2)) (bc rfl b0)) q0 c0 H
 ·refine Zac (G:=Zab kp10 [(4,1,.call (vb (decide (Sp.pP x y z))) none)] []) 5 [false] ⟨(atC (cd Try.f10) [1,1,0,1]),[(1,vi a),(2,vi s),(4,vi r),(5,vi m),(6,AV.ptr 0 0 0 0),(9,AV.ptr 1 0 0 0),(12,AV.ptr 2 0 0 0),(36,vb !decide (Sp.pP x y z))],[⟨[ag [vi x,vi y,vi z]],3,0,false,false⟩,⟨[ratA f g q],4,0,false,false⟩,⟨[zNpF1],3,0,false,false⟩],_,[],_⟩ (by kernel_rfl) (bc (Zah (fun h=>d2 ((Zar i_ne Zaa).1 h))) (bc rfl b0)) q0 (ce (@ev35 x y z) c0) ?_
  rcases xq H with ⟨d4,H⟩|⟨d4,H⟩
  ·exact Zae (G:=Zab kp10 [] []) 1000 [true] (tu [zNpF1,vi 11]) (by kernel_rfl) (bc (Zak ((Zas Zaa).2 d4)) (bc rfl b0)) q0 c0 H
  ·exact False.elim H
noncomputable abbrev zNpF2:=ag [vi 0,vi 0,vi 0]
noncomputable abbrev zNpF3 (s:Int) (q:Rat) (r:Int):=Sp.pM (-Sp.flo (-(Sp.qi s*q-Sp.qi (Sp.rea 0 r))).num (↑(-(Sp.qi s*q-Sp.qi (Sp.rea 0 r))).den:Int))
noncomputable abbrev zNpF4 (x:Int) (y:Int) (z:Int):=ag [vi x,vi y,vi z]
noncomputable abbrev zNpF5 (s:Int) (q:Rat) (r:Int):=Sp.flo (-(Sp.qi s*q-Sp.qi (Sp.rea 0 r))).num (↑(-(Sp.qi s*q-Sp.qi (Sp.rea 0 r))).den:Int)
noncomputable abbrev zNpF6 (s:Int) (x:Int) (q:Rat) (r:Int):=Sp.sgnI ((Sp.qi (s*x)).num*(↑(Sp.qi s*q-Sp.qi (Sp.rea 0 r)).den:Int)-(Sp.qi s*q-Sp.qi (Sp.rea 0 r)).num*(↑(Sp.qi (s*x)).den:Int))>=0
noncomputable abbrev zNpF7 (s:Int) (q:Rat) (r:Int):=tu [vi (-Sp.flo (-(Sp.qi s*q-Sp.qi (Sp.rea 0 r))).num (↑(-(Sp.qi s*q-Sp.qi (Sp.rea 0 r))).den:Int)),vb true]
noncomputable abbrev zNpF8 (s:Int) (x:Int) (q:Rat) (r:Int):=Sp.sgnI ((Sp.qi (s*x)).num*(↑(Sp.qi s*q-Sp.qi (Sp.rea 0 r)).den:Int)-(Sp.qi s*q-Sp.qi (Sp.rea 0 r)).num*(↑(Sp.qi (s*x)).den:Int))
theorem pTouch0 (f g:Bool) (q:Rat) (x y z s r m:Int)  (dq:AV) (H :
  (((¬Sp.chk 0 s r=0)\/(m<0))->tu [ag [vi 0,vi 0,vi 0],vi 1]=dq) /\
  (¬((¬Sp.chk 0 s r=0)\/(m<0))->((¬(Sp.pP x y z))->tu [ag [vi 0,vi 0,vi 0],vi 11]=dq) /\
   (¬(¬(Sp.pP x y z))->(Sp.inI s) /\
    (-9223372036854775808<=s*x/\s*x<=9223372036854775807) /\
    (Sp.okR (Sp.qi s)/\Sp.okR q) /\
    (Sp.inI (Sp.rea 0 r)) /\
    (Sp.okR (Sp.qi s*q)/\Sp.okR (Sp.qi (Sp.rea 0 r))) /\
    (Sp.inI (s*x)) /\
    (Sp.okR (Sp.qi (s*x))/\Sp.okR (Sp.qi s*q-Sp.qi (Sp.rea 0 r))) /\
    ((Sp.sgnI ((Sp.qi (s*x)).num*(↑(Sp.qi s*q-Sp.qi (Sp.rea 0 r)).den:Int)-(Sp.qi s*q-Sp.qi (Sp.rea 0 r)).num*(↑(Sp.qi (s*x)).den:Int))>=0)->tu [ag [vi x,vi y,vi z],vi 0]=dq) /\
    (¬(Sp.sgnI ((Sp.qi (s*x)).num*(↑(Sp.qi s*q-Sp.qi (Sp.rea 0 r)).den:Int)-(Sp.qi s*q-Sp.qi (Sp.rea 0 r)).num*(↑(Sp.qi (s*x)).den:Int))>=0)->(Sp.okB (Sp.qi s*q-Sp.qi (Sp.rea 0 r)).num) /\
     (Sp.okB (-(Sp.qi s*q-Sp.qi (Sp.rea 0 r))).num/\Sp.okB (↑(-(Sp.qi s*q-Sp.qi (Sp.rea 0 r))).den:Int)) /\
     (Sp.okB (Sp.flo (-(Sp.qi s*q-Sp.qi (Sp.rea 0 r))).num (↑(-(Sp.qi s*q-Sp.qi (Sp.rea 0 r))).den:Int))) /\
     (Sp.okB (-Sp.flo (-(Sp.qi s*q-Sp.qi (Sp.rea 0 r))).num (↑(-(Sp.qi s*q-Sp.qi (Sp.rea 0 r))).den:Int))/\Sp.okB (s*x)) /\
     (Sp.inI m) /\
     (Sp.okB (-Sp.flo (-(Sp.qi s*q-Sp.qi (Sp.rea 0 r))).num (↑(-(Sp.qi s*q-Sp.qi (Sp.rea 0 r))).den:Int)-s*x)/\Sp.okB m) /\
     ((Sp.sgnI (-Sp.flo (-(Sp.qi s*q-Sp.qi (Sp.rea 0 r))).num (↑(-(Sp.qi s*q-Sp.qi (Sp.rea 0 r))).den:Int)-s*x-m)>0)->tu [ag [vi 0,vi 0,vi 0],vi 4]=dq) /\
     (¬(Sp.sgnI (-Sp.flo (-(Sp.qi s*q-Sp.qi (Sp.rea 0 r))).num (↑(-(Sp.qi s*q-Sp.qi (Sp.rea 0 r))).den:Int)-s*x-m)>0)->(-2000000000000000000 <= -Sp.flo (-(Sp.qi s*q-Sp.qi (Sp.rea 0 r))).num (↑(-(Sp.qi s*q-Sp.qi (Sp.rea 0 r))).den:Int) /\ -Sp.flo (-(Sp.qi s*q-Sp.qi (Sp.rea 0 r))).num (↑(-(Sp.qi s*q-Sp.qi (Sp.rea 0 r))).den:Int)<=2000000000000000000) /\
      ((¬(Sp.pM (-Sp.flo (-(Sp.qi s*q-Sp.qi (Sp.rea 0 r))).num (↑(-(Sp.qi s*q-Sp.qi (Sp.rea 0 r))).den:Int))))->tu [ag [vi 0,vi 0,vi 0],vi 11]=dq) /\
      (¬(¬(Sp.pM (-Sp.flo (-(Sp.qi s*q-Sp.qi (Sp.rea 0 r))).num (↑(-(Sp.qi s*q-Sp.qi (Sp.rea 0 r))).den:Int))))->(-9223372036854775808<=s * -Sp.flo (-(Sp.qi s*q-Sp.qi (Sp.rea 0 r))).num (↑(-(Sp.qi s*q-Sp.qi (Sp.rea 0 r))).den:Int)/\s * -Sp.flo (-(Sp.qi s*q-Sp.qi (Sp.rea 0 r))).num (↑(-(Sp.qi s*q-Sp.qi (Sp.rea 0 r))).den:Int)<=9223372036854775807) /\
       tu [ag [vi (s * -Sp.flo (-(Sp.qi s*q-Sp.qi (Sp.rea 0 r))).num (↑(-(Sp.qi s*q-Sp.qi (Sp.rea 0 r))).den:Int)),vi y,vi z],vi 0]=dq)))))) :
 Ze0 f g q x y z s r m (Zad dq):=by
 unfold Ze0
 refine Zac (G:=Zab kp10 [(1,3,.call (vi (Sp.chk 0 s r)) none)] []) 7 [] ⟨(atC (cd Try.f10) [1,0,1,1]),[(1,vi 0),(2,vi s),(4,vi r),(5,vi m),(6,AV.ptr 0 0 0 0),(9,AV.ptr 1 0 0 0),(12,AV.ptr 2 0 0 0),(32,vb (bif Sp.chk 0 s r != 0 then true else decide (m<0)))],[⟨[(zNpF4 x y z)],3,0,false,false⟩,⟨[ratA f g q],4,0,false,false⟩,⟨[zNpF2],3,0,false,false⟩],_,[],_⟩ (by kernel_rfl) b0 q0 (ce (@ev34 0 s r) c0) ?_
 rcases xq H with ⟨d2,H⟩|⟨d2,H⟩
 ·exact Zae (G:=Zab kp10 [] []) 1000 [true] (tu [zNpF2,vi 1]) (by kernel_rfl) (bc (Zak ((Zar i_ne Zaa).2 d2)) (bc rfl b0)) q0 c0 H
 ·refine Zac (G:=Zab kp10 [(4,1,.call (vb (decide (Sp.pP x y z))) none)] []) 5 [false] ⟨(atC (cd Try.f10) [1,1,0,1]),[(1,vi 0),(2,vi s),(4,vi r),(5,vi m),(6,AV.ptr 0 0 0 0),(9,AV.ptr 1 0 0 0),(12,AV.ptr 2 0 0 0),(36,vb !decide (Sp.pP x y z))],[⟨[(zNpF4 x y z)],3,0,false,false⟩,⟨[ratA f g q],4,0,false,false⟩,⟨[zNpF2],3,0,false,false⟩],_,[],_⟩ (by kernel_rfl) (bc (Zah (fun h=>d2 ((Zar i_ne Zaa).1 h))) (bc rfl b0)) q0 (ce (@ev35 x y z) c0) ?_
  rcases xq H with ⟨d4,H⟩|⟨d4,H⟩
  ·exact Zae (G:=Zab kp10 [] []) 1000 [true] (tu [zNpF2,vi 11]) (by kernel_rfl) (bc (Zak ((Zas Zaa).2 d4)) (bc rfl b0)) q0 c0 H
  ·obtain ⟨k5,k6,H⟩:=H
   have w7:wi (s*x)=s*x:=wI64 k6
   obtain ⟨k8,k9,k10,k11,k12,H⟩:=H
   refine Zac (G:=Zab kp10 [(6,1,.call (ratF (Sp.qi s)) none),(7,1,.call (AV.ptr 0 0 0 0) none),(9,2,.call (ratF (Sp.qi s*q)) none),(9,5,.call (vi (Sp.rea 0 r)) none),(9,6,.call (ratF (Sp.qi (Sp.rea 0 r))) none),(9,7,.call (ratF (Sp.qi s*q-Sp.qi (Sp.rea 0 r))) none),(10,1,.call (ratF (Sp.qi (s*x))) none),(10,3,.call (vi (zNpF8 s x q r)) none)] []) 13 [false] ⟨(atC (cd Try.f10) [1,1,1,1,1,1,1,0,1]),[(2,vi s),(5,vi m),(6,AV.ptr 0 0 0 0),(12,AV.ptr 2 0 0 0),(16,AV.ptr 0 0 0 0),(17,vi (wi (s*x))),(18,AV.ptr 4 0 0 0),(59,vb (decide (zNpF6 s x q r)))],[⟨[(zNpF4 x y z)],3,0,false,false⟩,⟨[ratA f g q],4,0,false,false⟩,⟨[zNpF2],3,0,false,false⟩,⟨[ratF (Sp.qi s)],4,0,false,false⟩,⟨[ratF (Sp.qi s*q-Sp.qi (Sp.rea 0 r))],4,0,false,false⟩],_,[],[⟨true,false,36,[vi s],[],ratF (Sp.qi s),[]⟩,⟨true,true,37,[AV.ptr 0 0 0 0,vi 0],[⟨[(zNpF4 x y z)],3,0,false,false⟩],AV.ptr 0 0 0 0,[⟨[(zNpF4 x y z)],3,0,false,false⟩]⟩,⟨true,false,39,[ratF (Sp.qi s),ratA f g q],[],ratF (Sp.qi s*q),[]⟩,⟨true,false,40,[vi 0,vi r],[],vi (Sp.rea 0 r),[]⟩,⟨true,false,36,[vi (Sp.rea 0 r)],[],ratF (Sp.qi (Sp.rea 0 r)),[]⟩,⟨true,false,38,[ratF (Sp.qi s*q),ratF (Sp.qi (Sp.rea 0 r))],[],ratF (Sp.qi s*q-Sp.qi (Sp.rea 0 r)),[]⟩,⟨true,false,36,[vi (wi (s*x))],[],ratF (Sp.qi (s*x)),[]⟩,⟨true,false,41,[ratF (Sp.qi (s*x)),ratF (Sp.qi s*q-Sp.qi (Sp.rea 0 r))],[],vi (zNpF8 s x q r),[]⟩]⟩ (by kernel_rfl) (bc (Zah (fun h=>d4 ((Zas Zaa).1 h))) (bc rfl (bc rfl (bc rfl (bc rfl (bc rfl (bc rfl b0))))))) q0 (cc (fun _=>(@ev36 s k5)) (cc (fun _=>(@evo37_a x y z)) (cc (fun _=>(@ev39 false false f g (Sp.qi s) q k8)) (cc (fun _=>(@ev40 0 r)) (cc (fun _=>(@ev36 (Sp.rea 0 r) k9)) (cc (fun _=>(@ev38 false false false false (Sp.qi s*q) (Sp.qi (Sp.rea 0 r)) k10)) (cc (fun _=>(by (try rw [w7]);all_goals exact (@ev36 (s*x) k11))) (cc (fun _=>(@ev41 false false false false (Sp.qi (s*x)) (Sp.qi s*q-Sp.qi (Sp.rea 0 r)) k12)) c0)))))))) ?_
   rcases xq H with ⟨d14,H⟩|⟨d14,H⟩
   ·exact Zae (G:=Zab kp10 [] []) 1000 [true] (tu [(zNpF4 x y z),vi 0]) (by kernel_rfl) (bc (Zak (Zaa.2 d14)) (bc rfl (bc rfl b0))) q0 c0 H
   ·obtain ⟨k15,k16,k17,k18,k19,k20,H⟩:=H
    refine Zac (G:=Zab kp10 [(12,1,.call (ratF (-(Sp.qi s*q-Sp.qi (Sp.rea 0 r)))) none),(12,2,.call (bigA false (zNpF5 s q r)) none),(12,3,.call (bigA false (-Sp.flo (-(Sp.qi s*q-Sp.qi (Sp.rea 0 r))).num (↑(-(Sp.qi s*q-Sp.qi (Sp.rea 0 r))).den:Int))) none),(13,2,.call (bigA false (s*x)) none),(13,3,.call (bigA false (-Sp.flo (-(Sp.qi s*q-Sp.qi (Sp.rea 0 r))).num (↑(-(Sp.qi s*q-Sp.qi (Sp.rea 0 r))).den:Int)-s*x)) none),(14,2,.call (bigA false m) none),(14,3,.call (vi (Sp.sgnI (-Sp.flo (-(Sp.qi s*q-Sp.qi (Sp.rea 0 r))).num (↑(-(Sp.qi s*q-Sp.qi (Sp.rea 0 r))).den:Int)-s*x-m))) none)] []) 9 [false] ⟨(atC (cd Try.f10) [1,1,1,1,1,1,1,1,1,1,0,1]),[(2,vi s),(6,AV.ptr 0 0 0 0),(12,AV.ptr 2 0 0 0),(16,AV.ptr 0 0 0 0),(19,AV.ptr 5 0 0 0),(73,vb (decide (Sp.sgnI (-Sp.flo (-(Sp.qi s*q-Sp.qi (Sp.rea 0 r))).num (↑(-(Sp.qi s*q-Sp.qi (Sp.rea 0 r))).den:Int)-s*x-m)>0)))],[⟨[(zNpF4 x y z)],3,0,false,false⟩,⟨[ratA f g q],4,0,false,false⟩,⟨[zNpF2],3,0,false,false⟩,⟨[ratF (Sp.qi s)],4,0,false,false⟩,⟨[ratF (Sp.qi s*q-Sp.qi (Sp.rea 0 r))],4,0,false,false⟩,⟨[bigA false (-Sp.flo (-(Sp.qi s*q-Sp.qi (Sp.rea 0 r))).num (↑(-(Sp.qi s*q-Sp.qi (Sp.rea 0 r))).den:Int))],2,0,false,false⟩,⟨[bigA false (-Sp.flo (-(Sp.qi s*q-Sp.qi (Sp.rea 0 r))).num (↑(-(Sp.qi s*q-Sp.qi (Sp.rea 0 r))).den:Int)-s*x)],2,0,false,false⟩],_,[],[pc 44 [ratF (Sp.qi s*q-Sp.qi (Sp.rea 0 r))] (ratF (-(Sp.qi s*q-Sp.qi (Sp.rea 0 r)))),pc 43 [ratF (-(Sp.qi s*q-Sp.qi (Sp.rea 0 r)))] (bigA false (zNpF5 s q r)),pc 42 [bigA false (zNpF5 s q r)] (bigA false (-Sp.flo (-(Sp.qi s*q-Sp.qi (Sp.rea 0 r))).num (↑(-(Sp.qi s*q-Sp.qi (Sp.rea 0 r))).den:Int))),pc 46 [vi (wi (s*x))] (bigA false (s*x)),pc 45 [bigA false (-Sp.flo (-(Sp.qi s*q-Sp.qi (Sp.rea 0 r))).num (↑(-(Sp.qi s*q-Sp.qi (Sp.rea 0 r))).den:Int)),bigA false (s*x)] (bigA false (-Sp.flo (-(Sp.qi s*q-Sp.qi (Sp.rea 0 r))).num (↑(-(Sp.qi s*q-Sp.qi (Sp.rea 0 r))).den:Int)-s*x)),pc 46 [vi m] (bigA false m),pc 47 [bigA false (-Sp.flo (-(Sp.qi s*q-Sp.qi (Sp.rea 0 r))).num (↑(-(Sp.qi s*q-Sp.qi (Sp.rea 0 r))).den:Int)-s*x),bigA false m] (vi (Sp.sgnI (-Sp.flo (-(Sp.qi s*q-Sp.qi (Sp.rea 0 r))).num (↑(-(Sp.qi s*q-Sp.qi (Sp.rea 0 r))).den:Int)-s*x-m)))]⟩ (by kernel_rfl) (bc (Zah (fun h=>d14 (Zaa.1 h))) (bc rfl (bc rfl (bc rfl (bc rfl (bc rfl b0)))))) q0 (ce (@ev44 false false (Sp.qi s*q-Sp.qi (Sp.rea 0 r)) k15) (ce (@ev43 false false (-(Sp.qi s*q-Sp.qi (Sp.rea 0 r))) k16) (ce (@ev42 false (zNpF5 s q r) k17) (ce (by (try rw [w7]);all_goals exact (@ev46 (s*x) k11)) (ce (@ev45 false false (-Sp.flo (-(Sp.qi s*q-Sp.qi (Sp.rea 0 r))).num (↑(-(Sp.qi s*q-Sp.qi (Sp.rea 0 r))).den:Int)) (s*x) k18) (ce (@ev46 m k19) (ce (@ev47 false false (-Sp.flo (-(Sp.qi s*q-Sp.qi (Sp.rea 0 r))).num (↑(-(Sp.qi s*q-Sp.qi (Sp.rea 0 r))).den:Int)-s*x) m k20) c0))))))) ?_
    rcases xq H with ⟨d22,H⟩|⟨d22,H⟩
    ·exact Zae (G:=Zab kp10 [] []) 1000 [true] (tu [zNpF2,vi 4]) (by kernel_rfl) (bc (Zak (Zaa.2 d22)) (bc rfl b0)) q0 c0 H
    ·obtain ⟨k23,H⟩:=H
     refine Zac (G:=Zab kp10 [(16,1,.call ((zNpF7 s q r)) none),(17,4,.call (vb (decide (zNpF3 s q r))) none)] []) 7 [false] ⟨(atC (cd Try.f10) [1,1,1,1,1,1,1,1,1,1,1,1,0,1]),[(2,vi s),(6,AV.ptr 0 0 0 0),(12,AV.ptr 2 0 0 0),(16,AV.ptr 0 0 0 0),(21,vi (-Sp.flo (-(Sp.qi s*q-Sp.qi (Sp.rea 0 r))).num (↑(-(Sp.qi s*q-Sp.qi (Sp.rea 0 r))).den:Int))),(86,vb !decide (zNpF3 s q r))],[⟨[(zNpF4 x y z)],3,0,false,false⟩,⟨[ratA f g q],4,0,false,false⟩,⟨[zNpF2],3,0,false,false⟩,⟨[ratF (Sp.qi s)],4,0,false,false⟩,⟨[ratF (Sp.qi s*q-Sp.qi (Sp.rea 0 r))],4,0,false,false⟩,⟨[bigA false (-Sp.flo (-(Sp.qi s*q-Sp.qi (Sp.rea 0 r))).num (↑(-(Sp.qi s*q-Sp.qi (Sp.rea 0 r))).den:Int))],2,0,false,false⟩,⟨[bigA false (-Sp.flo (-(Sp.qi s*q-Sp.qi (Sp.rea 0 r))).num (↑(-(Sp.qi s*q-Sp.qi (Sp.rea 0 r))).den:Int)-s*x)],2,0,false,false⟩],_,[],[⟨true,false,48,[bigA false (-Sp.flo (-(Sp.qi s*q-Sp.qi (Sp.rea 0 r))).num (↑(-(Sp.qi s*q-Sp.qi (Sp.rea 0 r))).den:Int))],[],(zNpF7 s q r),[]⟩,⟨false==false&&true&&true,false,49,[vi (-Sp.flo (-(Sp.qi s*q-Sp.qi (Sp.rea 0 r))).num (↑(-(Sp.qi s*q-Sp.qi (Sp.rea 0 r))).den:Int))],[],vb (decide (zNpF3 s q r)),[]⟩]⟩ (by kernel_rfl) (bc (Zah (fun h=>d22 (Zaa.1 h))) (bc rfl b0)) q0 (cc (fun _=>(@ev48 false (-Sp.flo (-(Sp.qi s*q-Sp.qi (Sp.rea 0 r))).num (↑(-(Sp.qi s*q-Sp.qi (Sp.rea 0 r))).den:Int)) k23)) (cc (fun hc=>((@ev49 (-Sp.flo (-(Sp.qi s*q-Sp.qi (Sp.rea 0 r))).num (↑(-(Sp.qi s*q-Sp.qi (Sp.rea 0 r))).den:Int))):Ev M1 (Conf.pure 49 [vi (-Sp.flo (-(Sp.qi s*q-Sp.qi (Sp.rea 0 r))).num (↑(-(Sp.qi s*q-Sp.qi (Sp.rea 0 r))).den:Int))]) (vb (decide (zNpF3 s q r))) [])) c0)) ?_
     rcases xq H with ⟨d26,H⟩|⟨d26,H⟩
     ·exact Zae (G:=Zab kp10 [] []) 1000 [true] (tu [zNpF2,vi 11]) (by kernel_rfl) (bc (Zak ((Zas Zaa).2 d26)) (bc rfl b0)) q0 c0 H
     ·obtain ⟨k27,H⟩:=H
      have w28:wi (s * -Sp.flo (-(Sp.qi s*q-Sp.qi (Sp.rea 0 r))).num (↑(-(Sp.qi s*q-Sp.qi (Sp.rea 0 r))).den:Int))=s * -Sp.flo (-(Sp.qi s*q-Sp.qi (Sp.rea 0 r))).num (↑(-(Sp.qi s*q-Sp.qi (Sp.rea 0 r))).den:Int):=wI64 k27
      exact Zae (G:=Zab kp10 [] []) 1000 [false] (asm:=[(!decide (zNpF3 s q r))==false,0==0,true,true]) (tu [ag [vi (wi (s * -Sp.flo (-(Sp.qi s*q-Sp.qi (Sp.rea 0 r))).num (↑(-(Sp.qi s*q-Sp.qi (Sp.rea 0 r))).den:Int))),vi y,vi z],vi 0]) (by kernel_rfl) (bc (Zah (fun h=>d26 ((Zas Zaa).1 h))) (bc (beq_self_eq_true _) (bc rfl (bc rfl b0)))) q0 c0 (by (try rw [w28]);all_goals exact H)
noncomputable abbrev zNpF9:=ag [vi 0,vi 0,vi 0]
noncomputable abbrev zNpF10 (s:Int) (q:Rat) (r:Int):=Sp.pM (-Sp.flo (-(Sp.qi s*q-Sp.qi (Sp.rea 1 r))).num (↑(-(Sp.qi s*q-Sp.qi (Sp.rea 1 r))).den:Int))
noncomputable abbrev Zfi (x:Int) (y:Int) (z:Int):=ag [vi x,vi y,vi z]
noncomputable abbrev zNpF12 (s:Int) (q:Rat) (r:Int):=Sp.flo (-(Sp.qi s*q-Sp.qi (Sp.rea 1 r))).num (↑(-(Sp.qi s*q-Sp.qi (Sp.rea 1 r))).den:Int)
noncomputable abbrev zNpF13 (s:Int) (y:Int) (q:Rat) (r:Int):=Sp.sgnI ((Sp.qi (s*y)).num*(↑(Sp.qi s*q-Sp.qi (Sp.rea 1 r)).den:Int)-(Sp.qi s*q-Sp.qi (Sp.rea 1 r)).num*(↑(Sp.qi (s*y)).den:Int))>=0
noncomputable abbrev zNpF14 (s:Int) (q:Rat) (r:Int):=tu [vi (-Sp.flo (-(Sp.qi s*q-Sp.qi (Sp.rea 1 r))).num (↑(-(Sp.qi s*q-Sp.qi (Sp.rea 1 r))).den:Int)),vb true]
noncomputable abbrev zNpF15 (s:Int) (y:Int) (q:Rat) (r:Int):=Sp.sgnI ((Sp.qi (s*y)).num*(↑(Sp.qi s*q-Sp.qi (Sp.rea 1 r)).den:Int)-(Sp.qi s*q-Sp.qi (Sp.rea 1 r)).num*(↑(Sp.qi (s*y)).den:Int))
theorem pTouch1 (f g:Bool) (q:Rat) (x y z s r m:Int)  (dq:AV) (H :
  (((¬Sp.chk 1 s r=0)\/(m<0))->tu [ag [vi 0,vi 0,vi 0],vi 1]=dq) /\
  (¬((¬Sp.chk 1 s r=0)\/(m<0))->((¬(Sp.pP x y z))->tu [ag [vi 0,vi 0,vi 0],vi 11]=dq) /\
   (¬(¬(Sp.pP x y z))->(Sp.inI s) /\
    (-9223372036854775808<=s*y/\s*y<=9223372036854775807) /\
    (Sp.okR (Sp.qi s)/\Sp.okR q) /\
    (Sp.inI (Sp.rea 1 r)) /\
    (Sp.okR (Sp.qi s*q)/\Sp.okR (Sp.qi (Sp.rea 1 r))) /\
    (Sp.inI (s*y)) /\
    (Sp.okR (Sp.qi (s*y))/\Sp.okR (Sp.qi s*q-Sp.qi (Sp.rea 1 r))) /\
    ((Sp.sgnI ((Sp.qi (s*y)).num*(↑(Sp.qi s*q-Sp.qi (Sp.rea 1 r)).den:Int)-(Sp.qi s*q-Sp.qi (Sp.rea 1 r)).num*(↑(Sp.qi (s*y)).den:Int))>=0)->tu [ag [vi x,vi y,vi z],vi 0]=dq) /\
    (¬(Sp.sgnI ((Sp.qi (s*y)).num*(↑(Sp.qi s*q-Sp.qi (Sp.rea 1 r)).den:Int)-(Sp.qi s*q-Sp.qi (Sp.rea 1 r)).num*(↑(Sp.qi (s*y)).den:Int))>=0)->(Sp.okB (Sp.qi s*q-Sp.qi (Sp.rea 1 r)).num) /\
     (Sp.okB (-(Sp.qi s*q-Sp.qi (Sp.rea 1 r))).num/\Sp.okB (↑(-(Sp.qi s*q-Sp.qi (Sp.rea 1 r))).den:Int)) /\
     (Sp.okB (Sp.flo (-(Sp.qi s*q-Sp.qi (Sp.rea 1 r))).num (↑(-(Sp.qi s*q-Sp.qi (Sp.rea 1 r))).den:Int))) /\
     (Sp.okB (-Sp.flo (-(Sp.qi s*q-Sp.qi (Sp.rea 1 r))).num (↑(-(Sp.qi s*q-Sp.qi (Sp.rea 1 r))).den:Int))/\Sp.okB (s*y)) /\
     (Sp.inI m) /\
     (Sp.okB (-Sp.flo (-(Sp.qi s*q-Sp.qi (Sp.rea 1 r))).num (↑(-(Sp.qi s*q-Sp.qi (Sp.rea 1 r))).den:Int)-s*y)/\Sp.okB m) /\
     ((Sp.sgnI (-Sp.flo (-(Sp.qi s*q-Sp.qi (Sp.rea 1 r))).num (↑(-(Sp.qi s*q-Sp.qi (Sp.rea 1 r))).den:Int)-s*y-m)>0)->tu [ag [vi 0,vi 0,vi 0],vi 4]=dq) /\
     (¬(Sp.sgnI (-Sp.flo (-(Sp.qi s*q-Sp.qi (Sp.rea 1 r))).num (↑(-(Sp.qi s*q-Sp.qi (Sp.rea 1 r))).den:Int)-s*y-m)>0)->(-2000000000000000000 <= -Sp.flo (-(Sp.qi s*q-Sp.qi (Sp.rea 1 r))).num (↑(-(Sp.qi s*q-Sp.qi (Sp.rea 1 r))).den:Int) /\ -Sp.flo (-(Sp.qi s*q-Sp.qi (Sp.rea 1 r))).num (↑(-(Sp.qi s*q-Sp.qi (Sp.rea 1 r))).den:Int)<=2000000000000000000) /\
      ((¬(Sp.pM (-Sp.flo (-(Sp.qi s*q-Sp.qi (Sp.rea 1 r))).num (↑(-(Sp.qi s*q-Sp.qi (Sp.rea 1 r))).den:Int))))->tu [ag [vi 0,vi 0,vi 0],vi 11]=dq) /\
      (¬(¬(Sp.pM (-Sp.flo (-(Sp.qi s*q-Sp.qi (Sp.rea 1 r))).num (↑(-(Sp.qi s*q-Sp.qi (Sp.rea 1 r))).den:Int))))->(-9223372036854775808<=s * -Sp.flo (-(Sp.qi s*q-Sp.qi (Sp.rea 1 r))).num (↑(-(Sp.qi s*q-Sp.qi (Sp.rea 1 r))).den:Int)/\s * -Sp.flo (-(Sp.qi s*q-Sp.qi (Sp.rea 1 r))).num (↑(-(Sp.qi s*q-Sp.qi (Sp.rea 1 r))).den:Int)<=9223372036854775807) /\
       tu [ag [vi x,vi (s * -Sp.flo (-(Sp.qi s*q-Sp.qi (Sp.rea 1 r))).num (↑(-(Sp.qi s*q-Sp.qi (Sp.rea 1 r))).den:Int)),vi z],vi 0]=dq)))))) :
 ZeZ f g q x y z s r m (Zad dq):=by
 unfold ZeZ
 refine Zac (G:=Zab kp10 [(1,3,.call (vi (Sp.chk 1 s r)) none)] []) 7 [] ⟨(atC (cd Try.f10) [1,0,1,1]),[(1,vi 1),(2,vi s),(4,vi r),(5,vi m),(6,AV.ptr 0 0 0 0),(9,AV.ptr 1 0 0 0),(12,AV.ptr 2 0 0 0),(32,vb (bif Sp.chk 1 s r != 0 then true else decide (m<0)))],[⟨[(Zfi x y z)],3,0,false,false⟩,⟨[ratA f g q],4,0,false,false⟩,⟨[zNpF9],3,0,false,false⟩],_,[],_⟩ (by kernel_rfl) b0 q0 (ce (@ev34 1 s r) c0) ?_
 rcases xq H with ⟨d2,H⟩|⟨d2,H⟩
 ·exact Zae (G:=Zab kp10 [] []) 1000 [true] (tu [zNpF9,vi 1]) (by kernel_rfl) (bc (Zak ((Zar i_ne Zaa).2 d2)) (bc rfl b0)) q0 c0 H
 ·refine Zac (G:=Zab kp10 [(4,1,.call (vb (decide (Sp.pP x y z))) none)] []) 5 [false] ⟨(atC (cd Try.f10) [1,1,0,1]),[(1,vi 1),(2,vi s),(4,vi r),(5,vi m),(6,AV.ptr 0 0 0 0),(9,AV.ptr 1 0 0 0),(12,AV.ptr 2 0 0 0),(36,vb !decide (Sp.pP x y z))],[⟨[(Zfi x y z)],3,0,false,false⟩,⟨[ratA f g q],4,0,false,false⟩,⟨[zNpF9],3,0,false,false⟩],_,[],_⟩ (by kernel_rfl) (bc (Zah (fun h=>d2 ((Zar i_ne Zaa).1 h))) (bc rfl b0)) q0 (ce (@ev35 x y z) c0) ?_
  rcases xq H with ⟨d4,H⟩|⟨d4,H⟩
  ·exact Zae (G:=Zab kp10 [] []) 1000 [true] (tu [zNpF9,vi 11]) (by kernel_rfl) (bc (Zak ((Zas Zaa).2 d4)) (bc rfl b0)) q0 c0 H
  ·obtain ⟨k5,k6,H⟩:=H
   have w7:wi (s*y)=s*y:=wI64 k6
   obtain ⟨k8,k9,k10,k11,k12,H⟩:=H
   refine Zac (G:=Zab kp10 [(6,1,.call (ratF (Sp.qi s)) none),(7,1,.call (AV.ptr 0 0 0 1) none),(9,2,.call (ratF (Sp.qi s*q)) none),(9,5,.call (vi (Sp.rea 1 r)) none),(9,6,.call (ratF (Sp.qi (Sp.rea 1 r))) none),(9,7,.call (ratF (Sp.qi s*q-Sp.qi (Sp.rea 1 r))) none),(10,1,.call (ratF (Sp.qi (s*y))) none),(10,3,.call (vi (zNpF15 s y q r)) none)] []) 13 [false] ⟨(atC (cd Try.f10) [1,1,1,1,1,1,1,0,1]),[(2,vi s),(5,vi m),(6,AV.ptr 0 0 0 0),(12,AV.ptr 2 0 0 0),(16,AV.ptr 0 0 0 1),(17,vi (wi (s*y))),(18,AV.ptr 4 0 0 0),(59,vb (decide (zNpF13 s y q r)))],[⟨[(Zfi x y z)],3,0,false,false⟩,⟨[ratA f g q],4,0,false,false⟩,⟨[zNpF9],3,0,false,false⟩,⟨[ratF (Sp.qi s)],4,0,false,false⟩,⟨[ratF (Sp.qi s*q-Sp.qi (Sp.rea 1 r))],4,0,false,false⟩],_,[],[⟨true,false,36,[vi s],[],ratF (Sp.qi s),[]⟩,⟨true,true,37,[AV.ptr 0 0 0 0,vi 1],[⟨[(Zfi x y z)],3,0,false,false⟩],AV.ptr 0 0 0 1,[⟨[(Zfi x y z)],3,0,false,false⟩]⟩,⟨true,false,39,[ratF (Sp.qi s),ratA f g q],[],ratF (Sp.qi s*q),[]⟩,⟨true,false,40,[vi 1,vi r],[],vi (Sp.rea 1 r),[]⟩,⟨true,false,36,[vi (Sp.rea 1 r)],[],ratF (Sp.qi (Sp.rea 1 r)),[]⟩,⟨true,false,38,[ratF (Sp.qi s*q),ratF (Sp.qi (Sp.rea 1 r))],[],ratF (Sp.qi s*q-Sp.qi (Sp.rea 1 r)),[]⟩,⟨true,false,36,[vi (wi (s*y))],[],ratF (Sp.qi (s*y)),[]⟩,⟨true,false,41,[ratF (Sp.qi (s*y)),ratF (Sp.qi s*q-Sp.qi (Sp.rea 1 r))],[],vi (zNpF15 s y q r),[]⟩]⟩ (by kernel_rfl) (bc (Zah (fun h=>d4 ((Zas Zaa).1 h))) (bc rfl (bc rfl (bc rfl (bc rfl (bc rfl (bc rfl b0))))))) q0 (cc (fun _=>(@ev36 s k5)) (cc (fun _=>(@evo37_b x y z)) (cc (fun _=>(@ev39 false false f g (Sp.qi s) q k8)) (cc (fun _=>(@ev40 1 r)) (cc (fun _=>(@ev36 (Sp.rea 1 r) k9)) (cc (fun _=>(@ev38 false false false false (Sp.qi s*q) (Sp.qi (Sp.rea 1 r)) k10)) (cc (fun _=>(by (try rw [w7]);all_goals exact (@ev36 (s*y) k11))) (cc (fun _=>(@ev41 false false false false (Sp.qi (s*y)) (Sp.qi s*q-Sp.qi (Sp.rea 1 r)) k12)) c0)))))))) ?_
   rcases xq H with ⟨d14,H⟩|⟨d14,H⟩
   ·exact Zae (G:=Zab kp10 [] []) 1000 [true] (tu [(Zfi x y z),vi 0]) (by kernel_rfl) (bc (Zak (Zaa.2 d14)) (bc rfl (bc rfl b0))) q0 c0 H
   ·obtain ⟨k15,k16,k17,k18,k19,k20,H⟩:=H
    refine Zac (G:=Zab kp10 [(12,1,.call (ratF (-(Sp.qi s*q-Sp.qi (Sp.rea 1 r)))) none),(12,2,.call (bigA false (zNpF12 s q r)) none),(12,3,.call (bigA false (-Sp.flo (-(Sp.qi s*q-Sp.qi (Sp.rea 1 r))).num (↑(-(Sp.qi s*q-Sp.qi (Sp.rea 1 r))).den:Int))) none),(13,2,.call (bigA false (s*y)) none),(13,3,.call (bigA false (-Sp.flo (-(Sp.qi s*q-Sp.qi (Sp.rea 1 r))).num (↑(-(Sp.qi s*q-Sp.qi (Sp.rea 1 r))).den:Int)-s*y)) none),(14,2,.call (bigA false m) none),(14,3,.call (vi (Sp.sgnI (-Sp.flo (-(Sp.qi s*q-Sp.qi (Sp.rea 1 r))).num (↑(-(Sp.qi s*q-Sp.qi (Sp.rea 1 r))).den:Int)-s*y-m))) none)] []) 9 [false] ⟨(atC (cd Try.f10) [1,1,1,1,1,1,1,1,1,1,0,1]),[(2,vi s),(6,AV.ptr 0 0 0 0),(12,AV.ptr 2 0 0 0),(16,AV.ptr 0 0 0 1),(19,AV.ptr 5 0 0 0),(73,vb (decide (Sp.sgnI (-Sp.flo (-(Sp.qi s*q-Sp.qi (Sp.rea 1 r))).num (↑(-(Sp.qi s*q-Sp.qi (Sp.rea 1 r))).den:Int)-s*y-m)>0)))],[⟨[(Zfi x y z)],3,0,false,false⟩,⟨[ratA f g q],4,0,false,false⟩,⟨[zNpF9],3,0,false,false⟩,⟨[ratF (Sp.qi s)],4,0,false,false⟩,⟨[ratF (Sp.qi s*q-Sp.qi (Sp.rea 1 r))],4,0,false,false⟩,⟨[bigA false (-Sp.flo (-(Sp.qi s*q-Sp.qi (Sp.rea 1 r))).num (↑(-(Sp.qi s*q-Sp.qi (Sp.rea 1 r))).den:Int))],2,0,false,false⟩,⟨[bigA false (-Sp.flo (-(Sp.qi s*q-Sp.qi (Sp.rea 1 r))).num (↑(-(Sp.qi s*q-Sp.qi (Sp.rea 1 r))).den:Int)-s*y)],2,0,false,false⟩],_,[],[pc 44 [ratF (Sp.qi s*q-Sp.qi (Sp.rea 1 r))] (ratF (-(Sp.qi s*q-Sp.qi (Sp.rea 1 r)))),pc 43 [ratF (-(Sp.qi s*q-Sp.qi (Sp.rea 1 r)))] (bigA false (zNpF12 s q r)),pc 42 [bigA false (zNpF12 s q r)] (bigA false (-Sp.flo (-(Sp.qi s*q-Sp.qi (Sp.rea 1 r))).num (↑(-(Sp.qi s*q-Sp.qi (Sp.rea 1 r))).den:Int))),pc 46 [vi (wi (s*y))] (bigA false (s*y)),pc 45 [bigA false (-Sp.flo (-(Sp.qi s*q-Sp.qi (Sp.rea 1 r))).num (↑(-(Sp.qi s*q-Sp.qi (Sp.rea 1 r))).den:Int)),bigA false (s*y)] (bigA false (-Sp.flo (-(Sp.qi s*q-Sp.qi (Sp.rea 1 r))).num (↑(-(Sp.qi s*q-Sp.qi (Sp.rea 1 r))).den:Int)-s*y)),pc 46 [vi m] (bigA false m),pc 47 [bigA false (-Sp.flo (-(Sp.qi s*q-Sp.qi (Sp.rea 1 r))).num (↑(-(Sp.qi s*q-Sp.qi (Sp.rea 1 r))).den:Int)-s*y),bigA false m] (vi (Sp.sgnI (-Sp.flo (-(Sp.qi s*q-Sp.qi (Sp.rea 1 r))).num (↑(-(Sp.qi s*q-Sp.qi (Sp.rea 1 r))).den:Int)-s*y-m)))]⟩ (by kernel_rfl) (bc (Zah (fun h=>d14 (Zaa.1 h))) (bc rfl (bc rfl (bc rfl (bc rfl (bc rfl b0)))))) q0 (ce (@ev44 false false (Sp.qi s*q-Sp.qi (Sp.rea 1 r)) k15) (ce (@ev43 false false (-(Sp.qi s*q-Sp.qi (Sp.rea 1 r))) k16) (ce (@ev42 false (zNpF12 s q r) k17) (ce (by (try rw [w7]);all_goals exact (@ev46 (s*y) k11)) (ce (@ev45 false false (-Sp.flo (-(Sp.qi s*q-Sp.qi (Sp.rea 1 r))).num (↑(-(Sp.qi s*q-Sp.qi (Sp.rea 1 r))).den:Int)) (s*y) k18) (ce (@ev46 m k19) (ce (@ev47 false false (-Sp.flo (-(Sp.qi s*q-Sp.qi (Sp.rea 1 r))).num (↑(-(Sp.qi s*q-Sp.qi (Sp.rea 1 r))).den:Int)-s*y) m k20) c0))))))) ?_
    rcases xq H with ⟨d22,H⟩|⟨d22,H⟩
    ·exact Zae (G:=Zab kp10 [] []) 1000 [true] (tu [zNpF9,vi 4]) (by kernel_rfl) (bc (Zak (Zaa.2 d22)) (bc rfl b0)) q0 c0 H
    ·obtain ⟨k23,H⟩:=H
     refine Zac (G:=Zab kp10 [(16,1,.call ((zNpF14 s q r)) none),(17,4,.call (vb (decide (zNpF10 s q r))) none)] []) 7 [false] ⟨(atC (cd Try.f10) [1,1,1,1,1,1,1,1,1,1,1,1,0,1]),[(2,vi s),(6,AV.ptr 0 0 0 0),(12,AV.ptr 2 0 0 0),(16,AV.ptr 0 0 0 1),(21,vi (-Sp.flo (-(Sp.qi s*q-Sp.qi (Sp.rea 1 r))).num (↑(-(Sp.qi s*q-Sp.qi (Sp.rea 1 r))).den:Int))),(86,vb !decide (zNpF10 s q r))],[⟨[(Zfi x y z)],3,0,false,false⟩,⟨[ratA f g q],4,0,false,false⟩,⟨[zNpF9],3,0,false,false⟩,⟨[ratF (Sp.qi s)],4,0,false,false⟩,⟨[ratF (Sp.qi s*q-Sp.qi (Sp.rea 1 r))],4,0,false,false⟩,⟨[bigA false (-Sp.flo (-(Sp.qi s*q-Sp.qi (Sp.rea 1 r))).num (↑(-(Sp.qi s*q-Sp.qi (Sp.rea 1 r))).den:Int))],2,0,false,false⟩,⟨[bigA false (-Sp.flo (-(Sp.qi s*q-Sp.qi (Sp.rea 1 r))).num (↑(-(Sp.qi s*q-Sp.qi (Sp.rea 1 r))).den:Int)-s*y)],2,0,false,false⟩],_,[],[⟨true,false,48,[bigA false (-Sp.flo (-(Sp.qi s*q-Sp.qi (Sp.rea 1 r))).num (↑(-(Sp.qi s*q-Sp.qi (Sp.rea 1 r))).den:Int))],[],(zNpF14 s q r),[]⟩,⟨false==false&&true&&true,false,49,[vi (-Sp.flo (-(Sp.qi s*q-Sp.qi (Sp.rea 1 r))).num (↑(-(Sp.qi s*q-Sp.qi (Sp.rea 1 r))).den:Int))],[],vb (decide (zNpF10 s q r)),[]⟩]⟩ (by kernel_rfl) (bc (Zah (fun h=>d22 (Zaa.1 h))) (bc rfl b0)) q0 (cc (fun _=>(@ev48 false (-Sp.flo (-(Sp.qi s*q-Sp.qi (Sp.rea 1 r))).num (↑(-(Sp.qi s*q-Sp.qi (Sp.rea 1 r))).den:Int)) k23)) (cc (fun hc=>((@ev49 (-Sp.flo (-(Sp.qi s*q-Sp.qi (Sp.rea 1 r))).num (↑(-(Sp.qi s*q-Sp.qi (Sp.rea 1 r))).den:Int))):Ev M1 (Conf.pure 49 [vi (-Sp.flo (-(Sp.qi s*q-Sp.qi (Sp.rea 1 r))).num (↑(-(Sp.qi s*q-Sp.qi (Sp.rea 1 r))).den:Int))]) (vb (decide (zNpF10 s q r))) [])) c0)) ?_
     rcases xq H with ⟨d26,H⟩|⟨d26,H⟩
     ·exact Zae (G:=Zab kp10 [] []) 1000 [true] (tu [zNpF9,vi 11]) (by kernel_rfl) (bc (Zak ((Zas Zaa).2 d26)) (bc rfl b0)) q0 c0 H
     ·obtain ⟨k27,H⟩:=H
      have w28:wi (s * -Sp.flo (-(Sp.qi s*q-Sp.qi (Sp.rea 1 r))).num (↑(-(Sp.qi s*q-Sp.qi (Sp.rea 1 r))).den:Int))=s * -Sp.flo (-(Sp.qi s*q-Sp.qi (Sp.rea 1 r))).num (↑(-(Sp.qi s*q-Sp.qi (Sp.rea 1 r))).den:Int):=wI64 k27
      exact Zae (G:=Zab kp10 [] []) 1000 [false] (asm:=[(!decide (zNpF10 s q r))==false,0==0,true,true]) (tu [ag [vi x,vi (wi (s * -Sp.flo (-(Sp.qi s*q-Sp.qi (Sp.rea 1 r))).num (↑(-(Sp.qi s*q-Sp.qi (Sp.rea 1 r))).den:Int))),vi z],vi 0]) (by kernel_rfl) (bc (Zah (fun h=>d26 ((Zas Zaa).1 h))) (bc (beq_self_eq_true _) (bc rfl (bc rfl b0)))) q0 c0 (by (try rw [w28]);all_goals exact H)
noncomputable abbrev Zep:=ag [vi 0,vi 0,vi 0]
noncomputable abbrev zNpF17 (s:Int) (q:Rat) (r:Int):=Sp.pM (-Sp.flo (-(Sp.qi s*q-Sp.qi (Sp.rea 2 r))).num (↑(-(Sp.qi s*q-Sp.qi (Sp.rea 2 r))).den:Int))
noncomputable abbrev Zfh (x:Int) (y:Int) (z:Int):=ag [vi x,vi y,vi z]
noncomputable abbrev zNpF19 (s:Int) (q:Rat) (r:Int):=Sp.flo (-(Sp.qi s*q-Sp.qi (Sp.rea 2 r))).num (↑(-(Sp.qi s*q-Sp.qi (Sp.rea 2 r))).den:Int)
noncomputable abbrev zNpF20 (s:Int) (z:Int) (q:Rat) (r:Int):=Sp.sgnI ((Sp.qi (s*z)).num*(↑(Sp.qi s*q-Sp.qi (Sp.rea 2 r)).den:Int)-(Sp.qi s*q-Sp.qi (Sp.rea 2 r)).num*(↑(Sp.qi (s*z)).den:Int))>=0
noncomputable abbrev zNpF21 (s:Int) (q:Rat) (r:Int):=tu [vi (-Sp.flo (-(Sp.qi s*q-Sp.qi (Sp.rea 2 r))).num (↑(-(Sp.qi s*q-Sp.qi (Sp.rea 2 r))).den:Int)),vb true]
noncomputable abbrev zNpF22 (s:Int) (z:Int) (q:Rat) (r:Int):=Sp.sgnI ((Sp.qi (s*z)).num*(↑(Sp.qi s*q-Sp.qi (Sp.rea 2 r)).den:Int)-(Sp.qi s*q-Sp.qi (Sp.rea 2 r)).num*(↑(Sp.qi (s*z)).den:Int))
theorem pTouch2 (f g:Bool) (q:Rat) (x y z s r m:Int)  (dq:AV) (H :
  (((¬Sp.chk 2 s r=0)\/(m<0))->tu [ag [vi 0,vi 0,vi 0],vi 1]=dq) /\
  (¬((¬Sp.chk 2 s r=0)\/(m<0))->((¬(Sp.pP x y z))->tu [ag [vi 0,vi 0,vi 0],vi 11]=dq) /\
   (¬(¬(Sp.pP x y z))->(Sp.inI s) /\
    (-9223372036854775808<=s*z/\s*z<=9223372036854775807) /\
    (Sp.okR (Sp.qi s)/\Sp.okR q) /\
    (Sp.inI (Sp.rea 2 r)) /\
    (Sp.okR (Sp.qi s*q)/\Sp.okR (Sp.qi (Sp.rea 2 r))) /\
    (Sp.inI (s*z)) /\
    (Sp.okR (Sp.qi (s*z))/\Sp.okR (Sp.qi s*q-Sp.qi (Sp.rea 2 r))) /\
    ((Sp.sgnI ((Sp.qi (s*z)).num*(↑(Sp.qi s*q-Sp.qi (Sp.rea 2 r)).den:Int)-(Sp.qi s*q-Sp.qi (Sp.rea 2 r)).num*(↑(Sp.qi (s*z)).den:Int))>=0)->tu [ag [vi x,vi y,vi z],vi 0]=dq) /\
    (¬(Sp.sgnI ((Sp.qi (s*z)).num*(↑(Sp.qi s*q-Sp.qi (Sp.rea 2 r)).den:Int)-(Sp.qi s*q-Sp.qi (Sp.rea 2 r)).num*(↑(Sp.qi (s*z)).den:Int))>=0)->(Sp.okB (Sp.qi s*q-Sp.qi (Sp.rea 2 r)).num) /\
     (Sp.okB (-(Sp.qi s*q-Sp.qi (Sp.rea 2 r))).num/\Sp.okB (↑(-(Sp.qi s*q-Sp.qi (Sp.rea 2 r))).den:Int)) /\
     (Sp.okB (Sp.flo (-(Sp.qi s*q-Sp.qi (Sp.rea 2 r))).num (↑(-(Sp.qi s*q-Sp.qi (Sp.rea 2 r))).den:Int))) /\
     (Sp.okB (-Sp.flo (-(Sp.qi s*q-Sp.qi (Sp.rea 2 r))).num (↑(-(Sp.qi s*q-Sp.qi (Sp.rea 2 r))).den:Int))/\Sp.okB (s*z)) /\
     (Sp.inI m) /\
     (Sp.okB (-Sp.flo (-(Sp.qi s*q-Sp.qi (Sp.rea 2 r))).num (↑(-(Sp.qi s*q-Sp.qi (Sp.rea 2 r))).den:Int)-s*z)/\Sp.okB m) /\
     ((Sp.sgnI (-Sp.flo (-(Sp.qi s*q-Sp.qi (Sp.rea 2 r))).num (↑(-(Sp.qi s*q-Sp.qi (Sp.rea 2 r))).den:Int)-s*z-m)>0)->tu [ag [vi 0,vi 0,vi 0],vi 4]=dq) /\
     (¬(Sp.sgnI (-Sp.flo (-(Sp.qi s*q-Sp.qi (Sp.rea 2 r))).num (↑(-(Sp.qi s*q-Sp.qi (Sp.rea 2 r))).den:Int)-s*z-m)>0)->(-2000000000000000000 <= -Sp.flo (-(Sp.qi s*q-Sp.qi (Sp.rea 2 r))).num (↑(-(Sp.qi s*q-Sp.qi (Sp.rea 2 r))).den:Int) /\ -Sp.flo (-(Sp.qi s*q-Sp.qi (Sp.rea 2 r))).num (↑(-(Sp.qi s*q-Sp.qi (Sp.rea 2 r))).den:Int)<=2000000000000000000) /\
      ((¬(Sp.pM (-Sp.flo (-(Sp.qi s*q-Sp.qi (Sp.rea 2 r))).num (↑(-(Sp.qi s*q-Sp.qi (Sp.rea 2 r))).den:Int))))->tu [ag [vi 0,vi 0,vi 0],vi 11]=dq) /\
      (¬(¬(Sp.pM (-Sp.flo (-(Sp.qi s*q-Sp.qi (Sp.rea 2 r))).num (↑(-(Sp.qi s*q-Sp.qi (Sp.rea 2 r))).den:Int))))->(-9223372036854775808<=s * -Sp.flo (-(Sp.qi s*q-Sp.qi (Sp.rea 2 r))).num (↑(-(Sp.qi s*q-Sp.qi (Sp.rea 2 r))).den:Int)/\s * -Sp.flo (-(Sp.qi s*q-Sp.qi (Sp.rea 2 r))).num (↑(-(Sp.qi s*q-Sp.qi (Sp.rea 2 r))).den:Int)<=9223372036854775807) /\
       tu [ag [vi x,vi y,vi (s * -Sp.flo (-(Sp.qi s*q-Sp.qi (Sp.rea 2 r))).num (↑(-(Sp.qi s*q-Sp.qi (Sp.rea 2 r))).den:Int))],vi 0]=dq)))))) :
 ZeY f g q x y z s r m (Zad dq):=by
 unfold ZeY
 refine Zac (G:=Zab kp10 [(1,3,.call (vi (Sp.chk 2 s r)) none)] []) 7 [] ⟨(atC (cd Try.f10) [1,0,1,1]),[(1,vi 2),(2,vi s),(4,vi r),(5,vi m),(6,AV.ptr 0 0 0 0),(9,AV.ptr 1 0 0 0),(12,AV.ptr 2 0 0 0),(32,vb (bif Sp.chk 2 s r != 0 then true else decide (m<0)))],[⟨[(Zfh x y z)],3,0,false,false⟩,⟨[ratA f g q],4,0,false,false⟩,⟨[Zep],3,0,false,false⟩],_,[],_⟩ (by kernel_rfl) b0 q0 (ce (@ev34 2 s r) c0) ?_
 rcases xq H with ⟨d2,H⟩|⟨d2,H⟩
 ·exact Zae (G:=Zab kp10 [] []) 1000 [true] (tu [Zep,vi 1]) (by kernel_rfl) (bc (Zak ((Zar i_ne Zaa).2 d2)) (bc rfl b0)) q0 c0 H
 ·refine Zac (G:=Zab kp10 [(4,1,.call (vb (decide (Sp.pP x y z))) none)] []) 5 [false] ⟨(atC (cd Try.f10) [1,1,0,1]),[(1,vi 2),(2,vi s),(4,vi r),(5,vi m),(6,AV.ptr 0 0 0 0),(9,AV.ptr 1 0 0 0),(12,AV.ptr 2 0 0 0),(36,vb !decide (Sp.pP x y z))],[⟨[(Zfh x y z)],3,0,false,false⟩,⟨[ratA f g q],4,0,false,false⟩,⟨[Zep],3,0,false,false⟩],_,[],_⟩ (by kernel_rfl) (bc (Zah (fun h=>d2 ((Zar i_ne Zaa).1 h))) (bc rfl b0)) q0 (ce (@ev35 x y z) c0) ?_
  rcases xq H with ⟨d4,H⟩|⟨d4,H⟩
  ·exact Zae (G:=Zab kp10 [] []) 1000 [true] (tu [Zep,vi 11]) (by kernel_rfl) (bc (Zak ((Zas Zaa).2 d4)) (bc rfl b0)) q0 c0 H
  ·obtain ⟨k5,k6,H⟩:=H
   have w7:wi (s*z)=s*z:=wI64 k6
   obtain ⟨k8,k9,k10,k11,k12,H⟩:=H
   refine Zac (G:=Zab kp10 [(6,1,.call (ratF (Sp.qi s)) none),(7,1,.call (AV.ptr 0 0 0 2) none),(9,2,.call (ratF (Sp.qi s*q)) none),(9,5,.call (vi (Sp.rea 2 r)) none),(9,6,.call (ratF (Sp.qi (Sp.rea 2 r))) none),(9,7,.call (ratF (Sp.qi s*q-Sp.qi (Sp.rea 2 r))) none),(10,1,.call (ratF (Sp.qi (s*z))) none),(10,3,.call (vi (zNpF22 s z q r)) none)] []) 13 [false] ⟨(atC (cd Try.f10) [1,1,1,1,1,1,1,0,1]),[(2,vi s),(5,vi m),(6,AV.ptr 0 0 0 0),(12,AV.ptr 2 0 0 0),(16,AV.ptr 0 0 0 2),(17,vi (wi (s*z))),(18,AV.ptr 4 0 0 0),(59,vb (decide (zNpF20 s z q r)))],[⟨[(Zfh x y z)],3,0,false,false⟩,⟨[ratA f g q],4,0,false,false⟩,⟨[Zep],3,0,false,false⟩,⟨[ratF (Sp.qi s)],4,0,false,false⟩,⟨[ratF (Sp.qi s*q-Sp.qi (Sp.rea 2 r))],4,0,false,false⟩],_,[],[⟨true,false,36,[vi s],[],ratF (Sp.qi s),[]⟩,⟨true,true,37,[AV.ptr 0 0 0 0,vi 2],[⟨[(Zfh x y z)],3,0,false,false⟩],AV.ptr 0 0 0 2,[⟨[(Zfh x y z)],3,0,false,false⟩]⟩,⟨true,false,39,[ratF (Sp.qi s),ratA f g q],[],ratF (Sp.qi s*q),[]⟩,⟨true,false,40,[vi 2,vi r],[],vi (Sp.rea 2 r),[]⟩,⟨true,false,36,[vi (Sp.rea 2 r)],[],ratF (Sp.qi (Sp.rea 2 r)),[]⟩,⟨true,false,38,[ratF (Sp.qi s*q),ratF (Sp.qi (Sp.rea 2 r))],[],ratF (Sp.qi s*q-Sp.qi (Sp.rea 2 r)),[]⟩,⟨true,false,36,[vi (wi (s*z))],[],ratF (Sp.qi (s*z)),[]⟩,⟨true,false,41,[ratF (Sp.qi (s*z)),ratF (Sp.qi s*q-Sp.qi (Sp.rea 2 r))],[],vi (zNpF22 s z q r),[]⟩]⟩ (by kernel_rfl) (bc (Zah (fun h=>d4 ((Zas Zaa).1 h))) (bc rfl (bc rfl (bc rfl (bc rfl (bc rfl (bc rfl b0))))))) q0 (cc (fun _=>(@ev36 s k5)) (cc (fun _=>(@evo37_c x y z)) (cc (fun _=>(@ev39 false false f g (Sp.qi s) q k8)) (cc (fun _=>(@ev40 2 r)) (cc (fun _=>(@ev36 (Sp.rea 2 r) k9)) (cc (fun _=>(@ev38 false false false false (Sp.qi s*q) (Sp.qi (Sp.rea 2 r)) k10)) (cc (fun _=>(by (try rw [w7]);all_goals exact (@ev36 (s*z) k11))) (cc (fun _=>(@ev41 false false false false (Sp.qi (s*z)) (Sp.qi s*q-Sp.qi (Sp.rea 2 r)) k12)) c0)))))))) ?_
   rcases xq H with ⟨d14,H⟩|⟨d14,H⟩
   ·exact Zae (G:=Zab kp10 [] []) 1000 [true] (tu [(Zfh x y z),vi 0]) (by kernel_rfl) (bc (Zak (Zaa.2 d14)) (bc rfl (bc rfl b0))) q0 c0 H
   ·obtain ⟨k15,k16,k17,k18,k19,k20,H⟩:=H
    refine Zac (G:=Zab kp10 [(12,1,.call (ratF (-(Sp.qi s*q-Sp.qi (Sp.rea 2 r)))) none),(12,2,.call (bigA false (zNpF19 s q r)) none),(12,3,.call (bigA false (-Sp.flo (-(Sp.qi s*q-Sp.qi (Sp.rea 2 r))).num (↑(-(Sp.qi s*q-Sp.qi (Sp.rea 2 r))).den:Int))) none),(13,2,.call (bigA false (s*z)) none),(13,3,.call (bigA false (-Sp.flo (-(Sp.qi s*q-Sp.qi (Sp.rea 2 r))).num (↑(-(Sp.qi s*q-Sp.qi (Sp.rea 2 r))).den:Int)-s*z)) none),(14,2,.call (bigA false m) none),(14,3,.call (vi (Sp.sgnI (-Sp.flo (-(Sp.qi s*q-Sp.qi (Sp.rea 2 r))).num (↑(-(Sp.qi s*q-Sp.qi (Sp.rea 2 r))).den:Int)-s*z-m))) none)] []) 9 [false] ⟨(atC (cd Try.f10) [1,1,1,1,1,1,1,1,1,1,0,1]),[(2,vi s),(6,AV.ptr 0 0 0 0),(12,AV.ptr 2 0 0 0),(16,AV.ptr 0 0 0 2),(19,AV.ptr 5 0 0 0),(73,vb (decide (Sp.sgnI (-Sp.flo (-(Sp.qi s*q-Sp.qi (Sp.rea 2 r))).num (↑(-(Sp.qi s*q-Sp.qi (Sp.rea 2 r))).den:Int)-s*z-m)>0)))],[⟨[(Zfh x y z)],3,0,false,false⟩,⟨[ratA f g q],4,0,false,false⟩,⟨[Zep],3,0,false,false⟩,⟨[ratF (Sp.qi s)],4,0,false,false⟩,⟨[ratF (Sp.qi s*q-Sp.qi (Sp.rea 2 r))],4,0,false,false⟩,⟨[bigA false (-Sp.flo (-(Sp.qi s*q-Sp.qi (Sp.rea 2 r))).num (↑(-(Sp.qi s*q-Sp.qi (Sp.rea 2 r))).den:Int))],2,0,false,false⟩,⟨[bigA false (-Sp.flo (-(Sp.qi s*q-Sp.qi (Sp.rea 2 r))).num (↑(-(Sp.qi s*q-Sp.qi (Sp.rea 2 r))).den:Int)-s*z)],2,0,false,false⟩],_,[],[pc 44 [ratF (Sp.qi s*q-Sp.qi (Sp.rea 2 r))] (ratF (-(Sp.qi s*q-Sp.qi (Sp.rea 2 r)))),pc 43 [ratF (-(Sp.qi s*q-Sp.qi (Sp.rea 2 r)))] (bigA false (zNpF19 s q r)),pc 42 [bigA false (zNpF19 s q r)] (bigA false (-Sp.flo (-(Sp.qi s*q-Sp.qi (Sp.rea 2 r))).num (↑(-(Sp.qi s*q-Sp.qi (Sp.rea 2 r))).den:Int))),pc 46 [vi (wi (s*z))] (bigA false (s*z)),pc 45 [bigA false (-Sp.flo (-(Sp.qi s*q-Sp.qi (Sp.rea 2 r))).num (↑(-(Sp.qi s*q-Sp.qi (Sp.rea 2 r))).den:Int)),bigA false (s*z)] (bigA false (-Sp.flo (-(Sp.qi s*q-Sp.qi (Sp.rea 2 r))).num (↑(-(Sp.qi s*q-Sp.qi (Sp.rea 2 r))).den:Int)-s*z)),pc 46 [vi m] (bigA false m),pc 47 [bigA false (-Sp.flo (-(Sp.qi s*q-Sp.qi (Sp.rea 2 r))).num (↑(-(Sp.qi s*q-Sp.qi (Sp.rea 2 r))).den:Int)-s*z),bigA false m] (vi (Sp.sgnI (-Sp.flo (-(Sp.qi s*q-Sp.qi (Sp.rea 2 r))).num (↑(-(Sp.qi s*q-Sp.qi (Sp.rea 2 r))).den:Int)-s*z-m)))]⟩ (by kernel_rfl) (bc (Zah (fun h=>d14 (Zaa.1 h))) (bc rfl (bc rfl (bc rfl (bc rfl (bc rfl b0)))))) q0 (ce (@ev44 false false (Sp.qi s*q-Sp.qi (Sp.rea 2 r)) k15) (ce (@ev43 false false (-(Sp.qi s*q-Sp.qi (Sp.rea 2 r))) k16) (ce (@ev42 false (zNpF19 s q r) k17) (ce (by (try rw [w7]);all_goals exact (@ev46 (s*z) k11)) (ce (@ev45 false false (-Sp.flo (-(Sp.qi s*q-Sp.qi (Sp.rea 2 r))).num (↑(-(Sp.qi s*q-Sp.qi (Sp.rea 2 r))).den:Int)) (s*z) k18) (ce (@ev46 m k19) (ce (@ev47 false false (-Sp.flo (-(Sp.qi s*q-Sp.qi (Sp.rea 2 r))).num (↑(-(Sp.qi s*q-Sp.qi (Sp.rea 2 r))).den:Int)-s*z) m k20) c0))))))) ?_
    rcases xq H with ⟨d22,H⟩|⟨d22,H⟩
    ·exact Zae (G:=Zab kp10 [] []) 1000 [true] (tu [Zep,vi 4]) (by kernel_rfl) (bc (Zak (Zaa.2 d22)) (bc rfl b0)) q0 c0 H
    ·obtain ⟨k23,H⟩:=H
     refine Zac (G:=Zab kp10 [(16,1,.call ((zNpF21 s q r)) none),(17,4,.call (vb (decide (zNpF17 s q r))) none)] []) 7 [false] ⟨(atC (cd Try.f10) [1,1,1,1,1,1,1,1,1,1,1,1,0,1]),[(2,vi s),(6,AV.ptr 0 0 0 0),(12,AV.ptr 2 0 0 0),(16,AV.ptr 0 0 0 2),(21,vi (-Sp.flo (-(Sp.qi s*q-Sp.qi (Sp.rea 2 r))).num (↑(-(Sp.qi s*q-Sp.qi (Sp.rea 2 r))).den:Int))),(86,vb !decide (zNpF17 s q r))],[⟨[(Zfh x y z)],3,0,false,false⟩,⟨[ratA f g q],4,0,false,false⟩,⟨[Zep],3,0,false,false⟩,⟨[ratF (Sp.qi s)],4,0,false,false⟩,⟨[ratF (Sp.qi s*q-Sp.qi (Sp.rea 2 r))],4,0,false,false⟩,⟨[bigA false (-Sp.flo (-(Sp.qi s*q-Sp.qi (Sp.rea 2 r))).num (↑(-(Sp.qi s*q-Sp.qi (Sp.rea 2 r))).den:Int))],2,0,false,false⟩,⟨[bigA false (-Sp.flo (-(Sp.qi s*q-Sp.qi (Sp.rea 2 r))).num (↑(-(Sp.qi s*q-Sp.qi (Sp.rea 2 r))).den:Int)-s*z)],2,0,false,false⟩],_,[],[⟨true,false,48,[bigA false (-Sp.flo (-(Sp.qi s*q-Sp.qi (Sp.rea 2 r))).num (↑(-(Sp.qi s*q-Sp.qi (Sp.rea 2 r))).den:Int))],[],(zNpF21 s q r),[]⟩,⟨false==false&&true&&true,false,49,[vi (-Sp.flo (-(Sp.qi s*q-Sp.qi (Sp.rea 2 r))).num (↑(-(Sp.qi s*q-Sp.qi (Sp.rea 2 r))).den:Int))],[],vb (decide (zNpF17 s q r)),[]⟩]⟩ (by kernel_rfl) (bc (Zah (fun h=>d22 (Zaa.1 h))) (bc rfl b0)) q0 (cc (fun _=>(@ev48 false (-Sp.flo (-(Sp.qi s*q-Sp.qi (Sp.rea 2 r))).num (↑(-(Sp.qi s*q-Sp.qi (Sp.rea 2 r))).den:Int)) k23)) (cc (fun hc=>((@ev49 (-Sp.flo (-(Sp.qi s*q-Sp.qi (Sp.rea 2 r))).num (↑(-(Sp.qi s*q-Sp.qi (Sp.rea 2 r))).den:Int))):Ev M1 (Conf.pure 49 [vi (-Sp.flo (-(Sp.qi s*q-Sp.qi (Sp.rea 2 r))).num (↑(-(Sp.qi s*q-Sp.qi (Sp.rea 2 r))).den:Int))]) (vb (decide (zNpF17 s q r))) [])) c0)) ?_
     rcases xq H with ⟨d26,H⟩|⟨d26,H⟩
     ·exact Zae (G:=Zab kp10 [] []) 1000 [true] (tu [Zep,vi 11]) (by kernel_rfl) (bc (Zak ((Zas Zaa).2 d26)) (bc rfl b0)) q0 c0 H
     ·obtain ⟨k27,H⟩:=H
      have w28:wi (s * -Sp.flo (-(Sp.qi s*q-Sp.qi (Sp.rea 2 r))).num (↑(-(Sp.qi s*q-Sp.qi (Sp.rea 2 r))).den:Int))=s * -Sp.flo (-(Sp.qi s*q-Sp.qi (Sp.rea 2 r))).num (↑(-(Sp.qi s*q-Sp.qi (Sp.rea 2 r))).den:Int):=wI64 k27
      exact Zae (G:=Zab kp10 [] []) 1000 [false] (asm:=[(!decide (zNpF17 s q r))==false,0==0,true,true]) (tu [ag [vi x,vi y,vi (wi (s * -Sp.flo (-(Sp.qi s*q-Sp.qi (Sp.rea 2 r))).num (↑(-(Sp.qi s*q-Sp.qi (Sp.rea 2 r))).den:Int)))],vi 0]) (by kernel_rfl) (bc (Zah (fun h=>d26 ((Zas Zaa).1 h))) (bc (beq_self_eq_true _) (bc rfl (bc rfl b0)))) q0 c0 (by (try rw [w28]);all_goals exact H)
end Go.Av

namespace Go.Av
open Go.Proofs
theorem pcmp_ge {r s:Rat}:Sp.sgnI (r.num*(s.den:Int)-s.num*(r.den:Int))>=0 ↔ s<=r:=by
 rw [Rat.le_iff]
 generalize r.num*(s.den:Int)=u
 generalize s.num*(r.den:Int)=v
 unfold Sp.sgnI
 split
 ·omega
 ·split <;> omega
theorem sgn_gt {n:Int}:Sp.sgnI n>0 ↔ 0<n:=by
 unfold Sp.sgnI
 split
 ·omega
 ·split <;> omega
theorem cl_eq (r:Rat):-Sp.flo (-r).num ((-r).den:Int)=r.ceil:=by
 rw [Zdg (by have:=(-r).den_pos;omega),Rat.ceil_eq_neg_floor_neg,Rat.floor_def]
theorem ceil_add (r:Rat) (n:Int):(r+Sp.qi n).ceil=r.ceil+n:=by
 rw [ZbK,Rat.ceil_eq_neg_floor_neg,Rat.ceil_eq_neg_floor_neg,show -(r+(n:Rat)) = -r+((-n:Int):Rat) by rw [Rat.intCast_neg];grind,Rat.floor_add_intCast]
 omega
theorem ceil_bd {d:Rat} {B:Int} (h1:(((-B):Int):Rat)<=d) (h2:d<=((B:Int):Rat)):-B<=d.ceil/\d.ceil<=B:=by
 rw [Rat.ceil_eq_neg_floor_neg]
 have e1:-B<=(-d).floor:=Rat.le_floor_iff.2 (by rw [Rat.intCast_neg] at *;grind)
 have e2:(-d).floor<=B:=by
  have m:=Rat.floor_monotone (a:=-d) (b:=((B:Int):Rat)) (by rw [Rat.intCast_neg] at h1;grind)
  rwa [Rat.floor_intCast] at m
 omega
theorem okT2_bd {q:Rat} (h:Sp.okT 2 q):(((-1000000000000000000:Int)):Rat)<=q/\q<=(((1000000000000000000:Int)):Rat):=by
 have f:q.num.natAbs<1000000000000000000:=by
  have:=Zav.2 h.1
  unfold Sp.fits at this;simpa using this
 have p:=q.den_pos
 rw [Rat.le_iff,Rat.le_iff,Rat.num_intCast,Rat.den_intCast,Rat.num_intCast,Rat.den_intCast]
 constructor <;> omega
theorem qi_le {a b:Int} (h:a<=b):Sp.qi a<=Sp.qi b:=by rw [ZbK,ZbK];exact Rat.intCast_le_intCast.2 h
theorem ZeX (a:Int):-Sp.qi a=Sp.qi (-a):=by rw [ZbK,ZbK,Rat.intCast_neg]
theorem qi_add' (a b:Int):Sp.qi a+Sp.qi b=Sp.qi (a+b):=by rw [ZbK,ZbK,ZbK,Rat.intCast_add]
theorem dst_bd {x y z a s r:Int} {q:Rat} (hq:Sp.okT 2 q) (hp:Sp.pP x y z) (hw:Sp.pW a s r):-1100000000000000000<=(Sp.dst x y z a s r q).ceil/\(Sp.dst x y z a s r q).ceil<=1100000000000000000:=by
 have b:=okT2_bd hq
 rw [<- ZbK,<- ZbK] at b
 have al:=alg_in hp a
 unfold Sp.pM at al
 have a1:=qi_le al.1
 have a2:=qi_le al.2
 have r1:=qi_le hw.2.2.1
 have r2:=qi_le hw.2.2.2
 have e1:Sp.qi 1=1:=by rw [ZbK];rfl
 have s1:Sp.qi 1000000000000000000+Sp.qi 10000000+Sp.qi 10000000<=Sp.qi 1100000000000000000:=by rw [qi_add',qi_add'];exact qi_le (by omega)
 have n1:=ZeX 1000000000000000000
 have n2:=ZeX 10000000
 have n3:=ZeX 1100000000000000000
 have n4:=qi_le (show (0:Int)<=10000000 by omega)
 have e0:Sp.qi 0=0:=by rw [ZbK];rfl
 refine ceil_bd ?_ ?_ <;> rw [<- ZbK] <;> unfold Sp.dst Sp.dsA <;> split <;> split <;> grind
namespace Sp
noncomputable def tcC (x y z a s r:Int) (q:Rat):Int:=(dst x y z a s r q).ceil
noncomputable def tcP (x y z a s r:Int) (q:Rat):Int:=alg x y z a+s*tcC x y z a s r q
noncomputable def ZcB (x y z a s r m:Int) (q:Rat):Int:=if pW a s r/\0<=m then (if pP x y z then (if dst x y z a s r q<=0 then 0 else if m<tcC x y z a s r q then 4 else if pM (tcP x y z a s r q) then 0 else 11) else 11) else 1
noncomputable def ZcK (x y z a s r m:Int) (q:Rat):Int:=if ZcB x y z a s r m q=0 then (if dst x y z a s r q<=0 then x else putX x a (tcP x y z a s r q)) else 0
noncomputable def ZcS (x y z a s r m:Int) (q:Rat):Int:=if ZcB x y z a s r m q=0 then (if dst x y z a s r q<=0 then y else putY y a (tcP x y z a s r q)) else 0
noncomputable def ZcR (x y z a s r m:Int) (q:Rat):Int:=if ZcB x y z a s r m q=0 then (if dst x y z a s r q<=0 then z else putZ z a (tcP x y z a s r q)) else 0
end Sp
noncomputable abbrev tchR (x y z a s r m:Int) (q:Rat):AV:=.tup [.agg [.int .i64 (Sp.ZcK x y z a s r m q),.int .i64 (Sp.ZcS x y z a s r m q),.int .i64 (Sp.ZcR x y z a s r m q)],.int .i64 (Sp.ZcB x y z a s r m q)]
theorem ZcQ {x y z a s r m k:Int} {q:Rat} (h:Sp.ZcB x y z a s r m q=k) (hk:k ≠ 0):AV.tup [.agg [.int .i64 0,.int .i64 0,.int .i64 0],.int .i64 k]=tchR x y z a s r m q:=by
 have n:¬Sp.ZcB x y z a s r m q=0:=by rw [h];exact hk
 show _=AV.tup _
 unfold Sp.ZcK Sp.ZcS Sp.ZcR
 rw [if_neg n,if_neg n,if_neg n,h]
theorem tch_1 {x y z a s r m:Int} {q:Rat} (h:(¬Sp.pW a s r)\/m<0):Sp.ZcB x y z a s r m q=1:=by
 unfold Sp.ZcB;rw [if_neg fun k=>h.elim (fun j=>j k.1) fun j=>by omega]
theorem tch_11 {x y z a s r m:Int} {q:Rat} (h:Sp.pW a s r/\0<=m) (k:¬Sp.pP x y z):Sp.ZcB x y z a s r m q=11:=by
 unfold Sp.ZcB;rw [if_pos h,if_neg k]
theorem tch_at {x y z a s r m:Int} {q:Rat} (h:Sp.pW a s r/\0<=m) (k:Sp.pP x y z) (d:Sp.dst x y z a s r q<=0):AV.tup [.agg [.int .i64 x,.int .i64 y,.int .i64 z],.int .i64 0]=tchR x y z a s r m q:=by
 have e:Sp.ZcB x y z a s r m q=0:=by unfold Sp.ZcB;rw [if_pos h,if_pos k,if_pos d]
 show _=AV.tup _
 unfold Sp.ZcK Sp.ZcS Sp.ZcR
 rw [e,if_pos rfl,if_pos rfl,if_pos rfl,if_pos d,if_pos d,if_pos d]
theorem tch_4 {x y z a s r m:Int} {q:Rat} (h:Sp.pW a s r/\0<=m) (k:Sp.pP x y z) (d:¬Sp.dst x y z a s r q<=0) (c:m<Sp.tcC x y z a s r q):Sp.ZcB x y z a s r m q=4:=by
 unfold Sp.ZcB;rw [if_pos h,if_pos k,if_neg d,if_pos c]
theorem tch_out {x y z a s r m:Int} {q:Rat} (h:Sp.pW a s r/\0<=m) (k:Sp.pP x y z) (d:¬Sp.dst x y z a s r q<=0) (c:¬m<Sp.tcC x y z a s r q) (p:¬Sp.pM (Sp.tcP x y z a s r q)):Sp.ZcB x y z a s r m q=11:=by
 unfold Sp.ZcB;rw [if_pos h,if_pos k,if_neg d,if_neg c,if_neg p]
theorem tch_mv {x y z a s r m:Int} {q:Rat} (h:Sp.pW a s r/\0<=m) (k:Sp.pP x y z) (d:¬Sp.dst x y z a s r q<=0) (c:¬m<Sp.tcC x y z a s r q) (p:Sp.pM (Sp.tcP x y z a s r q)):AV.tup [.agg [.int .i64 (Sp.putX x a (Sp.tcP x y z a s r q)),.int .i64 (Sp.putY y a (Sp.tcP x y z a s r q)),.int .i64 (Sp.putZ z a (Sp.tcP x y z a s r q))],.int .i64 0]=tchR x y z a s r m q:=by
 have e:Sp.ZcB x y z a s r m q=0:=by unfold Sp.ZcB;rw [if_pos h,if_pos k,if_neg d,if_neg c,if_pos p]
 show _=AV.tup _
 unfold Sp.ZcK Sp.ZcS Sp.ZcR
 rw [e,if_pos rfl,if_pos rfl,if_pos rfl,if_neg d,if_neg d,if_neg d]
theorem wm_of {a s r m:Int} (h:¬((¬Sp.chk a s r=0)\/m<0)):Sp.pW a s r/\0<=m:=⟨Classical.not_not.1 fun k=>h (.inl fun j=>k (Zdn.1 j)),by omega⟩
theorem edge_d {x y z a s r:Int} {q:Rat} (hw:Sp.pW a s r):Sp.qi s*q-Sp.qi (Sp.rea a r)=Sp.dst x y z a s r q+Sp.qi (s*Sp.alg x y z a):=by
 have e1:Sp.qi 1=1:=by rw [ZbK];rfl
 have e2:Sp.qi (-1) = -1:=by rw [ZbK];rfl
 have e0:Sp.qi 0=0:=by rw [ZbK];rfl
 have n:=ZeX (Sp.alg x y z a)
 have hr:Sp.qi (Sp.rea a r)=if a<2 then Sp.qi r else 0:=by
  unfold Sp.rea
  by_cases k:a=2
  ·rw [if_pos k,if_neg (by omega),e0]
  ·rw [if_neg k,if_pos (by have:=hw.1;omega)]
 rw [hr]
 unfold Sp.dst Sp.dsA
 rcases hw.2.1 with rfl | rfl
 ·rw [if_neg (show ¬(1:Int)<0 by decide),Int.one_mul,e1]
  split <;> grind
 ·rw [if_pos (show (-1:Int)<0 by decide),show (-1:Int)*Sp.alg x y z a = -Sp.alg x y z a by omega,<- n,e2]
  split <;> grind
theorem s_sq {a s r:Int} (hw:Sp.pW a s r) (t:Int):s*(s*t)=t/\(Sp.pM (s*t) ↔ Sp.pM t):=by
 rcases hw.2.1 with rfl | rfl
 ·rw [Int.one_mul,Int.one_mul];exact ⟨rfl,Iff.rfl⟩
 ·refine ⟨by omega,?_⟩
  unfold Sp.pM;omega
theorem tch_prog {x y z a s r m:Int} {q:Rat} (hq:Sp.okT 2 q) (hp:Sp.pP x y z) (hw:Sp.pW a s r) (hm:0<=m) (hi:m<=9223372036854775807) {u v w:Int} {X:Int} (hX:X=s*Sp.alg x y z a) :
  ((Sp.sgnI ((Sp.qi X).num*(↑(Sp.qi s*q-Sp.qi (Sp.rea a r)).den:Int)-(Sp.qi s*q-Sp.qi (Sp.rea a r)).num*(↑(Sp.qi X).den:Int))>=0) ↔ Sp.dst x y z a s r q<=0) /\
  -Sp.flo (-(Sp.qi s*q-Sp.qi (Sp.rea a r))).num (↑(-(Sp.qi s*q-Sp.qi (Sp.rea a r))).den:Int)=Sp.tcC x y z a s r q+X /\
  s*(Sp.tcC x y z a s r q+X)=Sp.tcP x y z a s r q:=by
 have e:=edge_d (x:=x) (y:=y) (z:=z) (q:=q) hw
 rw [pcmp_ge,cl_eq,e,hX]
 refine ⟨?_,ceil_add _ _,?_⟩
 ·constructor <;> intro h <;> grind
 ·unfold Sp.tcP
  rw [Int.mul_add,(s_sq hw _).1];omega
theorem touch0 (f g:Bool) (q:Rat) (x y z s r m:Int) (h:Sp.okT 2 q) (hw:Sp.pW 0 s r) (hm:m<=9223372036854775807):Ze0 f g q x y z s r m (Zad (tchR x y z 0 s r m q)):=by
 refine pTouch0 _ _ _ _ _ _ _ _ _ _ ⟨fun k=>ZcQ (tch_1 (k.imp (fun j i=>j (Zdn.2 i)) id)) (by decide),fun k=>⟨fun j=>ZcQ (tch_11 (wm_of k) j) (by decide),fun j => ?_⟩⟩
 have hm0:=wm_of k
 have hp:=Classical.not_not.1 j
 have tp:=tch_prog (m:=m) (X:=s*x) h hp hw hm0.2 hm (u:=0) (v:=0) (w:=0) rfl
 have bd:=dst_bd h hp hw
 have td:=okT_dst (a:=0) (s:=s) h hp (inI_W hw)
 have cc:(Sp.dst x y z 0 s r q).ceil=Sp.tcC x y z 0 s r q:=rfl
 rw [cc] at bd
 obtain ⟨t1,t2,t3⟩:=tp
 have hx:-10000000<=x/\x<=10000000:=hp.1
 have sx:s*x=x\/s*x = -x:=by
  rcases hw.2.1 with rfl | rfl
  ·left;omega
  ·right;omega
 have hs:Sp.inI s:=by have:=hw.2.1;unfold Sp.inI;omega
 have ri:Sp.inI (Sp.rea 0 r):=by have:=hw.2.2;unfold Sp.rea Sp.inI;split <;> omega
 have xi:Sp.inI (s*x):=by unfold Sp.inI;omega
 have te:=Zgk (Ze1 (Zbc hs) h) (Zbc ri)
 have fb:Sp.flo (-(Sp.qi s*q-Sp.qi (Sp.rea 0 r))).num (↑(-(Sp.qi s*q-Sp.qi (Sp.rea 0 r))).den:Int) = -(Sp.tcC x y z 0 s r q+s*x):=by omega
 rw [t1,t2,fb]
 rw [show Sp.tcC x y z 0 s r q+s*x-s*x=Sp.tcC x y z 0 s r q by omega,sgn_gt,t3]
 have nt:=Zgl te
 have B {n:Int} (h:n.natAbs<1000000000000000000000000000):Sp.okB n:=okB3 h
 have pq:Sp.pM (Sp.tcC x y z 0 s r q+s*x) ↔ Sp.pM (Sp.tcP x y z 0 s r q):=by rw [<- t3,(s_sq hw _).2]
 have tcb:-3000000000000000000<=Sp.tcP x y z 0 s r q/\Sp.tcP x y z 0 s r q<=3000000000000000000:=by
  rw [<- t3]
  rcases hw.2.1 with rfl | rfl <;> omega
 refine ⟨hs,by omega,⟨ZbW (Zbc hs) (by omega),ZbW h (by omega)⟩,ri,⟨ZbW (Ze1 (Zbc hs) h) (by omega),ZbW (Zbc ri) (by omega)⟩,xi,⟨ZbW (Zbc xi) (by omega),ZbW te (by omega)⟩,fun d=>tch_at hm0 hp d,fun d=>⟨?_,⟨?_,?_⟩,B (by omega),⟨B (by omega),B (by omega)⟩,by unfold Sp.inI;omega,⟨B (by omega),B (by omega)⟩,fun c=>ZcQ (tch_4 hm0 hp d (by omega)) (by decide),fun c=>⟨by omega,fun p=>ZcQ (tch_out hm0 hp d (by omega) (fun i=>p (pq.2 i))) (by decide),fun p=>⟨by omega,tch_mv hm0 hp d (by omega) (pq.1 (Classical.not_not.1 p))⟩⟩⟩⟩
 ·exact (Zea (ZbW te (by omega))).1
 ·exact (Zea (ZbW nt (by omega))).1
 ·exact (Zea (ZbW nt (by omega))).2
theorem touch1 (f g:Bool) (q:Rat) (x y z s r m:Int) (h:Sp.okT 2 q) (hw:Sp.pW 1 s r) (hm:m<=9223372036854775807):ZeZ f g q x y z s r m (Zad (tchR x y z 1 s r m q)):=by
 refine pTouch1 _ _ _ _ _ _ _ _ _ _ ⟨fun k=>ZcQ (tch_1 (k.imp (fun j i=>j (Zdn.2 i)) id)) (by decide),fun k=>⟨fun j=>ZcQ (tch_11 (wm_of k) j) (by decide),fun j => ?_⟩⟩
 have hm0:=wm_of k
 have hp:=Classical.not_not.1 j
 have tp:=tch_prog (m:=m) (X:=s*y) h hp hw hm0.2 hm (u:=0) (v:=0) (w:=0) rfl
 have bd:=dst_bd h hp hw
 have td:=okT_dst (a:=1) (s:=s) h hp (inI_W hw)
 have cc:(Sp.dst x y z 1 s r q).ceil=Sp.tcC x y z 1 s r q:=rfl
 rw [cc] at bd
 obtain ⟨t1,t2,t3⟩:=tp
 have hx:-10000000<=y/\y<=10000000:=hp.2.1
 have sx:s*y=y\/s*y = -y:=by
  rcases hw.2.1 with rfl | rfl
  ·left;omega
  ·right;omega
 have hs:Sp.inI s:=by have:=hw.2.1;unfold Sp.inI;omega
 have ri:Sp.inI (Sp.rea 1 r):=by have:=hw.2.2;unfold Sp.rea Sp.inI;split <;> omega
 have xi:Sp.inI (s*y):=by unfold Sp.inI;omega
 have te:=Zgk (Ze1 (Zbc hs) h) (Zbc ri)
 have fb:Sp.flo (-(Sp.qi s*q-Sp.qi (Sp.rea 1 r))).num (↑(-(Sp.qi s*q-Sp.qi (Sp.rea 1 r))).den:Int) = -(Sp.tcC x y z 1 s r q+s*y):=by omega
 rw [t1,t2,fb]
 rw [show Sp.tcC x y z 1 s r q+s*y-s*y=Sp.tcC x y z 1 s r q by omega,sgn_gt,t3]
 have nt:=Zgl te
 have B {n:Int} (h:n.natAbs<1000000000000000000000000000):Sp.okB n:=okB3 h
 have pq:Sp.pM (Sp.tcC x y z 1 s r q+s*y) ↔ Sp.pM (Sp.tcP x y z 1 s r q):=by rw [<- t3,(s_sq hw _).2]
 have tcb:-3000000000000000000<=Sp.tcP x y z 1 s r q/\Sp.tcP x y z 1 s r q<=3000000000000000000:=by
  rw [<- t3]
  rcases hw.2.1 with rfl | rfl <;> omega
 refine ⟨hs,by omega,⟨ZbW (Zbc hs) (by omega),ZbW h (by omega)⟩,ri,⟨ZbW (Ze1 (Zbc hs) h) (by omega),ZbW (Zbc ri) (by omega)⟩,xi,⟨ZbW (Zbc xi) (by omega),ZbW te (by omega)⟩,fun d=>tch_at hm0 hp d,fun d=>⟨?_,⟨?_,?_⟩,B (by omega),⟨B (by omega),B (by omega)⟩,by unfold Sp.inI;omega,⟨B (by omega),B (by omega)⟩,fun c=>ZcQ (tch_4 hm0 hp d (by omega)) (by decide),fun c=>⟨by omega,fun p=>ZcQ (tch_out hm0 hp d (by omega) (fun i=>p (pq.2 i))) (by decide),fun p=>⟨by omega,tch_mv hm0 hp d (by omega) (pq.1 (Classical.not_not.1 p))⟩⟩⟩⟩
 ·exact (Zea (ZbW te (by omega))).1
 ·exact (Zea (ZbW nt (by omega))).1
 ·exact (Zea (ZbW nt (by omega))).2
theorem touch2 (f g:Bool) (q:Rat) (x y z s r m:Int) (h:Sp.okT 2 q) (hw:Sp.pW 2 s r) (hm:m<=9223372036854775807):ZeY f g q x y z s r m (Zad (tchR x y z 2 s r m q)):=by
 refine pTouch2 _ _ _ _ _ _ _ _ _ _ ⟨fun k=>ZcQ (tch_1 (k.imp (fun j i=>j (Zdn.2 i)) id)) (by decide),fun k=>⟨fun j=>ZcQ (tch_11 (wm_of k) j) (by decide),fun j => ?_⟩⟩
 have hm0:=wm_of k
 have hp:=Classical.not_not.1 j
 have tp:=tch_prog (m:=m) (X:=s*z) h hp hw hm0.2 hm (u:=0) (v:=0) (w:=0) rfl
 have bd:=dst_bd h hp hw
 have td:=okT_dst (a:=2) (s:=s) h hp (inI_W hw)
 have cc:(Sp.dst x y z 2 s r q).ceil=Sp.tcC x y z 2 s r q:=rfl
 rw [cc] at bd
 obtain ⟨t1,t2,t3⟩:=tp
 have hx:-10000000<=z/\z<=10000000:=hp.2.2
 have sx:s*z=z\/s*z = -z:=by
  rcases hw.2.1 with rfl | rfl
  ·left;omega
  ·right;omega
 have hs:Sp.inI s:=by have:=hw.2.1;unfold Sp.inI;omega
 have ri:Sp.inI (Sp.rea 2 r):=by have:=hw.2.2;unfold Sp.rea Sp.inI;split <;> omega
 have xi:Sp.inI (s*z):=by unfold Sp.inI;omega
 have te:=Zgk (Ze1 (Zbc hs) h) (Zbc ri)
 have fb:Sp.flo (-(Sp.qi s*q-Sp.qi (Sp.rea 2 r))).num (↑(-(Sp.qi s*q-Sp.qi (Sp.rea 2 r))).den:Int) = -(Sp.tcC x y z 2 s r q+s*z):=by omega
 rw [t1,t2,fb]
 rw [show Sp.tcC x y z 2 s r q+s*z-s*z=Sp.tcC x y z 2 s r q by omega,sgn_gt,t3]
 have nt:=Zgl te
 have B {n:Int} (h:n.natAbs<1000000000000000000000000000):Sp.okB n:=okB3 h
 have pq:Sp.pM (Sp.tcC x y z 2 s r q+s*z) ↔ Sp.pM (Sp.tcP x y z 2 s r q):=by rw [<- t3,(s_sq hw _).2]
 have tcb:-3000000000000000000<=Sp.tcP x y z 2 s r q/\Sp.tcP x y z 2 s r q<=3000000000000000000:=by
  rw [<- t3]
  rcases hw.2.1 with rfl | rfl <;> omega
 refine ⟨hs,by omega,⟨ZbW (Zbc hs) (by omega),ZbW h (by omega)⟩,ri,⟨ZbW (Ze1 (Zbc hs) h) (by omega),ZbW (Zbc ri) (by omega)⟩,xi,⟨ZbW (Zbc xi) (by omega),ZbW te (by omega)⟩,fun d=>tch_at hm0 hp d,fun d=>⟨?_,⟨?_,?_⟩,B (by omega),⟨B (by omega),B (by omega)⟩,by unfold Sp.inI;omega,⟨B (by omega),B (by omega)⟩,fun c=>ZcQ (tch_4 hm0 hp d (by omega)) (by decide),fun c=>⟨by omega,fun p=>ZcQ (tch_out hm0 hp d (by omega) (fun i=>p (pq.2 i))) (by decide),fun p=>⟨by omega,tch_mv hm0 hp d (by omega) (pq.1 (Classical.not_not.1 p))⟩⟩⟩⟩
 ·exact (Zea (ZbW te (by omega))).1
 ·exact (Zea (ZbW nt (by omega))).1
 ·exact (Zea (ZbW nt (by omega))).2
theorem ev10 (f g:Bool) (q:Rat) (x y z a s r m:Int) (h:Sp.okT 2 q/\Sp.inI m):Ev M1 (.pure 10 [.agg [.int .i64 x,.int .i64 y,.int .i64 z],.int .i64 a,.int .i64 s,ratA f g q,.int .i64 r,.int .i64 m]) (.tup [.agg [.int .i64 (Sp.ZcK x y z a s r m q),.int .i64 (Sp.ZcS x y z a s r m q),.int .i64 (Sp.ZcR x y z a s r m q)],.int .i64 (Sp.ZcB x y z a s r m q)]) []:=by
 by_cases hw:Sp.pW a s r
 ·have ha:a=0\/a=1\/a=2:=by have:=hw.1;omega
  rcases ha with rfl | rfl | rfl
  ·exact call10 (touch0 _ _ _ _ _ _ _ _ _ h.1 hw h.2.2)
  ·exact call10 (touch1 _ _ _ _ _ _ _ _ _ h.1 hw h.2.2)
  ·exact call10 (touch2 _ _ _ _ _ _ _ _ _ h.1 hw h.2.2)
 ·exact call10 (pTouchX _ _ _ _ _ _ _ _ _ _ _ ⟨fun _=>ZcQ (tch_1 (.inl hw)) (by decide),fun k=>absurd (wm_of k).1 hw⟩)
end Go.Av

namespace Go.Av
open Go.Proofs
set_option maxRecDepth 100000
def fi8:Fi:=⟨80,[.tmp 0]⟩
def kp8:List (Nat × List Nat):=[(0,[]),(1,[1,2]),(2,[1,2,3,4]),(3,[1,2,3,4,5,6]),(4,[1,2,3,4,5,6,7,8]),(5,[1,2,3,4,5,6,7,8,9,10]),(6,[0])]
def pAwake_at  (Q:AV->Heap->Prop):Prop:=Wp M1 (.run fi8 (atC (cd Try.f8) []) [] []) Q
theorem call8 {args:List AV} {d:AV} (h:wc M1 fi8 Try.f8 args d):Ev M1 (.pure 8 args) d []:=pcl _ _ (by kernel_rfl) h
noncomputable abbrev zNpG1:=Sp.ZcS 0 0 0 0 1 2000 20000 (Sp.qi 10000)==0&&(Sp.ZcR 0 0 0 0 1 2000 20000 (Sp.qi 10000)==0&&true)
noncomputable abbrev zNpG2:=Sp.ZcS 0 0 0 0 1 2000 20000 (Sp.qf 20001 2)==0&&(Sp.ZcR 0 0 0 0 1 2000 20000 (Sp.qf 20001 2)==0&&true)
theorem pAwake   (dq:AV) (H :
  (Sp.inI 10000) /\
  (Sp.okT 2 (Sp.qi 10000)/\Sp.inI 20000) /\
  (Sp.okF 20001 2) /\
  (Sp.okT 2 (Sp.qf 20001 2)/\Sp.inI 20000) /\
  (Sp.inI 100) /\
  (Sp.okT 2 (Sp.qi 100)/\Sp.inI 20000) /\
  vb (bif bif bif bif bif bif bif bif bif Sp.ZcB 0 0 0 0 1 2000 20000 (Sp.qi 10000)==0 then Sp.ZcB 0 0 0 0 1 2000 20000 (Sp.qf 20001 2)==0 else false then Sp.ZcB 0 0 5000 2 (-1) 2000 20000 (Sp.qi 100)==0 else false then Sp.Zba (Sp.ZcK 0 0 0 0 1 2000 20000 (Sp.qi 10000)) (Sp.ZcS 0 0 0 0 1 2000 20000 (Sp.qi 10000)) (Sp.ZcR 0 0 0 0 1 2000 20000 (Sp.qi 10000)) 0 1 2000==0 else false then Sp.Zba (Sp.ZcK 0 0 0 0 1 2000 20000 (Sp.qf 20001 2)) (Sp.ZcS 0 0 0 0 1 2000 20000 (Sp.qf 20001 2)) (Sp.ZcR 0 0 0 0 1 2000 20000 (Sp.qf 20001 2)) 0 1 2000==0 else false then Sp.ZcK 0 0 0 0 1 2000 20000 (Sp.qi 10000)==8000&&(Sp.ZcS 0 0 0 0 1 2000 20000 (Sp.qi 10000)==0&&(Sp.ZcR 0 0 0 0 1 2000 20000 (Sp.qi 10000)==0&&true)) else false then Sp.ZcK 0 0 0 0 1 2000 20000 (Sp.qf 20001 2)==8001&&(Sp.ZcS 0 0 0 0 1 2000 20000 (Sp.qf 20001 2)==0&&(Sp.ZcR 0 0 0 0 1 2000 20000 (Sp.qf 20001 2)==0&&true)) else false then Sp.ZcK 0 0 5000 2 (-1) 2000 20000 (Sp.qi 100)==0&&(Sp.ZcS 0 0 5000 2 (-1) 2000 20000 (Sp.qi 100)==0&&(Sp.ZcR 0 0 5000 2 (-1) 2000 20000 (Sp.qi 100)==100&&true)) else false then Sp.ZbP (Sp.ZcK 0 0 0 0 1 2000 20000 (Sp.qi 10000)) (Sp.ZcS 0 0 0 0 1 2000 20000 (Sp.qi 10000)) (Sp.ZcR 0 0 0 0 1 2000 20000 (Sp.qi 10000)) 0 1 2000==10000 else false then Sp.ZbP (Sp.ZcK 0 0 0 0 1 2000 20000 (Sp.qf 20001 2)) (Sp.ZcS 0 0 0 0 1 2000 20000 (Sp.qf 20001 2)) (Sp.ZcR 0 0 0 0 1 2000 20000 (Sp.qf 20001 2)) 0 1 2000==10001 else false)=dq) :
 pAwake_at  (Zad dq):=by
 unfold pAwake_at
 obtain ⟨k1,k2,k3,k4,k5,k6,H⟩:=H
 exact Zae (G:=Zab kp8 [(1,1,.call (ratF (Sp.qi 10000)) none),(1,2,.call (tu [ag [vi (Sp.ZcK 0 0 0 0 1 2000 20000 (Sp.qi 10000)),vi (Sp.ZcS 0 0 0 0 1 2000 20000 (Sp.qi 10000)),vi (Sp.ZcR 0 0 0 0 1 2000 20000 (Sp.qi 10000))],vi (Sp.ZcB 0 0 0 0 1 2000 20000 (Sp.qi 10000))]) none),(2,1,.call (ratF (Sp.qf 20001 2)) none),(2,2,.call (tu [ag [vi (Sp.ZcK 0 0 0 0 1 2000 20000 (Sp.qf 20001 2)),vi (Sp.ZcS 0 0 0 0 1 2000 20000 (Sp.qf 20001 2)),vi (Sp.ZcR 0 0 0 0 1 2000 20000 (Sp.qf 20001 2))],vi (Sp.ZcB 0 0 0 0 1 2000 20000 (Sp.qf 20001 2))]) none),(3,1,.call (ratF (Sp.qi 100)) none),(3,2,.call (tu [ag [vi (Sp.ZcK 0 0 5000 2 (-1) 2000 20000 (Sp.qi 100)),vi (Sp.ZcS 0 0 5000 2 (-1) 2000 20000 (Sp.qi 100)),vi (Sp.ZcR 0 0 5000 2 (-1) 2000 20000 (Sp.qi 100))],vi (Sp.ZcB 0 0 5000 2 (-1) 2000 20000 (Sp.qi 100))]) none),(4,1,.call (tu [vi (Sp.ZbP (Sp.ZcK 0 0 0 0 1 2000 20000 (Sp.qi 10000)) (Sp.ZcS 0 0 0 0 1 2000 20000 (Sp.qi 10000)) (Sp.ZcR 0 0 0 0 1 2000 20000 (Sp.qi 10000)) 0 1 2000),vi (Sp.Zba (Sp.ZcK 0 0 0 0 1 2000 20000 (Sp.qi 10000)) (Sp.ZcS 0 0 0 0 1 2000 20000 (Sp.qi 10000)) (Sp.ZcR 0 0 0 0 1 2000 20000 (Sp.qi 10000)) 0 1 2000)]) none),(5,1,.call (tu [vi (Sp.ZbP (Sp.ZcK 0 0 0 0 1 2000 20000 (Sp.qf 20001 2)) (Sp.ZcS 0 0 0 0 1 2000 20000 (Sp.qf 20001 2)) (Sp.ZcR 0 0 0 0 1 2000 20000 (Sp.qf 20001 2)) 0 1 2000),vi (Sp.Zba (Sp.ZcK 0 0 0 0 1 2000 20000 (Sp.qf 20001 2)) (Sp.ZcS 0 0 0 0 1 2000 20000 (Sp.qf 20001 2)) (Sp.ZcR 0 0 0 0 1 2000 20000 (Sp.qf 20001 2)) 0 1 2000)]) none)] []) 1000 [] (asm:=[true,true,true,true,true,!((bif bif bif bif Sp.ZcB 0 0 0 0 1 2000 20000 (Sp.qi 10000)==0 then Sp.ZcB 0 0 0 0 1 2000 20000 (Sp.qf 20001 2)==0 else false then Sp.ZcB 0 0 5000 2 (-1) 2000 20000 (Sp.qi 100)==0 else false then Sp.Zba (Sp.ZcK 0 0 0 0 1 2000 20000 (Sp.qi 10000)) (Sp.ZcS 0 0 0 0 1 2000 20000 (Sp.qi 10000)) (Sp.ZcR 0 0 0 0 1 2000 20000 (Sp.qi 10000)) 0 1 2000==0 else false then Sp.Zba (Sp.ZcK 0 0 0 0 1 2000 20000 (Sp.qf 20001 2)) (Sp.ZcS 0 0 0 0 1 2000 20000 (Sp.qf 20001 2)) (Sp.ZcR 0 0 0 0 1 2000 20000 (Sp.qf 20001 2)) 0 1 2000==0 else false)==true&&true)||true,!((bif bif bif bif bif Sp.ZcB 0 0 0 0 1 2000 20000 (Sp.qi 10000)==0 then Sp.ZcB 0 0 0 0 1 2000 20000 (Sp.qf 20001 2)==0 else false then Sp.ZcB 0 0 5000 2 (-1) 2000 20000 (Sp.qi 100)==0 else false then Sp.Zba (Sp.ZcK 0 0 0 0 1 2000 20000 (Sp.qi 10000)) (Sp.ZcS 0 0 0 0 1 2000 20000 (Sp.qi 10000)) (Sp.ZcR 0 0 0 0 1 2000 20000 (Sp.qi 10000)) 0 1 2000==0 else false then Sp.Zba (Sp.ZcK 0 0 0 0 1 2000 20000 (Sp.qf 20001 2)) (Sp.ZcS 0 0 0 0 1 2000 20000 (Sp.qf 20001 2)) (Sp.ZcR 0 0 0 0 1 2000 20000 (Sp.qf 20001 2)) 0 1 2000==0 else false then Sp.ZcK 0 0 0 0 1 2000 20000 (Sp.qi 10000)==8000&&zNpG1 else false)==true&&true)||true,!((bif bif bif bif bif bif Sp.ZcB 0 0 0 0 1 2000 20000 (Sp.qi 10000)==0 then Sp.ZcB 0 0 0 0 1 2000 20000 (Sp.qf 20001 2)==0 else false then Sp.ZcB 0 0 5000 2 (-1) 2000 20000 (Sp.qi 100)==0 else false then Sp.Zba (Sp.ZcK 0 0 0 0 1 2000 20000 (Sp.qi 10000)) (Sp.ZcS 0 0 0 0 1 2000 20000 (Sp.qi 10000)) (Sp.ZcR 0 0 0 0 1 2000 20000 (Sp.qi 10000)) 0 1 2000==0 else false then Sp.Zba (Sp.ZcK 0 0 0 0 1 2000 20000 (Sp.qf 20001 2)) (Sp.ZcS 0 0 0 0 1 2000 20000 (Sp.qf 20001 2)) (Sp.ZcR 0 0 0 0 1 2000 20000 (Sp.qf 20001 2)) 0 1 2000==0 else false then Sp.ZcK 0 0 0 0 1 2000 20000 (Sp.qi 10000)==8000&&zNpG1 else false then Sp.ZcK 0 0 0 0 1 2000 20000 (Sp.qf 20001 2)==8001&&zNpG2 else false)==true&&true)||true]) (vb (bif bif bif bif bif bif bif bif bif Sp.ZcB 0 0 0 0 1 2000 20000 (Sp.qi 10000)==0 then Sp.ZcB 0 0 0 0 1 2000 20000 (Sp.qf 20001 2)==0 else false then Sp.ZcB 0 0 5000 2 (-1) 2000 20000 (Sp.qi 100)==0 else false then Sp.Zba (Sp.ZcK 0 0 0 0 1 2000 20000 (Sp.qi 10000)) (Sp.ZcS 0 0 0 0 1 2000 20000 (Sp.qi 10000)) (Sp.ZcR 0 0 0 0 1 2000 20000 (Sp.qi 10000)) 0 1 2000==0 else false then Sp.Zba (Sp.ZcK 0 0 0 0 1 2000 20000 (Sp.qf 20001 2)) (Sp.ZcS 0 0 0 0 1 2000 20000 (Sp.qf 20001 2)) (Sp.ZcR 0 0 0 0 1 2000 20000 (Sp.qf 20001 2)) 0 1 2000==0 else false then Sp.ZcK 0 0 0 0 1 2000 20000 (Sp.qi 10000)==8000&&zNpG1 else false then Sp.ZcK 0 0 0 0 1 2000 20000 (Sp.qf 20001 2)==8001&&zNpG2 else false then Sp.ZcK 0 0 5000 2 (-1) 2000 20000 (Sp.qi 100)==0&&(Sp.ZcS 0 0 5000 2 (-1) 2000 20000 (Sp.qi 100)==0&&(Sp.ZcR 0 0 5000 2 (-1) 2000 20000 (Sp.qi 100)==100&&true)) else false then Sp.ZbP (Sp.ZcK 0 0 0 0 1 2000 20000 (Sp.qi 10000)) (Sp.ZcS 0 0 0 0 1 2000 20000 (Sp.qi 10000)) (Sp.ZcR 0 0 0 0 1 2000 20000 (Sp.qi 10000)) 0 1 2000==10000 else false then Sp.ZbP (Sp.ZcK 0 0 0 0 1 2000 20000 (Sp.qf 20001 2)) (Sp.ZcS 0 0 0 0 1 2000 20000 (Sp.qf 20001 2)) (Sp.ZcR 0 0 0 0 1 2000 20000 (Sp.qf 20001 2)) 0 1 2000==10001 else false)) (by kernel_rfl) (bc rfl (bc rfl (bc rfl (bc rfl (bc rfl (bc (Bool.or_true _) (bc (Bool.or_true _) (bc (Bool.or_true _) b0)))))))) q0 (ce (@ev14 10000 k1) (ce (@ev10 false false (Sp.qi 10000) 0 0 0 0 1 2000 20000 k2) (ce (@ev32 20001 2 k3) (ce (@ev10 false false (Sp.qf 20001 2) 0 0 0 0 1 2000 20000 k4) (ce (@ev14 100 k5) (ce (@ev10 false false (Sp.qi 100) 0 0 5000 2 (-1) 2000 20000 k6) (ce (@ev12 (Sp.ZcK 0 0 0 0 1 2000 20000 (Sp.qi 10000)) (Sp.ZcS 0 0 0 0 1 2000 20000 (Sp.qi 10000)) (Sp.ZcR 0 0 0 0 1 2000 20000 (Sp.qi 10000)) 0 1 2000) (ce (@ev12 (Sp.ZcK 0 0 0 0 1 2000 20000 (Sp.qf 20001 2)) (Sp.ZcS 0 0 0 0 1 2000 20000 (Sp.qf 20001 2)) (Sp.ZcR 0 0 0 0 1 2000 20000 (Sp.qf 20001 2)) 0 1 2000) c0)))))))) H
end Go.Av

namespace Go.Av
open Go.Proofs
theorem tch_mv4 {x y z a s r m:Int} {q:Rat} (h:Sp.pW a s r/\0<=m) (k:Sp.pP x y z) (d:¬Sp.dst x y z a s r q<=0) (c:¬m<Sp.tcC x y z a s r q) (p:Sp.pM (Sp.tcP x y z a s r q)):Sp.ZcK x y z a s r m q=Sp.putX x a (Sp.tcP x y z a s r q)/\Sp.ZcS x y z a s r m q=Sp.putY y a (Sp.tcP x y z a s r q)/\Sp.ZcR x y z a s r m q=Sp.putZ z a (Sp.tcP x y z a s r q)/\Sp.ZcB x y z a s r m q=0:=by
 have e:Sp.ZcB x y z a s r m q=0:=by unfold Sp.ZcB;rw [if_pos h,if_pos k,if_neg d,if_neg c,if_pos p]
 refine ⟨?_,?_,?_,e⟩
 ·unfold Sp.ZcK;rw [e,if_pos rfl,if_neg d]
 ·unfold Sp.ZcS;rw [e,if_pos rfl,if_neg d]
 ·unfold Sp.ZcR;rw [e,if_pos rfl,if_neg d]
theorem tch_val {x y z a s r m c t:Int} {q:Rat} (h:Sp.pW a s r) (hm:0<=m) (k:Sp.pP x y z) (hc:(Sp.dst x y z a s r q).ceil=c) (h0:0<c) (h1:c<=m) (ht:Sp.alg x y z a+s*c=t) (p:Sp.pM t):Sp.ZcK x y z a s r m q=Sp.putX x a t/\Sp.ZcS x y z a s r m q=Sp.putY y a t/\Sp.ZcR x y z a s r m q=Sp.putZ z a t/\Sp.ZcB x y z a s r m q=0:=by
 have e1:Sp.tcC x y z a s r q=c:=hc
 have e2:Sp.tcP x y z a s r q=t:=by unfold Sp.tcP;rw [e1,ht]
 rw [<- e2] at p ⊢
 refine tch_mv4 ⟨h,hm⟩ k (fun d => ?_) (by omega) p
 rw [Rat.ceil_eq_neg_floor_neg] at hc
 have:0<=(-Sp.dst x y z a s r q).floor:=Rat.le_floor_iff.2 (by show ((0:Int):Rat)<=_;have e:((0:Int):Rat)=0:=rfl;rw [e];grind)
 omega
theorem ZfQ (n:Int):(Sp.qi n).ceil=n:=by
 rw [ZbK,Rat.ceil_eq_neg_floor_neg,<- Rat.intCast_neg,Rat.floor_intCast];omega
theorem qi_sub' (a b:Int):Sp.qi a-Sp.qi b=Sp.qi (a-b):=by rw [ZbK,ZbK,ZbK,Rat.intCast_sub]
theorem okT_1 {n:Int} (h:n.natAbs<1000000000):Sp.okT 2 (Sp.qi n):=by
 have f:Sp.cnt n.natAbs<=1:=Zav.1 (by unfold Sp.fits;omega)
 rw [ZbK]
 refine ⟨by rw [Rat.num_intCast];omega,?_⟩
 rw [Rat.den_intCast]
 exact Nat.le_trans (Zav.1 (by unfold Sp.fits;omega:Sp.fits 1 1)) (by omega)
theorem ev8:Ev M1 (.pure 8 []) (.bool true) []:=by
 have e0:Sp.qi 0=0:=by rw [ZbK];rfl
 have f0:Sp.okF 20001 2:=by unfold Sp.okF Sp.inI;omega
 have qf:Sp.qf 20001 2=20001 / 2:=by rw [qf_eq,Rat.divInt_eq_div];rfl
 have t2:Sp.okT 2 (Sp.qf 20001 2):=by
  rw [qf]
  refine ⟨?_,?_⟩
  ·rw [show ((20001:Rat) / 2).num=20001 by decide +kernel]
   exact Nat.le_trans (Zav.1 (by unfold Sp.fits;decide:Sp.fits 1 _)) (by omega)
  ·rw [show ((20001:Rat) / 2).den=2 by decide +kernel]
   exact Nat.le_trans (Zav.1 (by unfold Sp.fits;decide:Sp.fits 1 _)) (by omega)
 have a1:=tch_val (x:=0) (y:=0) (z:=0) (a:=0) (s:=1) (r:=2000) (m:=20000) (c:=8000) (t:=8000) (q:=Sp.qi 10000) (by unfold Sp.pW;omega) (by omega) (by unfold Sp.pP Sp.pM;omega) (by
  unfold Sp.dst Sp.dsA Sp.alg
  rw [if_pos (by omega),if_neg (by omega),if_pos rfl,qi_sub',qi_sub',ZfQ];rfl) (by omega) (by omega) (by decide) (by unfold Sp.pM;omega)
 have a2:=tch_val (x:=0) (y:=0) (z:=0) (a:=0) (s:=1) (r:=2000) (m:=20000) (c:=8001) (t:=8001) (q:=Sp.qf 20001 2) (by unfold Sp.pW;omega) (by omega) (by unfold Sp.pP Sp.pM;omega) (by
  unfold Sp.dst Sp.dsA Sp.alg
  rw [if_pos (by omega),if_neg (by omega),if_pos rfl,qf,ZbK,ZbK];decide +kernel) (by omega) (by omega) (by decide) (by unfold Sp.pM;omega)
 have a3:=tch_val (x:=0) (y:=0) (z:=5000) (a:=2) (s:=-1) (r:=2000) (m:=20000) (c:=4900) (t:=100) (q:=Sp.qi 100) (by unfold Sp.pW;omega) (by omega) (by unfold Sp.pP Sp.pM;omega) (by
  unfold Sp.dst Sp.dsA Sp.alg
  rw [if_neg (by omega),if_pos (by omega),if_neg (by omega),if_neg (by omega),qi_sub',ZeX,ZfQ];rfl) (by omega) (by omega) (by decide) (by unfold Sp.pM;omega)
 refine call8 (pAwake _ ⟨by unfold Sp.inI;omega,⟨okT_1 (by decide),by unfold Sp.inI;omega⟩,f0,⟨t2,by unfold Sp.inI;omega⟩,by unfold Sp.inI;omega,⟨okT_1 (by decide),by unfold Sp.inI;omega⟩,?_⟩)
 rw [a1.1,a1.2.1,a1.2.2.1,a1.2.2.2,a2.1,a2.2.1,a2.2.2.1,a2.2.2.2,a3.1,a3.2.1,a3.2.2.1,a3.2.2.2]
 refine congrArg AV.bool ?_
 decide +kernel
def Sp.hb (n:Int):Prop:=-2000000<=n/\n<=2000000
end Go.Av

namespace Go.Av
open Go.Proofs
structure Ln where
 n:Int
 l:Int
 deriving Inhabited,DecidableEq
def Ln.a (p:Ln):AV:=.agg [.int .i64 p.n,.int .i64 p.l]
structure Pp where
 x:Int
 y:Int
 z:Int
 deriving Inhabited,DecidableEq
def Pp.a (p:Pp):AV:=.agg [.int .i64 p.x,.int .i64 p.y,.int .i64 p.z]
end Go.Av

namespace Go.Av
open Go.Proofs
theorem pack102 (cs:List AV):ZdG Try.prog 102 cs = .agg cs:=by
 simp [ZdG,aggT,Try.underlying102]
theorem pack60 (cs:List AV):ZdG Try.prog 60 cs = .agg cs:=by
 simp [ZdG,aggT,Try.underlying60]
theorem pack63 (cs:List AV):ZdG Try.prog 63 cs = .agg cs:=by
 simp [ZdG,aggT,Try.underlying63]
theorem cells102:Try.prog.cellsOf 102=2:=by kernel_rfl
set_option maxRecDepth 100000 in
theorem lens_ty {n:Nat} {cs:List AV} (h:Ty Try.prog (n+1+1+1) 58 cs):∃ o:List Ln,cs=[.vec false 2 (o.map Ln.a)]:=by
 obtain ⟨o,rfl,_⟩:=ty_list (τ:=Ln) (enc:=Ln.a) Try.underlying58 (fun ys hy=>by
  have hy:=Zes Try.underlying102 hy
  obtain ⟨a0,b0,rfl,h0,a1,b1,rfl,h1,rfl⟩:=hy
  obtain ⟨x0,rfl,_⟩:=Zeb Try.underlying2 h0
  obtain ⟨x1,rfl,_⟩:=Zeb Try.underlying2 h1
  exact ⟨⟨x0,x1⟩,by rw [pack102];rfl⟩) h
 rw [cells102];exact ⟨o,rfl⟩
set_option maxRecDepth 100000 in
theorem sixp_ty {n:Nat} {cs:List AV} (h:Ty Try.prog (n+1+1+1) 57 cs):∃ A B C D E F G I J K N O R T U V Y Z:Int,cs=[.int .i64 A,.int .i64 B,.int .i64 C,.int .i64 D,.int .i64 E,.int .i64 F,.int .i64 G,.int .i64 I,.int .i64 J,.int .i64 K,.int .i64 N,.int .i64 O,.int .i64 R,.int .i64 T,.int .i64 U,.int .i64 V,.int .i64 Y,.int .i64 Z]:=by
 unfold Ty at h
 rw [Try.underlying57] at h
 obtain ⟨a0,b0,rfl,h0,a1,b1,rfl,h1,a2,b2,rfl,h2,a3,b3,rfl,h3,a4,b4,rfl,h4,a5,b5,rfl,h5,rfl⟩:=h
 obtain ⟨A,B,C,rfl⟩:=Zho h0
 obtain ⟨D,E,F,rfl⟩:=Zho h1
 obtain ⟨G,I,J,rfl⟩:=Zho h2
 obtain ⟨K,N,O,rfl⟩:=Zho h3
 obtain ⟨R,T,U,rfl⟩:=Zho h4
 obtain ⟨V,Y,Z,rfl⟩:=Zho h5
 exact ⟨A,B,C,D,E,F,G,I,J,K,N,O,R,T,U,V,Y,Z,rfl⟩
set_option maxRecDepth 100000 in
theorem table_ty {n:Nat} {cs:List AV} (h:Ty Try.prog (n+1+1+1+1) 60 cs):∃ (A B C D E F G I J K N O R T U V Y Z:Int) (l:List Ln),cs=[.int .i64 A,.int .i64 B,.int .i64 C,.int .i64 D,.int .i64 E,.int .i64 F,.int .i64 G,.int .i64 I,.int .i64 J,.int .i64 K,.int .i64 N,.int .i64 O,.int .i64 R,.int .i64 T,.int .i64 U,.int .i64 V,.int .i64 Y,.int .i64 Z,.vec false 2 (l.map Ln.a)]:=by
 have h:=Zes Try.underlying60 h
 obtain ⟨a0,b0,rfl,h0,a1,b1,rfl,h1,rfl⟩:=h
 obtain ⟨A,B,C,D,E,F,G,I,J,K,N,O,R,T,U,V,Y,Z,rfl⟩:=sixp_ty h0
 obtain ⟨l,rfl⟩:=lens_ty h1
 exact ⟨A,B,C,D,E,F,G,I,J,K,N,O,R,T,U,V,Y,Z,l,rfl⟩
set_option maxRecDepth 100000 in
theorem dsptwo_ty {n:Nat} {cs:List AV} (h:Ty Try.prog (n+1+1) 61 cs):∃ x y:Int,cs=[.int .i32 x,.int .i32 y]:=by
 unfold Ty at h
 rw [Try.underlying61] at h
 obtain ⟨a0,b0,rfl,h0,a1,b1,rfl,h1,rfl⟩:=h
 obtain ⟨x,rfl,_⟩:=Zeb Try.underlying21 h0
 obtain ⟨y,rfl,_⟩:=Zeb Try.underlying21 h1
 exact ⟨x,y,rfl⟩
set_option maxRecDepth 100000 in
theorem displ_ty {n:Nat} {cs:List AV} (h:Ty Try.prog (n+1+1+1) 63 cs):∃ (c1 c2 b1 b2:Int) (g1 g2:Bool) (r m:Int),cs=[.int .i32 c1,.int .i32 c2,.int .i32 b1,.int .i32 b2,.bool g1,.bool g2,.int .u16 r,.int .u16 m]/\(0<=r/\r<=65535)/\0<=m/\m<=65535:=by
 have h:=Zes Try.underlying63 h
 obtain ⟨a0,b0,rfl,h0,a1,b1,rfl,h1,a2,b2,rfl,h2,a3,b3,rfl,h3,a4,b4,rfl,h4,a5,b5,rfl,h5,rfl⟩:=h
 obtain ⟨x0,x1,rfl⟩:=dsptwo_ty h0
 obtain ⟨x2,x3,rfl⟩:=dsptwo_ty h1
 obtain ⟨g1,rfl⟩:=ty_bool Try.underlying4 h2
 obtain ⟨g2,rfl⟩:=ty_bool Try.underlying4 h3
 obtain ⟨r,rfl,r1,r2⟩:=Zeb Try.underlying49 h4
 obtain ⟨m,rfl,m1,m2⟩:=Zeb Try.underlying49 h5
 exact ⟨x0,x1,x2,x3,g1,g2,r,m,rfl,⟨r1,r2⟩,m1,m2⟩
end Go.Av

namespace Go.Av
open Go.Proofs
set_option maxRecDepth 100000
def fi28:Fi:=⟨17,[.tmp 2]⟩
def kp28:List (Nat × List Nat):=[(0,[0]),(1,[0,13]),(2,[2]),(3,[2])]
def fi30:Fi:=⟨28,[.cell 2 68]⟩
def kp30:List (Nat × List Nat):=[(0,[1,2]),(1,[1,2,3]),(2,[2,3,10,11,12]),(3,[2,3,10,11,12,13]),(4,[2,3,5,10,11,12]),(5,[2,3,10,11,12]),(6,[2,3,10,11,12]),(7,[2])]
def fi31:Fi:=⟨26,[.tmp 4]⟩
def kp31:List (Nat × List Nat):=[(0,[0,1]),(1,[0,1,10]),(2,[4]),(3,[0,1,12,13]),(4,[0,1,12,13,14]),(5,[0,1,5,12,13]),(6,[0,1,12,13,24]),(7,[4]),(8,[0,1,12,13]),(9,[4])]
def fi68:Fi:=⟨21,[.tmp 2]⟩
def kp68:List (Nat × List Nat):=[(0,[1]),(1,[2])]
def fi93:Fi:=⟨9,[.tmp 2]⟩
def kp93:List (Nat × List Nat):=[(0,[0]),(1,[2])]
def fi95:Fi:=⟨25,[.tmp 2]⟩
def kp95:List (Nat × List Nat):=[(0,[1]),(1,[1,3]),(2,[3,4]),(3,[2])]
def fi96:Fi:=⟨21,[.tmp 2]⟩
def kp96:List (Nat × List Nat):=[(0,[1]),(1,[2])]
def fi97:Fi:=⟨18,[.tmp 2,.tmp 3]⟩
def kp97:List (Nat × List Nat):=[(0,[0]),(1,[0,14]),(2,[2,3]),(3,[2,3])]
def fi115:Fi:=⟨8,[.tmp 2]⟩
def kp115:List (Nat × List Nat):=[(0,[0]),(1,[0,4]),(2,[2]),(3,[2])]
def tFar_at (x y z:Int) (Q:AV->Heap->Prop):Prop:=Wp M1 (.run fi95 (atC (cd Try.f95) []) [(0,.agg [.int .i64 x,.int .i64 y,.int .i64 z])] []) Q
def tFarR_at (n:Int) (Q:AV->Heap->Prop):Prop:=Wp M1 (.run fi93 (atC (cd Try.f93) []) [(0,.int .i64 n)] []) Q
def tEntry_at (n k:Int) (Q:AV->Heap->Prop):Prop:=Wp M1 (.run fi96 (atC (cd Try.f96) []) [(0,.agg [.int .i64 n,.int .i64 k])] []) Q
def Zhg (n k:Int) (Q:AV->Heap->Prop):Prop:=Wp M1 (.run fi68 (atC (cd Try.f68) []) [(0,.agg [.int .i64 n,.int .i64 k])] []) Q
def tSlot0_at  (Q:AV->Heap->Prop):Prop:=Wp M1 (.run fi97 (atC (cd Try.f97) []) [(0,.int .i64 54000)] []) Q
def tSlot1_at  (Q:AV->Heap->Prop):Prop:=Wp M1 (.run fi97 (atC (cd Try.f97) []) [(0,.int .i64 55000)] []) Q
def tSlot2_at  (Q:AV->Heap->Prop):Prop:=Wp M1 (.run fi97 (atC (cd Try.f97) []) [(0,.int .i64 56000)] []) Q
def tSlot3_at  (Q:AV->Heap->Prop):Prop:=Wp M1 (.run fi97 (atC (cd Try.f97) []) [(0,.int .i64 57000)] []) Q
def tSlot4_at  (Q:AV->Heap->Prop):Prop:=Wp M1 (.run fi97 (atC (cd Try.f97) []) [(0,.int .i64 58000)] []) Q
def tSlot5_at  (Q:AV->Heap->Prop):Prop:=Wp M1 (.run fi97 (atC (cd Try.f97) []) [(0,.int .i64 59000)] []) Q
def tIxR_at (n:Int) (Q:AV->Heap->Prop):Prop:=Wp M1 (.run fi28 (atC (cd Try.f28) []) [(0,.int .i64 n)] []) Q
def tClE_at (f:Bool) (Q:AV->Heap->Prop):Prop:=Wp M1 (.run fi115 (atC (cd Try.f115) []) [(0,.vec f 2 [])] []) Q
def tClC_at (f:Bool) (y:Ln) (l:List Ln) (Q:AV->Heap->Prop):Prop:=Wp M1 (.run fi115 (atC (cd Try.f115) []) [(0,.vec f 2 ((y::l).map Ln.a))] []) Q
def tEq_at (f g:Bool) (l m:List Ln) (Q:AV->Heap->Prop):Prop:=Wp M1 (.run fi31 (atC (cd Try.f31) []) [(0,.vec f 2 (l.map Ln.a)),(1,.vec g 2 (m.map Ln.a))] []) Q
def Zf6 (f g:Bool) (l m:List Ln) (n i:Int) (Q:AV->Heap->Prop):Prop:=Wp M1 (.run fi31 (atC (cd Try.f31) [1,1,0,1,0,0]) [(0,.vec f 2 (l.map Ln.a)),(1,.vec g 2 (m.map Ln.a)),(12,.int .i64 n),(13,.int .i64 i)] []) Q
def tOwn_at (f:Bool) (l:List Ln) (A B C D E F G I J K N O R T U V Y Z:Int) (Q:AV->Heap->Prop):Prop:=Wp M1 (.run fi30 (atC (cd Try.f30) []) [(0,.agg [.int .i64 A,.int .i64 B,.int .i64 C,.int .i64 D,.int .i64 E,.int .i64 F,.int .i64 G,.int .i64 I,.int .i64 J,.int .i64 K,.int .i64 N,.int .i64 O,.int .i64 R,.int .i64 T,.int .i64 U,.int .i64 V,.int .i64 Y,.int .i64 Z,.vec f 2 (l.map Ln.a)])] []) Q
def Zf4 (f:Bool) (l:List Ln) (A B C D E F G I J K N O R T U V Y Z:Int) (n i:Int) (Q:AV->Heap->Prop):Prop:=Wp M1 (.run fi30 (atC (cd Try.f30) [1,1,0,1,0,0]) [(2,.ptr 0 0 0 0),(3,.ptr 1 0 0 0),(10,.vec f 2 (l.map Ln.a)),(11,.int .i64 n),(12,.int .i64 i)] [⟨[.agg [.int .i64 0,.int .i64 0,.int .i64 0,.int .i64 0,.int .i64 0,.int .i64 0,.int .i64 0,.int .i64 0,.int .i64 0,.int .i64 0,.int .i64 0,.int .i64 0,.int .i64 0,.int .i64 0,.int .i64 0,.int .i64 0,.int .i64 0,.int .i64 0,.vnil]],19,0,false,false⟩,⟨[.agg [.int .i64 A,.int .i64 B,.int .i64 C,.int .i64 D,.int .i64 E,.int .i64 F,.int .i64 G,.int .i64 I,.int .i64 J,.int .i64 K,.int .i64 N,.int .i64 O,.int .i64 R,.int .i64 T,.int .i64 U,.int .i64 V,.int .i64 Y,.int .i64 Z,.vnil]],19,0,false,false⟩]) Q
def Zdz (f:Bool) (l:List Ln) (A B C D E F G I J K N O R T U V Y Z:Int) (n i:Int) (X:List Ln) (v:Nat) (Q:AV->Heap->Prop):Prop:=Wp M1 (.run fi30 (atC (cd Try.f30) [1,1,0,1,0,0]) [(2,.ptr 0 0 0 0),(3,.ptr 1 0 0 0),(10,.vec f 2 (l.map Ln.a)),(11,.int .i64 n),(12,.int .i64 i)] [⟨[.agg [.int .i64 0,.int .i64 0,.int .i64 0,.int .i64 0,.int .i64 0,.int .i64 0,.int .i64 0,.int .i64 0,.int .i64 0,.int .i64 0,.int .i64 0,.int .i64 0,.int .i64 0,.int .i64 0,.int .i64 0,.int .i64 0,.int .i64 0,.int .i64 0,.vnil]],19,0,false,false⟩,⟨[.agg [.int .i64 A,.int .i64 B,.int .i64 C,.int .i64 D,.int .i64 E,.int .i64 F,.int .i64 G,.int .i64 I,.int .i64 J,.int .i64 K,.int .i64 N,.int .i64 O,.int .i64 R,.int .i64 T,.int .i64 U,.int .i64 V,.int .i64 Y,.int .i64 Z,.row 2 v]],19,0,false,false⟩,⟨X.map Ln.a,2,v,false,true⟩]) Q
theorem call28 {args:List AV} {d:AV} (h:wc M1 fi28 Try.f28 args d):Ev M1 (.pure 28 args) d []:=pcl _ _ (by kernel_rfl) h
theorem call30 {args:List AV} {d:AV} (h:wc M1 fi30 Try.f30 args d):Ev M1 (.pure 30 args) d []:=pcl _ _ (by kernel_rfl) h
theorem call31 {args:List AV} {d:AV} (h:wc M1 fi31 Try.f31 args d):Ev M1 (.pure 31 args) d []:=pcl _ _ (by kernel_rfl) h
theorem call68 {args:List AV} {d:AV} (h:wc M1 fi68 Try.f68 args d):Ev M1 (.pure 68 args) d []:=pcl _ _ (by kernel_rfl) h
theorem call93 {args:List AV} {d:AV} (h:wc M1 fi93 Try.f93 args d):Ev M1 (.pure 93 args) d []:=pcl _ _ (by kernel_rfl) h
theorem call95 {args:List AV} {d:AV} (h:wc M1 fi95 Try.f95 args d):Ev M1 (.pure 95 args) d []:=pcl _ _ (by kernel_rfl) h
theorem call96 {args:List AV} {d:AV} (h:wc M1 fi96 Try.f96 args d):Ev M1 (.pure 96 args) d []:=pcl _ _ (by kernel_rfl) h
theorem ZhF {args:List AV} {d:AV} (h:wc M1 fi97 Try.f97 args d):Ev M1 (.pure 97 args) d []:=pcl _ _ (by kernel_rfl) h
theorem call115 {args:List AV} {d:AV} (h:wc M1 fi115 Try.f115 args d):Ev M1 (.pure 115 args) d []:=pcl _ _ (by kernel_rfl) h
theorem tFar (x y z:Int)  (dq:AV) (H :
  vb (bif decide ((if z>if y>x then y else x then z else if y>x then y else x)>10000000) then true else decide ((if z<if y<x then y else x then z else if y<x then y else x) < -10000000))=dq) :
 tFar_at x y z (Zad dq):=by
 unfold tFar_at
 exact Zae (G:=Zab kp95 [] []) 1000 [] (vb (bif decide ((if z>if y>x then y else x then z else if y>x then y else x)>10000000) then true else decide ((if z<if y<x then y else x then z else if y<x then y else x) < -10000000))) (by kernel_rfl) (bc rfl (bc rfl (bc rfl (bc rfl (bc rfl (bc rfl b0)))))) q0 c0 H
theorem tFarR (n:Int)  (dq:AV) (H :
  vb (bif decide (n>10000000) then true else decide (n < -10000000))=dq) :
 tFarR_at n (Zad dq):=by
 unfold tFarR_at
 exact Zae (G:=Zab kp93 [] []) 1000 [] (vb (bif decide (n>10000000) then true else decide (n < -10000000))) (by kernel_rfl) b0 q0 c0 H
theorem tEntry (n k:Int)  (dq:AV) (H :
  vb (bif bif bif decide (n>=1) then decide (n<=999) else false then decide (k>=0) else false then decide (k<=10000000) else false)=dq) :
 tEntry_at n k (Zad dq):=by
 unfold tEntry_at
 exact Zae (G:=Zab kp96 [] []) 1000 [] (asm:=[true,!(decide (n>=1)==true&&true)||true,!((bif decide (n>=1) then decide (n<=999) else false)==true&&true)||true,!((bif bif decide (n>=1) then decide (n<=999) else false then decide (k>=0) else false)==true&&true)||true]) (vb (bif bif bif decide (n>=1) then decide (n<=999) else false then decide (k>=0) else false then decide (k<=10000000) else false)) (by kernel_rfl) (bc rfl (bc (Bool.or_true _) (bc (Bool.or_true _) (bc (Bool.or_true _) b0)))) q0 c0 H
theorem tEntryR (n k:Int)  (dq:AV) (H :
  vb (bif bif bif decide (n>=1) then decide (n<=999) else false then decide (k>=0) else false then decide (k<=10000000) else false)=dq) :
 Zhg n k (Zad dq):=by
 unfold Zhg
 exact Zae (G:=Zab kp68 [] []) 1000 [] (asm:=[true,!(decide (n>=1)==true&&true)||true,!((bif decide (n>=1) then decide (n<=999) else false)==true&&true)||true,!((bif bif decide (n>=1) then decide (n<=999) else false then decide (k>=0) else false)==true&&true)||true]) (vb (bif bif bif decide (n>=1) then decide (n<=999) else false then decide (k>=0) else false then decide (k<=10000000) else false)) (by kernel_rfl) (bc rfl (bc (Bool.or_true _) (bc (Bool.or_true _) (bc (Bool.or_true _) b0)))) q0 c0 H
theorem tSlot0   (dq:AV) (H :
  tu [vi 0,vi 0]=dq) :
 tSlot0_at  (Zad dq):=by
 unfold tSlot0_at
 exact Zae (G:=Zab kp97 [] []) 1000 [false] (tu [vi 0,vi 0]) (by kernel_rfl) (bc rfl (bc rfl (bc rfl b0))) q0 c0 H
theorem tSlot1   (dq:AV) (H :
  tu [vi 1,vi 0]=dq) :
 tSlot1_at  (Zad dq):=by
 unfold tSlot1_at
 exact Zae (G:=Zab kp97 [] []) 1000 [false] (tu [vi 1,vi 0]) (by kernel_rfl) (bc rfl (bc rfl (bc rfl b0))) q0 c0 H
theorem tSlot2   (dq:AV) (H :
  tu [vi 2,vi 0]=dq) :
 tSlot2_at  (Zad dq):=by
 unfold tSlot2_at
 exact Zae (G:=Zab kp97 [] []) 1000 [false] (tu [vi 2,vi 0]) (by kernel_rfl) (bc rfl (bc rfl (bc rfl b0))) q0 c0 H
theorem tSlot3   (dq:AV) (H :
  tu [vi 3,vi 0]=dq) :
 tSlot3_at  (Zad dq):=by
 unfold tSlot3_at
 exact Zae (G:=Zab kp97 [] []) 1000 [false] (tu [vi 3,vi 0]) (by kernel_rfl) (bc rfl (bc rfl (bc rfl b0))) q0 c0 H
theorem tSlot4   (dq:AV) (H :
  tu [vi 4,vi 0]=dq) :
 tSlot4_at  (Zad dq):=by
 unfold tSlot4_at
 exact Zae (G:=Zab kp97 [] []) 1000 [false] (tu [vi 4,vi 0]) (by kernel_rfl) (bc rfl (bc rfl (bc rfl b0))) q0 c0 H
theorem tSlot5   (dq:AV) (H :
  tu [vi 5,vi 0]=dq) :
 tSlot5_at  (Zad dq):=by
 unfold tSlot5_at
 exact Zae (G:=Zab kp97 [] []) 1000 [false] (tu [vi 5,vi 0]) (by kernel_rfl) (bc rfl (bc rfl (bc rfl b0))) q0 c0 H
theorem tIxR (n:Int)  (dq:AV) (H :
  ((((¬n.tmod 1000=0)\/(n<54000))\/(n>59000))->vi (-1)=dq) /\
  (¬(((¬n.tmod 1000=0)\/(n<54000))\/(n>59000))->(-9223372036854775808<=n.tdiv 1000/\n.tdiv 1000<=9223372036854775807) /\
   (-9223372036854775808<=n.tdiv 1000-54/\n.tdiv 1000-54<=9223372036854775807) /\
   vi (n.tdiv 1000-54)=dq)) :
 tIxR_at n (Zad dq):=by
 unfold tIxR_at
 rcases xq H with ⟨d2,H⟩|⟨d2,H⟩
 ·exact Zae (G:=Zab kp28 [] []) 1000 [true] (vi (-1)) (by kernel_rfl) (bc rfl (bc (Zak ((Zar (Zar i_ne Zaa) Zaa).2 d2)) b0)) q0 c0 H
 ·obtain ⟨k3,H⟩:=H
  have w4:wi (n.tdiv 1000)=n.tdiv 1000:=wI64 k3
  obtain ⟨k5,H⟩:=H
  have w6:wi (n.tdiv 1000-54)=n.tdiv 1000-54:=wI64 k5
  exact Zae (G:=Zab kp28 [] []) 1000 [false] (vi (wi (wi (n.tdiv 1000)-54))) (by kernel_rfl) (bc rfl (bc (Zah (fun h=>d2 ((Zar (Zar i_ne Zaa) Zaa).1 h))) (bc rfl b0))) q0 c0 (by (try rw [w4]);(try rw [w6]);all_goals exact H)
theorem tClE (f:Bool)  (dq:AV) (H :
  (Weak (AV.vnil) dq) /\
  (Weak (AV.vec true 2 []) dq)) :
 tClE_at f (Zad dq):=by
 unfold tClE_at
 refine Zac (G:=Zab kp115 [] []) 4 [] ⟨(atC (cd Try.f115) [1,0,0]),[(0,AV.vec f 2 [])],[],_,[],_⟩ (by kernel_rfl) b0 q0 c0 (wp_nil 1 [0,4] (e1:=[(0,AV.vec f 2 []),(4,vb true)]) (e2:=[(0,AV.vec f 2 []),(4,vb false)]) (L1:=[]) (L2:=[]) (a1:=[]) (a2:=[]) (v1:=[(4,[],vb true),(3,[],AV.vec f 2 []),(0,[],AV.vec f 2 [])]) (v2:=[(4,[],vb false),(3,[],AV.vec f 2 []),(0,[],AV.vec f 2 [])]) (by kernel_rfl) (by kernel_rfl) ZaF ZaF (by kernel_rfl) (by kernel_rfl) ?_ ?_)
 ·have H:=H.1
  exact Zai (G:=Zab kp115 [] []) 1000 [true] (AV.vnil) (by kernel_rfl) (bc rfl b0) q0 c0 H
 ·have H:=H.2
  exact Zai (G:=Zab kp115 [] []) 1000 [false] (AV.vec true 2 []) (by kernel_rfl) (bc rfl b0) q0 c0 H
theorem tClC (f:Bool) (y:Ln) (l:List Ln)  (dq:AV) (H :
  ((0+(l.length+1))*16<=1099511627776) /\
  Weak (AV.vec false 2 (ag [vi y.n,vi y.l]::List.map Ln.a l)) dq) :
 tClC_at f y l (Zad dq):=by
 unfold tClC_at
 have w1:(List.map Ln.a l).length=l.length:=List.length_map ..
 have i2:(decide ((0+((List.map Ln.a l).length+1))*16<=1099511627776))=true ↔ ((0+(l.length+1))*16<=1099511627776):=(by (try rw [w1]);all_goals exact Zaa)
 obtain ⟨k3,H⟩:=H
 exact Zbu (G:=Zab kp115 [] []) 1000 [false] (k:=((atC (cd Try.f115) [1,1,1])).tail) (env':=[(2,AV.row 0 0)]) (L':=[⟨ag [vi y.n,vi y.l]::List.map Ln.a l,2,0,false,true⟩]) (asm:=[false==false,decide ((0+((List.map Ln.a l).length+1))*16<=1099511627776)]) (eqs:=[]) (calls:=[]) (AV.row 0 0) (by kernel_rfl) (by kernel_rfl) (Zam rfl (Zam (i2.2 k3) ZaF)) Za7 Za9 (ZdE (d:=(AV.vec false 2 (ag [vi y.n,vi y.l]::List.map Ln.a l))) (bs:=[0==0]) (by kernel_rfl) (by kernel_rfl) (Zam (beq_self_eq_true _) ZaF) (by kernel_rfl) H)
theorem tEq (f g:Bool) (l m:List Ln)  (dq:AV) (H :
  ((¬(↑l.length:Int)=(↑m.length:Int))->vb false=dq) /\
  (¬(¬(↑l.length:Int)=(↑m.length:Int))->Zf6 f g l m ((↑l.length:Int)) 0 (Zad dq))) :
 tEq_at f g l m (Zad dq):=by
 unfold tEq_at
 have w1:(List.map Ln.a l).length=l.length:=List.length_map ..
 have w2:(List.map Ln.a m).length=m.length:=List.length_map ..
 have i3:((↑(List.map Ln.a l).length:Int) != (↑(List.map Ln.a m).length:Int))=true ↔ (¬(↑l.length:Int)=(↑m.length:Int)):=(by (try rw [w1]);(try rw [w2]);all_goals exact i_ne)
 rcases xq H with ⟨d4,H⟩|⟨d4,H⟩
 ·exact Zae (G:=Zab kp31 [] []) 1000 [true] (vb false) (by kernel_rfl) (bc (Zak (i3.2 d4)) b0) q0 c0 H
 ·exact Zac (G:=Zab kp31 [] []) 1000 [false] ⟨(atC (cd Try.f31) [1,1,0,1,0,0]),[(0,AV.vec f 2 (List.map Ln.a l)),(1,AV.vec g 2 (List.map Ln.a m)),(12,vi (↑(List.map Ln.a l).length:Int)),(13,vi 0)],[],_,[],_⟩ (by kernel_rfl) (bc (Zah (fun h=>d4 (i3.1 h))) b0) q0 c0 (by (try rw [w1]);all_goals exact H)
theorem tEqL (f g:Bool) (l m:List Ln) (n i:Int)  (dq:AV) (H :
  ((i<n)->(0<=i) /\
   (i.toNat<l.length) /\
   (i.toNat<m.length) /\
   ((¬(((l.getD i.toNat default).n=(m.getD i.toNat default).n)/\((l.getD i.toNat default).l=(m.getD i.toNat default).l)))->vb false=dq) /\
   (¬(¬(((l.getD i.toNat default).n=(m.getD i.toNat default).n)/\((l.getD i.toNat default).l=(m.getD i.toNat default).l)))->(-9223372036854775808<=i+1/\i+1<=9223372036854775807) /\
    Zf6 f g l m n (i+1) (Zad dq))) /\
  (¬(i<n)->vb true=dq)) :
 Zf6 f g l m n i (Zad dq):=by
 unfold Zf6
 rcases xq H with ⟨d2,H⟩|⟨d2,H⟩
 ·obtain ⟨k4,H⟩:=H
  have w5:(List.map Ln.a l).length=l.length:=List.length_map ..
  have i6:(decide (i.toNat<(List.map Ln.a l).length))=true ↔ (i.toNat<l.length):=(by (try rw [w5]);all_goals exact Zaa)
  obtain ⟨k7,H⟩:=H
  have w9:(List.map Ln.a m).length=m.length:=List.length_map ..
  have i10:(decide (i.toNat<(List.map Ln.a m).length))=true ↔ (i.toNat<m.length):=(by (try rw [w9]);all_goals exact Zaa)
  obtain ⟨k11,H⟩:=H
  refine Zac (G:=Zab kp31 [(6,3,.elem (ag [vi (l.getD i.toNat default).n,vi (l.getD i.toNat default).l])),(6,7,.elem (ag [vi (m.getD i.toNat default).n,vi (m.getD i.toNat default).l]))] []) 11 [true] ⟨(atC (cd Try.f31) [1,1,0,1,0,0,1,1,0,0,1,1]),[(0,AV.vec f 2 (List.map Ln.a l)),(1,AV.vec g 2 (List.map Ln.a m)),(12,vi n),(13,vi i),(24,vb !((l.getD i.toNat default).n==(m.getD i.toNat default).n&&((l.getD i.toNat default).l==(m.getD i.toNat default).l&&true)))],[],_,[((List.map Ln.a l).get?Internal i.toNat=some (ag [vi (l.getD i.toNat default).n,vi (l.getD i.toNat default).l])),((List.map Ln.a m).get?Internal i.toNat=some (ag [vi (m.getD i.toNat default).n,vi (m.getD i.toNat default).l]))],_⟩ (by kernel_rfl) (bc (Zak (Zaa.2 d2)) (bc (Zaa.2 k4) (bc (i6.2 k7) (bc (Zaa.2 k4) (bc (i10.2 k11) b0))))) (qc (Zap k7) (qc (Zap k11) q0)) c0 ?_
  rcases xq H with ⟨d13,H⟩|⟨d13,H⟩
  ·exact Zae (G:=Zab kp31 [] []) 1000 [true] (vb false) (by kernel_rfl) (bc (Zak ((Zas (Zat i_eq (i_at i_eq))).2 d13)) b0) q0 c0 H
  ·obtain ⟨k14,H⟩:=H
   have w15:wi (i+1)=i+1:=wI64 k14
   exact Zac (G:=Zab kp31 [] []) 1000 [false] ⟨(atC (cd Try.f31) [1,1,0,1,0,0]),[(0,AV.vec f 2 (List.map Ln.a l)),(1,AV.vec g 2 (List.map Ln.a m)),(12,vi n),(13,vi (wi (i+1)))],[],_,[],_⟩ (by kernel_rfl) (bc (Zah (fun h=>d13 ((Zas (Zat i_eq (i_at i_eq))).1 h))) b0) q0 c0 (by (try rw [w15]);all_goals exact H)
 ·exact Zae (G:=Zab kp31 [] []) 1000 [false] (vb true) (by kernel_rfl) (bc (Zah (fun h=>d2 (Zaa.1 h))) b0) q0 c0 H
theorem tOwn (f:Bool) (l:List Ln) (A B C D E F G I J K N O R T U V Y Z:Int)  (dq:AV) (H :
  Zf4 f l A B C D E F G I J K N O R T U V Y Z ((↑l.length:Int)) 0 (Zad dq)) :
 tOwn_at f l A B C D E F G I J K N O R T U V Y Z (Zad dq):=by
 unfold tOwn_at
 have w1:(List.map Ln.a l).length=l.length:=List.length_map ..
 exact Zac (G:=Zab kp30 [] []) 1000 [] ⟨(atC (cd Try.f30) [1,1,0,1,0,0]),[(2,AV.ptr 1 0 0 0),(3,AV.ptr 2 0 0 0),(10,AV.vec f 2 (List.map Ln.a l)),(11,vi (↑(List.map Ln.a l).length:Int)),(12,vi 0)],[⟨[ag [vi A,vi B,vi C,vi D,vi E,vi F,vi G,vi I,vi J,vi K,vi N,vi O,vi R,vi T,vi U,vi V,vi Y,vi Z,AV.vec f 2 (List.map Ln.a l)]],19,0,false,false⟩,⟨[ag [vi 0,vi 0,vi 0,vi 0,vi 0,vi 0,vi 0,vi 0,vi 0,vi 0,vi 0,vi 0,vi 0,vi 0,vi 0,vi 0,vi 0,vi 0,AV.vnil]],19,0,false,false⟩,⟨[ag [vi A,vi B,vi C,vi D,vi E,vi F,vi G,vi I,vi J,vi K,vi N,vi O,vi R,vi T,vi U,vi V,vi Y,vi Z,AV.vnil]],19,0,false,false⟩],_,[],_⟩ (by kernel_rfl) (bc rfl (bc rfl (bc rfl b0))) q0 c0 (by (try rw [w1]);all_goals exact ZaV [1,2] (by kernel_rfl) H)
theorem tOwnL0 (f:Bool) (l:List Ln) (A B C D E F G I J K N O R T U V Y Z:Int) (n i:Int)  (dq:AV) (H :
  ((i<n)->(0<=i) /\
   (i.toNat<l.length) /\
   (-9223372036854775808<=i+1/\i+1<=9223372036854775807) /\
   Zdz f l A B C D E F G I J K N O R T U V Y Z n (i+1) ([l.getD i.toNat default]) 0 (Zad dq)) /\
  (¬(i<n)->Weak (ag [vi A,vi B,vi C,vi D,vi E,vi F,vi G,vi I,vi J,vi K,vi N,vi O,vi R,vi T,vi U,vi V,vi Y,vi Z,AV.vnil]) dq)) :
 Zf4 f l A B C D E F G I J K N O R T U V Y Z n i (Zad dq):=by
 unfold Zf4
 rcases xq H with ⟨d2,H⟩|⟨d2,H⟩
 ·obtain ⟨k4,H⟩:=H
  have w5:(List.map Ln.a l).length=l.length:=List.length_map ..
  have i6:(decide (i.toNat<(List.map Ln.a l).length))=true ↔ (i.toNat<l.length):=(by (try rw [w5]);all_goals exact Zaa)
  obtain ⟨k7,k8,H⟩:=H
  have w9:wi (i+1)=i+1:=wI64 k8
  have w10:[ag [vi (l.getD i.toNat default).n,vi (l.getD i.toNat default).l]]=List.map Ln.a [l.getD i.toNat default]:=rfl
  exact Zac (G:=Zab kp30 [(4,1,.elem (ag [vi (l.getD i.toNat default).n,vi (l.getD i.toNat default).l]))] []) 1000 [true] ⟨(atC (cd Try.f30) [1,1,0,1,0,0]),[(2,AV.ptr 0 0 0 0),(3,AV.ptr 1 0 0 0),(10,AV.vec f 2 (List.map Ln.a l)),(11,vi n),(12,vi (wi (i+1)))],[⟨[ag [vi 0,vi 0,vi 0,vi 0,vi 0,vi 0,vi 0,vi 0,vi 0,vi 0,vi 0,vi 0,vi 0,vi 0,vi 0,vi 0,vi 0,vi 0,AV.vnil]],19,0,false,false⟩,⟨[ag [vi A,vi B,vi C,vi D,vi E,vi F,vi G,vi I,vi J,vi K,vi N,vi O,vi R,vi T,vi U,vi V,vi Y,vi Z,AV.row 3 0]],19,0,false,false⟩,⟨[ag [vi (l.getD i.toNat default).n,vi (l.getD i.toNat default).l]],2,0,false,false⟩,⟨[ag [vi (l.getD i.toNat default).n,vi (l.getD i.toNat default).l]],2,0,false,true⟩],_,[((List.map Ln.a l).get?Internal i.toNat=some (ag [vi (l.getD i.toNat default).n,vi (l.getD i.toNat default).l]))],_⟩ (by kernel_rfl) (bc (Zak (Zaa.2 d2)) (bc (Zaa.2 k4) (bc (i6.2 k7) (bc rfl (bc rfl (bc rfl (bc rfl (bc rfl (bc rfl b0))))))))) (qc (Zap k7) q0) c0 (by (try rw [w9]);(try rw [w10]);all_goals exact ZaV [0,1,3] (by kernel_rfl) H)
 ·exact Zai (G:=Zab kp30 [] []) 1000 [false] (ag [vi A,vi B,vi C,vi D,vi E,vi F,vi G,vi I,vi J,vi K,vi N,vi O,vi R,vi T,vi U,vi V,vi Y,vi Z,AV.vnil]) (by kernel_rfl) (bc (Zah (fun h=>d2 (Zaa.1 h))) (bc rfl (bc rfl b0))) q0 c0 H
noncomputable abbrev zNpJ1 (A:Int) (B:Int) (C:Int) (D:Int) (E:Int) (F:Int) (G:Int) (I:Int) (J:Int) (K:Int) (N:Int) (O:Int) (R:Int) (T:Int) (U:Int) (V:Int) (Y:Int) (Z:Int) (v:Nat):=ag [vi A,vi B,vi C,vi D,vi E,vi F,vi G,vi I,vi J,vi K,vi N,vi O,vi R,vi T,vi U,vi V,vi Y,vi Z,AV.row 2 v]
theorem tOwnL1 (f:Bool) (l:List Ln) (A B C D E F G I J K N O R T U V Y Z:Int) (n i:Int) (X:List Ln) (v:Nat)  (dq:AV) (H :
  ((i<n)->(0<=i) /\
   (i.toNat<l.length) /\
   ((X.length+1)*16<=1099511627776) /\
   (-9223372036854775808<=i+1/\i+1<=9223372036854775807) /\
   Zdz f l A B C D E F G I J K N O R T U V Y Z n (i+1) (X++[l.getD i.toNat default]) (v+1) (Zad dq)) /\
  (¬(i<n)->Weak (ag [vi A,vi B,vi C,vi D,vi E,vi F,vi G,vi I,vi J,vi K,vi N,vi O,vi R,vi T,vi U,vi V,vi Y,vi Z,AV.vec false 2 (List.map Ln.a X)]) dq)) :
 Zdz f l A B C D E F G I J K N O R T U V Y Z n i X v (Zad dq):=by
 unfold Zdz
 rcases xq H with ⟨d2,H⟩|⟨d2,H⟩
 ·obtain ⟨k4,H⟩:=H
  have w5:(List.map Ln.a l).length=l.length:=List.length_map ..
  have i6:(decide (i.toNat<(List.map Ln.a l).length))=true ↔ (i.toNat<l.length):=(by (try rw [w5]);all_goals exact Zaa)
  obtain ⟨k7,H⟩:=H
  have w8:(List.map Ln.a X).length=X.length:=List.length_map ..
  have i9:(decide (((List.map Ln.a X).length+1)*16<=1099511627776))=true ↔ ((X.length+1)*16<=1099511627776):=(by (try rw [w8]);all_goals exact Zaa)
  obtain ⟨k10,H⟩:=H
  have w11:List.map Ln.a X++[ag [vi (l.getD i.toNat default).n,vi (l.getD i.toNat default).l]]=List.map Ln.a (X++[l.getD i.toNat default]):=(Zfm rfl rfl)
  obtain ⟨k12,H⟩:=H
  have w13:wi (i+1)=i+1:=wI64 k12
  exact Zac (G:=Zab kp30 [(4,1,.elem (ag [vi (l.getD i.toNat default).n,vi (l.getD i.toNat default).l]))] []) 1000 [true] ⟨(atC (cd Try.f30) [1,1,0,1,0,0]),[(2,AV.ptr 0 0 0 0),(3,AV.ptr 1 0 0 0),(10,AV.vec f 2 (List.map Ln.a l)),(11,vi n),(12,vi (wi (i+1)))],[⟨[ag [vi 0,vi 0,vi 0,vi 0,vi 0,vi 0,vi 0,vi 0,vi 0,vi 0,vi 0,vi 0,vi 0,vi 0,vi 0,vi 0,vi 0,vi 0,AV.vnil]],19,0,false,false⟩,⟨[ag [vi A,vi B,vi C,vi D,vi E,vi F,vi G,vi I,vi J,vi K,vi N,vi O,vi R,vi T,vi U,vi V,vi Y,vi Z,AV.row 2 (v+1)]],19,0,false,false⟩,⟨List.map Ln.a X++[ag [vi (l.getD i.toNat default).n,vi (l.getD i.toNat default).l]],2,v+1,false,true⟩,⟨[ag [vi (l.getD i.toNat default).n,vi (l.getD i.toNat default).l]],2,0,false,false⟩],[(decide (i<n))==true,decide (0<=i),decide (i.toNat<(List.map Ln.a l).length),true,true,true,true,v==v,decide (((List.map Ln.a X).length+1)*16<=1099511627776),true],[((List.map Ln.a l).get?Internal i.toNat=some (ag [vi (l.getD i.toNat default).n,vi (l.getD i.toNat default).l]))],_⟩ (by kernel_rfl) (bc (Zak (Zaa.2 d2)) (bc (Zaa.2 k4) (bc (i6.2 k7) (bc rfl (bc rfl (bc rfl (bc rfl (bc (beq_self_eq_true _) (bc (i9.2 k10) (bc rfl b0)))))))))) (qc (Zap k7) q0) c0 (by (try rw [w11]);(try rw [w13]);all_goals exact ZaV [0,1,2] (by kernel_rfl) H)
 ·exact Zbu (G:=Zab kp30 [] []) 1000 [false] (k:=((atC (cd Try.f30) [1,1,1,1])).tail) (env':=[(2,AV.ptr 0 0 0 0)]) (L':=[⟨[(zNpJ1 A B C D E F G I J K N O R T U V Y Z v)],19,0,false,false⟩,⟨[(zNpJ1 A B C D E F G I J K N O R T U V Y Z v)],19,0,false,false⟩,⟨List.map Ln.a X,2,v,false,true⟩]) (asm:=[(decide (i<n))==false,true,true]) (eqs:=[]) (calls:=[]) ((zNpJ1 A B C D E F G I J K N O R T U V Y Z v)) (by kernel_rfl) (by kernel_rfl) (Zam (Zah (fun h=>d2 (Zaa.1 h))) (Zam rfl (Zam rfl ZaF))) Za7 Za9 (ZdE (d:=(ag [vi A,vi B,vi C,vi D,vi E,vi F,vi G,vi I,vi J,vi K,vi N,vi O,vi R,vi T,vi U,vi V,vi Y,vi Z,AV.vec false 2 (List.map Ln.a X)])) (bs:=[v==v]) (by kernel_rfl) (by kernel_rfl) (Zam (beq_self_eq_true _) ZaF) (by kernel_rfl) H)
end Go.Av

namespace Go.Av
open Go.Proofs
theorem dst_at {x y z a s r f c:Int} (h:Sp.alg x y z a=c-s*(r+f)) (hs:s=1\/s = -1) (ha:a=0\/a=1):Sp.dst x y z a s r (Sp.qi c)=Sp.qi f:=by
 have e:Sp.qi f+Sp.qi r=(if s<0 then -(Sp.qi c-Sp.qi (c-s*(r+f))) else Sp.qi c-Sp.qi (c-s*(r+f))):=by
  rw [qi_sub',ZeX,qi_add']
  rcases hs with rfl | rfl
  ·rw [if_neg (by decide)];congr 1;omega
  ·rw [if_pos (by decide)];congr 1;omega
 unfold Sp.dst Sp.dsA
 rw [if_pos (by omega),h,<- e];grind
theorem qi_le0 {f:Int} (h:0<=f):Sp.qi f<=0 ↔ f=0:=by
 have e0:Sp.qi 0=0:=by rw [ZbK];rfl
 rw [<- e0,ZbK,ZbK,Rat.intCast_le_intCast];omega
def Sp.prb (c r f s:Int):Prop:=(-2000000<=c/\c<=2000000)/\(1<=r/\r<=65536)/\(0<=f/\f<=65535)/\(s=1\/s = -1)
theorem prb_s {c r f s:Int} (h:Sp.prb c r f s):s*(r+f)=r+f/\s*r=r/\s*f=f\/s*(r+f) = -(r+f)/\s*r = -r/\s*f = -f:=by
 obtain ⟨_,_,_,rfl | rfl⟩:=h <;> omega
theorem tch_x {c r f s:Int} (h:Sp.prb c r f s):Sp.ZcB (c-s*(r+f)) 0 0 0 s r f (Sp.qi c)=0/\Sp.ZcK (c-s*(r+f)) 0 0 0 s r f (Sp.qi c)=c-s*r/\Sp.ZcS (c-s*(r+f)) 0 0 0 s r f (Sp.qi c)=0/\Sp.ZcR (c-s*(r+f)) 0 0 0 s r f (Sp.qi c)=0:=by
 have e:=prb_s h
 obtain ⟨h1,h2,h3,h4⟩:=h
 have d:Sp.dst (c-s*(r+f)) 0 0 0 s r (Sp.qi c)=Sp.qi f:=dst_at rfl h4 (.inl rfl)
 have t:Sp.tcC (c-s*(r+f)) 0 0 0 s r (Sp.qi c)=f:=by unfold Sp.tcC;rw [d,ZfQ]
 have p:Sp.tcP (c-s*(r+f)) 0 0 0 s r (Sp.qi c)=c-s*r:=by
  unfold Sp.tcP;rw [t];show c-s*(r+f)+s*f=_;omega
 have E:Sp.ZcB (c-s*(r+f)) 0 0 0 s r f (Sp.qi c)=0:=by
  unfold Sp.ZcB
  rw [if_pos (by unfold Sp.pW;omega),if_pos (by unfold Sp.pP Sp.pM;omega),if_neg (show ¬f<Sp.tcC (c-s*(r+f)) 0 0 0 s r (Sp.qi c) by rw [t];omega),if_pos (show Sp.pM (Sp.tcP (c-s*(r+f)) 0 0 0 s r (Sp.qi c)) by rw [p];unfold Sp.pM;omega)]
  split <;> rfl
 unfold Sp.ZcK Sp.ZcS Sp.ZcR
 have z:Sp.dst (c-s*(r+f)) 0 0 0 s r (Sp.qi c)<=0 ↔ f=0:=by rw [d];exact qi_le0 h3.1
 rw [E,if_pos rfl,if_pos rfl,if_pos rfl,p]
 refine ⟨rfl,?_,by split <;> rfl,by split <;> rfl⟩
 split
 ·next k=>have:=z.1 k;subst f;rw [Int.add_zero]
 ·rfl
theorem tch_y {c r f s:Int} (h:Sp.prb c r f s):Sp.ZcB 0 (c-s*(r+f)) 0 1 s r f (Sp.qi c)=0/\Sp.ZcK 0 (c-s*(r+f)) 0 1 s r f (Sp.qi c)=0/\Sp.ZcS 0 (c-s*(r+f)) 0 1 s r f (Sp.qi c)=c-s*r/\Sp.ZcR 0 (c-s*(r+f)) 0 1 s r f (Sp.qi c)=0:=by
 have e:=prb_s h
 obtain ⟨h1,h2,h3,h4⟩:=h
 have d:Sp.dst 0 (c-s*(r+f)) 0 1 s r (Sp.qi c)=Sp.qi f:=dst_at rfl h4 (.inr rfl)
 have t:Sp.tcC 0 (c-s*(r+f)) 0 1 s r (Sp.qi c)=f:=by unfold Sp.tcC;rw [d,ZfQ]
 have p:Sp.tcP 0 (c-s*(r+f)) 0 1 s r (Sp.qi c)=c-s*r:=by
  unfold Sp.tcP;rw [t];show c-s*(r+f)+s*f=_;omega
 have E:Sp.ZcB 0 (c-s*(r+f)) 0 1 s r f (Sp.qi c)=0:=by
  unfold Sp.ZcB
  rw [if_pos (by unfold Sp.pW;omega),if_pos (by unfold Sp.pP Sp.pM;omega),if_neg (show ¬f<Sp.tcC 0 (c-s*(r+f)) 0 1 s r (Sp.qi c) by rw [t];omega),if_pos (show Sp.pM (Sp.tcP 0 (c-s*(r+f)) 0 1 s r (Sp.qi c)) by rw [p];unfold Sp.pM;omega)]
  split <;> rfl
 unfold Sp.ZcK Sp.ZcS Sp.ZcR
 have z:Sp.dst 0 (c-s*(r+f)) 0 1 s r (Sp.qi c)<=0 ↔ f=0:=by rw [d];exact qi_le0 h3.1
 rw [E,if_pos rfl,if_pos rfl,if_pos rfl,p]
 refine ⟨rfl,by split <;> rfl,?_,by split <;> rfl⟩
 split
 ·next k=>have:=z.1 k;subst f;rw [Int.add_zero]
 ·rfl
theorem cnr_at {c d r f g s t:Int} (h:Sp.prb c r f s) (k:Sp.prb d r g t):Sp.cnrE (c-s*r) 0 0 0 (d-t*r) 0 s t r=0/\Sp.cnrX (c-s*r) 0 0 0 (d-t*r) 0 s t r=c/\Sp.cnrY (c-s*r) 0 0 0 (d-t*r) 0 s t r=d:=by
 have e1:=prb_s h
 have e2:=prb_s k
 obtain ⟨h1,h2,h3,h4⟩:=h
 obtain ⟨k1,k2,k3,k4⟩:=k
 have wx:Sp.wal (c-s*r) 0 0 0 s r=c:=by show c-s*r+s*r=c;omega
 have wy:Sp.wal 0 (d-t*r) 0 1 t r=d:=by show d-t*r+t*r=d;omega
 have ex:Sp.Zba (c-s*r) 0 0 0 s r=0:=by
  unfold Sp.Zba;rw [wx,if_pos (by unfold Sp.pW;omega),if_pos (by unfold Sp.pP Sp.pM;omega),if_pos (by unfold Sp.pM;omega)]
 have ey:Sp.Zba 0 (d-t*r) 0 1 t r=0:=by
  unfold Sp.Zba;rw [wy,if_pos (by unfold Sp.pW;omega),if_pos (by unfold Sp.pP Sp.pM;omega),if_pos (by unfold Sp.pM;omega)]
 have E:Sp.cnrE (c-s*r) 0 0 0 (d-t*r) 0 s t r=0:=by
  unfold Sp.cnrE;rw [if_pos (by unfold Sp.pW;omega),ex,ey,if_pos ⟨rfl,rfl⟩]
 unfold Sp.cnrX Sp.cnrY
 rw [E,if_pos rfl,if_pos rfl]
 unfold Sp.ZbP
 rw [ex,ey,if_pos rfl,if_pos rfl,wx,wy]
 exact ⟨rfl,rfl,rfl⟩
end Go.Av

namespace Go.Av
open Go.Proofs
namespace Sp
def enP (p:Ln):Prop:=(1<=p.n/\p.n<=999)/\0<=p.l/\p.l<=10000000
instance (p:Ln):Decidable (enP p):=inferInstanceAs (Decidable (_/\_))
def few (n m:Nat):Prop:=n<=m
def ixC (n:Int):Int:=if (n.tmod 1000=0/\54000<=n)/\n<=59000 then n.tdiv 1000-54 else -1
end Sp
theorem bif_dor {p q:Prop} [Decidable p] [Decidable q]:(bif decide p then true else decide q)=decide (p\/q):=by
 by_cases h:p
 ·rw [decide_eq_true h,decide_eq_true (show p\/q from .inl h)];rfl
 ·by_cases k:q
  ·rw [decide_eq_false h,decide_eq_true k,decide_eq_true (show p\/q from .inr k)];rfl
  ·rw [decide_eq_false h,decide_eq_false k,decide_eq_false (show ¬(p\/q) from fun x=>x.elim h k)];rfl
theorem ev95 (x y z:Int):Ev M1 (.pure 95 [.agg [.int .i64 x,.int .i64 y,.int .i64 z]]) (.bool (decide (¬Sp.pP x y z))) []:=by
 refine call95 (tFar _ _ _ _ ?_)
 rw [bif_dor]
 refine congrArg AV.bool (ZcH ?_)
 unfold Sp.pP Sp.pM
 repeat' split
 all_goals omega
theorem ev93 (n:Int):Ev M1 (.pure 93 [.int .i64 n]) (.bool (decide (¬Sp.pM n))) []:=by
 refine call93 (tFarR _ _ ?_)
 rw [bif_dor]
 exact congrArg AV.bool (ZcH (by unfold Sp.pM;omega))
theorem ev96 (n k:Int):Ev M1 (.pure 96 [.agg [.int .i64 n,.int .i64 k]]) (.bool (decide (Sp.enP ⟨n,k⟩))) []:=by
 refine call96 (tEntry _ _ _ ?_)
 rw [Zdk,Zdk,Zdk]
 exact congrArg AV.bool (ZcH (by unfold Sp.enP;simp only [];omega))
theorem ev68 (n k:Int):Ev M1 (.pure 68 [.agg [.int .i64 n,.int .i64 k]]) (.bool (decide (Sp.enP ⟨n,k⟩))) []:=by
 refine call68 (tEntryR _ _ _ ?_)
 rw [Zdk,Zdk,Zdk]
 exact congrArg AV.bool (ZcH (by unfold Sp.enP;simp only [];omega))
theorem ev97_a:Ev M1 (.pure 97 [.int .i64 54000]) (.tup [.int .i64 0,.int .i64 0]) []:=ZhF (tSlot0 _ rfl)
theorem ev97_b:Ev M1 (.pure 97 [.int .i64 55000]) (.tup [.int .i64 1,.int .i64 0]) []:=ZhF (tSlot1 _ rfl)
theorem ev97_c:Ev M1 (.pure 97 [.int .i64 56000]) (.tup [.int .i64 2,.int .i64 0]) []:=ZhF (tSlot2 _ rfl)
theorem ev97_d:Ev M1 (.pure 97 [.int .i64 57000]) (.tup [.int .i64 3,.int .i64 0]) []:=ZhF (tSlot3 _ rfl)
theorem ev97_e:Ev M1 (.pure 97 [.int .i64 58000]) (.tup [.int .i64 4,.int .i64 0]) []:=ZhF (tSlot4 _ rfl)
theorem ev97_o:Ev M1 (.pure 97 [.int .i64 59000]) (.tup [.int .i64 5,.int .i64 0]) []:=ZhF (tSlot5 _ rfl)
theorem ev28 (n:Int):Ev M1 (.pure 28 [.int .i64 n]) (.int .i64 (Sp.ixC n)) []:=by
 refine call28 (tIxR _ _ ⟨fun h => ?_,fun h => ?_⟩)
 ·unfold Sp.ixC;rw [if_neg (by omega)]
 ·unfold Sp.ixC;rw [if_pos (by omega)]
  have b:0<=n.tdiv 1000/\n.tdiv 1000<=100:=by rw [Int.tdiv_eq_ediv_of_nonneg (by omega)];omega
  exact ⟨by omega,by omega,rfl⟩
theorem ixC_cases {n:Int} (h:¬Sp.ixC n<0):n=54000\/n=55000\/n=56000\/n=57000\/n=58000\/n=59000:=by
 unfold Sp.ixC at h
 split at h
 ·next k =>
  obtain ⟨⟨a,b⟩,c⟩:=k
  rw [Int.tmod_eq_emod_of_nonneg (by omega)] at a
  omega
 ·exact absurd (by decide:(-1:Int)<0) h
theorem ev115 (f:Bool) (l:List Ln) (h:Sp.few l.length 1000000):Ev M1 (.pure 115 [.vec f 2 (l.map Ln.a)]) (.vec false 2 (l.map Ln.a)) []:=by
 unfold Sp.few at h
 cases l with
 | nil=>exact call115 (tClE f _ ⟨.vnil 2,.full 2 []⟩)
 | cons y l=>exact call115 (tClC f y l _ ⟨by simp at h;omega,.refl _⟩)
theorem tEqL_loop (f g:Bool) (l m:List Ln) (hl:l.length=m.length) (hs:l.length<=1000000):∀ (k i:Nat),i+k=l.length->Zf6 f g l m (l.length:Int) (i:Int) (Zad (.bool (decide (l.drop i=m.drop i)))):=by
 intro k
 induction k with
 | zero =>
  intro i hi
  refine tEqL _ _ _ _ _ _ _ ⟨fun h=>absurd h (by omega),fun _ => ?_⟩
  rw [List.drop_of_length_le (by omega),List.drop_of_length_le (by omega)];rfl
 | succ k ih =>
  intro i hi
  have e:((i:Int)).toNat=i:=Int.toNat_natCast i
  have e3:((i:Int)+1)=((i+1:Nat):Int):=by omega
  have h1:i<l.length:=by omega
  have h2:i<m.length:=by omega
  refine tEqL _ _ _ _ _ _ _ ⟨fun _=>⟨by omega,by rw [e];exact h1,by rw [e];exact h2,fun h => ?_,fun h=>⟨by omega,?_⟩⟩,fun h=>absurd h (by omega)⟩
  ·rw [e] at h
   rw [ZbA h1,ZbA h2,decide_eq_false]
   intro q
   rw [List.cons.injEq] at q
   exact h ⟨by rw [q.1],by rw [q.1]⟩
  ·rw [e] at h
   have q:l.getD i default=m.getD i default:=by
    have k:=Classical.not_not.1 h
    exact Ln.casesOn (motive:=fun a=>a.n=(m.getD i default).n/\a.l=(m.getD i default).l->a=m.getD i default) _ (fun a b k=>by obtain ⟨k1,k2⟩:=k;simp only [] at k1 k2;rw [k1,k2]) k
   rw [e3]
   have r:=ih (i+1) (by omega)
   have d:decide (l.drop i=m.drop i)=decide (l.drop (i+1)=m.drop (i+1)):=by
    refine ZcH ?_
    rw [ZbA h1,ZbA h2,q,List.cons.injEq]
    exact ⟨fun x=>x.2,fun x=>⟨rfl,x⟩⟩
   rw [d];exact r
theorem ev31 (f g:Bool) (l m:List Ln) (h:Sp.few l.length 1000000):Ev M1 (.pure 31 [.vec f 2 (l.map Ln.a),.vec g 2 (m.map Ln.a)]) (.bool (decide (l=m))) []:=by
 refine call31 (tEq _ _ _ _ _ ⟨fun x => ?_,fun x => ?_⟩)
 ·rw [decide_eq_false]
  intro q;rw [q] at x;exact x rfl
 ·exact tEqL_loop f g l m (by omega) h l.length 0 (by omega)
theorem weak_last (xs:List AV) {a b:AV} (h:Weak a b):Weak (.agg (xs++[a])) (.agg (xs++[b])):=by
 refine .agg _ _ (by simp) fun i x y hx hy => ?_
 by_cases k:i<xs.length
 ·rw [List.getElem?_append_left k] at hx hy
  rw [hx] at hy;cases hy;exact .refl _
 ·rw [List.getElem?_append_right (by omega)] at hx hy
  rcases hj:i-xs.length with _ | j
  ·rw [hj] at hx hy;cases hx;cases hy;exact h
  ·rw [hj] at hx;exact absurd hx (by simp)
theorem weak_tabn (A B C D E F G I J K N O R T U V Y Z:Int):Weak (.agg [.int .i64 A,.int .i64 B,.int .i64 C,.int .i64 D,.int .i64 E,.int .i64 F,.int .i64 G,.int .i64 I,.int .i64 J,.int .i64 K,.int .i64 N,.int .i64 O,.int .i64 R,.int .i64 T,.int .i64 U,.int .i64 V,.int .i64 Y,.int .i64 Z,.vnil]) (.agg [.int .i64 A,.int .i64 B,.int .i64 C,.int .i64 D,.int .i64 E,.int .i64 F,.int .i64 G,.int .i64 I,.int .i64 J,.int .i64 K,.int .i64 N,.int .i64 O,.int .i64 R,.int .i64 T,.int .i64 U,.int .i64 V,.int .i64 Y,.int .i64 Z,.vec false 2 []]):=weak_last [.int .i64 A,.int .i64 B,.int .i64 C,.int .i64 D,.int .i64 E,.int .i64 F,.int .i64 G,.int .i64 I,.int .i64 J,.int .i64 K,.int .i64 N,.int .i64 O,.int .i64 R,.int .i64 T,.int .i64 U,.int .i64 V,.int .i64 Y,.int .i64 Z] (.vnil 2)
theorem tOwnL1_loop (f:Bool) (l:List Ln) (A B C D E F G I J K N O R T U V Y Z:Int) (hs:l.length<=1000000):∀ (k i v:Nat),i+k=l.length->Zdz f l A B C D E F G I J K N O R T U V Y Z (l.length:Int) (i:Int) (l.take i) v (Zad (.agg [.int .i64 A,.int .i64 B,.int .i64 C,.int .i64 D,.int .i64 E,.int .i64 F,.int .i64 G,.int .i64 I,.int .i64 J,.int .i64 K,.int .i64 N,.int .i64 O,.int .i64 R,.int .i64 T,.int .i64 U,.int .i64 V,.int .i64 Y,.int .i64 Z,.vec false 2 (l.map Ln.a)])):=by
 intro k
 induction k with
 | zero =>
  intro i v hi
  refine tOwnL1 _ _ _ _ _ _ _ _ _ _ _ _ _ _ _ _ _ _ _ _ _ _ _ _ _ ⟨fun h=>absurd h (by omega),fun _ => ?_⟩
  rw [List.take_of_length_le (by omega)];exact .refl _
 | succ k ih =>
  intro i v hi
  have e:((i:Int)).toNat=i:=Int.toNat_natCast i
  have e3:((i:Int)+1)=((i+1:Nat):Int):=by omega
  have h1:i<l.length:=by omega
  refine tOwnL1 _ _ _ _ _ _ _ _ _ _ _ _ _ _ _ _ _ _ _ _ _ _ _ _ _ ⟨fun _=>⟨by omega,by rw [e];exact h1,by rw [List.length_take];omega,by omega,?_⟩,fun h=>absurd h (by omega)⟩
  rw [e,e3]
  have ht:l.take i++[l.getD i default]=l.take (i+1):=by rw [List.take_add_one];simp [h1]
  rw [ht]
  exact ih (i+1) (v+1) (by omega)
theorem ev30 (f:Bool) (l:List Ln) (A B C D E F G I J K N O R T U V Y Z:Int) (h:Sp.few l.length 1000000):Ev M1 (.pure 30 [.agg [.int .i64 A,.int .i64 B,.int .i64 C,.int .i64 D,.int .i64 E,.int .i64 F,.int .i64 G,.int .i64 I,.int .i64 J,.int .i64 K,.int .i64 N,.int .i64 O,.int .i64 R,.int .i64 T,.int .i64 U,.int .i64 V,.int .i64 Y,.int .i64 Z,.vec f 2 (l.map Ln.a)]]) (.agg [.int .i64 A,.int .i64 B,.int .i64 C,.int .i64 D,.int .i64 E,.int .i64 F,.int .i64 G,.int .i64 I,.int .i64 J,.int .i64 K,.int .i64 N,.int .i64 O,.int .i64 R,.int .i64 T,.int .i64 U,.int .i64 V,.int .i64 Y,.int .i64 Z,.vec false 2 (l.map Ln.a)]) []:=by
 refine call30 (tOwn f l _ _ _ _ _ _ _ _ _ _ _ _ _ _ _ _ _ _ _ ?_)
 refine tOwnL0 _ _ _ _ _ _ _ _ _ _ _ _ _ _ _ _ _ _ _ _ _ _ _ ⟨fun k=>⟨by omega,by simp;omega,by omega,?_⟩,fun k => ?_⟩
 ·have r:=tOwnL1_loop f l A B C D E F G I J K N O R T U V Y Z h (l.length-1) 1 0 (by omega)
  have ht:l.take 1=[l.getD 0 default]:=by cases l with | nil=>simp at k | cons y l=>rfl
  rw [ht] at r;exact r
 ·have:l=[]:=List.eq_nil_of_length_eq_zero (by omega)
  subst this;exact weak_tabn A B C D E F G I J K N O R T U V Y Z
end Go.Av

namespace Go.Av
open Go.Proofs
set_option maxRecDepth 100000
def fi67:Fi:=⟨16,[.tmp 2]⟩
def kp67:List (Nat × List Nat):=[(0,[1]),(1,[2])]
def fi70:Fi:=⟨26,[.cell 4 23,.tmp 5]⟩
def kp70:List (Nat × List Nat):=[(0,[1,2,4]),(1,[1,2,4,6]),(2,[2,4,6,20]),(3,[4,5]),(4,[4,5])]
def fi98:Fi:=⟨8,[.cell 2 68]⟩
def kp98:List (Nat × List Nat):=[(0,[1,2]),(1,[1,2]),(2,[2])]
def fi114:Fi:=⟨19,[.tmp 4]⟩
def kp114:List (Nat × List Nat):=[(0,[0,1]),(1,[0,1,7,8]),(2,[0,1,7,8,9]),(3,[0,1,5,7,8]),(4,[0,1,5,7,8,16]),(5,[4]),(6,[0,1,7,8]),(7,[4])]
def tIx_at (f:Bool) (l:List Pp) (Q:AV->Heap->Prop):Prop:=Wp M1 (.run fi114 (atC (cd Try.f114) []) [(0,.vec f 3 (l.map Pp.a)),(1,.func (.func 95) [] [])] []) Q
def Zf5 (f:Bool) (l:List Pp) (m i:Int) (Q:AV->Heap->Prop):Prop:=Wp M1 (.run fi114 (atC (cd Try.f114) [1,0,1,0,0]) [(0,.vec f 3 (l.map Pp.a)),(1,.func (.func 95) [] []),(7,.int .i64 m),(8,.int .i64 i)] []) Q
def tOutR_at (x y z:Int) (Q:AV->Heap->Prop):Prop:=Wp M1 (.run fi67 (atC (cd Try.f67) []) [(0,.agg [.int .i64 x,.int .i64 y,.int .i64 z])] []) Q
def tClone_at (f:Bool) (l:List Ln) (A B C D E F G I J K N O R T U V Y Z:Int) (Q:AV->Heap->Prop):Prop:=Wp M1 (.run fi98 (atC (cd Try.f98) []) [(0,.agg [.int .i64 A,.int .i64 B,.int .i64 C,.int .i64 D,.int .i64 E,.int .i64 F,.int .i64 G,.int .i64 I,.int .i64 J,.int .i64 K,.int .i64 N,.int .i64 O,.int .i64 R,.int .i64 T,.int .i64 U,.int .i64 V,.int .i64 Y,.int .i64 Z,.vec f 2 (l.map Ln.a)])] []) Q
def tOff0_at (f:Bool) (l:List Ln) (A B C D E F G I J K N O R T U V Y Z:Int) (Q:AV->Heap->Prop):Prop:=Wp M1 (.run fi70 (atC (cd Try.f70) []) [(0,.agg [.int .i64 A,.int .i64 B,.int .i64 C,.int .i64 D,.int .i64 E,.int .i64 F,.int .i64 G,.int .i64 I,.int .i64 J,.int .i64 K,.int .i64 N,.int .i64 O,.int .i64 R,.int .i64 T,.int .i64 U,.int .i64 V,.int .i64 Y,.int .i64 Z,.vec f 2 (l.map Ln.a)]),(1,.int .i64 54000)] []) Q
def tOff1_at (f:Bool) (l:List Ln) (A B C D E F G I J K N O R T U V Y Z:Int) (Q:AV->Heap->Prop):Prop:=Wp M1 (.run fi70 (atC (cd Try.f70) []) [(0,.agg [.int .i64 A,.int .i64 B,.int .i64 C,.int .i64 D,.int .i64 E,.int .i64 F,.int .i64 G,.int .i64 I,.int .i64 J,.int .i64 K,.int .i64 N,.int .i64 O,.int .i64 R,.int .i64 T,.int .i64 U,.int .i64 V,.int .i64 Y,.int .i64 Z,.vec f 2 (l.map Ln.a)]),(1,.int .i64 55000)] []) Q
def tOff2_at (f:Bool) (l:List Ln) (A B C D E F G I J K N O R T U V Y Z:Int) (Q:AV->Heap->Prop):Prop:=Wp M1 (.run fi70 (atC (cd Try.f70) []) [(0,.agg [.int .i64 A,.int .i64 B,.int .i64 C,.int .i64 D,.int .i64 E,.int .i64 F,.int .i64 G,.int .i64 I,.int .i64 J,.int .i64 K,.int .i64 N,.int .i64 O,.int .i64 R,.int .i64 T,.int .i64 U,.int .i64 V,.int .i64 Y,.int .i64 Z,.vec f 2 (l.map Ln.a)]),(1,.int .i64 56000)] []) Q
def tOff3_at (f:Bool) (l:List Ln) (A B C D E F G I J K N O R T U V Y Z:Int) (Q:AV->Heap->Prop):Prop:=Wp M1 (.run fi70 (atC (cd Try.f70) []) [(0,.agg [.int .i64 A,.int .i64 B,.int .i64 C,.int .i64 D,.int .i64 E,.int .i64 F,.int .i64 G,.int .i64 I,.int .i64 J,.int .i64 K,.int .i64 N,.int .i64 O,.int .i64 R,.int .i64 T,.int .i64 U,.int .i64 V,.int .i64 Y,.int .i64 Z,.vec f 2 (l.map Ln.a)]),(1,.int .i64 57000)] []) Q
def tOff4_at (f:Bool) (l:List Ln) (A B C D E F G I J K N O R T U V Y Z:Int) (Q:AV->Heap->Prop):Prop:=Wp M1 (.run fi70 (atC (cd Try.f70) []) [(0,.agg [.int .i64 A,.int .i64 B,.int .i64 C,.int .i64 D,.int .i64 E,.int .i64 F,.int .i64 G,.int .i64 I,.int .i64 J,.int .i64 K,.int .i64 N,.int .i64 O,.int .i64 R,.int .i64 T,.int .i64 U,.int .i64 V,.int .i64 Y,.int .i64 Z,.vec f 2 (l.map Ln.a)]),(1,.int .i64 58000)] []) Q
def tOff5_at (f:Bool) (l:List Ln) (A B C D E F G I J K N O R T U V Y Z:Int) (Q:AV->Heap->Prop):Prop:=Wp M1 (.run fi70 (atC (cd Try.f70) []) [(0,.agg [.int .i64 A,.int .i64 B,.int .i64 C,.int .i64 D,.int .i64 E,.int .i64 F,.int .i64 G,.int .i64 I,.int .i64 J,.int .i64 K,.int .i64 N,.int .i64 O,.int .i64 R,.int .i64 T,.int .i64 U,.int .i64 V,.int .i64 Y,.int .i64 Z,.vec f 2 (l.map Ln.a)]),(1,.int .i64 59000)] []) Q
theorem call67 {args:List AV} {d:AV} (h:wc M1 fi67 Try.f67 args d):Ev M1 (.pure 67 args) d []:=pcl _ _ (by kernel_rfl) h
theorem ZhG {args:List AV} {d:AV} (h:wc M1 fi70 Try.f70 args d):Ev M1 (.pure 70 args) d []:=pcl _ _ (by kernel_rfl) h
theorem call98 {args:List AV} {d:AV} (h:wc M1 fi98 Try.f98 args d):Ev M1 (.pure 98 args) d []:=pcl _ _ (by kernel_rfl) h
theorem call114 {args:List AV} {d:AV} (h:wc M1 fi114 Try.f114 args d):Ev M1 (.pure 114 args) d []:=pcl _ _ (by kernel_rfl) h
theorem tIx (f:Bool) (l:List Pp)  (dq:AV) (H :
  Zf5 f l ((↑l.length:Int)) 0 (Zad dq)) :
 tIx_at f l (Zad dq):=by
 unfold tIx_at
 have w1:(List.map Pp.a l).length=l.length:=List.length_map ..
 exact Zac (G:=Zab kp114 [] []) 1000 [] ⟨(atC (cd Try.f114) [1,0,1,0,0]),[(0,AV.vec f 3 (List.map Pp.a l)),(1,AV.func (Fn.func 95) [] []),(7,vi (↑(List.map Pp.a l).length:Int)),(8,vi 0)],[],_,[],_⟩ (by kernel_rfl) b0 q0 c0 (by (try rw [w1]);all_goals exact H)
noncomputable abbrev zNpK1 (l:List Pp) (i:Int):=ag [vi (l.getD i.toNat default).x,vi (l.getD i.toNat default).y,vi (l.getD i.toNat default).z]
theorem tIxL (f:Bool) (l:List Pp) (m i:Int)  (dq:AV) (H :
  ((i<m)->(0<=i) /\
   (i.toNat<l.length) /\
   ((¬Sp.pP (l.getD i.toNat default).x (l.getD i.toNat default).y (l.getD i.toNat default).z)->vi i=dq) /\
   (¬(¬Sp.pP (l.getD i.toNat default).x (l.getD i.toNat default).y (l.getD i.toNat default).z)->(-9223372036854775808<=i+1/\i+1<=9223372036854775807) /\
    Zf5 f l m (i+1) (Zad dq))) /\
  (¬(i<m)->vi (-1)=dq)) :
 Zf5 f l m i (Zad dq):=by
 unfold Zf5
 rcases xq H with ⟨d2,H⟩|⟨d2,H⟩
 ·obtain ⟨k4,H⟩:=H
  have w5:(List.map Pp.a l).length=l.length:=List.length_map ..
  have i6:(decide (i.toNat<(List.map Pp.a l).length))=true ↔ (i.toNat<l.length):=(by (try rw [w5]);all_goals exact Zaa)
  obtain ⟨k7,H⟩:=H
  refine Zac (G:=Zab kp114 [(4,4,.elem (zNpK1 l i)),(4,5,.call (vb (decide ¬Sp.pP (l.getD i.toNat default).x (l.getD i.toNat default).y (l.getD i.toNat default).z)) none)] []) 11 [true] ⟨(atC (cd Try.f114) [1,0,1,0,0,1,1,0,0,1,1]),[(0,AV.vec f 3 (List.map Pp.a l)),(1,AV.func (Fn.func 95) [] []),(5,vi i),(7,vi m),(8,vi i),(16,vb (decide ¬Sp.pP (l.getD i.toNat default).x (l.getD i.toNat default).y (l.getD i.toNat default).z))],[],_,[((List.map Pp.a l).get?Internal i.toNat=some (zNpK1 l i))],_⟩ (by kernel_rfl) (bc (Zak (Zaa.2 d2)) (bc (Zaa.2 k4) (bc (i6.2 k7) b0))) (qc (Zap k7) q0) (ce (@ev95 ((l.getD i.toNat default).x) ((l.getD i.toNat default).y) ((l.getD i.toNat default).z)) c0) ?_
  rcases xq H with ⟨d9,H⟩|⟨d9,H⟩
  ·exact Zae (G:=Zab kp114 [] []) 1000 [true] (vi i) (by kernel_rfl) (bc (Zak (Zaa.2 d9)) b0) q0 c0 H
  ·obtain ⟨k10,H⟩:=H
   have w11:wi (i+1)=i+1:=wI64 k10
   exact Zac (G:=Zab kp114 [] []) 1000 [false] ⟨(atC (cd Try.f114) [1,0,1,0,0]),[(0,AV.vec f 3 (List.map Pp.a l)),(1,AV.func (Fn.func 95) [] []),(7,vi m),(8,vi (wi (i+1)))],[],_,[],_⟩ (by kernel_rfl) (bc (Zah (fun h=>d9 (Zaa.1 h))) b0) q0 c0 (by (try rw [w11]);all_goals exact H)
 ·exact Zae (G:=Zab kp114 [] []) 1000 [false] (vi (-1)) (by kernel_rfl) (bc (Zah (fun h=>d2 (Zaa.1 h))) b0) q0 c0 H
theorem tOutR (x y z:Int)  (dq:AV) (H :
  vb (bif bif decide ¬Sp.pM x then true else decide ¬Sp.pM y then true else decide ¬Sp.pM z)=dq) :
 tOutR_at x y z (Zad dq):=by
 unfold tOutR_at
 exact Zae (G:=Zab kp67 [(1,2,.call (vb (decide ¬Sp.pM x)) none),(1,6,.call (vb (decide ¬Sp.pM y)) none),(1,11,.call (vb (decide ¬Sp.pM z)) none)] []) 1000 [] (asm:=[true,!((decide ¬Sp.pM x)==false&&true)||true,!((bif decide ¬Sp.pM x then true else decide ¬Sp.pM y)==false&&true)||true]) (calls:=[⟨true,false,93,[vi x],[],vb (decide ¬Sp.pM x),[]⟩,⟨(decide ¬Sp.pM x)==false&&true&&true,false,93,[vi y],[],vb (decide ¬Sp.pM y),[]⟩,⟨(bif decide ¬Sp.pM x then true else decide ¬Sp.pM y)==false&&true&&true,false,93,[vi z],[],vb (decide ¬Sp.pM z),[]⟩]) (vb (bif bif decide ¬Sp.pM x then true else decide ¬Sp.pM y then true else decide ¬Sp.pM z)) (by kernel_rfl) (bc rfl (bc (Bool.or_true _) (bc (Bool.or_true _) b0))) q0 (cc (fun _=>(@ev93 x)) (cc (fun hc=>((@ev93 y):Ev M1 (Conf.pure 93 [vi y]) (vb (decide ¬Sp.pM y)) [])) (cc (fun hc=>((@ev93 z):Ev M1 (Conf.pure 93 [vi z]) (vb (decide ¬Sp.pM z)) [])) c0))) H
theorem tClone (f:Bool) (l:List Ln) (A B C D E F G I J K N O R T U V Y Z:Int)  (dq:AV) (H :
  (Sp.few l.length 1000000) /\
  Weak (ag [vi A,vi B,vi C,vi D,vi E,vi F,vi G,vi I,vi J,vi K,vi N,vi O,vi R,vi T,vi U,vi V,vi Y,vi Z,AV.vec false 2 (List.map Ln.a l)]) dq) :
 tClone_at f l A B C D E F G I J K N O R T U V Y Z (Zad dq):=by
 unfold tClone_at
 obtain ⟨k1,H⟩:=H
 exact Zai (G:=Zab kp98 [(1,2,.call (AV.vec false 2 (List.map Ln.a l)) none)] []) 1000 [] (ag [vi A,vi B,vi C,vi D,vi E,vi F,vi G,vi I,vi J,vi K,vi N,vi O,vi R,vi T,vi U,vi V,vi Y,vi Z,AV.vec false 2 (List.map Ln.a l)]) (by kernel_rfl) (bc rfl (bc rfl (bc rfl (bc rfl b0)))) q0 (ce (@ev115 f l k1) c0) H
theorem tOff0 (f:Bool) (l:List Ln) (A B C D E F G I J K N O R T U V Y Z:Int)  (dq:AV) (H :
  tu [ag [vi A,vi B,vi C],vi 0]=dq) :
 tOff0_at f l A B C D E F G I J K N O R T U V Y Z (Zad dq):=by
 unfold tOff0_at
 exact Zae (G:=Zab kp70 [] []) 1000 [false] (tu [ag [vi A,vi B,vi C],vi 0]) (by kernel_rfl) (bc rfl (bc rfl (bc rfl (bc rfl (bc rfl (bc rfl (bc rfl b0))))))) q0 c0 H
theorem tOff1 (f:Bool) (l:List Ln) (A B C D E F G I J K N O R T U V Y Z:Int)  (dq:AV) (H :
  tu [ag [vi D,vi E,vi F],vi 0]=dq) :
 tOff1_at f l A B C D E F G I J K N O R T U V Y Z (Zad dq):=by
 unfold tOff1_at
 exact Zae (G:=Zab kp70 [] []) 1000 [false] (tu [ag [vi D,vi E,vi F],vi 0]) (by kernel_rfl) (bc rfl (bc rfl (bc rfl (bc rfl (bc rfl (bc rfl (bc rfl b0))))))) q0 c0 H
theorem tOff2 (f:Bool) (l:List Ln) (A B C D E F G I J K N O R T U V Y Z:Int)  (dq:AV) (H :
  tu [ag [vi G,vi I,vi J],vi 0]=dq) :
 tOff2_at f l A B C D E F G I J K N O R T U V Y Z (Zad dq):=by
 unfold tOff2_at
 exact Zae (G:=Zab kp70 [] []) 1000 [false] (tu [ag [vi G,vi I,vi J],vi 0]) (by kernel_rfl) (bc rfl (bc rfl (bc rfl (bc rfl (bc rfl (bc rfl (bc rfl b0))))))) q0 c0 H
theorem tOff3 (f:Bool) (l:List Ln) (A B C D E F G I J K N O R T U V Y Z:Int)  (dq:AV) (H :
  tu [ag [vi K,vi N,vi O],vi 0]=dq) :
 tOff3_at f l A B C D E F G I J K N O R T U V Y Z (Zad dq):=by
 unfold tOff3_at
 exact Zae (G:=Zab kp70 [] []) 1000 [false] (tu [ag [vi K,vi N,vi O],vi 0]) (by kernel_rfl) (bc rfl (bc rfl (bc rfl (bc rfl (bc rfl (bc rfl (bc rfl b0))))))) q0 c0 H
theorem tOff4 (f:Bool) (l:List Ln) (A B C D E F G I J K N O R T U V Y Z:Int)  (dq:AV) (H :
  tu [ag [vi R,vi T,vi U],vi 0]=dq) :
 tOff4_at f l A B C D E F G I J K N O R T U V Y Z (Zad dq):=by
 unfold tOff4_at
 exact Zae (G:=Zab kp70 [] []) 1000 [false] (tu [ag [vi R,vi T,vi U],vi 0]) (by kernel_rfl) (bc rfl (bc rfl (bc rfl (bc rfl (bc rfl (bc rfl (bc rfl b0))))))) q0 c0 H
theorem tOff5 (f:Bool) (l:List Ln) (A B C D E F G I J K N O R T U V Y Z:Int)  (dq:AV) (H :
  tu [ag [vi V,vi Y,vi Z],vi 0]=dq) :
 tOff5_at f l A B C D E F G I J K N O R T U V Y Z (Zad dq):=by
 unfold tOff5_at
 exact Zae (G:=Zab kp70 [] []) 1000 [false] (tu [ag [vi V,vi Y,vi Z],vi 0]) (by kernel_rfl) (bc rfl (bc rfl (bc rfl (bc rfl (bc rfl (bc rfl (bc rfl b0))))))) q0 c0 H
end Go.Av

namespace Go.Av
open Go.Proofs
namespace Sp
def okQ (p:Pp):Prop:=pP p.x p.y p.z
instance (p:Pp):Decidable (okQ p):=inferInstanceAs (Decidable (pP _ _ _))
def ffi (i:Int):List Pp->Int
 | [] => -1
 | p::l=>if okQ p then ffi (i+1) l else i
end Sp
theorem ffi_ge (l:List Pp):∀ (i:Int),0<=i->(Sp.ffi i l>=0 ↔ ¬∀ p ∈ l,Sp.okQ p):=by
 induction l with
 | nil=>intro i hi;exact ⟨fun h=>absurd h (by show ¬(-1:Int)>=0;decide),fun h=>absurd (by simp) h⟩
 | cons p l ih =>
  intro i hi
  show (if Sp.okQ p then Sp.ffi (i+1) l else i)>=0 ↔ _
  by_cases k:Sp.okQ p
  ·rw [if_pos k,ih (i+1) (by omega)]
   simp [k]
  ·rw [if_neg k]
   exact ⟨fun _ h=>k (h p (by simp)),fun _=>hi⟩
theorem tIxL_loop (f:Bool) (l:List Pp) (hl:l.length<=1000000):∀ (k i:Nat),i+k=l.length->Zf5 f l (l.length:Int) (i:Int) (Zad (.int .i64 (Sp.ffi (i:Int) (l.drop i)))):=by
 intro k
 induction k with
 | zero =>
  intro i hi
  refine tIxL _ _ _ _ _ ⟨fun h=>absurd h (by omega),fun _ => ?_⟩
  rw [List.drop_of_length_le (by omega)];rfl
 | succ k ih =>
  intro i hi
  have hlt:i<l.length:=by omega
  have e:((i:Int)).toNat=i:=Int.toNat_natCast i
  have e3:((i:Int)+1)=((i+1:Nat):Int):=by omega
  have hd:Sp.ffi (i:Int) (l.drop i)=if Sp.okQ (l.getD i default) then Sp.ffi ((i:Int)+1) (l.drop (i+1)) else (i:Int):=by
   rw [ZbA hlt];rfl
  refine tIxL _ _ _ _ _ ⟨fun _=>⟨by omega,by rw [e];exact hlt,fun h => ?_,fun h=>⟨by omega,?_⟩⟩,fun h=>absurd h (by omega)⟩
  ·rw [e] at h
   rw [hd,if_neg (show ¬Sp.okQ _ from h)]
  ·rw [e] at h
   rw [hd,if_pos (show Sp.okQ _ from Classical.not_not.1 h),e3]
   exact ih (i+1) (by omega)
theorem ev114 (f:Bool) (l:List Pp) (h:Sp.few l.length 1000000):Ev M1 (.pure 114 [.vec f 3 (l.map Pp.a),.func (.func 95) [] []]) (.int .i64 (Sp.ffi 0 l)) []:=
 call114 (tIx _ _ _ (tIxL_loop f l h l.length 0 (by omega)))
theorem ev67 (x y z:Int):Ev M1 (.pure 67 [.agg [.int .i64 x,.int .i64 y,.int .i64 z]]) (.bool (decide (¬Sp.pP x y z))) []:=by
 refine call67 (tOutR _ _ _ _ ?_)
 rw [bif_dor,bif_dor]
 exact congrArg AV.bool (ZcH (by unfold Sp.pP Sp.pM;omega))
theorem ev98 (f:Bool) (l:List Ln) (A B C D E F G I J K N O R T U V Y Z:Int) (h:Sp.few l.length 1000000):Ev M1 (.pure 98 [.agg [.int .i64 A,.int .i64 B,.int .i64 C,.int .i64 D,.int .i64 E,.int .i64 F,.int .i64 G,.int .i64 I,.int .i64 J,.int .i64 K,.int .i64 N,.int .i64 O,.int .i64 R,.int .i64 T,.int .i64 U,.int .i64 V,.int .i64 Y,.int .i64 Z,.vec f 2 (l.map Ln.a)]]) (.agg [.int .i64 A,.int .i64 B,.int .i64 C,.int .i64 D,.int .i64 E,.int .i64 F,.int .i64 G,.int .i64 I,.int .i64 J,.int .i64 K,.int .i64 N,.int .i64 O,.int .i64 R,.int .i64 T,.int .i64 U,.int .i64 V,.int .i64 Y,.int .i64 Z,.vec false 2 (l.map Ln.a)]) []:=
 call98 (tClone f l A B C D E F G I J K N O R T U V Y Z _ ⟨h,.refl _⟩)
theorem ev70_a (f:Bool) (l:List Ln) (A B C D E F G I J K N O R T U V Y Z:Int):Ev M1 (.pure 70 [.agg [.int .i64 A,.int .i64 B,.int .i64 C,.int .i64 D,.int .i64 E,.int .i64 F,.int .i64 G,.int .i64 I,.int .i64 J,.int .i64 K,.int .i64 N,.int .i64 O,.int .i64 R,.int .i64 T,.int .i64 U,.int .i64 V,.int .i64 Y,.int .i64 Z,.vec f 2 (l.map Ln.a)],.int .i64 54000]) (.tup [.agg [.int .i64 A,.int .i64 B,.int .i64 C],.int .i64 0]) []:=ZhG (tOff0 f l A B C D E F G I J K N O R T U V Y Z _ rfl)
theorem ev70_b (f:Bool) (l:List Ln) (A B C D E F G I J K N O R T U V Y Z:Int):Ev M1 (.pure 70 [.agg [.int .i64 A,.int .i64 B,.int .i64 C,.int .i64 D,.int .i64 E,.int .i64 F,.int .i64 G,.int .i64 I,.int .i64 J,.int .i64 K,.int .i64 N,.int .i64 O,.int .i64 R,.int .i64 T,.int .i64 U,.int .i64 V,.int .i64 Y,.int .i64 Z,.vec f 2 (l.map Ln.a)],.int .i64 55000]) (.tup [.agg [.int .i64 D,.int .i64 E,.int .i64 F],.int .i64 0]) []:=ZhG (tOff1 f l A B C D E F G I J K N O R T U V Y Z _ rfl)
theorem ev70_c (f:Bool) (l:List Ln) (A B C D E F G I J K N O R T U V Y Z:Int):Ev M1 (.pure 70 [.agg [.int .i64 A,.int .i64 B,.int .i64 C,.int .i64 D,.int .i64 E,.int .i64 F,.int .i64 G,.int .i64 I,.int .i64 J,.int .i64 K,.int .i64 N,.int .i64 O,.int .i64 R,.int .i64 T,.int .i64 U,.int .i64 V,.int .i64 Y,.int .i64 Z,.vec f 2 (l.map Ln.a)],.int .i64 56000]) (.tup [.agg [.int .i64 G,.int .i64 I,.int .i64 J],.int .i64 0]) []:=ZhG (tOff2 f l A B C D E F G I J K N O R T U V Y Z _ rfl)
theorem ev70_d (f:Bool) (l:List Ln) (A B C D E F G I J K N O R T U V Y Z:Int):Ev M1 (.pure 70 [.agg [.int .i64 A,.int .i64 B,.int .i64 C,.int .i64 D,.int .i64 E,.int .i64 F,.int .i64 G,.int .i64 I,.int .i64 J,.int .i64 K,.int .i64 N,.int .i64 O,.int .i64 R,.int .i64 T,.int .i64 U,.int .i64 V,.int .i64 Y,.int .i64 Z,.vec f 2 (l.map Ln.a)],.int .i64 57000]) (.tup [.agg [.int .i64 K,.int .i64 N,.int .i64 O],.int .i64 0]) []:=ZhG (tOff3 f l A B C D E F G I J K N O R T U V Y Z _ rfl)
theorem ev70_e (f:Bool) (l:List Ln) (A B C D E F G I J K N O R T U V Y Z:Int):Ev M1 (.pure 70 [.agg [.int .i64 A,.int .i64 B,.int .i64 C,.int .i64 D,.int .i64 E,.int .i64 F,.int .i64 G,.int .i64 I,.int .i64 J,.int .i64 K,.int .i64 N,.int .i64 O,.int .i64 R,.int .i64 T,.int .i64 U,.int .i64 V,.int .i64 Y,.int .i64 Z,.vec f 2 (l.map Ln.a)],.int .i64 58000]) (.tup [.agg [.int .i64 R,.int .i64 T,.int .i64 U],.int .i64 0]) []:=ZhG (tOff4 f l A B C D E F G I J K N O R T U V Y Z _ rfl)
theorem ev70_o (f:Bool) (l:List Ln) (A B C D E F G I J K N O R T U V Y Z:Int):Ev M1 (.pure 70 [.agg [.int .i64 A,.int .i64 B,.int .i64 C,.int .i64 D,.int .i64 E,.int .i64 F,.int .i64 G,.int .i64 I,.int .i64 J,.int .i64 K,.int .i64 N,.int .i64 O,.int .i64 R,.int .i64 T,.int .i64 U,.int .i64 V,.int .i64 Y,.int .i64 Z,.vec f 2 (l.map Ln.a)],.int .i64 59000]) (.tup [.agg [.int .i64 V,.int .i64 Y,.int .i64 Z],.int .i64 0]) []:=ZhG (tOff5 f l A B C D E F G I J K N O R T U V Y Z _ rfl)
end Go.Av

namespace Go.Av
open Go.Proofs
set_option maxRecDepth 100000
def fi27:Fi:=⟨48,[.tmp 2]⟩
def kp27:List (Nat × List Nat):=[(0,[1]),(1,[1,3]),(2,[1,3,6]),(3,[1,3]),(4,[1,3,13]),(5,[2]),(6,[1,4]),(7,[1,4,18]),(8,[1,4]),(9,[1,4,47]),(10,[2]),(11,[2])]
def fi94:Fi:=⟨9,[.tmp 4]⟩
def kp94:List (Nat × List Nat):=[(0,[0,1]),(1,[4])]
def tCf_at (f:Bool) (l:List Pp) (Q:AV->Heap->Prop):Prop:=Wp M1 (.run fi94 (atC (cd Try.f94) []) [(0,.vec f 3 (l.map Pp.a)),(1,.func (.func 95) [] [])] []) Q
def tVdR_at (f:Bool) (l:List Ln) (A B C D E F G I J K N O R T U V Y Z:Int) (Q:AV->Heap->Prop):Prop:=Wp M1 (.run fi27 (atC (cd Try.f27) []) [(0,.agg [.int .i64 A,.int .i64 B,.int .i64 C,.int .i64 D,.int .i64 E,.int .i64 F,.int .i64 G,.int .i64 I,.int .i64 J,.int .i64 K,.int .i64 N,.int .i64 O,.int .i64 R,.int .i64 T,.int .i64 U,.int .i64 V,.int .i64 Y,.int .i64 Z,.vec f 2 (l.map Ln.a)])] []) Q
def Zeu (f:Bool) (l:List Ln) (A B C D E F G I J K N O R T U V Y Z:Int) (i:Int) (Q:AV->Heap->Prop):Prop:=Wp M1 (.run fi27 (atC (cd Try.f27) [1,1,0,1,0,0]) [(1,.ptr 0 0 0 0),(4,.int .i64 i)] [⟨[.agg [.int .i64 A,.int .i64 B,.int .i64 C,.int .i64 D,.int .i64 E,.int .i64 F,.int .i64 G,.int .i64 I,.int .i64 J,.int .i64 K,.int .i64 N,.int .i64 O,.int .i64 R,.int .i64 T,.int .i64 U,.int .i64 V,.int .i64 Y,.int .i64 Z,.vec f 2 (l.map Ln.a)]],19,0,false,false⟩]) Q
def tVdR0_at (f:Bool) (l:List Ln) (A B C D E F G I J K N O R T U V Y Z:Int) (Q:AV->Heap->Prop):Prop:=Wp M1 (.run fi27 (atC (cd Try.f27) [1,0,1,0,0]) [(1,.ptr 0 0 0 0),(3,.int .i64 0)] [⟨[.agg [.int .i64 A,.int .i64 B,.int .i64 C,.int .i64 D,.int .i64 E,.int .i64 F,.int .i64 G,.int .i64 I,.int .i64 J,.int .i64 K,.int .i64 N,.int .i64 O,.int .i64 R,.int .i64 T,.int .i64 U,.int .i64 V,.int .i64 Y,.int .i64 Z,.vec f 2 (l.map Ln.a)]],19,0,false,false⟩]) Q
def tVdR1_at (f:Bool) (l:List Ln) (A B C D E F G I J K N O R T U V Y Z:Int) (Q:AV->Heap->Prop):Prop:=Wp M1 (.run fi27 (atC (cd Try.f27) [1,0,1,0,0]) [(1,.ptr 0 0 0 0),(3,.int .i64 1)] [⟨[.agg [.int .i64 A,.int .i64 B,.int .i64 C,.int .i64 D,.int .i64 E,.int .i64 F,.int .i64 G,.int .i64 I,.int .i64 J,.int .i64 K,.int .i64 N,.int .i64 O,.int .i64 R,.int .i64 T,.int .i64 U,.int .i64 V,.int .i64 Y,.int .i64 Z,.vec f 2 (l.map Ln.a)]],19,0,false,false⟩]) Q
def tVdR2_at (f:Bool) (l:List Ln) (A B C D E F G I J K N O R T U V Y Z:Int) (Q:AV->Heap->Prop):Prop:=Wp M1 (.run fi27 (atC (cd Try.f27) [1,0,1,0,0]) [(1,.ptr 0 0 0 0),(3,.int .i64 2)] [⟨[.agg [.int .i64 A,.int .i64 B,.int .i64 C,.int .i64 D,.int .i64 E,.int .i64 F,.int .i64 G,.int .i64 I,.int .i64 J,.int .i64 K,.int .i64 N,.int .i64 O,.int .i64 R,.int .i64 T,.int .i64 U,.int .i64 V,.int .i64 Y,.int .i64 Z,.vec f 2 (l.map Ln.a)]],19,0,false,false⟩]) Q
def tVdR3_at (f:Bool) (l:List Ln) (A B C D E F G I J K N O R T U V Y Z:Int) (Q:AV->Heap->Prop):Prop:=Wp M1 (.run fi27 (atC (cd Try.f27) [1,0,1,0,0]) [(1,.ptr 0 0 0 0),(3,.int .i64 3)] [⟨[.agg [.int .i64 A,.int .i64 B,.int .i64 C,.int .i64 D,.int .i64 E,.int .i64 F,.int .i64 G,.int .i64 I,.int .i64 J,.int .i64 K,.int .i64 N,.int .i64 O,.int .i64 R,.int .i64 T,.int .i64 U,.int .i64 V,.int .i64 Y,.int .i64 Z,.vec f 2 (l.map Ln.a)]],19,0,false,false⟩]) Q
def tVdR4_at (f:Bool) (l:List Ln) (A B C D E F G I J K N O R T U V Y Z:Int) (Q:AV->Heap->Prop):Prop:=Wp M1 (.run fi27 (atC (cd Try.f27) [1,0,1,0,0]) [(1,.ptr 0 0 0 0),(3,.int .i64 4)] [⟨[.agg [.int .i64 A,.int .i64 B,.int .i64 C,.int .i64 D,.int .i64 E,.int .i64 F,.int .i64 G,.int .i64 I,.int .i64 J,.int .i64 K,.int .i64 N,.int .i64 O,.int .i64 R,.int .i64 T,.int .i64 U,.int .i64 V,.int .i64 Y,.int .i64 Z,.vec f 2 (l.map Ln.a)]],19,0,false,false⟩]) Q
def tVdR5_at (f:Bool) (l:List Ln) (A B C D E F G I J K N O R T U V Y Z:Int) (Q:AV->Heap->Prop):Prop:=Wp M1 (.run fi27 (atC (cd Try.f27) [1,0,1,0,0]) [(1,.ptr 0 0 0 0),(3,.int .i64 5)] [⟨[.agg [.int .i64 A,.int .i64 B,.int .i64 C,.int .i64 D,.int .i64 E,.int .i64 F,.int .i64 G,.int .i64 I,.int .i64 J,.int .i64 K,.int .i64 N,.int .i64 O,.int .i64 R,.int .i64 T,.int .i64 U,.int .i64 V,.int .i64 Y,.int .i64 Z,.vec f 2 (l.map Ln.a)]],19,0,false,false⟩]) Q
def tVdR6_at (f:Bool) (l:List Ln) (A B C D E F G I J K N O R T U V Y Z:Int) (Q:AV->Heap->Prop):Prop:=Wp M1 (.run fi27 (atC (cd Try.f27) [1,0,1,0,0]) [(1,.ptr 0 0 0 0),(3,.int .i64 6)] [⟨[.agg [.int .i64 A,.int .i64 B,.int .i64 C,.int .i64 D,.int .i64 E,.int .i64 F,.int .i64 G,.int .i64 I,.int .i64 J,.int .i64 K,.int .i64 N,.int .i64 O,.int .i64 R,.int .i64 T,.int .i64 U,.int .i64 V,.int .i64 Y,.int .i64 Z,.vec f 2 (l.map Ln.a)]],19,0,false,false⟩]) Q
theorem call27 {args:List AV} {d:AV} (h:wc M1 fi27 Try.f27 args d):Ev M1 (.pure 27 args) d []:=pcl _ _ (by kernel_rfl) h
theorem call94 {args:List AV} {d:AV} (h:wc M1 fi94 Try.f94 args d):Ev M1 (.pure 94 args) d []:=pcl _ _ (by kernel_rfl) h
theorem tCf (f:Bool) (l:List Pp)  (dq:AV) (H :
  (Sp.few l.length 1000000) /\
  vb (decide (Sp.ffi 0 l>=0))=dq) :
 tCf_at f l (Zad dq):=by
 unfold tCf_at
 obtain ⟨k1,H⟩:=H
 exact Zae (G:=Zab kp94 [(1,2,.call (vi (Sp.ffi 0 l)) none)] []) 1000 [] (vb (decide (Sp.ffi 0 l>=0))) (by kernel_rfl) b0 q0 (ce (@ev114 f l k1) c0) H
theorem tVdR (f:Bool) (l:List Ln) (A B C D E F G I J K N O R T U V Y Z:Int)  (dq:AV) (H :
  tVdR0_at f l A B C D E F G I J K N O R T U V Y Z (Zad dq)) :
 tVdR_at f l A B C D E F G I J K N O R T U V Y Z (Zad dq):=by
 unfold tVdR_at
 exact Zac (G:=Zab kp27 [] []) 1000 [] ⟨(atC (cd Try.f27) [1,0,1,0,0]),[(1,AV.ptr 0 0 0 0),(3,vi 0)],[⟨[ag [vi A,vi B,vi C,vi D,vi E,vi F,vi G,vi I,vi J,vi K,vi N,vi O,vi R,vi T,vi U,vi V,vi Y,vi Z,AV.vec f 2 (List.map Ln.a l)]],19,0,false,false⟩],_,[],_⟩ (by kernel_rfl) b0 q0 c0 H
noncomputable abbrev zNpL1 (l:List Ln) (i:Int):=ag [vi (l.getD i.toNat default).n,vi (l.getD i.toNat default).l]
theorem tVdRL (f:Bool) (l:List Ln) (A B C D E F G I J K N O R T U V Y Z:Int) (i:Int)  (dq:AV) (H :
  ((i<(↑l.length:Int))->(-9223372036854775808<=i-1/\i-1<=9223372036854775807) /\
   (0<=i) /\
   (i.toNat<l.length) /\
   (((i>0)/\(¬(¬(Sp.enP { n:=(l.getD i.toNat default).n,l:=(l.getD i.toNat default).l }))))->(0<=i-1)) /\
   (((i>0)/\(¬(¬(Sp.enP { n:=(l.getD i.toNat default).n,l:=(l.getD i.toNat default).l }))))->((i-1).toNat<l.length)) /\
   (((¬(Sp.enP { n:=(l.getD i.toNat default).n,l:=(l.getD i.toNat default).l }))\/((i>0)/\((l.getD i.toNat default).n<=(l.getD (i-1).toNat default).n)))->vi 1=dq) /\
   (¬((¬(Sp.enP { n:=(l.getD i.toNat default).n,l:=(l.getD i.toNat default).l }))\/((i>0)/\((l.getD i.toNat default).n<=(l.getD (i-1).toNat default).n)))->(-9223372036854775808<=i+1/\i+1<=9223372036854775807) /\
    Zeu f l A B C D E F G I J K N O R T U V Y Z (i+1) (Zad dq))) /\
  (¬(i<(↑l.length:Int))->vi 0=dq)) :
 Zeu f l A B C D E F G I J K N O R T U V Y Z i (Zad dq):=by
 unfold Zeu
 have w1:(List.map Ln.a l).length=l.length:=List.length_map ..
 have i2:(decide (i<(↑(List.map Ln.a l).length:Int)))=true ↔ (i<(↑l.length:Int)):=(by (try rw [w1]);all_goals exact Zaa)
 rcases xq H with ⟨d3,H⟩|⟨d3,H⟩
 ·obtain ⟨k4,H⟩:=H
  have w5:wi (i-1)=i-1:=wI64 k4
  obtain ⟨k7,H⟩:=H
  have i8:(decide (i.toNat<(List.map Ln.a l).length))=true ↔ (i.toNat<l.length):=(by (try rw [w1]);all_goals exact Zaa)
  obtain ⟨k9,H⟩:=H
  have i11:(!(decide (i>0)==true&&((!decide (Sp.enP { n:=(l.getD i.toNat default).n,l:=(l.getD i.toNat default).l }))==false&&true))||decide (i.toNat<(List.map Ln.a l).length))=true ↔ (((i>0)/\(¬(¬(Sp.enP { n:=(l.getD i.toNat default).n,l:=(l.getD i.toNat default).l }))))->(i.toNat<l.length)):=(by (try rw [w1]);all_goals exact (Zdt (Zat (i_bt Zaa) (i_at (i_bf (Zas Zaa)))) Zaa))
  have i12:(!(decide (i>0)==true&&((!decide (Sp.enP { n:=(l.getD i.toNat default).n,l:=(l.getD i.toNat default).l }))==false&&true))||decide (0<=wi (i-1)))=true ↔ (((i>0)/\(¬(¬(Sp.enP { n:=(l.getD i.toNat default).n,l:=(l.getD i.toNat default).l }))))->(0<=i-1)):=(by (try rw [w5]);all_goals exact (Zdt (Zat (i_bt Zaa) (i_at (i_bf (Zas Zaa)))) Zaa))
  obtain ⟨k13,H⟩:=H
  have i14:(!(decide (i>0)==true&&((!decide (Sp.enP { n:=(l.getD i.toNat default).n,l:=(l.getD i.toNat default).l }))==false&&true))||decide ((wi (i-1)).toNat<(List.map Ln.a l).length))=true ↔ (((i>0)/\(¬(¬(Sp.enP { n:=(l.getD i.toNat default).n,l:=(l.getD i.toNat default).l }))))->((i-1).toNat<l.length)):=(by (try rw [w1]);(try rw [w5]);all_goals exact (Zdt (Zat (i_bt Zaa) (i_at (i_bf (Zas Zaa)))) Zaa))
  obtain ⟨k15,H⟩:=H
  refine Zac (G:=Zab kp27 [(9,4,.elem (zNpL1 l i)),(9,5,.call (vb (decide (Sp.enP { n:=(l.getD i.toNat default).n,l:=(l.getD i.toNat default).l }))) none),(9,16,.elem (zNpL1 l i)),(9,23,.elem (ag [vi (l.getD (i-1).toNat default).n,vi (l.getD (i-1).toNat default).l]))] []) 9 [true] ⟨(atC (cd Try.f27) [1,1,0,1,0,0,1,0,0,1]),[(1,AV.ptr 0 0 0 0),(4,vi i),(47,vb (bif !decide (Sp.enP { n:=(l.getD i.toNat default).n,l:=(l.getD i.toNat default).l }) then true else bif decide (i>0) then decide ((l.getD i.toNat default).n<=(l.getD (i-1).toNat default).n) else false))],[⟨[ag [vi A,vi B,vi C,vi D,vi E,vi F,vi G,vi I,vi J,vi K,vi N,vi O,vi R,vi T,vi U,vi V,vi Y,vi Z,AV.vec f 2 (List.map Ln.a l)]],19,0,false,false⟩],[true,(decide (i<(↑(List.map Ln.a l).length:Int)))==true,true,decide (0<=i),decide (i.toNat<(List.map Ln.a l).length),!(decide (i>0)==true&&((!decide (Sp.enP { n:=(l.getD i.toNat default).n,l:=(l.getD i.toNat default).l }))==false&&true))||true,!(decide (i>0)==true&&((!decide (Sp.enP { n:=(l.getD i.toNat default).n,l:=(l.getD i.toNat default).l }))==false&&true))||decide (0<=i),!(decide (i>0)==true&&((!decide (Sp.enP { n:=(l.getD i.toNat default).n,l:=(l.getD i.toNat default).l }))==false&&true))||decide (i.toNat<(List.map Ln.a l).length),!(decide (i>0)==true&&((!decide (Sp.enP { n:=(l.getD i.toNat default).n,l:=(l.getD i.toNat default).l }))==false&&true))||true,!(decide (i>0)==true&&((!decide (Sp.enP { n:=(l.getD i.toNat default).n,l:=(l.getD i.toNat default).l }))==false&&true))||decide (0<=wi (i-1)),!(decide (i>0)==true&&((!decide (Sp.enP { n:=(l.getD i.toNat default).n,l:=(l.getD i.toNat default).l }))==false&&true))||decide ((wi (i-1)).toNat<(List.map Ln.a l).length)],[((List.map Ln.a l).get?Internal i.toNat=some (zNpL1 l i)),((decide (i>0)==true&&((!decide (Sp.enP { n:=(l.getD i.toNat default).n,l:=(l.getD i.toNat default).l }))==false&&true))=true->(List.map Ln.a l).get?Internal i.toNat=some (zNpL1 l i)),((decide (i>0)==true&&((!decide (Sp.enP { n:=(l.getD i.toNat default).n,l:=(l.getD i.toNat default).l }))==false&&true))=true->(List.map Ln.a l).get?Internal (wi (i-1)).toNat=some (ag [vi (l.getD (i-1).toNat default).n,vi (l.getD (i-1).toNat default).l]))],_⟩ (by kernel_rfl) (bc rfl (bc (Zak (i2.2 d3)) (bc rfl (bc (Zaa.2 k7) (bc (i8.2 k9) (bc (Bool.or_true _) (bc ((Zdt (Zat (i_bt Zaa) (i_at (i_bf (Zas Zaa)))) Zaa).2 (fun _=>k7)) (bc (i11.2 (fun _=>k9)) (bc (Bool.or_true _) (bc (i12.2 k13) (bc (i14.2 k15) b0))))))))))) (qc (Zap k9) (qc (fun h=>Zap k9) (qc (by (try rw [w5]);all_goals exact (fun h=>Zap (k15 ((Zat (i_bt Zaa) (i_at (i_bf (Zas Zaa)))).1 h)))) q0))) (ce (@ev68 ((l.getD i.toNat default).n) ((l.getD i.toNat default).l)) c0) ?_
  rcases xq H with ⟨d19,H⟩|⟨d19,H⟩
  ·exact Zae (G:=Zab kp27 [] []) 1000 [true] (vi 1) (by kernel_rfl) (bc (Zak ((Zar (Zas Zaa) (Zck Zaa Zaa)).2 d19)) b0) q0 c0 H
  ·obtain ⟨k20,H⟩:=H
   have w21:wi (i+1)=i+1:=wI64 k20
   exact Zac (G:=Zab kp27 [] []) 1000 [false] ⟨(atC (cd Try.f27) [1,1,0,1,0,0]),[(1,AV.ptr 0 0 0 0),(4,vi (wi (i+1)))],[⟨[ag [vi A,vi B,vi C,vi D,vi E,vi F,vi G,vi I,vi J,vi K,vi N,vi O,vi R,vi T,vi U,vi V,vi Y,vi Z,AV.vec f 2 (List.map Ln.a l)]],19,0,false,false⟩],_,[],_⟩ (by kernel_rfl) (bc (Zah (fun h=>d19 ((Zar (Zas Zaa) (Zck Zaa Zaa)).1 h))) b0) q0 c0 (by (try rw [w21]);all_goals exact H)
 ·exact Zae (G:=Zab kp27 [] []) 1000 [false] (vi 0) (by kernel_rfl) (bc rfl (bc (Zah (fun h=>d3 (i2.1 h))) b0)) q0 c0 H
theorem tVdR0 (f:Bool) (l:List Ln) (A B C D E F G I J K N O R T U V Y Z:Int)  (dq:AV) (H :
  ((¬Sp.pP A B C)->vi 1=dq) /\
  (¬(¬Sp.pP A B C)->tVdR1_at f l A B C D E F G I J K N O R T U V Y Z (Zad dq))) :
 tVdR0_at f l A B C D E F G I J K N O R T U V Y Z (Zad dq):=by
 unfold tVdR0_at
 refine Zac (G:=Zab kp27 [(4,4,.call (vb (decide ¬Sp.pP A B C)) none)] []) 9 [true] ⟨(atC (cd Try.f27) [1,0,1,0,0,1,0,0,1]),[(1,AV.ptr 0 0 0 0),(3,vi 0),(13,vb (decide ¬Sp.pP A B C))],[⟨[ag [vi A,vi B,vi C,vi D,vi E,vi F,vi G,vi I,vi J,vi K,vi N,vi O,vi R,vi T,vi U,vi V,vi Y,vi Z,AV.vec f 2 (List.map Ln.a l)]],19,0,false,false⟩],_,[],_⟩ (by kernel_rfl) (bc rfl (bc rfl (bc rfl (bc rfl b0)))) q0 (ce (@ev67 A B C) c0) ?_
 rcases xq H with ⟨d2,H⟩|⟨d2,H⟩
 ·exact Zae (G:=Zab kp27 [] []) 1000 [true] (vi 1) (by kernel_rfl) (bc (Zak (Zaa.2 d2)) b0) q0 c0 H
 ·exact Zac (G:=Zab kp27 [] []) 1000 [false] ⟨(atC (cd Try.f27) [1,0,1,0,0]),[(1,AV.ptr 0 0 0 0),(3,vi 1)],[⟨[ag [vi A,vi B,vi C,vi D,vi E,vi F,vi G,vi I,vi J,vi K,vi N,vi O,vi R,vi T,vi U,vi V,vi Y,vi Z,AV.vec f 2 (List.map Ln.a l)]],19,0,false,false⟩],_,[],_⟩ (by kernel_rfl) (bc (Zah (fun h=>d2 (Zaa.1 h))) b0) q0 c0 H
theorem tVdR1 (f:Bool) (l:List Ln) (A B C D E F G I J K N O R T U V Y Z:Int)  (dq:AV) (H :
  ((¬Sp.pP D E F)->vi 1=dq) /\
  (¬(¬Sp.pP D E F)->tVdR2_at f l A B C D E F G I J K N O R T U V Y Z (Zad dq))) :
 tVdR1_at f l A B C D E F G I J K N O R T U V Y Z (Zad dq):=by
 unfold tVdR1_at
 refine Zac (G:=Zab kp27 [(4,4,.call (vb (decide ¬Sp.pP D E F)) none)] []) 9 [true] ⟨(atC (cd Try.f27) [1,0,1,0,0,1,0,0,1]),[(1,AV.ptr 0 0 0 0),(3,vi 1),(13,vb (decide ¬Sp.pP D E F))],[⟨[ag [vi A,vi B,vi C,vi D,vi E,vi F,vi G,vi I,vi J,vi K,vi N,vi O,vi R,vi T,vi U,vi V,vi Y,vi Z,AV.vec f 2 (List.map Ln.a l)]],19,0,false,false⟩],_,[],_⟩ (by kernel_rfl) (bc rfl (bc rfl (bc rfl (bc rfl b0)))) q0 (ce (@ev67 D E F) c0) ?_
 rcases xq H with ⟨d2,H⟩|⟨d2,H⟩
 ·exact Zae (G:=Zab kp27 [] []) 1000 [true] (vi 1) (by kernel_rfl) (bc (Zak (Zaa.2 d2)) b0) q0 c0 H
 ·exact Zac (G:=Zab kp27 [] []) 1000 [false] ⟨(atC (cd Try.f27) [1,0,1,0,0]),[(1,AV.ptr 0 0 0 0),(3,vi 2)],[⟨[ag [vi A,vi B,vi C,vi D,vi E,vi F,vi G,vi I,vi J,vi K,vi N,vi O,vi R,vi T,vi U,vi V,vi Y,vi Z,AV.vec f 2 (List.map Ln.a l)]],19,0,false,false⟩],_,[],_⟩ (by kernel_rfl) (bc (Zah (fun h=>d2 (Zaa.1 h))) b0) q0 c0 H
theorem tVdR2 (f:Bool) (l:List Ln) (A B C D E F G I J K N O R T U V Y Z:Int)  (dq:AV) (H :
  ((¬Sp.pP G I J)->vi 1=dq) /\
  (¬(¬Sp.pP G I J)->tVdR3_at f l A B C D E F G I J K N O R T U V Y Z (Zad dq))) :
 tVdR2_at f l A B C D E F G I J K N O R T U V Y Z (Zad dq):=by
 unfold tVdR2_at
 refine Zac (G:=Zab kp27 [(4,4,.call (vb (decide ¬Sp.pP G I J)) none)] []) 9 [true] ⟨(atC (cd Try.f27) [1,0,1,0,0,1,0,0,1]),[(1,AV.ptr 0 0 0 0),(3,vi 2),(13,vb (decide ¬Sp.pP G I J))],[⟨[ag [vi A,vi B,vi C,vi D,vi E,vi F,vi G,vi I,vi J,vi K,vi N,vi O,vi R,vi T,vi U,vi V,vi Y,vi Z,AV.vec f 2 (List.map Ln.a l)]],19,0,false,false⟩],_,[],_⟩ (by kernel_rfl) (bc rfl (bc rfl (bc rfl (bc rfl b0)))) q0 (ce (@ev67 G I J) c0) ?_
 rcases xq H with ⟨d2,H⟩|⟨d2,H⟩
 ·exact Zae (G:=Zab kp27 [] []) 1000 [true] (vi 1) (by kernel_rfl) (bc (Zak (Zaa.2 d2)) b0) q0 c0 H
 ·exact Zac (G:=Zab kp27 [] []) 1000 [false] ⟨(atC (cd Try.f27) [1,0,1,0,0]),[(1,AV.ptr 0 0 0 0),(3,vi 3)],[⟨[ag [vi A,vi B,vi C,vi D,vi E,vi F,vi G,vi I,vi J,vi K,vi N,vi O,vi R,vi T,vi U,vi V,vi Y,vi Z,AV.vec f 2 (List.map Ln.a l)]],19,0,false,false⟩],_,[],_⟩ (by kernel_rfl) (bc (Zah (fun h=>d2 (Zaa.1 h))) b0) q0 c0 H
theorem tVdR3 (f:Bool) (l:List Ln) (A B C D E F G I J K N O R T U V Y Z:Int)  (dq:AV) (H :
  ((¬Sp.pP K N O)->vi 1=dq) /\
  (¬(¬Sp.pP K N O)->tVdR4_at f l A B C D E F G I J K N O R T U V Y Z (Zad dq))) :
 tVdR3_at f l A B C D E F G I J K N O R T U V Y Z (Zad dq):=by
 unfold tVdR3_at
 refine Zac (G:=Zab kp27 [(4,4,.call (vb (decide ¬Sp.pP K N O)) none)] []) 9 [true] ⟨(atC (cd Try.f27) [1,0,1,0,0,1,0,0,1]),[(1,AV.ptr 0 0 0 0),(3,vi 3),(13,vb (decide ¬Sp.pP K N O))],[⟨[ag [vi A,vi B,vi C,vi D,vi E,vi F,vi G,vi I,vi J,vi K,vi N,vi O,vi R,vi T,vi U,vi V,vi Y,vi Z,AV.vec f 2 (List.map Ln.a l)]],19,0,false,false⟩],_,[],_⟩ (by kernel_rfl) (bc rfl (bc rfl (bc rfl (bc rfl b0)))) q0 (ce (@ev67 K N O) c0) ?_
 rcases xq H with ⟨d2,H⟩|⟨d2,H⟩
 ·exact Zae (G:=Zab kp27 [] []) 1000 [true] (vi 1) (by kernel_rfl) (bc (Zak (Zaa.2 d2)) b0) q0 c0 H
 ·exact Zac (G:=Zab kp27 [] []) 1000 [false] ⟨(atC (cd Try.f27) [1,0,1,0,0]),[(1,AV.ptr 0 0 0 0),(3,vi 4)],[⟨[ag [vi A,vi B,vi C,vi D,vi E,vi F,vi G,vi I,vi J,vi K,vi N,vi O,vi R,vi T,vi U,vi V,vi Y,vi Z,AV.vec f 2 (List.map Ln.a l)]],19,0,false,false⟩],_,[],_⟩ (by kernel_rfl) (bc (Zah (fun h=>d2 (Zaa.1 h))) b0) q0 c0 H
theorem tVdR4 (f:Bool) (l:List Ln) (A B C D E F G I J K N O R T U V Y Z:Int)  (dq:AV) (H :
  ((¬Sp.pP R T U)->vi 1=dq) /\
  (¬(¬Sp.pP R T U)->tVdR5_at f l A B C D E F G I J K N O R T U V Y Z (Zad dq))) :
 tVdR4_at f l A B C D E F G I J K N O R T U V Y Z (Zad dq):=by
 unfold tVdR4_at
 refine Zac (G:=Zab kp27 [(4,4,.call (vb (decide ¬Sp.pP R T U)) none)] []) 9 [true] ⟨(atC (cd Try.f27) [1,0,1,0,0,1,0,0,1]),[(1,AV.ptr 0 0 0 0),(3,vi 4),(13,vb (decide ¬Sp.pP R T U))],[⟨[ag [vi A,vi B,vi C,vi D,vi E,vi F,vi G,vi I,vi J,vi K,vi N,vi O,vi R,vi T,vi U,vi V,vi Y,vi Z,AV.vec f 2 (List.map Ln.a l)]],19,0,false,false⟩],_,[],_⟩ (by kernel_rfl) (bc rfl (bc rfl (bc rfl (bc rfl b0)))) q0 (ce (@ev67 R T U) c0) ?_
 rcases xq H with ⟨d2,H⟩|⟨d2,H⟩
 ·exact Zae (G:=Zab kp27 [] []) 1000 [true] (vi 1) (by kernel_rfl) (bc (Zak (Zaa.2 d2)) b0) q0 c0 H
 ·exact Zac (G:=Zab kp27 [] []) 1000 [false] ⟨(atC (cd Try.f27) [1,0,1,0,0]),[(1,AV.ptr 0 0 0 0),(3,vi 5)],[⟨[ag [vi A,vi B,vi C,vi D,vi E,vi F,vi G,vi I,vi J,vi K,vi N,vi O,vi R,vi T,vi U,vi V,vi Y,vi Z,AV.vec f 2 (List.map Ln.a l)]],19,0,false,false⟩],_,[],_⟩ (by kernel_rfl) (bc (Zah (fun h=>d2 (Zaa.1 h))) b0) q0 c0 H
theorem tVdR5 (f:Bool) (l:List Ln) (A B C D E F G I J K N O R T U V Y Z:Int)  (dq:AV) (H :
  ((¬Sp.pP V Y Z)->vi 1=dq) /\
  (¬(¬Sp.pP V Y Z)->tVdR6_at f l A B C D E F G I J K N O R T U V Y Z (Zad dq))) :
 tVdR5_at f l A B C D E F G I J K N O R T U V Y Z (Zad dq):=by
 unfold tVdR5_at
 refine Zac (G:=Zab kp27 [(4,4,.call (vb (decide ¬Sp.pP V Y Z)) none)] []) 9 [true] ⟨(atC (cd Try.f27) [1,0,1,0,0,1,0,0,1]),[(1,AV.ptr 0 0 0 0),(3,vi 5),(13,vb (decide ¬Sp.pP V Y Z))],[⟨[ag [vi A,vi B,vi C,vi D,vi E,vi F,vi G,vi I,vi J,vi K,vi N,vi O,vi R,vi T,vi U,vi V,vi Y,vi Z,AV.vec f 2 (List.map Ln.a l)]],19,0,false,false⟩],_,[],_⟩ (by kernel_rfl) (bc rfl (bc rfl (bc rfl (bc rfl b0)))) q0 (ce (@ev67 V Y Z) c0) ?_
 rcases xq H with ⟨d2,H⟩|⟨d2,H⟩
 ·exact Zae (G:=Zab kp27 [] []) 1000 [true] (vi 1) (by kernel_rfl) (bc (Zak (Zaa.2 d2)) b0) q0 c0 H
 ·exact Zac (G:=Zab kp27 [] []) 1000 [false] ⟨(atC (cd Try.f27) [1,0,1,0,0]),[(1,AV.ptr 0 0 0 0),(3,vi 6)],[⟨[ag [vi A,vi B,vi C,vi D,vi E,vi F,vi G,vi I,vi J,vi K,vi N,vi O,vi R,vi T,vi U,vi V,vi Y,vi Z,AV.vec f 2 (List.map Ln.a l)]],19,0,false,false⟩],_,[],_⟩ (by kernel_rfl) (bc (Zah (fun h=>d2 (Zaa.1 h))) b0) q0 c0 H
theorem tVdR6 (f:Bool) (l:List Ln) (A B C D E F G I J K N O R T U V Y Z:Int)  (dq:AV) (H :
  Zeu f l A B C D E F G I J K N O R T U V Y Z 0 (Zad dq)) :
 tVdR6_at f l A B C D E F G I J K N O R T U V Y Z (Zad dq):=by
 unfold tVdR6_at
 exact Zac (G:=Zab kp27 [] []) 1000 [false] ⟨(atC (cd Try.f27) [1,1,0,1,0,0]),[(1,AV.ptr 0 0 0 0),(4,vi 0)],[⟨[ag [vi A,vi B,vi C,vi D,vi E,vi F,vi G,vi I,vi J,vi K,vi N,vi O,vi R,vi T,vi U,vi V,vi Y,vi Z,AV.vec f 2 (List.map Ln.a l)]],19,0,false,false⟩],_,[],_⟩ (by kernel_rfl) (bc rfl b0) q0 c0 H
end Go.Av

namespace Go.Av
open Go.Proofs
namespace Sp
def six (A B C D E F G I J K N O R T U V Y Z:Int):Prop:=pP A B C/\pP D E F/\pP G I J/\pP K N O/\pP R T U/\pP V Y Z
instance (A B C D E F G I J K N O R T U V Y Z:Int):Decidable (six A B C D E F G I J K N O R T U V Y Z):=inferInstanceAs (Decidable (_/\_))
end Sp
theorem ev94 (f:Bool) (l:List Pp) (h:Sp.few l.length 1000000):Ev M1 (.pure 94 [.vec f 3 (l.map Pp.a),.func (.func 95) [] []]) (.bool (decide (¬∀ p ∈ l,Sp.okQ p))) []:=by
 refine call94 (tCf _ _ _ ⟨h,?_⟩)
 exact congrArg AV.bool (ZcH (ffi_ge l 0 (by omega)))
theorem ev94_a (A B C D E F G I J K N O R T U V Y Z:Int):Ev M1 (.pure 94 [.vec true 3 [.agg [.int .i64 A,.int .i64 B,.int .i64 C],.agg [.int .i64 D,.int .i64 E,.int .i64 F],.agg [.int .i64 G,.int .i64 I,.int .i64 J],.agg [.int .i64 K,.int .i64 N,.int .i64 O],.agg [.int .i64 R,.int .i64 T,.int .i64 U],.agg [.int .i64 V,.int .i64 Y,.int .i64 Z]],.func (.func 95) [] []]) (.bool (decide (¬Sp.six A B C D E F G I J K N O R T U V Y Z))) []:=by
 have r:=ev94 true [⟨A,B,C⟩,⟨D,E,F⟩,⟨G,I,J⟩,⟨K,N,O⟩,⟨R,T,U⟩,⟨V,Y,Z⟩] (show 6<=1000000 by decide)
 have e:decide (¬∀ p ∈ ([⟨A,B,C⟩,⟨D,E,F⟩,⟨G,I,J⟩,⟨K,N,O⟩,⟨R,T,U⟩,⟨V,Y,Z⟩]:List Pp),Sp.okQ p)=decide (¬Sp.six A B C D E F G I J K N O R T U V Y Z):=by
  refine ZcH (not_congr ?_)
  simp [Sp.okQ,Sp.six]
 rw [e] at r;exact r
end Go.Av

namespace Go.Av
open Go.Proofs
set_option maxRecDepth 100000
def fi69:Fi:=⟨36,[.tmp 2]⟩
def kp69:List (Nat × List Nat):=[(0,[1]),(1,[1,7]),(2,[2]),(3,[1,9,10,11]),(4,[1,9,10,11,12]),(5,[1,3,4,9,10,11]),(6,[1,9,10,11,34]),(7,[2]),(8,[1,9,10,11]),(9,[2])]
def tVd_at (f:Bool) (l:List Ln) (A B C D E F G I J K N O R T U V Y Z:Int) (Q:AV->Heap->Prop):Prop:=Wp M1 (.run fi69 (atC (cd Try.f69) []) [(0,.agg [.int .i64 A,.int .i64 B,.int .i64 C,.int .i64 D,.int .i64 E,.int .i64 F,.int .i64 G,.int .i64 I,.int .i64 J,.int .i64 K,.int .i64 N,.int .i64 O,.int .i64 R,.int .i64 T,.int .i64 U,.int .i64 V,.int .i64 Y,.int .i64 Z,.vec f 2 (l.map Ln.a)])] []) Q
def Zf3 (f:Bool) (l:List Ln) (A B C D E F G I J K N O R T U V Y Z:Int) (n i:Int) (Q:AV->Heap->Prop):Prop:=Wp M1 (.run fi69 (atC (cd Try.f69) [1,1,0,1,0,0]) [(1,.ptr 0 0 0 0),(9,.vec f 2 (l.map Ln.a)),(10,.int .i64 n),(11,.int .i64 i)] [⟨[.agg [.int .i64 A,.int .i64 B,.int .i64 C,.int .i64 D,.int .i64 E,.int .i64 F,.int .i64 G,.int .i64 I,.int .i64 J,.int .i64 K,.int .i64 N,.int .i64 O,.int .i64 R,.int .i64 T,.int .i64 U,.int .i64 V,.int .i64 Y,.int .i64 Z,.vec f 2 (l.map Ln.a)]],19,0,true,false⟩]) Q
theorem call69 {args:List AV} {d:AV} (h:wc M1 fi69 Try.f69 args d):Ev M1 (.pure 69 args) d []:=pcl _ _ (by kernel_rfl) h
theorem tVd (f:Bool) (l:List Ln) (A B C D E F G I J K N O R T U V Y Z:Int)  (dq:AV) (H :
  ((¬Sp.six A B C D E F G I J K N O R T U V Y Z)->vi 1=dq) /\
  (¬(¬Sp.six A B C D E F G I J K N O R T U V Y Z)->Zf3 f l A B C D E F G I J K N O R T U V Y Z ((↑l.length:Int)) 0 (Zad dq))) :
 tVd_at f l A B C D E F G I J K N O R T U V Y Z (Zad dq):=by
 unfold tVd_at
 refine Zac (G:=Zab kp69 [(1,2,.call (vb (decide ¬Sp.six A B C D E F G I J K N O R T U V Y Z)) none)] []) 5 [] ⟨(atC (cd Try.f69) [1,0,1]),[(1,AV.ptr 0 0 0 0),(7,vb (decide ¬Sp.six A B C D E F G I J K N O R T U V Y Z))],[⟨[ag [vi A,vi B,vi C,vi D,vi E,vi F,vi G,vi I,vi J,vi K,vi N,vi O,vi R,vi T,vi U,vi V,vi Y,vi Z,AV.vec f 2 (List.map Ln.a l)]],19,0,true,false⟩],_,[],_⟩ (by kernel_rfl) (bc rfl b0) q0 (ce (@ev94_a A B C D E F G I J K N O R T U V Y Z) c0) ?_
 rcases xq H with ⟨d2,H⟩|⟨d2,H⟩
 ·exact Zae (G:=Zab kp69 [] []) 1000 [true] (vi 1) (by kernel_rfl) (bc (Zak (Zaa.2 d2)) b0) q0 c0 H
 ·have w3:(List.map Ln.a l).length=l.length:=List.length_map ..
  exact Zac (G:=Zab kp69 [] []) 1000 [false] ⟨(atC (cd Try.f69) [1,1,0,1,0,0]),[(1,AV.ptr 0 0 0 0),(9,AV.vec f 2 (List.map Ln.a l)),(10,vi (↑(List.map Ln.a l).length:Int)),(11,vi 0)],[⟨[ag [vi A,vi B,vi C,vi D,vi E,vi F,vi G,vi I,vi J,vi K,vi N,vi O,vi R,vi T,vi U,vi V,vi Y,vi Z,AV.vec f 2 (List.map Ln.a l)]],19,0,true,false⟩],_,[],_⟩ (by kernel_rfl) (bc (Zah (fun h=>d2 (Zaa.1 h))) (bc rfl b0)) q0 c0 (by (try rw [w3]);all_goals exact H)
noncomputable abbrev ZfU (n:Int) (l:List Ln) (i:Int):=Sp.enP { n:=(l.getD i.toNat default).n,l:=(l.getD i.toNat default).l }
noncomputable abbrev zNpM2 (l:List Ln) (i:Int):=ag [vi (l.getD i.toNat default).n,vi (l.getD i.toNat default).l]
theorem tVdL (f:Bool) (l:List Ln) (A B C D E F G I J K N O R T U V Y Z:Int) (n i:Int)  (dq:AV) (H :
  ((i<n)->(0<=i) /\
   (i.toNat<l.length) /\
   (-9223372036854775808<=i-1/\i-1<=9223372036854775807) /\
   (((i>0)/\(¬(¬(Sp.enP { n:=(l.getD i.toNat default).n,l:=(l.getD i.toNat default).l }))))->(0<=i-1)) /\
   (((i>0)/\(¬(¬(Sp.enP { n:=(l.getD i.toNat default).n,l:=(l.getD i.toNat default).l }))))->((i-1).toNat<l.length)) /\
   (((¬(Sp.enP { n:=(l.getD i.toNat default).n,l:=(l.getD i.toNat default).l }))\/((i>0)/\((l.getD (i-1).toNat default).n>=(l.getD i.toNat default).n)))->vi 1=dq) /\
   (¬((¬(Sp.enP { n:=(l.getD i.toNat default).n,l:=(l.getD i.toNat default).l }))\/((i>0)/\((l.getD (i-1).toNat default).n>=(l.getD i.toNat default).n)))->(-9223372036854775808<=i+1/\i+1<=9223372036854775807) /\
    Zf3 f l A B C D E F G I J K N O R T U V Y Z n (i+1) (Zad dq))) /\
  (¬(i<n)->vi 0=dq)) :
 Zf3 f l A B C D E F G I J K N O R T U V Y Z n i (Zad dq):=by
 unfold Zf3
 rcases xq H with ⟨d2,H⟩|⟨d2,H⟩
 ·obtain ⟨k4,H⟩:=H
  have w5:(List.map Ln.a l).length=l.length:=List.length_map ..
  have i6:(decide (i.toNat<(List.map Ln.a l).length))=true ↔ (i.toNat<l.length):=(by (try rw [w5]);all_goals exact Zaa)
  obtain ⟨k7,k8,H⟩:=H
  have w9:wi (i-1)=i-1:=wI64 k8
  have i10:(!(decide (i>0)==true&&((!decide (ZfU n l i))==false&&true))||decide (0<=wi (i-1)))=true ↔ (((i>0)/\(¬(¬(ZfU n l i))))->(0<=i-1)):=(by (try rw [w9]);all_goals exact (Zdt (Zat (i_bt Zaa) (i_at (i_bf (Zas Zaa)))) Zaa))
  obtain ⟨k11,H⟩:=H
  have i12:(!(decide (i>0)==true&&((!decide (ZfU n l i))==false&&true))||decide ((wi (i-1)).toNat<(List.map Ln.a l).length))=true ↔ (((i>0)/\(¬(¬(ZfU n l i))))->((i-1).toNat<l.length)):=(by (try rw [w5]);(try rw [w9]);all_goals exact (Zdt (Zat (i_bt Zaa) (i_at (i_bf (Zas Zaa)))) Zaa))
  obtain ⟨k13,H⟩:=H
  refine Zac (G:=Zab kp69 [(5,2,.elem ((zNpM2 l i))),(6,1,.call (vb (decide (ZfU n l i))) none),(6,13,.elem (ag [vi (l.getD (i-1).toNat default).n,vi (l.getD (i-1).toNat default).l]))] []) 11 [true] ⟨(atC (cd Try.f69) [1,1,0,1,0,0,1,1,0,0,1,1]),[(1,AV.ptr 0 0 0 0),(9,AV.vec f 2 (List.map Ln.a l)),(10,vi n),(11,vi i),(34,vb (bif !decide (ZfU n l i) then true else bif decide (i>0) then decide ((l.getD (i-1).toNat default).n>=(l.getD i.toNat default).n) else false))],[⟨[ag [vi A,vi B,vi C,vi D,vi E,vi F,vi G,vi I,vi J,vi K,vi N,vi O,vi R,vi T,vi U,vi V,vi Y,vi Z,AV.vec f 2 (List.map Ln.a l)]],19,0,true,false⟩,⟨[(zNpM2 l i)],2,0,false,false⟩],[(decide (i<n))==true,decide (0<=i),decide (i.toNat<(List.map Ln.a l).length),true,true,!(decide (i>0)==true&&((!decide (ZfU n l i))==false&&true))||true,!(decide (i>0)==true&&((!decide (ZfU n l i))==false&&true))||decide (0<=wi (i-1)),!(decide (i>0)==true&&((!decide (ZfU n l i))==false&&true))||decide ((wi (i-1)).toNat<(List.map Ln.a l).length),!(decide (i>0)==true&&((!decide (ZfU n l i))==false&&true))||true],[((List.map Ln.a l).get?Internal i.toNat=some ((zNpM2 l i))),((decide (i>0)==true&&((!decide (ZfU n l i))==false&&true))=true->(List.map Ln.a l).get?Internal (wi (i-1)).toNat=some (ag [vi (l.getD (i-1).toNat default).n,vi (l.getD (i-1).toNat default).l]))],_⟩ (by kernel_rfl) (bc (Zak (Zaa.2 d2)) (bc (Zaa.2 k4) (bc (i6.2 k7) (bc rfl (bc rfl (bc (Bool.or_true _) (bc (i10.2 k11) (bc (i12.2 k13) (bc (Bool.or_true _) b0))))))))) (qc (Zap k7) (qc (by (try rw [w9]);all_goals exact (fun h=>Zap (k13 ((Zat (i_bt Zaa) (i_at (i_bf (Zas Zaa)))).1 h)))) q0)) (ce (@ev96 ((l.getD i.toNat default).n) ((l.getD i.toNat default).l)) c0) ?_
  rcases xq H with ⟨d16,H⟩|⟨d16,H⟩
  ·exact Zae (G:=Zab kp69 [] []) 1000 [true] (vi 1) (by kernel_rfl) (bc (Zak ((Zar (Zas Zaa) (Zck Zaa Zaa)).2 d16)) b0) q0 c0 H
  ·obtain ⟨k17,H⟩:=H
   have w18:wi (i+1)=i+1:=wI64 k17
   exact Zac (G:=Zab kp69 [] []) 1000 [false] ⟨(atC (cd Try.f69) [1,1,0,1,0,0]),[(1,AV.ptr 0 0 0 0),(9,AV.vec f 2 (List.map Ln.a l)),(10,vi n),(11,vi (wi (i+1)))],[⟨[ag [vi A,vi B,vi C,vi D,vi E,vi F,vi G,vi I,vi J,vi K,vi N,vi O,vi R,vi T,vi U,vi V,vi Y,vi Z,AV.vec f 2 (List.map Ln.a l)]],19,0,true,false⟩,⟨[(zNpM2 l i)],2,0,false,false⟩],_,[],_⟩ (by kernel_rfl) (bc (Zah (fun h=>d16 ((Zar (Zas Zaa) (Zck Zaa Zaa)).1 h))) b0) q0 c0 (by (try rw [w18]);all_goals exact ZaV [0] (by kernel_rfl) H)
 ·exact Zae (G:=Zab kp69 [] []) 1000 [false] (vi 0) (by kernel_rfl) (bc (Zah (fun h=>d2 (Zaa.1 h))) b0) q0 c0 H
end Go.Av

namespace Go.Av
open Go.Proofs
namespace Sp
def bdL (l:List Ln) (i:Nat):Prop:=¬enP ⟨(l.getD i default).n,(l.getD i default).l⟩\/0<i/\(l.getD i default).n<=(l.getD (i-1) default).n
open Classical in
noncomputable def tvF (l:List Ln) (i:Nat):Int:=if ∃ j,i<=j/\j<l.length/\bdL l j then 1 else 0
noncomputable def tv (A B C D E F G I J K N O R T U V Y Z:Int) (l:List Ln):Int:=if six A B C D E F G I J K N O R T U V Y Z then tvF l 0 else 1
end Sp
theorem tvF_stop {l:List Ln} {i:Nat} (h:l.length<=i):Sp.tvF l i=0:=if_neg fun ⟨j,h1,h2,_⟩=>by omega
theorem tvF_bad {l:List Ln} {i:Nat} (h:i<l.length) (k:Sp.bdL l i):Sp.tvF l i=1:=if_pos ⟨i,by omega,h,k⟩
theorem tvF_go {l:List Ln} {i:Nat} (k:¬Sp.bdL l i):Sp.tvF l i=Sp.tvF l (i+1):=by
 unfold Sp.tvF
 have e:(∃ j,i<=j/\j<l.length/\Sp.bdL l j) ↔ ∃ j,i+1<=j/\j<l.length/\Sp.bdL l j:=by
  constructor
  ·rintro ⟨j,h1,h2,h3⟩
   refine ⟨j,?_,h2,h3⟩
   rcases Nat.lt_or_ge i j with x | x
   ·exact x
   ·have:j=i:=by omega
    subst this;exact absurd h3 k
  ·rintro ⟨j,h1,h2,h3⟩
   exact ⟨j,by omega,h2,h3⟩
 by_cases x:∃ j,i+1<=j/\j<l.length/\Sp.bdL l j
 ·rw [if_pos (e.2 x),if_pos x]
 ·rw [if_neg fun y=>x (e.1 y),if_neg x]
theorem bdL_iff (l:List Ln) (i:Nat):((¬Sp.enP ⟨(l.getD i default).n,(l.getD i default).l⟩)\/(((i:Int)>0)/\(l.getD i default).n<=(l.getD ((i:Int)-1).toNat default).n)) ↔ Sp.bdL l i:=by
 have e:((i:Int)-1).toNat=i-1:=by omega
 unfold Sp.bdL
 rw [e]
 constructor <;> rintro (h | h)
 ·exact .inl h
 ·exact .inr ⟨by omega,h.2⟩
 ·exact .inl h
 ·exact .inr ⟨by omega,h.2⟩
theorem tVdL_loop (f:Bool) (l:List Ln) (A B C D E F G I J K N O R T U V Y Z:Int) (hl:l.length<=1000000):∀ (k i:Nat),i+k=l.length->Zf3 f l A B C D E F G I J K N O R T U V Y Z (l.length:Int) (i:Int) (Zad (.int .i64 (Sp.tvF l i))):=by
 intro k
 induction k with
 | zero =>
  intro i hi
  refine tVdL _ _ _ _ _ _ _ _ _ _ _ _ _ _ _ _ _ _ _ _ _ _ _ ⟨fun h=>absurd h (by omega),fun _ => ?_⟩
  rw [tvF_stop (by omega)]
 | succ k ih =>
  intro i hi
  have hlt:i<l.length:=by omega
  have e:((i:Int)).toNat=i:=Int.toNat_natCast i
  have e3:((i:Int)+1)=((i+1:Nat):Int):=by omega
  refine tVdL _ _ _ _ _ _ _ _ _ _ _ _ _ _ _ _ _ _ _ _ _ _ _ ⟨fun _=>⟨by omega,by rw [e];exact hlt,by omega,fun x=>by omega,fun x=>by omega,fun h => ?_,fun h=>⟨by omega,?_⟩⟩,fun h=>absurd h (by omega)⟩
  ·rw [e] at h
   rw [tvF_bad hlt ((bdL_iff l i).1 h)]
  ·rw [e] at h
   rw [tvF_go fun x=>h ((bdL_iff l i).2 x),e3]
   exact ih (i+1) (by omega)
theorem tVdRL_loop (f:Bool) (l:List Ln) (A B C D E F G I J K N O R T U V Y Z:Int) (hl:l.length<=1000000):∀ (k i:Nat),i+k=l.length->Zeu f l A B C D E F G I J K N O R T U V Y Z (i:Int) (Zad (.int .i64 (Sp.tvF l i))):=by
 intro k
 induction k with
 | zero =>
  intro i hi
  refine tVdRL _ _ _ _ _ _ _ _ _ _ _ _ _ _ _ _ _ _ _ _ _ _ ⟨fun h=>absurd h (by omega),fun _ => ?_⟩
  rw [tvF_stop (by omega)]
 | succ k ih =>
  intro i hi
  have hlt:i<l.length:=by omega
  have e:((i:Int)).toNat=i:=Int.toNat_natCast i
  have e3:((i:Int)+1)=((i+1:Nat):Int):=by omega
  refine tVdRL _ _ _ _ _ _ _ _ _ _ _ _ _ _ _ _ _ _ _ _ _ _ ⟨fun _=>⟨by omega,by omega,by rw [e];exact hlt,fun x=>by omega,fun x=>by omega,fun h => ?_,fun h=>⟨by omega,?_⟩⟩,fun h=>absurd h (by omega)⟩
  ·rw [e] at h
   rw [tvF_bad hlt ((bdL_iff l i).1 h)]
  ·rw [e] at h
   rw [tvF_go fun x=>h ((bdL_iff l i).2 x),e3]
   exact ih (i+1) (by omega)
theorem ev69 (f:Bool) (l:List Ln) (A B C D E F G I J K N O R T U V Y Z:Int) (h:Sp.few l.length 1000000):Ev M1 (.pure 69 [.agg [.int .i64 A,.int .i64 B,.int .i64 C,.int .i64 D,.int .i64 E,.int .i64 F,.int .i64 G,.int .i64 I,.int .i64 J,.int .i64 K,.int .i64 N,.int .i64 O,.int .i64 R,.int .i64 T,.int .i64 U,.int .i64 V,.int .i64 Y,.int .i64 Z,.vec f 2 (l.map Ln.a)]]) (.int .i64 (Sp.tv A B C D E F G I J K N O R T U V Y Z l)) []:=by
 refine call69 (tVd _ _ _ _ _ _ _ _ _ _ _ _ _ _ _ _ _ _ _ _ _ ⟨fun k => ?_,fun k => ?_⟩)
 ·unfold Sp.tv;rw [if_neg k]
 ·unfold Sp.tv;rw [if_pos (Classical.not_not.1 k)]
  exact tVdL_loop f l A B C D E F G I J K N O R T U V Y Z h l.length 0 (by omega)
theorem ev27 (f:Bool) (l:List Ln) (A B C D E F G I J K N O R T U V Y Z:Int) (h:Sp.few l.length 1000000):Ev M1 (.pure 27 [.agg [.int .i64 A,.int .i64 B,.int .i64 C,.int .i64 D,.int .i64 E,.int .i64 F,.int .i64 G,.int .i64 I,.int .i64 J,.int .i64 K,.int .i64 N,.int .i64 O,.int .i64 R,.int .i64 T,.int .i64 U,.int .i64 V,.int .i64 Y,.int .i64 Z,.vec f 2 (l.map Ln.a)]]) (.int .i64 (Sp.tv A B C D E F G I J K N O R T U V Y Z l)) []:=by
 have no:¬Sp.six A B C D E F G I J K N O R T U V Y Z->AV.int .i64 1 = .int .i64 (Sp.tv A B C D E F G I J K N O R T U V Y Z l):=fun k=>by unfold Sp.tv;rw [if_neg k]
 refine call27 (tVdR _ _ _ _ _ _ _ _ _ _ _ _ _ _ _ _ _ _ _ _ _ ?_)
 refine tVdR0 _ _ _ _ _ _ _ _ _ _ _ _ _ _ _ _ _ _ _ _ _ ⟨fun k=>no fun q=>k q.1,fun k0 => ?_⟩
 refine tVdR1 _ _ _ _ _ _ _ _ _ _ _ _ _ _ _ _ _ _ _ _ _ ⟨fun k=>no fun q=>k q.2.1,fun k1 => ?_⟩
 refine tVdR2 _ _ _ _ _ _ _ _ _ _ _ _ _ _ _ _ _ _ _ _ _ ⟨fun k=>no fun q=>k q.2.2.1,fun k2 => ?_⟩
 refine tVdR3 _ _ _ _ _ _ _ _ _ _ _ _ _ _ _ _ _ _ _ _ _ ⟨fun k=>no fun q=>k q.2.2.2.1,fun k3 => ?_⟩
 refine tVdR4 _ _ _ _ _ _ _ _ _ _ _ _ _ _ _ _ _ _ _ _ _ ⟨fun k=>no fun q=>k q.2.2.2.2.1,fun k4 => ?_⟩
 refine tVdR5 _ _ _ _ _ _ _ _ _ _ _ _ _ _ _ _ _ _ _ _ _ ⟨fun k=>no fun q=>k q.2.2.2.2.2,fun k5 => ?_⟩
 refine tVdR6 _ _ _ _ _ _ _ _ _ _ _ _ _ _ _ _ _ _ _ _ _ ?_
 have s:Sp.six A B C D E F G I J K N O R T U V Y Z:=⟨Classical.not_not.1 k0,Classical.not_not.1 k1,Classical.not_not.1 k2,Classical.not_not.1 k3,Classical.not_not.1 k4,Classical.not_not.1 k5⟩
 unfold Sp.tv;rw [if_pos s]
 exact tVdRL_loop f l A B C D E F G I J K N O R T U V Y Z h l.length 0 (by omega)
end Go.Av
