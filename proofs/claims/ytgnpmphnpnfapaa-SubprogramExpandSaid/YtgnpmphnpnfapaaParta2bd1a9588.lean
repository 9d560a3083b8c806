/- PART 6 of the texts of a claim, joined by a program: what each part shows stands at its head. -/
import Derived.Test.YtgnpmphnpnfapaaPartb257b33beb

namespace Go.Av
open Go.RowKit
theorem wp_narrowZ {M:Mach} {fi:Fi} {k:List Item} {env env':Vars} {L Lc:Heap} {d:AV} {K:Heap} (n:Nat) (rs:List Nat) (hk:frzOk n K = true) (hrs:rs.take n = List.range n) (hn:narrowIn L rs env = some (env',Lc)) (h:Wp M (.run fi k env' Lc) (FrzQ d K)):Wp M (.run fi k env L) (FrzQ d K):=by
 unfold frzOk at hk
 simp only [Bool.and_eq_true,List.all_eq_true,Nat.blt_eq,Nat.beq_eq] at hk
 obtain ⟨k1,k2⟩:=hk
 refine .narrow rs env' Lc hn (.mono h fun v L1 ⟨q1,q2,q3,q4⟩ => ?_)
 unfold narrowIn at hn
 split at hn
 ·rename_i rows0 hrows
  split at hn
  ·rename_i hc
   simp only [Bool.and_eq_true] at hc
   have hnd:=(noDup_iff rs).1 hc.1
   obtain ⟨g1,g2⟩:=getRows_spec hrows
   have hlen:n <= rs.length:=by
    have:=congrArg List.length hrs
    rw [List.length_take,List.length_range] at this;omega
   have hat:∀ i,i < n -> rs[i]? = some i:=fun i hi => by
    have this:(rs.take n)[i]? = (List.range n)[i]?:=by rw [hrs]
    rw [List.getElem?_take_of_lt hi,List.getElem?_range hi] at this
    exact this
   have hlt:∀ (j:Nat) r,rs[j]? = some r -> r < L.length:=fun j r hj => by
    obtain ⟨row,w1,_⟩:=g2 j r hj
    exact (List.getElem?_eq_some_iff.1 w1).1
   have hle:n <= L.length:=by
    by_cases h0:n = 0
    ·omega
    ·have:=hlt (n - 1) _ (hat (n - 1) (by omega));omega
   have hb:∀ r,r < n -> backAt L.length rs r = r:=fun r hr => by
    unfold backAt
    rw [Nat.blt_eq.mpr (show r < rs.length by omega),cond_true,List.getD_eq_getElem?_getD,hat r hr];rfl
   have hbg:∀ r,n <= r -> n <= backAt L.length rs r:=fun r hr => by
    unfold backAt
    by_cases hlt2:r < rs.length
    ·rw [Nat.blt_eq.mpr hlt2,cond_true]
     have hg:rs[r]? = some (rs.getD r 0):=by rw [List.getD_eq_getElem?_getD,List.getElem?_eq_getElem hlt2];rfl
     refine Classical.byContradiction fun y => ?_
     have e1:=posOf_at hnd hg
     have e2:=posOf_at hnd (hat (rs.getD r 0) (by omega))
     omega
    ·have:Nat.blt r rs.length = false:=by
      cases hb:Nat.blt r rs.length with
      | false => rfl
      | true => exact (hlt2 (Nat.blt_eq.mp hb)).elim
     rw [this,cond_false];omega
   obtain ⟨p1,p2⟩:=pureA_ren (back_at (L1:=L1) hrows hnd) v q1
   refine ⟨p1,by rw [p2];exact q2,fun r hr => ?_,?_⟩
   ·rw [rowsA_ren] at hr
    obtain ⟨a,ha,rfl⟩:=List.mem_map.1 hr
    have:=q3 a ha
    rw [k1] at this ⊢
    exact hbg a this
   ·rw [k1] at q4 ⊢
    have hlL1:n <= L1.length:=by
     have:=congrArg List.length q4
     rw [List.length_take,k1] at this;omega
    apply List.ext_getElem?
    intro i
    by_cases hi:i < n
    ·rw [List.getElem?_take_of_lt hi]
     have e1:L1[i]? = K[i]?:=by rw [<- q4,List.getElem?_take_of_lt hi]
     have hKi:i < K.length:=by omega
     rw [List.getElem?_eq_getElem hKi] at e1 ⊢
     have:=back_at (L1:=L1) hrows hnd i _ e1
     rw [hb i hi] at this
     rw [this,renRow_same fun r hr => hb r (k2 _ (List.getElem_mem hKi) r hr)]
    ·rw [List.getElem?_eq_none (by rw [List.length_take];omega),List.getElem?_eq_none (by omega)]
  ·simp at hn
 ·simp at hn
end Go.Av

namespace Go.Av
open Go.Proofs
def DInv (E:Int -> List Bk) (dn:List AV):Prop:=mapKeys .i64 dn = true /\ ∀ n,(mapHas n dn = false -> mapVal (ofC (Value.slice none 0 0)) n dn = .vnil) /\ (mapHas n dn = true -> ∃ bf,mapVal (ofC (Value.slice none 0 0)) n dn = .vec bf 3 ((E n).map Bk.a))
theorem dinv0 (E:Int -> List Bk):DInv E []:=⟨rfl,fun n => ⟨fun _ => rfl,fun h => by cases h⟩⟩
theorem dinv_put {E:Int -> List Bk} {dn:List AV} (h:DInv E dn) (m:Int) (bf:Bool):DInv E (mapPut .i64 m (.vec bf 3 ((E m).map Bk.a)) dn):=by
 obtain ⟨h1,h2⟩:=h
 obtain ⟨a1,a2,a3⟩:=valM_put (n:=m) (v:=.vec bf 3 ((E m).map Bk.a)) h1
 refine ⟨a1,fun n => ⟨fun k => ?_,fun k => ?_⟩⟩
 ·rw [a2,Bool.or_eq_false_iff,decide_eq_false_iff_not] at k
  rw [a3,if_neg k.1];exact (h2 n).1 k.2
 ·rw [a3]
  by_cases e:n = m
  ·rw [if_pos e,e];exact ⟨bf,rfl⟩
  ·rw [if_neg e]
   rw [a2,decide_eq_false e,Bool.false_or] at k
   exact (h2 n).2 k
def ExpE (E:Int -> List Bk) (sm st dp sz:List AV) (bs:Bool) (l:List Bk) (r:List Bk):Prop:=∀ dn,DInv E dn -> ∃ bf dn1,Ev M1 (.own 46 [.ptr 0 0 0 0,.vec bs 3 (l.map Bk.a)] (XH sm st dp sz dn)) (.vec bf 3 (r.map Bk.a)) (XH sm st dp sz dn1) /\ DInv E dn1
theorem expand_in {sm st dp sz dn:List AV} {g bf:Bool} {l Y:List Bk} {n i:Int} {Q:AV -> Heap -> Prop} (hi:-9223372036854775808 <= i + 1 /\ i + 1 <= 9223372036854775807) {t:Nat} (ht:t <= 1000000):∀ (c k:Nat) (q:List Bk) (v:Nat),k + c = t -> q.length + c * Y.length <= 1000000 -> (∀ v,tvXaa_at sm st dp sz dn g l (q ++ Sp.rep c Y) v n (i + 1) Q) -> tvXra_at sm st dp sz dn g l q v bf Y t k n i Q:=by
 intro c
 induction c with
 | zero =>
  intro k q v hk _ h
  rw [rep_zero,List.append_nil] at h
  exact tvXra _ _ _ _ _ _ _ _ _ _ _ _ _ _ _ _ ⟨fun y => by omega,fun _ => ⟨hi,h v⟩⟩
 | succ c ih =>
  intro k q v hk hl h
  rw [rep_succ,<- List.append_assoc] at h
  rw [Nat.succ_mul] at hl
  refine tvXra _ _ _ _ _ _ _ _ _ _ _ _ _ _ _ _ ⟨fun _ => ⟨by omega,by omega,ih (k + 1) (q ++ Y) (v + 1) (by omega) (by rw [List.length_append];omega) h⟩,fun y => by omega⟩
theorem expand_loop {E:Int -> List Bk} {sm st dp sz:List AV} {g:Bool} {l:List Bk} {P:Int -> Prop} (hsm:mapKeys .i64 sm = true) (hl:Sp.okBs l) (hlen:(Sp.xpd E l).length <= 1000000) (hP:∀ x ∈ l,Sp.cIs x.ws = true -> P (Sp.cN x.ws))
  (hrec:∀ m,P m -> (E m).length <= 1000000 -> ∃ bs S,mapVal (ofC (Value.slice none 0 0)) m sm = .vec bs 3 (S.map Bk.a) /\ ExpE E sm st dp sz bs S (E m)) :
  ∀ (c i:Nat) (q:List Bk) (dn:List AV),i + c = l.length -> q ++ Sp.xpd E (l.drop i) = Sp.xpd E l -> DInv E dn ->
  ∃ bf dn1,DInv E dn1 /\ (q = [] -> tvXaz_at sm st dp sz dn g l l.length i (FrzQ (.vec bf 3 ((Sp.xpd E l).map Bk.a)) (XH sm st dp sz dn1))) /\ (q ≠ [] -> ∀ v,tvXaa_at sm st dp sz dn g l q v l.length i (FrzQ (.vec bf 3 ((Sp.xpd E l).map Bk.a)) (XH sm st dp sz dn1))):=by
 have hll:=hl.1
 intro c
 induction c with
 | zero =>
  intro i q dn hi he hD
  rw [List.drop_eq_nil_of_le (by omega),show Sp.xpd E [] = [] from rfl,List.append_nil] at he
  subst he
  cases hx:Sp.xpd E l with
  | nil =>
   refine ⟨true,dn,hD,fun _ => ?_,fun h => (h rfl).elim⟩
   refine wp_vnil (es:=3) hm1 (tvXaz _ _ _ _ _ _ _ _ _ _ ⟨fun h => by omega,fun _ => .inr ⟨rfl,rfl,fun b hb => (by cases hb),fun r hr => (by cases hr),rfl⟩⟩:tvXaz_at sm st dp sz dn g l l.length i _)
  | cons y Y =>
   refine ⟨false,dn,hD,fun h => (by cases h),fun _ v => ?_⟩
   refine tvXaa _ _ _ _ _ _ _ _ _ _ _ _ ⟨fun h => by omega,fun _ => ⟨rfl,fun b hb => ?_,fun r hr => ?_,rfl⟩⟩
   ·rw [List.mem_singleton.1 hb];simp [verOk]
   ·rw [List.mem_singleton.1 hr];exact Nat.le_refl 6
 | succ c ih =>
  intro i q dn hi he hD
  have hx:l.getD i default ∈ l:=getD_mem (by omega)
  have hw:=hl.2 _ hx
  rw [drop_getD (show i < l.length by omega),xpd_cons,<- List.append_assoc] at he
  have htot:=congrArg List.length he
  rw [List.length_append,List.length_append] at htot
  by_cases k:Sp.cIs (l.getD i default).ws = true
  ·rw [if_pos k] at he htot
   have hct:=(cIs_at k).1
   have hpm:=hP _ hx k
   have ht1:1 <= (Sp.cT (l.getD i default).ws).toNat:=by omega
   rw [rep_len] at htot
   have hE:(E (Sp.cN (l.getD i default).ws)).length <= (Sp.cT (l.getD i default).ws).toNat * (E (Sp.cN (l.getD i default).ws)).length:=Nat.le_mul_of_pos_left _ (by omega)
   obtain ⟨bs,S,hv,hrc⟩:=hrec _ hpm (by omega)
   have htc:((Sp.cT (l.getD i default).ws).toNat:Int) = Sp.cT (l.getD i default).ws:=Int.toNat_of_nonneg (by omega)
   have body:∀ dnB bf,DInv E dnB -> ∃ rf dn1,DInv E dn1 /\
     (((E (Sp.cN (l.getD i default).ws)).length:Int) = 0 -> (q = [] -> tvXaz_at sm st dp sz dnB g l l.length (i + 1) (FrzQ (.vec rf 3 ((Sp.xpd E l).map Bk.a)) (XH sm st dp sz dn1))) /\ (q ≠ [] -> ∀ v,tvXaa_at sm st dp sz dnB g l q v l.length (i + 1) (FrzQ (.vec rf 3 ((Sp.xpd E l).map Bk.a)) (XH sm st dp sz dn1)))) /\
     (¬((E (Sp.cN (l.getD i default).ws)).length:Int) = 0 -> (q = [] -> tvXra_at sm st dp sz dnB g l [] 0 bf (E (Sp.cN (l.getD i default).ws)) (Sp.cT (l.getD i default).ws) 0 l.length i (FrzQ (.vec rf 3 ((Sp.xpd E l).map Bk.a)) (XH sm st dp sz dn1)) /\ ∃ y Y,E (Sp.cN (l.getD i default).ws) = y :: Y /\ tvXrz_at sm st dp sz dnB g l bf y Y (Sp.cT (l.getD i default).ws) 0 l.length i (FrzQ (.vec rf 3 ((Sp.xpd E l).map Bk.a)) (XH sm st dp sz dn1))) /\ (q ≠ [] -> ∀ v,tvXra_at sm st dp sz dnB g l q v bf (E (Sp.cN (l.getD i default).ws)) (Sp.cT (l.getD i default).ws) 0 l.length i (FrzQ (.vec rf 3 ((Sp.xpd E l).map Bk.a)) (XH sm st dp sz dn1)))):=by
    intro dnB bf hB
    obtain ⟨rf,dn1,d1,d2,d3⟩:=ih (i + 1) (q ++ Sp.rep (Sp.cT (l.getD i default).ws).toNat (E (Sp.cN (l.getD i default).ws))) dnB (by omega) he hB
    refine ⟨rf,dn1,d1,fun h0 => ?_,fun h0 => ?_⟩
    ·have e0:E (Sp.cN (l.getD i default).ws) = []:=List.eq_nil_of_length_eq_zero (by omega)
     rw [e0,rep_nil,List.append_nil] at d2 d3
     exact ⟨d2,d3⟩
    ·have hne:q ++ Sp.rep (Sp.cT (l.getD i default).ws).toNat (E (Sp.cN (l.getD i default).ws)) ≠ []:=fun e => by
      have:=congrArg List.length e
      rw [List.length_append,rep_len,List.length_nil] at this
      omega
     have d3:=d3 hne
     rw [<- htc]
     refine ⟨fun hq => ?_,fun hq v => ?_⟩
     ·subst hq
      refine ⟨?_,?_⟩
      ·exact expand_in (t:=(Sp.cT (l.getD i default).ws).toNat) (by omega) (by omega) _ 0 [] 0 (by omega) (by rw [List.length_nil];omega) d3
      ·cases hEc:E (Sp.cN (l.getD i default).ws) with
       | nil => rw [hEc] at h0;exact (h0 rfl).elim
       | cons y Y =>
        rw [hEc] at d3 htot
        refine ⟨y,Y,rfl,tvXrz _ _ _ _ _ _ _ _ _ _ _ _ _ _ _ ⟨fun _ => ⟨?_,by omega,?_⟩,fun z => by omega⟩⟩
        ·simp only [List.length_cons] at hE htot;rw [hEc] at hE;simp only [List.length_cons] at hE;omega
        ·obtain ⟨t,ht⟩:∃ t,(Sp.cT (l.getD i default).ws).toNat = t + 1:=⟨(Sp.cT (l.getD i default).ws).toNat - 1,by omega⟩
         rw [ht] at d3 htot
         rw [rep_succ,List.nil_append] at d3
         rw [ht]
         rw [Nat.succ_mul] at htot
         exact expand_in (Y:=y :: Y) (bf:=bf) (t:=t + 1) (by omega) (by omega) t 1 (y :: Y) 0 (by omega) (by omega) d3
     ·exact expand_in (t:=(Sp.cT (l.getD i default).ws).toNat) (by omega) (by omega) _ 0 q v (by omega) (by omega) d3
   have top:∀ {Q:AV × List AV},(q = [] -> tvXkz_at sm st dp sz dn g l (Sp.cN (l.getD i default).ws) (Sp.cT (l.getD i default).ws) l.length i (FrzQ Q.1 (XH sm st dp sz Q.2))) -> (q ≠ [] -> ∀ v,tvXka_at sm st dp sz dn g l q v (Sp.cN (l.getD i default).ws) (Sp.cT (l.getD i default).ws) l.length i (FrzQ Q.1 (XH sm st dp sz Q.2))) ->
     (q = [] -> tvXaz_at sm st dp sz dn g l l.length i (FrzQ Q.1 (XH sm st dp sz Q.2))) /\ (q ≠ [] -> ∀ v,tvXaa_at sm st dp sz dn g l q v l.length i (FrzQ Q.1 (XH sm st dp sz Q.2))):=fun {Q:AV × List AV} hz ha => by
    refine ⟨fun hq => ?_,fun hq v => ?_⟩
    ·refine tvXaz _ _ _ _ _ _ _ _ _ _ ⟨fun _ => ?_,fun h => by omega⟩
     rw [Int.toNat_natCast]
     exact ⟨by omega,by omega,hw,fun y => (y k).elim,fun _ => wp_narrowZ 6 [0,1,2,3,4,5] (by kernel_rfl) rfl (by kernel_rfl) (hz hq)⟩
    ·refine tvXaa _ _ _ _ _ _ _ _ _ _ _ _ ⟨fun _ => ?_,fun h => by omega⟩
     rw [Int.toNat_natCast]
     exact ⟨by omega,by omega,hw,fun y => (y k).elim,fun _ => wp_narrowZ 6 [0,1,2,3,4,5,6] (by kernel_rfl) rfl (by kernel_rfl) (ha hq v)⟩
   cases hh:mapHas (Sp.cN (l.getD i default).ws) dn with
   | true =>
    obtain ⟨bf,hbf⟩:=(hD.2 _).2 hh
    obtain ⟨rf,dn1,d1,d2,d3⟩:=body dn bf hD
    obtain ⟨t1,t2⟩:=top (Q:=(_,dn1)) (fun hq => tvXkz _ _ _ _ _ _ _ _ _ _ _ bf (E (Sp.cN (l.getD i default).ws)) _ ⟨hD.1,hbf,fun y => (y hh).elim,fun _ => ⟨fun z => ⟨by omega,(d2 z).1 hq⟩,fun z => by
      obtain ⟨_,y,Y,e1,e2⟩:=(d3 z).1 hq
      rw [e1];exact e2⟩⟩) (fun hq v => tvXka _ _ _ _ _ _ _ _ _ _ _ _ _ bf (E (Sp.cN (l.getD i default).ws)) _ ⟨hD.1,hbf,fun y => (y hh).elim,fun _ => ⟨fun z => ⟨by omega,(d2 z).2 hq v⟩,fun z => (d3 z).2 hq v⟩⟩)
    exact ⟨rf,dn1,d1,t1,t2⟩
   | false =>
    obtain ⟨bf,dnA,a1,a2⟩:=hrc dn hD
    have hB:=dinv_put a2 (Sp.cN (l.getD i default).ws) bf
    obtain ⟨rf,dn1,d1,d2,d3⟩:=body _ bf hB
    have hnv:=(hD.2 _).1 hh
    obtain ⟨t1,t2⟩:=top (Q:=(_,dn1)) (fun hq => (tvXuz _ _ _ _ _ _ _ _ _ _ _ bs S bf (E (Sp.cN (l.getD i default).ws)) dnA _ ⟨hD.1,hnv,fun _ => ⟨a1,hsm,hv,a2.1,fun z => ⟨by omega,(d2 z).1 hq⟩,fun z => by
      obtain ⟨_,y,Y,e1,e2⟩:=(d3 z).1 hq
      rw [e1] at e2 ⊢;exact e2⟩,fun y => (y (by rw [hh];simp)).elim⟩:tvXuz_at _ _ _ _ _ _ _ _ _ _ _ _)) (fun hq v => (tvXua _ _ _ _ _ _ _ _ _ _ _ _ _ bs S bf (E (Sp.cN (l.getD i default).ws)) dnA _ ⟨hD.1,hnv,fun _ => ⟨a1,hsm,hv,a2.1,fun z => ⟨by omega,(d2 z).2 hq v⟩,fun z => (d3 z).2 hq v⟩,fun y => (y (by rw [hh];simp)).elim⟩:tvXua_at _ _ _ _ _ _ _ _ _ _ _ _ _ _))
    exact ⟨rf,dn1,d1,t1,t2⟩
  ·rw [if_neg k] at he htot
   obtain ⟨rf,dn1,d1,_,d3⟩:=ih (i + 1) (q ++ [l.getD i default]) dn (by omega) he hD
   have d3:=d3 (by simp)
   refine ⟨rf,dn1,d1,fun hq => ?_,fun hq v => ?_⟩
   ·subst hq
    refine tvXaz _ _ _ _ _ _ _ _ _ _ ⟨fun _ => ?_,fun h => by omega⟩
    rw [Int.toNat_natCast]
    exact ⟨by omega,by omega,hw,fun _ => ⟨by omega,wp_narrowZ 6 [0,1,2,3,4,5,7] (by kernel_rfl) rfl (by kernel_rfl) (d3 0)⟩,fun y => (y k).elim⟩
   ·refine tvXaa _ _ _ _ _ _ _ _ _ _ _ _ ⟨fun _ => ?_,fun h => by omega⟩
    rw [Int.toNat_natCast]
    exact ⟨by omega,by omega,hw,fun _ => ⟨by omega,by omega,wp_narrowZ 6 [0,1,2,3,4,5,6] (by kernel_rfl) rfl (by kernel_rfl) (d3 (v + 1))⟩,fun y => (y k).elim⟩
end Go.Av

namespace Go.Av
open Go.Proofs
theorem expand_ev {S:Int -> List Bk} {ns:List Int} {sm st dp sz:List AV} {N:Nat} (hs:MSub S ns sm):∀ (k:Nat) (g:Bool) (l:List Bk),k <= N -> Sp.okBs l -> (∀ x ∈ l,Sp.cIs x.ws = true -> Sp.cN x.ws ∈ ns /\ (Sp.V S k (Sp.cN x.ws)).isSome = true) -> (Sp.xpd (Sp.X S N) l).length <= 1000000 ->
  ExpE (Sp.X S N) sm st dp sz g l (Sp.xpd (Sp.X S N) l):=by
 intro k
 induction k with
 | zero =>
  intro g l hk hl hc hlen dn hD
  obtain ⟨bf,dn1,d1,d2,_⟩:=expand_loop (st:=st) (dp:=dp) (sz:=sz) (g:=g) (P:=fun _ => False) hs.1 hl hlen (fun x hx y => by have:=(hc x hx y).2;simp [Sp.V] at this) (fun m hm => hm.elim) l.length 0 [] dn (by omega) (by rw [List.drop_zero];rfl) hD
  refine ⟨bf,dn1,own_freeze hm1 rfl rfl (owncall46 (tvXp _ _ _ _ _ _ _ _ (d2 rfl))),d1⟩
 | succ k ih =>
  intro g l hk hl hc hlen dn hD
  obtain ⟨bf,dn1,d1,d2,_⟩:=expand_loop (st:=st) (dp:=dp) (sz:=sz) (g:=g) (P:=fun m => m ∈ ns /\ (Sp.V S (k + 1) m).isSome = true) hs.1 hl hlen hc (fun m hm hml => by
   obtain ⟨hb,bs,hv⟩:=hs.2.2.2 m hm.1
   have e:Sp.X S N m = Sp.xpd (Sp.X S N) (S m):=(X_mono1 N m (V_some hm.2 hk)).symm
   refine ⟨bs,S m,hv,?_⟩
   have:=ih bs (S m) (by omega) hb (fun x hx y => ⟨hs.2.2.1 m hm.1 x hx y,V_succ.1 hm.2 x hx y⟩) (by rw [<- e];exact hml)
   rw [e];exact this) l.length 0 [] dn (by omega) (by rw [List.drop_zero];rfl) hD
  refine ⟨bf,dn1,own_freeze hm1 rfl rfl (owncall46 (tvXp _ _ _ _ _ _ _ _ (d2 rfl))),d1⟩
end Go.Av

namespace Go.Av
open Go.Proofs
set_option maxRecDepth 100000
def fi47:Fi:=⟨8,[.tmp 2]⟩
def kp47:List (Nat × List Nat):=[(0,[0]),(1,[0,4]),(2,[2]),(3,[2])]
def tvWe_at (g:Bool) (Q:AV -> Heap -> Prop):Prop:=Wp M1 (.run fi47 (atC (cd Try.f47) []) [(0,.vec g 2 [])] []) Q
def tvWc_at (g:Bool) (y:Wo) (l:List Wo) (Q:AV -> Heap -> Prop):Prop:=Wp M1 (.run fi47 (atC (cd Try.f47) []) [(0,.vec g 2 ((y :: l).map Wo.a))] []) Q
theorem call47 {args:List AV} {d:AV} (h:wc M1 fi47 Try.f47 args d):Ev M1 (.pure 47 args) d []:=pcl _ _ (by kernel_rfl) h
theorem tvWe (g:Bool)  (dq:AV) (H :
  (Weak (AV.vnil) dq) /\
  (Weak (AV.vec true 2 []) dq)) :
 tvWe_at g (PureQ dq):=by
 unfold tvWe_at
 refine path_wp (G:=given kp47 [] []) 4 [] ⟨(atC (cd Try.f47) [1,0,0]),[(0,AV.vec g 2 [])],[],_,[],_⟩ (by kernel_rfl) b0 q0 c0 (wp_nil 1 [0,4] (e1:=[(0,AV.vec g 2 []),(4,vb true)]) (e2:=[(0,AV.vec g 2 []),(4,vb false)]) (L1:=[]) (L2:=[]) (a1:=[]) (a2:=[]) (v1:=[(4,[],vb true),(3,[],AV.vec g 2 []),(0,[],AV.vec g 2 [])]) (v2:=[(4,[],vb false),(3,[],AV.vec g 2 []),(0,[],AV.vec g 2 [])]) (by kernel_rfl) (by kernel_rfl) allB_nil allB_nil (by kernel_rfl) (by kernel_rfl) ?_ ?_)
 ·have H:=H.1
  exact path_rq (G:=given kp47 [] []) 1000 [true] (AV.vnil) (by kernel_rfl) (bc rfl b0) q0 c0 H
 ·have H:=H.2
  exact path_rq (G:=given kp47 [] []) 1000 [false] (AV.vec true 2 []) (by kernel_rfl) (bc rfl b0) q0 c0 H
theorem tvWc (g:Bool) (y:Wo) (l:List Wo)  (dq:AV) (H :
  ((0 + (l.length + 1)) * 16 <= 1099511627776) /\
  Weak (AV.vec false 2 (ag [AV.int IntKind.u8 y.l,vi y.v] :: List.map Wo.a l)) dq) :
 tvWc_at g y l (PureQ dq):=by
 unfold tvWc_at
 have w1:(List.map Wo.a l).length = l.length:=List.length_map ..
 have i2:(decide ((0 + ((List.map Wo.a l).length + 1)) * 16 <= 1099511627776)) = true ↔ ((0 + (l.length + 1)) * 16 <= 1099511627776):=(by (try rw [w1]);all_goals exact i_dec)
 obtain ⟨k3,H⟩:=H
 exact path_ret (G:=given kp47 [] []) 1000 [false] (k:=((atC (cd Try.f47) [1,1,1])).tail) (env':=[(2,AV.row 0 0)]) (L':=[⟨ag [AV.int IntKind.u8 y.l,vi y.v] :: List.map Wo.a l,2,0,false,true⟩]) (asm:=[false == false,decide ((0 + ((List.map Wo.a l).length + 1)) * 16 <= 1099511627776)]) (eqs:=[]) (calls:=[]) (AV.row 0 0) (by kernel_rfl) (by kernel_rfl) (allB_cons rfl (allB_cons (i2.2 k3) allB_nil)) allP_nil allC_nil (pq_weak (d:=(AV.vec false 2 (ag [AV.int IntKind.u8 y.l,vi y.v] :: List.map Wo.a l))) (bs:=[0 == 0]) (by kernel_rfl) (by kernel_rfl) (allB_cons (beq_self_eq_true _) allB_nil) (by kernel_rfl) H)
end Go.Av

namespace Go.Av
open Go.Proofs
theorem ev47 (g:Bool) (l:List Wo) (h:Sp.okW l):Ev M1 (.pure 47 [.vec g 2 (l.map Wo.a)]) (.vec false 2 (l.map Wo.a)) []:=by
 have hl:=h.1
 cases l with
 | nil => exact call47 (tvWe g _ ⟨.vnil 2,.full 2 []⟩)
 | cons y l => exact call47 (tvWc g y l _ ⟨by simp at hl;omega,.refl _⟩)
end Go.Av

namespace Go.Av
open Go.Proofs
set_option maxRecDepth 100000
def fi16:Fi:=⟨38,[.tmp 2,.tmp 3]⟩
def kp16:List (Nat × List Nat):=[(0,[1]),(1,[1,4,6]),(2,[1,4,6,17]),(3,[2,3]),(4,[1,4,7]),(5,[7,22,23,24]),(6,[7,22,23,24,25]),(7,[7,9,22,23,24]),(8,[7,9,22,23,24]),(9,[7,22,23,24]),(10,[7,22,23,24]),(11,[2,3])]
def tvEpT_at (g:Bool) (l:List Bk) (h:Bool) (s:List Sb) (Q:AV -> Heap -> Prop):Prop:=Wp M1 (.run fi16 (atC (cd Try.f16) []) [(0,.agg [.vec g 3 (l.map Bk.a),.vec h 2 (s.map Sb.a)])] []) Q
def tvEpE_at (g:Bool) (l:List Bk) (h:Bool) (s:List Sb) (Q:AV -> Heap -> Prop):Prop:=Wp M1 (.run fi16 (atC (cd Try.f16) []) [(0,.agg [.vec g 3 (l.map Bk.a),.vec h 2 (s.map Sb.a)])] []) Q
def tvEpz_at (bf:Bool) (Y:List Bk) (n i:Int) (Q:AV -> Heap -> Prop):Prop:=Wp M1 (.run fi16 (atC (cd Try.f16) [1,1,1,1,0,1,0,0]) [(7,.vnil),(22,.vec bf 3 (Y.map Bk.a)),(23,.int .i64 n),(24,.int .i64 i)] []) Q
def tvEpa_at (bf:Bool) (Y:List Bk) (n i:Int) (q:List Bk) (v:Nat) (Q:AV -> Heap -> Prop):Prop:=Wp M1 (.run fi16 (atC (cd Try.f16) [1,1,1,1,0,1,0,0]) [(7,.row 0 v),(22,.vec bf 3 (Y.map Bk.a)),(23,.int .i64 n),(24,.int .i64 i)] [⟨q.map Bk.a,3,v,false,true⟩]) Q
theorem call16 {args:List AV} {d:AV} (h:wc M1 fi16 Try.f16 args d):Ev M1 (.pure 16 args) d []:=pcl _ _ (by kernel_rfl) h
noncomputable abbrev zTpO1:=ag [AV.mapr 1,AV.mapr 2,AV.mapr 3,AV.mapr 4,AV.mapr 5]
theorem tvEpT (g:Bool) (l:List Bk) (h:Bool) (s:List Sb) (sm st dp sz:List AV) (z:Int) (bf:Bool) (Y:List Bk) (dn1:List AV) (dq:AV) (H :
  (Ev M1 (Conf.own 45 [ag [AV.vec g 3 (List.map Bk.a l),AV.vec h 2 (List.map Sb.a s)]] []) (tu [AV.ptr 0 0 0 0,vi z,vi 0]) [{ elems:=[ag [AV.mapr 1,AV.mapr 2,AV.mapr 3,AV.mapr 4,AV.mapr 5]],es:=5,ver:=0,frozen:=false,clean:=false },{ elems:=sm,es:=2,ver:=0,frozen:=false,clean:=true },{ elems:=st,es:=2,ver:=0,frozen:=false,clean:=true },{ elems:=dp,es:=2,ver:=0,frozen:=false,clean:=true },{ elems:=sz,es:=2,ver:=0,frozen:=false,clean:=true },{ elems:=[],es:=2,ver:=0,frozen:=false,clean:=true }]) /\
  (Ev M1 (Conf.own 46 [AV.ptr 0 0 0 0,AV.vec g 3 (List.map Bk.a l)] [{ elems:=[ag [AV.mapr 1,AV.mapr 2,AV.mapr 3,AV.mapr 4,AV.mapr 5]],es:=5,ver:=0,frozen:=false,clean:=false },{ elems:=sm,es:=2,ver:=0,frozen:=false,clean:=true },{ elems:=st,es:=2,ver:=0,frozen:=false,clean:=true },{ elems:=dp,es:=2,ver:=0,frozen:=false,clean:=true },{ elems:=sz,es:=2,ver:=0,frozen:=false,clean:=true },{ elems:=[],es:=2,ver:=0,frozen:=false,clean:=true }]) (AV.vec bf 3 (List.map Bk.a Y)) [{ elems:=[ag [AV.mapr 1,AV.mapr 2,AV.mapr 3,AV.mapr 4,AV.mapr 5]],es:=5,ver:=0,frozen:=false,clean:=false },{ elems:=sm,es:=2,ver:=0,frozen:=false,clean:=true },{ elems:=st,es:=2,ver:=0,frozen:=false,clean:=true },{ elems:=dp,es:=2,ver:=0,frozen:=false,clean:=true },{ elems:=sz,es:=2,ver:=0,frozen:=false,clean:=true },{ elems:=dn1,es:=2,ver:=0,frozen:=false,clean:=true }]) /\
  tvEpz_at (bf) (Y) ((↑Y.length:Int)) (0) (PureQ dq)) :
 tvEpT_at g l h s (PureQ dq):=by
 unfold tvEpT_at
 obtain ⟨k1,H⟩:=H
 obtain ⟨k2,H⟩:=H
 have w3:(List.map Bk.a Y).length = Y.length:=List.length_map ..
 exact path_wp (G:=given kp16 [(1,1,(.call (.tup [.ptr 0 0 0 0,.int .i64 z,.int .i64 0]) (some [⟨[.agg [.mapr 1,.mapr 2,.mapr 3,.mapr 4,.mapr 5]],5,0,false,false⟩,⟨sm,2,0,false,true⟩,⟨st,2,0,false,true⟩,⟨dp,2,0,false,true⟩,⟨sz,2,0,false,true⟩,⟨[],2,0,false,true⟩]):Ans)),(5,3,(.call (.vec bf 3 (Y.map Bk.a)) (some [⟨[.agg [.mapr 1,.mapr 2,.mapr 3,.mapr 4,.mapr 5]],5,0,false,false⟩,⟨sm,2,0,false,true⟩,⟨st,2,0,false,true⟩,⟨dp,2,0,false,true⟩,⟨sz,2,0,false,true⟩,⟨dn1,2,0,false,true⟩]):Ans))] []) 1000 [false] ⟨(atC (cd Try.f16) [1,1,1,1,0,1,0,0]),[(7,AV.vnil),(22,AV.vec bf 3 (List.map Bk.a Y)),(23,vi (↑(List.map Bk.a Y).length:Int)),(24,vi 0)],[⟨[ag [AV.vec g 3 (List.map Bk.a l),AV.vec h 2 (List.map Sb.a s)]],2,0,false,false⟩,⟨[ag [AV.mapr 2,AV.mapr 3,AV.mapr 4,AV.mapr 5,AV.mapr 6]],5,0,false,false⟩,⟨sm,2,0,false,true⟩,⟨st,2,0,false,true⟩,⟨dp,2,0,false,true⟩,⟨sz,2,0,false,true⟩,⟨dn1,2,0,false,true⟩],_,[],[⟨true,true,45,[ag [AV.vec g 3 (List.map Bk.a l),AV.vec h 2 (List.map Sb.a s)]],[],tu [AV.ptr 0 0 0 0,vi z,vi 0],[⟨[zTpO1],5,0,false,false⟩,⟨sm,2,0,false,true⟩,⟨st,2,0,false,true⟩,⟨dp,2,0,false,true⟩,⟨sz,2,0,false,true⟩,⟨[],2,0,false,true⟩]⟩,⟨true,true,46,[AV.ptr 0 0 0 0,AV.vec g 3 (List.map Bk.a l)],[⟨[zTpO1],5,0,false,false⟩,⟨sm,2,0,false,true⟩,⟨st,2,0,false,true⟩,⟨dp,2,0,false,true⟩,⟨sz,2,0,false,true⟩,⟨[],2,0,false,true⟩],AV.vec bf 3 (List.map Bk.a Y),[⟨[zTpO1],5,0,false,false⟩,⟨sm,2,0,false,true⟩,⟨st,2,0,false,true⟩,⟨dp,2,0,false,true⟩,⟨sz,2,0,false,true⟩,⟨dn1,2,0,false,true⟩]⟩]⟩ (by kernel_rfl) (bc rfl (bc rfl (bc rfl b0))) q0 (cc (fun _ => k1) (cc (fun _ => k2) c0)) (by (try rw [w3]);all_goals exact wp_narrow [] (by kernel_rfl) H)
theorem tvEpE (g:Bool) (l:List Bk) (h:Bool) (s:List Sb) (z e:Int) (dq:AV) (H :
  (Ev M1 (Conf.own 45 [ag [AV.vec g 3 (List.map Bk.a l),AV.vec h 2 (List.map Sb.a s)]] []) (tu [AV.nilp,vi z,vi e]) []) /\
  ((¬e = 0) -> Weak (tu [AV.vnil,vi e]) dq) /\
  (¬(¬e = 0) -> False)) :
 tvEpE_at g l h s (PureQ dq):=by
 unfold tvEpE_at
 obtain ⟨k1,H⟩:=H
 refine path_wp (G:=given kp16 [(1,1,(.call (.tup [.nilp,.int .i64 z,.int .i64 e]) none:Ans))] []) 7 [] ⟨(atC (cd Try.f16) [1,1,0,1]),[(1,AV.ptr 0 0 0 0),(4,AV.nilp),(6,vi e),(17,vb (e != 0))],[⟨[ag [AV.vec g 3 (List.map Bk.a l),AV.vec h 2 (List.map Sb.a s)]],2,0,false,false⟩],_,[],[⟨true,true,45,[ag [AV.vec g 3 (List.map Bk.a l),AV.vec h 2 (List.map Sb.a s)]],[],tu [AV.nilp,vi z,vi e],[]⟩]⟩ (by kernel_rfl) (bc rfl b0) q0 (cc (fun _ => k1) c0) ?_
 rcases xm (¬e = 0) with d3 | d3
 ·have H:=H.1 d3
  exact path_rq (G:=given kp16 [] []) 1000 [true] (tu [AV.vnil,vi e]) (by kernel_rfl) (bc (beq_t (i_ne.2 d3)) b0) q0 c0 H
 ·have H:=H.2 d3
  exact False.elim H
theorem tvEpz (bf:Bool) (Y:List Bk) (n i:Int)  (dq:AV) (H :
  ((i < n) -> (0 <= i) /\
   (i.toNat < Y.length) /\
   (Sp.okW (Y.getD i.toNat default).3) /\
   (-9223372036854775808 <= i + 1 /\ i + 1 <= 9223372036854775807) /\
   tvEpa_at (bf) (Y) (n) (i + 1) ([{ sk:=(Y.getD i.toNat default).1,f:=false,ws:=(Y.getD i.toNat default).3,cm:=(Y.getD i.toNat default).4 }]) (0) (PureQ dq)) /\
  (¬(i < n) -> Weak (tu [AV.vnil,vi 0]) dq)) :
 tvEpz_at bf Y n i (PureQ dq):=by
 unfold tvEpz_at
 rcases xm (i < n) with d2 | d2
 ·have H:=H.1 d2
  obtain ⟨k4,H⟩:=H
  have w5:(List.map Bk.a Y).length = Y.length:=List.length_map ..
  have i6:(decide (i.toNat < (List.map Bk.a Y).length)) = true ↔ (i.toNat < Y.length):=(by (try rw [w5]);all_goals exact i_dec)
  obtain ⟨k7,H⟩:=H
  obtain ⟨k8,H⟩:=H
  obtain ⟨k9,H⟩:=H
  have w10:wi (i + 1) = i + 1:=wI64 k9
  have w11:[ag [vb (Y.getD i.toNat default).1,AV.vec false 2 (List.map Wo.a (Y.getD i.toNat default).3),AV.str (Y.getD i.toNat default).4]] = List.map Bk.a [{ sk:=(Y.getD i.toNat default).1,f:=false,ws:=(Y.getD i.toNat default).3,cm:=(Y.getD i.toNat default).4 }]:=rfl
  exact path_wp (G:=given kp16 [(7,1,.elem (ag [vb (Y.getD i.toNat default).1,AV.vec (Y.getD i.toNat default).2 2 (List.map Wo.a (Y.getD i.toNat default).3),AV.str (Y.getD i.toNat default).4])),(8,2,.call (AV.vec false 2 (List.map Wo.a (Y.getD i.toNat default).3)) none)] []) 1000 [true] ⟨(atC (cd Try.f16) [1,1,1,1,0,1,0,0]),[(7,AV.row 1 0),(22,AV.vec bf 3 (List.map Bk.a Y)),(23,vi n),(24,vi (wi (i + 1)))],[⟨[ag [vb (Y.getD i.toNat default).1,AV.vec false 2 (List.map Wo.a (Y.getD i.toNat default).3),AV.str (Y.getD i.toNat default).4]],3,0,false,false⟩,⟨[ag [vb (Y.getD i.toNat default).1,AV.vec false 2 (List.map Wo.a (Y.getD i.toNat default).3),AV.str (Y.getD i.toNat default).4]],3,0,false,true⟩],_,[((List.map Bk.a Y).get?Internal i.toNat = some (ag [vb (Y.getD i.toNat default).1,AV.vec (Y.getD i.toNat default).2 2 (List.map Wo.a (Y.getD i.toNat default).3),AV.str (Y.getD i.toNat default).4]))],_⟩ (by kernel_rfl) (bc (beq_t (i_dec.2 d2)) (bc (i_dec.2 k4) (bc (i6.2 k7) (bc rfl (bc rfl (bc rfl (bc rfl (bc rfl b0)))))))) (qc (el_map k7) q0) (ce (@ev47 ((Y.getD i.toNat default).2) ((Y.getD i.toNat default).3) k8) c0) (by (try rw [w10]);(try rw [w11]);all_goals exact wp_narrow [1] (by kernel_rfl) H)
 ·have H:=H.2 d2
  exact path_rq (G:=given kp16 [] []) 1000 [false] (tu [AV.vnil,vi 0]) (by kernel_rfl) (bc (beq_f (fun h => d2 (i_dec.1 h))) b0) q0 c0 H
theorem tvEpa (bf:Bool) (Y:List Bk) (n i:Int) (q:List Bk) (v:Nat)  (dq:AV) (H :
  ((i < n) -> (0 <= i) /\
   (i.toNat < Y.length) /\
   (Sp.okW (Y.getD i.toNat default).3) /\
   ((q.length + 1) * 48 <= 1099511627776) /\
   (-9223372036854775808 <= i + 1 /\ i + 1 <= 9223372036854775807) /\
   tvEpa_at (bf) (Y) (n) (i + 1) (q ++ [{ sk:=(Y.getD i.toNat default).1,f:=false,ws:=(Y.getD i.toNat default).3,cm:=(Y.getD i.toNat default).4 }]) (v + 1) (PureQ dq)) /\
  (¬(i < n) -> Weak (tu [AV.vec false 3 (List.map Bk.a q),vi 0]) dq)) :
 tvEpa_at bf Y n i q v (PureQ dq):=by
 unfold tvEpa_at
 rcases xm (i < n) with d2 | d2
 ·have H:=H.1 d2
  obtain ⟨k4,H⟩:=H
  have w5:(List.map Bk.a Y).length = Y.length:=List.length_map ..
  have i6:(decide (i.toNat < (List.map Bk.a Y).length)) = true ↔ (i.toNat < Y.length):=(by (try rw [w5]);all_goals exact i_dec)
  obtain ⟨k7,H⟩:=H
  obtain ⟨k8,H⟩:=H
  have w9:(List.map Bk.a q).length = q.length:=List.length_map ..
  have i10:(decide (((List.map Bk.a q).length + 1) * 48 <= 1099511627776)) = true ↔ ((q.length + 1) * 48 <= 1099511627776):=(by (try rw [w9]);all_goals exact i_dec)
  obtain ⟨k11,H⟩:=H
  have w12:List.map Bk.a q ++ [ag [vb (Y.getD i.toNat default).1,AV.vec false 2 (List.map Wo.a (Y.getD i.toNat default).3),AV.str (Y.getD i.toNat default).4]] = List.map Bk.a (q ++ [{ sk:=(Y.getD i.toNat default).1,f:=false,ws:=(Y.getD i.toNat default).3,cm:=(Y.getD i.toNat default).4 }]):=(lm_app rfl rfl)
  obtain ⟨k13,H⟩:=H
  have w14:wi (i + 1) = i + 1:=wI64 k13
  exact path_wp (G:=given kp16 [(7,1,.elem (ag [vb (Y.getD i.toNat default).1,AV.vec (Y.getD i.toNat default).2 2 (List.map Wo.a (Y.getD i.toNat default).3),AV.str (Y.getD i.toNat default).4])),(8,2,.call (AV.vec false 2 (List.map Wo.a (Y.getD i.toNat default).3)) none)] []) 1000 [true] ⟨(atC (cd Try.f16) [1,1,1,1,0,1,0,0]),[(7,AV.row 0 (v + 1)),(22,AV.vec bf 3 (List.map Bk.a Y)),(23,vi n),(24,vi (wi (i + 1)))],[⟨List.map Bk.a q ++ [ag [vb (Y.getD i.toNat default).1,AV.vec false 2 (List.map Wo.a (Y.getD i.toNat default).3),AV.str (Y.getD i.toNat default).4]],3,v + 1,false,true⟩,⟨[ag [vb (Y.getD i.toNat default).1,AV.vec false 2 (List.map Wo.a (Y.getD i.toNat default).3),AV.str (Y.getD i.toNat default).4]],3,0,false,false⟩],[(decide (i < n)) == true,decide (0 <= i),decide (i.toNat < (List.map Bk.a Y).length),true,true,true,true,v == v,decide (((List.map Bk.a q).length + 1) * 48 <= 1099511627776)],[((List.map Bk.a Y).get?Internal i.toNat = some (ag [vb (Y.getD i.toNat default).1,AV.vec (Y.getD i.toNat default).2 2 (List.map Wo.a (Y.getD i.toNat default).3),AV.str (Y.getD i.toNat default).4]))],_⟩ (by kernel_rfl) (bc (beq_t (i_dec.2 d2)) (bc (i_dec.2 k4) (bc (i6.2 k7) (bc rfl (bc rfl (bc rfl (bc rfl (bc (beq_self_eq_true _) (bc (i10.2 k11) b0))))))))) (qc (el_map k7) q0) (ce (@ev47 ((Y.getD i.toNat default).2) ((Y.getD i.toNat default).3) k8) c0) (by (try rw [w12]);(try rw [w14]);all_goals exact wp_narrow [0] (by kernel_rfl) H)
 ·have H:=H.2 d2
  exact path_ret (G:=given kp16 [] []) 1000 [false] (k:=((atC (cd Try.f16) [1,1,1,1,1,1])).tail) (env':=[(2,AV.row 0 v),(3,vi 0)]) (L':=[⟨List.map Bk.a q,3,v,false,true⟩]) (asm:=[(decide (i < n)) == false]) (eqs:=[]) (calls:=[]) (tu [AV.row 0 v,vi 0]) (by kernel_rfl) (by kernel_rfl) (allB_cons (beq_f (fun h => d2 (i_dec.1 h))) allB_nil) allP_nil allC_nil (pq_weak (d:=(tu [AV.vec false 3 (List.map Bk.a q),vi 0])) (bs:=[v == v]) (by kernel_rfl) (by kernel_rfl) (allB_cons (beq_self_eq_true _) allB_nil) (by kernel_rfl) H)
end Go.Av

namespace Go.Av
open Go.Proofs
namespace Sp
def cl (b:Bk):Bk:=⟨b.sk,false,b.ws,b.cm⟩
def exq (l:List Bk) (s:List Sb):List Bk × Int:=if (siz l s).2 = 0 then ((XM l s).map cl,0) else ([],(siz l s).2)
end Sp
theorem rep_mem {t:Nat} {Y:List Bk} {b:Bk} (h:b ∈ Sp.rep t Y):b ∈ Y:=by
 unfold Sp.rep at h
 obtain ⟨l,h1,h2⟩:=List.mem_flatten.1 h
 rw [List.eq_of_mem_replicate h1] at h2;exact h2
theorem xpd_mem {E:Int -> List Bk} {l:List Bk} {b:Bk} (h:b ∈ Sp.xpd E l):(b ∈ l /\ Sp.cIs b.ws = false) \/ ∃ m,b ∈ E m:=by
 unfold Sp.xpd at h
 obtain ⟨x,h1,h2⟩:=List.mem_flatMap.1 h
 split at h2
 ·exact .inr ⟨_,rep_mem h2⟩
 ·rename_i k
  rw [List.mem_singleton] at h2;subst h2
  exact .inl ⟨h1,Bool.eq_false_iff.2 k⟩
theorem X_mem {S:Int -> List Bk} {b:Bk}:∀ {k:Nat} {n:Int},b ∈ Sp.X S k n -> Sp.cIs b.ws = false /\ ∃ m,b ∈ S m
 | 0,n,h => by cases h
 | k + 1,n,h => by
  rw [Sp.X] at h
  rcases xpd_mem h with ⟨h1,h2⟩ | ⟨m,h1⟩
  ·exact ⟨h2,n,h1⟩
  ·exact X_mem h1
theorem bod_mem {b:Bk} {m:Int}:∀ {s:List Sb} {a:List Bk},b ∈ s.foldl (Sp.bodS m) a -> b ∈ a \/ ∃ x ∈ s,b ∈ x.bl
 | [],_,h => .inl h
 | x :: s,a,h => by
  rcases bod_mem (s:=s) (a:=Sp.bodS m a x) h with h | ⟨y,h1,h2⟩
  ·unfold Sp.bodS at h
   split at h
   ·exact .inr ⟨x,by simp,h⟩
   ·exact .inl h
  ·exact .inr ⟨y,List.mem_cons_of_mem _ h1,h2⟩
theorem XM_mem {l:List Bk} {s:List Sb} {b:Bk} (h:b ∈ Sp.XM l s):Sp.cIs b.ws = false /\ b ∈ Sp.blks l s:=by
 unfold Sp.blks
 rw [List.mem_append,List.mem_flatMap]
 rcases xpd_mem h with ⟨h1,h2⟩ | ⟨m,h1⟩
 ·exact ⟨h2,.inl h1⟩
 ·obtain ⟨h2,n,h3⟩:=X_mem h1
  refine ⟨h2,.inr ?_⟩
  rcases bod_mem h3 with h3 | ⟨x,h3,h4⟩
  ·cases h3
  ·exact ⟨x,h3,h4⟩
theorem tvEpa_loop {bf:Bool} {Y:List Bk} {dq:AV} (hY:∀ b ∈ Y,Sp.okW b.ws) (hl:Y.length <= 1000000) (hq:.tup [bsA false (Y.map Sp.cl),.int .i64 0] = dq):∀ (c i:Nat) (q:List Bk) (v:Nat),i + c = Y.length -> q = (Y.take i).map Sp.cl -> tvEpa_at bf Y Y.length i q v (PureQ dq):=by
 intro c
 induction c with
 | zero =>
  intro i q v hi he
  rw [List.take_of_length_le (by omega)] at he
  refine tvEpa _ _ _ _ _ _ _ ⟨fun h => by omega,fun _ => ?_⟩
  rw [he,<- hq];exact .refl _
 | succ c ih =>
  intro i q v hi he
  have hw:=hY _ (getD_mem (show i < Y.length by omega))
  have hql:q.length = i:=by rw [he,List.length_map,List.length_take];omega
  refine tvEpa _ _ _ _ _ _ _ ⟨fun _ => ?_,fun h => by omega⟩
  rw [Int.toNat_natCast]
  refine ⟨by omega,by omega,hw,by omega,by omega,ih (i + 1) _ _ (by omega) ?_⟩
  rw [List.take_succ_eq_append_getElem (show i < Y.length by omega),List.map_append,<- he,List.getD_eq_getElem?_getD,List.getElem?_eq_getElem (show i < Y.length by omega)];rfl
theorem ev16 (g:Bool) (l:List Bk) (h:Bool) (s:List Sb) (hok:Sp.okN l s):Ev M1 (.pure 16 [.agg [bsA g l,.vec h 2 (s.map Sb.a)]]) (.tup [.vec false 3 ((Sp.exq l s).1.map Bk.a),.int .i64 (Sp.exq l s).2]) []:=by
 by_cases he:(Sp.siz l s).2 = 0
 ·obtain ⟨st,dp,sz,e⟩:=chkd_ok (g:=g) (h:=h) hok he
  obtain ⟨hlen1,hlen⟩:=siz_len he
  obtain ⟨h0,_⟩:=siz_ok he
  obtain ⟨a1,a2,a3,a4⟩:=xe_ok h0
  have hm:=sub_all hok.2.2.1 hok.2.1 (prpB_rep a1) a3
  obtain ⟨bf,dn1,b1,_⟩:=expand_ev (st:=st) (dp:=dp) (sz:=sz) (N:=s.length) hm s.length g l (Nat.le_refl _) hok.1 (main_V h0) (show (Sp.XM l s).length <= 1000000 by omega) [] (dinv0 _)
  have hx:Sp.exq l s = ((Sp.XM l s).map Sp.cl,0):=by unfold Sp.exq;rw [if_pos he]
  rw [hx]
  have hY:∀ b ∈ Sp.XM l s,Sp.okW b.ws:=fun b hb => hok.2.2.2.2 b (XM_mem hb).2
  refine call16 (tvEpT _ _ _ _ _ st dp sz (Sp.siz l s).1 bf (Sp.XM l s) dn1 _ ⟨e,b1,?_⟩)
  cases hXM:Sp.XM l s with
  | nil => exact tvEpz _ _ _ _ _ ⟨fun h => by simp at h,fun _ => weak_tup2' (.vnil 3)⟩
  | cons y Y =>
   rw [<- hXM]
   have h0:0 < (Sp.XM l s).length:=by rw [hXM];simp
   have hw:=hY _ (getD_mem h0)
   refine tvEpz _ _ _ _ _ ⟨fun _ => ⟨by omega,h0,hw,by omega,?_⟩,fun z => by omega⟩
   refine tvEpa_loop hY (by omega) rfl ((Sp.XM l s).length - 1) 1 _ 0 (by omega) ?_
   rw [hXM];rfl
 ·have hx:Sp.exq l s = ([],(Sp.siz l s).2):=by unfold Sp.exq;rw [if_neg he]
  rw [hx]
  exact call16 (tvEpE _ _ _ _ _ _ _ ⟨chkd_err hok fun e => he (by rw [e]),fun _ => weak_tup2' (.vnil 3),fun y => (y he).elim⟩)
end Go.Av

namespace Go.Av
open Go.Proofs
set_option maxRecDepth 100000
end Go.Av

namespace Go.Av
open Go.Proofs
theorem ordB_snoc {Z:List Bk} {e:Bk} {s:List Sb}:Sp.ordB (Z ++ [e]) s = true ↔ (Sp.endB e.ws = true /\ Sp.letB e.ws 79 = false /\ Sp.backB e.ws = false) /\ (∀ b ∈ Z,Sp.mkB b.ws = false) /\ ∀ x ∈ s,Sp.sMk x = false:=by
 have h1:Sp.lastB (Z ++ [e]) = e:=by
  unfold Sp.lastB
  rw [List.length_append,List.length_singleton,Nat.add_sub_cancel,List.getD_eq_getElem?_getD,List.getElem?_append_right (by omega),Nat.sub_self];rfl
 have h2:(Z ++ [e]).take ((Z ++ [e]).length - 1) = Z:=by
  rw [List.length_append,List.length_singleton,Nat.add_sub_cancel,List.take_left'];rfl
 unfold Sp.ordB
 rw [h1,h2,decide_eq_true (show 0 < (Z ++ [e]).length by simp),Bool.true_and]
 simp only [Bool.and_eq_true,Bool.not_eq_true',Sp.anyP,List.any_eq_false]
 constructor
 ·rintro ⟨a,b,c,d,f⟩
  exact ⟨⟨a,b,c⟩,fun x hx => Bool.eq_false_iff.2 (d x hx),fun x hx => Bool.eq_false_iff.2 (f x hx)⟩
 ·rintro ⟨⟨a,b,c⟩,d,f⟩
  exact ⟨a,b,c,fun x hx => by have:=d x hx;unfold Sp.pMk;rw [this];simp,fun x hx => by rw [f x hx];simp⟩
theorem ordB_pos {l:List Bk} {s:List Sb} (h:Sp.ordB l s = true):∃ Z e,l = Z ++ [e]:=by
 have h0:0 < l.length:=by
  refine Classical.byContradiction fun z => ?_
  unfold Sp.ordB at h
  rw [decide_eq_false z,Bool.false_and] at h;cases h
 refine ⟨l.take (l.length - 1),l[l.length - 1],?_⟩
 have:=List.take_succ_eq_append_getElem (show l.length - 1 < l.length by omega)
 rw [show l.length - 1 + 1 = l.length by omega,List.take_length] at this
 exact this
theorem xpd_nocall {E:Int -> List Bk}:∀ {l:List Bk},(∀ b ∈ l,Sp.cIs b.ws = false) -> Sp.xpd E l = l
 | [],_ => rfl
 | x :: l,h => by
  rw [xpd_cons,if_neg (by rw [h x (by simp)];simp),xpd_nocall fun b hb => h b (List.mem_cons_of_mem _ hb)];rfl
end Go.Av

namespace Go.Av
open Go.Proofs
def Sp.pc (l:List Bk) (i n:Nat):List Bk:=(l.take (i + n)).drop i
end Go.Av

namespace Go.Av
open Go.Proofs
theorem cl_keys (l:List Bk):(l.map Sp.cl).map Bk.key = l.map Bk.key:=by rw [List.map_map];rfl
theorem okN_of {l:List Bk} {s:List Sb} (h1:Sp.okBs l) (h2:∀ x ∈ s,Sp.okBs x.bl /\ x.bl.length <= 1000) (h3:s.length <= 100) (h4:l.length <= 1000):Sp.okN l s:=
 ⟨h1,⟨by omega,fun x hx => (h2 x hx).1⟩,by omega,blks_ok ⟨h1,h3,h4,h2⟩⟩
end Go.Av

namespace Go.Av
open Go.Proofs
end Go.Av

namespace Go.Av
open Go.Proofs
theorem xpd_app (E:Int -> List Bk) (a b:List Bk):Sp.xpd E (a ++ b) = Sp.xpd E a ++ Sp.xpd E b:=by unfold Sp.xpd;rw [List.flatMap_append]
theorem call_end {ws:List Wo} (h:Sp.cIs ws = true):Sp.endB ws = false:=by
 unfold Sp.cIs Sp.okC at h
 simp only [Bool.and_eq_true,decide_eq_true_eq] at h
 obtain ⟨h1,_,h2,_⟩:=h
 unfold Sp.hasW at h1
 unfold Sp.cnt at h2
 unfold Sp.endB Sp.hasW
 rw [decide_eq_true_eq] at h1
 rw [decide_eq_false_iff_not]
 intro h3
 match hc:Sp.codes ws 77,h2 with
 | [y],_ =>
  rw [hc,List.mem_singleton] at h1 h3
  omega
end Go.Av

namespace Go.Av
open Go.Proofs
set_option maxRecDepth 100000
end Go.Av

namespace Go.Av
open Go.Proofs
theorem exq_okBs {l:List Bk} {s:List Sb} (h:Sp.okN l s):Sp.okBs (Sp.exq l s).1:=by
 unfold Sp.exq
 split
 ·rename_i k
  refine ⟨by rw [List.length_map];have:=(siz_len k).2;omega,fun b hb => ?_⟩
  obtain ⟨c,hc,rfl⟩:=List.mem_map.1 hb
  exact h.2.2.2.2 c (XM_mem hc).2
 ·exact ⟨by simp,fun b hb => by cases hb⟩
theorem idxF_is {α:Type} [Inhabited α] (p:α -> Bool):∀ (l:List α) (i:Int),0 <= i -> 0 <= Sp.idxF p l i -> p (l.getD (Sp.idxF p l i - i).toNat default) = true
 | [],i,_,h => by exact absurd h (by show ¬(0:Int) <= -1;omega)
 | b :: r,i,hi,h => by
  rw [Sp.idxF] at h ⊢
  split at h
  ·rename_i k
   rw [if_pos k,Int.sub_self];exact k
  ·rename_i k
   rw [if_neg k]
   have:=idxF_is p r (i + 1) (by omega) h
   rcases idxF_ge p r (i + 1) (by omega) with ⟨h1,_⟩ | ⟨h1,_⟩
   ·omega
   ·rw [show (Sp.idxF p r (i + 1) - i).toNat = (Sp.idxF p r (i + 1) - (i + 1)).toNat + 1 by omega,List.getD_cons_succ];exact this
theorem fnd_n {s:List Sb} {m:Int} (h:0 <= Sp.fnd s m):(Sp.fnd s m).toNat < s.length /\ (s.getD (Sp.fnd s m).toNat default).n = m:=by
 have hl:=fnd_len s m
 refine ⟨by omega,?_⟩
 unfold Sp.fnd Sp.idxP at h ⊢
 have:=idxF_is (Sp.isN m) s 0 (by omega) h
 rw [Int.sub_zero] at this
 exact of_decide_eq_true this
end Go.Av

namespace Go.Av
open Go.Proofs
theorem meaR_ok' {s:List Sb} {z d:List Int}:∀ (b:List Bk) (a e:Int),(Sp.meaR s z d b a e).2.2 = true ↔ ∀ x ∈ b,Sp.cIs x.ws = true -> ¬z.getD (Sp.at' s x) default < 0
 | [],_,_ => ⟨fun _ x hx => (by cases hx),fun _ => rfl⟩
 | x :: b,a,e => by
  rw [Sp.meaR]
  by_cases k:Sp.cIs x.ws = true
  ·rw [if_pos k]
   by_cases h0:z.getD (Sp.at' s x) default < 0
   ·rw [if_pos h0]
    exact ⟨fun h => (by cases h),fun h => (h x (by simp) k h0).elim⟩
   ·rw [if_neg h0,meaR_ok' b]
    constructor
    ·intro h y hy ky
     rcases List.mem_cons.1 hy with rfl | hy
     ·exact h0
     ·exact h y hy ky
    ·exact fun h y hy => h y (List.mem_cons_of_mem _ hy)
  ·rw [if_neg k,meaR_ok' b]
   constructor
   ·intro h y hy ky
    rcases List.mem_cons.1 hy with rfl | hy
    ·exact (k ky).elim
    ·exact h y hy ky
   ·exact fun h y hy => h y (List.mem_cons_of_mem _ hy)
theorem mx_swap (a b:Int):Sp.mx (a + 1) b = Sp.mx (1 + a) b:=by rw [Int.add_comm]
theorem meaR_sumP {s:List Sb} {z d:List Int} {D Z:Int -> Int}:∀ (b:List Bk) (a e:Int),(∀ x ∈ b,Sp.cIs x.ws = true -> ¬z.getD (Sp.at' s x) default < 0 /\ D (Sp.cN x.ws) = d.getD (Sp.at' s x) default /\ Z (Sp.cN x.ws) = z.getD (Sp.at' s x) default) -> Sp.meaR s z d b a e = ((Sp.sumP D Z b e a).2,(Sp.sumP D Z b e a).1,true)
 | [],_,_,_ => rfl
 | x :: b,a,e,h => by
  have hr:=fun y hy => h y (List.mem_cons_of_mem _ hy)
  rw [Sp.meaR,Sp.sumP]
  by_cases k:Sp.cIs x.ws = true
  ·obtain ⟨h1,h2,h3⟩:=h x (by simp) k
   rw [if_pos k,if_neg h1,if_pos k,h2,h3,meaR_sumP (D:=D) (Z:=Z) b _ _ hr,sumC_eq,mx_swap,Int.mul_comm]
  ·rw [if_neg k,if_neg k,meaR_sumP (D:=D) (Z:=Z) b _ _ hr,sumC_eq]
def okF (s:List Sb):Prop:=Sp.repB s = false /\ ∀ x ∈ s,Sp.found s x.bl
theorem okF_closed {s:List Sb} (h:okF s):Sp.closed (Sp.bod s) (Sp.nums s):=fun n hn b hb k => by
 obtain ⟨x,hx,rfl⟩:=List.mem_map.1 hn
 rw [bod_at h.1 hx] at hb
 exact nums_of.1 (h.2 x hx b hb k)
theorem VN_pig {s:List Sb} (h:okF s) {x:Sb} (hx:x ∈ s) {k:Nat} (hk:(Sp.V (Sp.bod s) k x.n).isSome = true):(Sp.VN s x.n).isSome = true:=by
 have:=V_pig (okF_closed h) (List.mem_map_of_mem hx) hk
 rw [Sp.nums,List.length_map] at this
 exact this
def RInv (s:List Sb) (zd:List Int × List Int):Prop:=zd.1.length = s.length /\ zd.2.length = s.length /\ ∀ i,i < s.length -> ¬zd.1.getD i default < 0 -> Sp.VN s (s.getD i default).n = some (zd.2.getD i default,zd.1.getD i default)
def RDone (s:List Sb) (k:Nat) (p:Nat -> Prop) (zd:List Int × List Int):Prop:=∀ i,i < s.length -> p i -> (Sp.V (Sp.bod s) k (s.getD i default).n).isSome = true -> ¬zd.1.getD i default < 0
theorem at_V {s:List Sb} {zd:List Int × List Int} (hI:RInv s zd) {x:Bk} (hf:0 <= Sp.fnd s (Sp.cN x.ws)) (hz:¬zd.1.getD (Sp.at' s x) default < 0):Sp.VN s (Sp.cN x.ws) = some (zd.2.getD (Sp.at' s x) default,zd.1.getD (Sp.at' s x) default):=by
 obtain ⟨h1,h2⟩:=fnd_n hf
 have:=hI.2.2 (Sp.at' s x) h1 hz
 unfold Sp.at' at this ⊢
 rw [h2] at this
 exact this
theorem mea_V {s:List Sb} {zd:List Int × List Int} (hI:RInv s zd) {b:List Bk} (hf:Sp.found s b) (hok:(Sp.meaR s zd.1 zd.2 b 0 0).2.2 = true):Sp.meaR s zd.1 zd.2 b 0 0 = ((Sp.sumE (Sp.VN s) b).2,(Sp.sumE (Sp.VN s) b).1,true):=by
 rw [meaR_ok'] at hok
 unfold Sp.sumE
 refine meaR_sumP b 0 0 fun x hx k => ?_
 have:=at_V hI (hf x hx k) (hok x hx k)
 simp only [this,Option.getD_some]
 exact ⟨hok x hx k,trivial,trivial⟩
theorem step_V {s:List Sb} (h:okF s) {zd:List Int × List Int} (hI:RInv s zd) {i:Nat} (hi:i < s.length) (hok:(Sp.meaR s zd.1 zd.2 (s.getD i default).bl 0 0).2.2 = true):Sp.VN s (s.getD i default).n = some (Sp.sumE (Sp.VN s) (s.getD i default).bl):=by
 have hx:s.getD i default ∈ s:=getD_mem hi
 have hf:=h.2 _ hx
 have hok':=(meaR_ok' _ 0 0).1 hok
 have hs:(Sp.V (Sp.bod s) (s.length + 1) (s.getD i default).n).isSome = true:=V_succ.2 fun x hxb k => by
  rw [bod_at h.1 hx] at hxb
  have:=at_V hI (hf x hxb k) (hok' x hxb k)
  unfold Sp.VN at this
  rw [this];rfl
 have hp:=VN_pig h hx hs
 obtain ⟨w,hw⟩:=Option.isSome_iff_exists.1 hp
 obtain ⟨v,hv⟩:=Option.isSome_iff_exists.1 hs
 have hv2:=hv
 rw [Sp.V] at hv2
 split at hv2
 ·rw [bod_at h.1 hx] at hv2
  rw [hw,V_eq hw hv,<- Option.some.inj hv2];rfl
 ·cases hv2
theorem getD_set {l:List Int} {i j:Nat} {a:Int} (hi:i < l.length):(l.set i a).getD j default = if i = j then a else l.getD j default:=by
 rw [List.getD_eq_getElem?_getD,List.getElem?_set,List.getD_eq_getElem?_getD]
 by_cases e:i = j
 ·rw [if_pos e,if_pos e,if_pos hi];rfl
 ·rw [if_neg e,if_neg e]
theorem stepR_V {s:List Sb} (h:okF s) {zd:List Int × List Int} (hI:RInv s zd) {i k:Nat} (hi:i < s.length) (hd:RDone s k (fun _ => True) zd) (hp:RDone s (k + 1) (fun j => j < i) zd):RInv s (Sp.stepR s zd i) /\ RDone s k (fun _ => True) (Sp.stepR s zd i) /\ RDone s (k + 1) (fun j => j < i + 1) (Sp.stepR s zd i):=by
 have hx:s.getD i default ∈ s:=getD_mem hi
 unfold Sp.stepR
 by_cases hok:(Sp.meaR s zd.1 zd.2 (s.getD i default).bl 0 0).2.2 = true
 ·rw [if_pos hok]
  have hV:=step_V h hI hi hok
  have hm:=mea_V hI (h.2 _ hx) hok
  have hr:=V_rng _ _ _ hV
  rw [hm]
  have e1:∀ j,(zd.1.set i (Sp.sumE (Sp.VN s) (s.getD i default).bl).2).getD j default = if i = j then (Sp.sumE (Sp.VN s) (s.getD i default).bl).2 else zd.1.getD j default:=fun j => getD_set (by rw [hI.1];exact hi)
  have e2:∀ j,(zd.2.set i (Sp.sumE (Sp.VN s) (s.getD i default).bl).1).getD j default = if i = j then (Sp.sumE (Sp.VN s) (s.getD i default).bl).1 else zd.2.getD j default:=fun j => getD_set (by rw [hI.2.1];exact hi)
  refine ⟨⟨by simp [hI.1],by simp [hI.2.1],fun j hj hz => ?_⟩,fun j hj _ hv => ?_,fun j hj hji hv => ?_⟩
  ·simp only [e1,e2] at hz ⊢
   by_cases e:i = j
   ·subst e;rw [if_pos rfl,if_pos rfl];exact hV
   ·rw [if_neg e] at hz;rw [if_neg e,if_neg e];exact hI.2.2 j hj hz
  ·simp only [e1]
   by_cases e:i = j
   ·rw [if_pos e];omega
   ·rw [if_neg e];exact hd j hj trivial hv
  ·simp only [e1]
   by_cases e:i = j
   ·rw [if_pos e];omega
   ·rw [if_neg e];exact hp j hj (by omega) hv
 ·rw [if_neg hok]
  refine ⟨hI,hd,fun j hj hji hv => ?_⟩
  by_cases e:j = i
  ·subst e
   refine (hok ((meaR_ok' _ 0 0).2 fun x hxb kx => ?_)).elim
   have hf:=h.2 _ hx x hxb kx
   obtain ⟨f1,f2⟩:=fnd_n hf
   refine hd (Sp.at' s x) f1 trivial ?_
   unfold Sp.at'
   rw [f2]
   rw [<- bod_at h.1 hx] at hxb
   exact V_succ.1 hv x hxb kx
  ·exact hp j hj (by omega) hv
theorem stepsR_V {s:List Sb} (h:okF s) {k:Nat}:∀ (c i:Nat) (zd:List Int × List Int),i + c = s.length -> RInv s zd -> RDone s k (fun _ => True) zd -> RDone s (k + 1) (fun j => j < i) zd -> RInv s (Sp.stepsR s c i zd) /\ RDone s (k + 1) (fun _ => True) (Sp.stepsR s c i zd)
 | 0,i,zd,hi,hI,_,hp => ⟨hI,fun j hj _ hv => hp j hj (by omega) hv⟩
 | c + 1,i,zd,hi,hI,hd,hp => by
  obtain ⟨a1,a2,a3⟩:=stepR_V h hI (show i < s.length by omega) hd hp
  exact stepsR_V h c (i + 1) _ (by omega) a1 a2 a3
theorem roundsR_V {s:List Sb} (h:okF s):∀ (c k:Nat) (zd:List Int × List Int),RInv s zd -> RDone s k (fun _ => True) zd -> RInv s (Sp.roundsR s c zd) /\ RDone s (k + c) (fun _ => True) (Sp.roundsR s c zd)
 | 0,k,zd,hI,hd => ⟨hI,hd⟩
 | c + 1,k,zd,hI,hd => by
  obtain ⟨a1,a2⟩:=stepsR_V h s.length 0 zd (by omega) hI hd fun j _ hj => by omega
  have:=roundsR_V h c (k + 1) _ a1 a2
  rw [show k + (c + 1) = k + 1 + c by omega]
  exact this
theorem finR_V {s:List Sb} (h:okF s):RInv s (Sp.finR s) /\ RDone s s.length (fun _ => True) (Sp.finR s):=by
 have:=roundsR_V h s.length 0 (List.replicate s.length (-1),List.replicate s.length 0) ⟨by simp,by simp,fun i hi hz => by
  refine (hz ?_).elim
  rw [List.getD_eq_getElem?_getD,List.getElem?_replicate,if_pos hi];decide⟩ fun i _ _ hv => by simp [Sp.V] at hv
 rw [Nat.zero_add] at this
 exact this
theorem chk_siz (l:List Bk) (s:List Sb):Sp.chk l s = Sp.siz l s:=by
 unfold Sp.chk Sp.siz Sp.xe
 by_cases a1:¬Sp.prpB l s = true
 ·rw [if_pos a1,if_pos a1,if_pos (by decide)]
 rw [if_neg a1,if_neg a1]
 by_cases a2:(Sp.blks l s).any Sp.badB = true
 ·rw [if_pos a2,if_pos a2,if_pos (by decide)]
 rw [if_neg a2,if_neg a2]
 by_cases a3:(Sp.blks l s).any (Sp.lostB s) = true
 ·rw [if_pos a3,if_pos a3,if_pos (by decide)]
 rw [if_neg a3,if_neg a3]
 have hr:=prpB_rep (Classical.not_not.1 a1)
 have a3':=Bool.eq_false_iff.2 a3
 rw [blks_any,Bool.or_eq_false_iff] at a3'
 have hf:okF s:=⟨hr,fun x hx => found_of (by
  have:=a3'.2
  rw [List.any_eq_false] at this
  exact Bool.eq_false_iff.2 (this x hx))⟩
 obtain ⟨hI,hD⟩:=finR_V hf
 unfold Sp.endR
 by_cases a4:(s.all fun x => (Sp.V (Sp.bod s) s.length x.n).isSome) = true
 ·have hz:∀ i,i < s.length -> ¬(Sp.finR s).1.getD i default < 0:=fun i hi => hD i hi trivial (List.all_eq_true.1 a4 _ (getD_mem hi))
  have hany:¬((Sp.finR s).1.any fun x => decide (x < 0)) = true:=fun y => by
   obtain ⟨x,hx,hx0⟩:=List.any_eq_true.1 y
   obtain ⟨i,hi,rfl⟩:=List.getElem_of_mem hx
   rw [hI.1] at hi
   have:=hz i hi
   rw [List.getD_eq_getElem?_getD,List.getElem?_eq_getElem (by rw [hI.1];exact hi)] at this
   exact this (of_decide_eq_true hx0)
  have hfm:=found_of a3'.1
  have hok:(Sp.meaR s (Sp.finR s).1 (Sp.finR s).2 l 0 0).2.2 = true:=(meaR_ok' l 0 0).2 fun x hx k => hz _ (fnd_n (hfm x hx k)).1
  rw [if_neg hany,if_pos a4,mea_V hI hfm hok,if_neg (show ¬¬(0:Int) = 0 by omega)]
 ·have hany:((Sp.finR s).1.any fun x => decide (x < 0)) = true:=by
   rw [Bool.not_eq_true,List.all_eq_false] at a4
   obtain ⟨x,hx,hxv⟩:=a4
   obtain ⟨i,hi,rfl⟩:=List.getElem_of_mem hx
   have hlt:i < (Sp.finR s).1.length:=by rw [hI.1];exact hi
   refine List.any_eq_true.2 ⟨(Sp.finR s).1[i],List.getElem_mem hlt,?_⟩
   refine decide_eq_true (Classical.byContradiction fun y => hxv ?_)
   have:=hI.2.2 i hi (by rw [List.getD_eq_getElem?_getD,List.getElem?_eq_getElem hlt];exact y)
   rw [List.getD_eq_getElem?_getD,List.getElem?_eq_getElem hi] at this
   have e:Sp.V (Sp.bod s) s.length s[i].n = _:=this
   rw [e];rfl
  rw [if_pos hany,if_neg a4,if_pos (by decide)]
theorem bod_eq (s:List Sb):Sp.bod (Sp.own s) = Sp.bod s:=by
 funext n
 unfold Sp.bod Sp.own
 rw [List.foldl_map];rfl
theorem siz_own (l:List Bk) (s:List Sb):Sp.siz l (Sp.own s) = Sp.siz l s /\ Sp.exq l (Sp.own s) = Sp.exq l s:=by
 have e1:Sp.VN (Sp.own s) = Sp.VN s:=by unfold Sp.VN;rw [bod_eq,own_len]
 have e2:Sp.blks l (Sp.own s) = Sp.blks l s:=by unfold Sp.blks Sp.own;rw [List.flatMap_map]
 have e3:Sp.prpB l (Sp.own s) = Sp.prpB l s:=by
  unfold Sp.prpB
  rw [own_rep,ordB_eq,ordB_eq l s,own_any]
  congr 1
  unfold Sp.numB Sp.own
  rw [List.all_map];rfl
 have e4:Sp.lostB (Sp.own s) = Sp.lostB s:=by
  funext x
  unfold Sp.lostB
  congr 1
  have:0 <= Sp.fnd (Sp.own s) (Sp.cN x.ws) ↔ 0 <= Sp.fnd s (Sp.cN x.ws):=by
   rw [nums_of,nums_of]
   have e:Sp.nums (Sp.own s) = Sp.nums s:=by unfold Sp.nums Sp.own;rw [List.map_map];rfl
   rw [e]
  exact decide_eq_decide.2 (by omega)
 have e5:Sp.xe l (Sp.own s) = Sp.xe l s:=by
  unfold Sp.xe
  rw [e3,e2,e4,bod_eq,own_len]
  have:((Sp.own s).all fun x => (Sp.V (Sp.bod s) s.length x.n).isSome) = (s.all fun x => (Sp.V (Sp.bod s) s.length x.n).isSome):=by unfold Sp.own;rw [List.all_map];rfl
  rw [this]
 have e6:Sp.siz l (Sp.own s) = Sp.siz l s:=by unfold Sp.siz;rw [e5,e1]
 have e7:Sp.XM l (Sp.own s) = Sp.XM l s:=by unfold Sp.XM Sp.XN;rw [bod_eq,own_len]
 exact ⟨e6,by unfold Sp.exq;rw [e6,e7]⟩
end Go.Av

namespace Go.Av
open Go.Proofs
noncomputable def M3:Mach:=⟨fun _ => Try.prog,fun f => [57].contains f || M1.inl f⟩
theorem hm3:(M3.P ()).follows .mixedOrders = true:=by kernel_rfl
theorem ev_M3 {f:FuncId} {args:List AV} {d:AV} (h:Ev M3 (.pure f args) d []):Ev M1 (.pure f args) d []:=.sem (wp_sound hm3 (c:=.pure f args) h)
theorem pure_M3 {f:FuncId} {args:List AV} {d:AV} (h:Ev M1 (.pure f args) d []):Ev M3 (.pure f args) d []:=.sem (wp_sound hm1 (c:=.pure f args) h)
theorem ev14_d (sk f:Bool) (ws:List Wo) (cm:List UInt8) (h:Sp.okW ws):Ev M3 (.pure 14 [bkA sk f ws cm]) (.tup [.int .i64 (Sp.cN ws),.int .i64 (Sp.cT ws),.bool (Sp.cIs ws),.int .i64 (Sp.cE ws)]) []:=pure_M3 (ev14 sk f ws cm h)
theorem ev19_d (g h:Bool) (l:List Bk) (s:List Sb) (m:Int) (hl:s.length <= 1000000):Ev M3 (.pure 19 [pgA g h l s,.int .i64 m]) (.int .i64 (Sp.fnd s m)) []:=pure_M3 (ev19 g h l s m hl)
theorem ev26_d (g h:Bool) (l:List Bk) (s:List Sb) (hk:Sp.okC1 l s):Ev M3 (.pure 26 [pgA g h l s]) (.tup [.int .i64 (Sp.siz l s).1,.int .i64 (Sp.siz l s).2]) []:=by
 rw [<- chk_siz];exact pure_M3 (ev26 g h l s hk)
theorem el_mapE {X:List Bl} {i:Nat} {x:Bl} (he:X.getD i default = x) (h:i < X.length):(X.map Bl.a).get?Internal i = some (Bl.a x):=by
 rw [<- he];exact el_map h
end Go.Av

namespace Go.Av
open Go.Proofs
set_option maxRecDepth 100000
def fi57:Fi:=⟨76,[.tmp 8,.tmp 9]⟩
def kp57:List (Nat × List Nat):=[(0,[1,2,3,4]),(1,[1,2,3,4,10]),(2,[1,2,3,4,10,11]),(3,[1,2,3,4,10,11,21]),(4,[1,2,3,4,10,11]),(5,[1,2,3,4,10,11,12,13,14]),(6,[1,2,3,4,10,11,12,13,35]),(7,[1,2,3,4,10,11]),(8,[1,2,3,4,10,11,13,16]),(9,[1,2,3,4,10,11,13,16,50]),(10,[8,9]),(11,[1,2,3,4,10,11,13,16,17]),(12,[1,2,3,4,10,11,13,16,17,66]),(13,[1,2,3,4,10,11,13,16,17]),(14,[1,2,3,4,10,11,13,16,17]),(15,[8,9])]
def tvRp_at (fm:Bool) (mn:List Bk) (g:Bool) (l:List Bk) (h:Bool) (s:List Sb) (K:List Bool) (B:List Bl) (kv bv:Nat)  (Q:AV -> Heap -> Prop):Prop:=Wp M3 (.run fi57 (atC (cd Try.f57) []) [(0,.agg [.vec fm 3 (mn.map Bk.a),.vec h 2 (s.map Sb.a)]),(1,.vec g 3 (l.map Bk.a)),(2,.row 0 kv),(3,.row 1 bv)] [⟨K.map (.bool),1,kv,false,true⟩,⟨B.map Bl.a,1,bv,false,true⟩]) Q
def tvRpz_at (fm:Bool) (mn:List Bk) (g:Bool) (l:List Bk) (h:Bool) (s:List Sb) (K:List Bool) (B:List Bl) (kv bv:Nat) (i:Int) (Q:AV -> Heap -> Prop):Prop:=Wp M3 (.run fi57 (atC (cd Try.f57) [1,1,0,1,0,0]) [(1,.vec g 3 (l.map Bk.a)),(2,.row 0 kv),(3,.row 1 bv),(4,.ptr 2 0 0 0),(10,.vnil),(11,.int .i64 i)] [⟨K.map (.bool),1,kv,false,true⟩,⟨B.map Bl.a,1,bv,false,true⟩,⟨[.agg [.vec fm 3 (mn.map Bk.a),.vec h 2 (s.map Sb.a)]],2,0,false,false⟩]) Q
def tvRpa_at (fm:Bool) (mn:List Bk) (g:Bool) (l:List Bk) (h:Bool) (s:List Sb) (K:List Bool) (B:List Bl) (kv bv:Nat) (q:List Bk) (v:Nat) (i:Int) (Q:AV -> Heap -> Prop):Prop:=Wp M3 (.run fi57 (atC (cd Try.f57) [1,1,0,1,0,0]) [(1,.vec g 3 (l.map Bk.a)),(2,.row 0 kv),(3,.row 1 bv),(4,.ptr 2 0 0 0),(10,.row 3 v),(11,.int .i64 i)] [⟨K.map (.bool),1,kv,false,true⟩,⟨B.map Bl.a,1,bv,false,true⟩,⟨[.agg [.vec fm 3 (mn.map Bk.a),.vec h 2 (s.map Sb.a)]],2,0,false,false⟩,⟨q.map Bk.a,3,v,false,true⟩]) Q
def tvRi0_at (fm:Bool) (mn:List Bk) (g:Bool) (l:List Bk) (h:Bool) (s:List Sb) (K:List Bool) (B:List Bl) (kv bv:Nat) (t k n i:Int) (Q:AV -> Heap -> Prop):Prop:=Wp M3 (.run fi57 (atC (cd Try.f57) [1,1,0,1,0,0,1,0,0,1,1,1,1,1,0,0]) [(1,.vec g 3 (l.map Bk.a)),(2,.row 0 kv),(3,.row 1 bv),(4,.ptr 2 0 0 0),(10,.vnil),(11,.int .i64 i),(13,.int .i64 t),(16,.int .i64 k),(17,.int .i64 n)] [⟨K.map (.bool),1,kv,false,true⟩,⟨B.map Bl.a,1,bv,false,true⟩,⟨[.agg [.vec fm 3 (mn.map Bk.a),.vec h 2 (s.map Sb.a)]],2,0,false,false⟩]) Q
def tvRi1_at (fm:Bool) (mn:List Bk) (g:Bool) (l:List Bk) (h:Bool) (s:List Sb) (K:List Bool) (B:List Bl) (kv bv:Nat) (t k n i:Int) (Q:AV -> Heap -> Prop):Prop:=Wp M3 (.run fi57 (atC (cd Try.f57) [1,1,0,1,0,0,1,0,0,1,1,1,1,1,0,0]) [(1,.vec g 3 (l.map Bk.a)),(2,.row 0 kv),(3,.row 1 bv),(4,.ptr 2 0 0 0),(10,.vnil),(11,.int .i64 i),(13,.int .i64 t),(16,.int .i64 k),(17,.int .i64 n)] [⟨K.map (.bool),1,kv,false,true⟩,⟨B.map Bl.a,1,bv,false,true⟩,⟨[.agg [.vec fm 3 (mn.map Bk.a),.vec h 2 (s.map Sb.a)]],2,0,false,false⟩]) Q
def tvRia_at (fm:Bool) (mn:List Bk) (g:Bool) (l:List Bk) (h:Bool) (s:List Sb) (K:List Bool) (B:List Bl) (kv bv:Nat) (q:List Bk) (v:Nat) (t k n i:Int) (Q:AV -> Heap -> Prop):Prop:=Wp M3 (.run fi57 (atC (cd Try.f57) [1,1,0,1,0,0,1,0,0,1,1,1,1,1,0,0]) [(1,.vec g 3 (l.map Bk.a)),(2,.row 0 kv),(3,.row 1 bv),(4,.ptr 2 0 0 0),(10,.row 3 v),(11,.int .i64 i),(13,.int .i64 t),(16,.int .i64 k),(17,.int .i64 n)] [⟨K.map (.bool),1,kv,false,true⟩,⟨B.map Bl.a,1,bv,false,true⟩,⟨[.agg [.vec fm 3 (mn.map Bk.a),.vec h 2 (s.map Sb.a)]],2,0,false,false⟩,⟨q.map Bk.a,3,v,false,true⟩]) Q
theorem owncall57 {args:List AV} {L:Heap} {Q:AV -> Heap -> Prop} (h:Wp M3 (.run fi57 [.code (cd Try.f57)] (argVars 0 args) L) Q):Wp M3 (.own 57 args L) Q:=
 own_wp Try.f57 fi57 (by kernel_rfl) (by kernel_rfl) (by kernel_rfl) (by kernel_rfl) h
theorem tvRp (fm:Bool) (mn:List Bk) (g:Bool) (l:List Bk) (h:Bool) (s:List Sb) (K:List Bool) (B:List Bl) (kv bv:Nat)   (Q:AV -> Heap -> Prop) (H :
  tvRpz_at (fm) (mn) (g) (l) (h) (s) (K) (B) (kv) (bv) (0) Q) :
 tvRp_at fm mn g l h s K B kv bv Q:=by
 unfold tvRp_at
 exact path_wp (G:=given kp57 [] []) 1000 [] ⟨(atC (cd Try.f57) [1,1,0,1,0,0]),[(1,AV.vec g 3 (List.map Bk.a l)),(2,AV.row 0 kv),(3,AV.row 1 bv),(4,AV.ptr 2 0 0 0),(10,AV.vnil),(11,vi 0)],[⟨List.map vb K,1,kv,false,true⟩,⟨List.map Bl.a B,1,bv,false,true⟩,⟨[ag [AV.vec fm 3 (List.map Bk.a mn),AV.vec h 2 (List.map Sb.a s)]],2,0,false,false⟩],_,[],_⟩ (by kernel_rfl) b0 q0 c0 (H)
theorem tvRpz (fm:Bool) (mn:List Bk) (g:Bool) (l:List Bk) (h:Bool) (s:List Sb) (K:List Bool) (B:List Bl) (kv bv:Nat) (i:Int)  (Q:AV -> Heap -> Prop) (H :
  ((i < (↑l.length:Int)) -> (Sp.okW (l.getD i.toNat default).3) /\
   (0 <= i) /\
   (i.toNat < l.length) /\
   ((¬(Sp.cIs (l.getD i.toNat default).3 = true)) -> (-9223372036854775808 <= i + 1 /\ i + 1 <= 9223372036854775807) /\
    tvRpa_at (fm) (mn) (g) (l) (h) (s) (K) (B) (kv) (bv) ([{ sk:=(l.getD i.toNat default).1,f:=(l.getD i.toNat default).2,ws:=(l.getD i.toNat default).3,cm:=(l.getD i.toNat default).4 }]) (0) (i + 1) Q) /\
   (¬(¬(Sp.cIs (l.getD i.toNat default).3 = true)) -> (s.length <= 1000000) /\
    (0 <= Sp.fnd s (Sp.cN (l.getD i.toNat default).3)) /\
    ((Sp.fnd s (Sp.cN (l.getD i.toNat default).3)).toNat < K.length) /\
    ((¬(K.getD (Sp.fnd s (Sp.cN (l.getD i.toNat default).3)).toNat default = true)) -> Q (tu [AV.vnil,vb false]) [{ elems:=List.map vb K,es:=1,ver:=kv,frozen:=false,clean:=true },{ elems:=List.map Bl.a B,es:=1,ver:=bv,frozen:=false,clean:=true },{ elems:=[ag [AV.vec fm 3 (List.map Bk.a mn),AV.vec h 2 (List.map Sb.a s)]],es:=2,ver:=0,frozen:=false,clean:=false }]) /\
    (¬(¬(K.getD (Sp.fnd s (Sp.cN (l.getD i.toNat default).3)).toNat default = true)) -> tvRi0_at (fm) (mn) (g) (l) (h) (s) (K) (B) (kv) (bv) (Sp.cT (l.getD i.toNat default).3) (Sp.fnd s (Sp.cN (l.getD i.toNat default).3)) (0) (i) Q))) /\
  (¬(i < (↑l.length:Int)) -> Q (tu [AV.vnil,vb true]) [{ elems:=List.map vb K,es:=1,ver:=kv,frozen:=false,clean:=true },{ elems:=List.map Bl.a B,es:=1,ver:=bv,frozen:=false,clean:=true },{ elems:=[ag [AV.vec fm 3 (List.map Bk.a mn),AV.vec h 2 (List.map Sb.a s)]],es:=2,ver:=0,frozen:=false,clean:=false }])) :
 tvRpz_at fm mn g l h s K B kv bv i Q:=by
 unfold tvRpz_at
 have w1:(List.map Bk.a l).length = l.length:=List.length_map ..
 have i2:(decide (i < (↑(List.map Bk.a l).length:Int))) = true ↔ (i < (↑l.length:Int)):=(by (try rw [w1]);all_goals exact i_dec)
 rcases xm (i < (↑l.length:Int)) with d3 | d3
 ·have H:=H.1 d3
  obtain ⟨k4,H⟩:=H
  obtain ⟨k6,H⟩:=H
  have i7:(decide (i.toNat < (List.map Bk.a l).length)) = true ↔ (i.toNat < l.length):=(by (try rw [w1]);all_goals exact i_dec)
  obtain ⟨k8,H⟩:=H
  refine path_wp (G:=given kp57 [(5,3,.elem (ag [vb (l.getD i.toNat default).1,AV.vec (l.getD i.toNat default).2 2 (List.map Wo.a (l.getD i.toNat default).3),AV.str (l.getD i.toNat default).4])),(5,4,.call (tu [vi (Sp.cN (l.getD i.toNat default).3),vi (Sp.cT (l.getD i.toNat default).3),vb (Sp.cIs (l.getD i.toNat default).3),vi (Sp.cE (l.getD i.toNat default).3)]) none)] []) 12 [true] ⟨(atC (cd Try.f57) [1,1,0,1,0,0,1,0,0,1,0,1]),[(1,AV.vec g 3 (List.map Bk.a l)),(2,AV.row 0 kv),(3,AV.row 1 bv),(4,AV.ptr 2 0 0 0),(10,AV.vnil),(11,vi i),(12,vi (Sp.cN (l.getD i.toNat default).3)),(13,vi (Sp.cT (l.getD i.toNat default).3)),(35,vb !Sp.cIs (l.getD i.toNat default).3)],[⟨List.map vb K,1,kv,false,true⟩,⟨List.map Bl.a B,1,bv,false,true⟩,⟨[ag [AV.vec fm 3 (List.map Bk.a mn),AV.vec h 2 (List.map Sb.a s)]],2,0,false,false⟩],_,[((List.map Bk.a l).get?Internal i.toNat = some (ag [vb (l.getD i.toNat default).1,AV.vec (l.getD i.toNat default).2 2 (List.map Wo.a (l.getD i.toNat default).3),AV.str (l.getD i.toNat default).4]))],_⟩ (by kernel_rfl) (bc (beq_t (i2.2 d3)) (bc (i_dec.2 k6) (bc (i7.2 k8) b0))) (qc (el_map k8) q0) (ce (@ev14_d ((l.getD i.toNat default).1) ((l.getD i.toNat default).2) ((l.getD i.toNat default).3) ((l.getD i.toNat default).4) k4) c0) ?_
  rcases xm (¬(Sp.cIs (l.getD i.toNat default).3 = true)) with d10 | d10
  ·have H:=H.1 d10
   have i12:(decide (i.toNat < (List.map Bk.a l).length)) = true ↔ (i.toNat < l.length):=(by (try rw [w1]);all_goals exact i_dec)
   obtain ⟨k13,H⟩:=H
   have w14:wi (i + 1) = i + 1:=wI64 k13
   have w15:[ag [vb (l.getD i.toNat default).1,AV.vec (l.getD i.toNat default).2 2 (List.map Wo.a (l.getD i.toNat default).3),AV.str (l.getD i.toNat default).4]] = List.map Bk.a [{ sk:=(l.getD i.toNat default).1,f:=(l.getD i.toNat default).2,ws:=(l.getD i.toNat default).3,cm:=(l.getD i.toNat default).4 }]:=rfl
   exact path_wp (G:=given kp57 [(7,4,.elem (ag [vb (l.getD i.toNat default).1,AV.vec (l.getD i.toNat default).2 2 (List.map Wo.a (l.getD i.toNat default).3),AV.str (l.getD i.toNat default).4]))] []) 1000 [true] ⟨(atC (cd Try.f57) [1,1,0,1,0,0]),[(1,AV.vec g 3 (List.map Bk.a l)),(2,AV.row 0 kv),(3,AV.row 1 bv),(4,AV.ptr 2 0 0 0),(10,AV.row 3 0),(11,vi (wi (i + 1)))],[⟨List.map vb K,1,kv,false,true⟩,⟨List.map Bl.a B,1,bv,false,true⟩,⟨[ag [AV.vec fm 3 (List.map Bk.a mn),AV.vec h 2 (List.map Sb.a s)]],2,0,false,false⟩,⟨[ag [vb (l.getD i.toNat default).1,AV.vec (l.getD i.toNat default).2 2 (List.map Wo.a (l.getD i.toNat default).3),AV.str (l.getD i.toNat default).4]],3,0,false,true⟩],[(!Sp.cIs (l.getD i.toNat default).3) == true,decide (0 <= i),decide (i.toNat < (List.map Bk.a l).length),true],[((List.map Bk.a l).get?Internal i.toNat = some (ag [vb (l.getD i.toNat default).1,AV.vec (l.getD i.toNat default).2 2 (List.map Wo.a (l.getD i.toNat default).3),AV.str (l.getD i.toNat default).4]))],_⟩ (by kernel_rfl) (bc (beq_t ((i_not (i_var _)).2 d10)) (bc (i_dec.2 k6) (bc (i12.2 k8) (bc rfl b0)))) (qc (el_map k8) q0) c0 (by (try rw [w14]);(try rw [w15]);all_goals exact H)
  ·have H:=H.2 d10
   obtain ⟨k16,H⟩:=H
   obtain ⟨k18,H⟩:=H
   have w19:(List.map vb K).length = K.length:=List.length_map ..
   have i20:(decide ((Sp.fnd s (Sp.cN (l.getD i.toNat default).3)).toNat < (List.map vb K).length)) = true ↔ ((Sp.fnd s (Sp.cN (l.getD i.toNat default).3)).toNat < K.length):=(by (try rw [w19]);all_goals exact i_dec)
   obtain ⟨k21,H⟩:=H
   refine path_wp (G:=given kp57 [(8,2,.call (vi (Sp.fnd s (Sp.cN (l.getD i.toNat default).3))) none),(9,3,.elem (vb (K.getD (Sp.fnd s (Sp.cN (l.getD i.toNat default).3)).toNat default)))] []) 7 [false] ⟨(atC (cd Try.f57) [1,1,0,1,0,0,1,0,0,1,1,1,0,1]),[(1,AV.vec g 3 (List.map Bk.a l)),(2,AV.row 0 kv),(3,AV.row 1 bv),(4,AV.ptr 2 0 0 0),(10,AV.vnil),(11,vi i),(13,vi (Sp.cT (l.getD i.toNat default).3)),(16,vi (Sp.fnd s (Sp.cN (l.getD i.toNat default).3))),(50,vb !K.getD (Sp.fnd s (Sp.cN (l.getD i.toNat default).3)).toNat default)],[⟨List.map vb K,1,kv,false,true⟩,⟨List.map Bl.a B,1,bv,false,true⟩,⟨[ag [AV.vec fm 3 (List.map Bk.a mn),AV.vec h 2 (List.map Sb.a s)]],2,0,false,false⟩],[(!Sp.cIs (l.getD i.toNat default).3) == false,true,kv == kv,decide (0 <= Sp.fnd s (Sp.cN (l.getD i.toNat default).3)),decide ((Sp.fnd s (Sp.cN (l.getD i.toNat default).3)).toNat < (List.map vb K).length),kv == kv],[((List.map vb K).get?Internal (Sp.fnd s (Sp.cN (l.getD i.toNat default).3)).toNat = some (vb (K.getD (Sp.fnd s (Sp.cN (l.getD i.toNat default).3)).toNat default)))],_⟩ (by kernel_rfl) (bc (beq_f (fun h => d10 ((i_not (i_var _)).1 h))) (bc rfl (bc (beq_self_eq_true _) (bc (i_dec.2 k18) (bc (i20.2 k21) (bc (beq_self_eq_true _) b0)))))) (qc (el_map k21) q0) (ce (@ev19_d (fm) (h) (mn) (s) (Sp.cN (l.getD i.toNat default).3) k16) c0) ?_
   rcases xm (¬(K.getD (Sp.fnd s (Sp.cN (l.getD i.toNat default).3)).toNat default = true)) with d23 | d23
   ·have H:=H.1 d23
    exact path_ret (G:=given kp57 [] []) 1000 [true] (k:=((atC (cd Try.f57) [1,1,0,1,0,0,1,0,0,1,1,1,0,1,0,1])).tail) (env':=[(8,AV.vnil),(9,vb false)]) (L':=[⟨List.map vb K,1,kv,false,true⟩,⟨List.map Bl.a B,1,bv,false,true⟩,⟨[ag [AV.vec fm 3 (List.map Bk.a mn),AV.vec h 2 (List.map Sb.a s)]],2,0,false,false⟩]) (asm:=[(!K.getD (Sp.fnd s (Sp.cN (l.getD i.toNat default).3)).toNat default) == true]) (eqs:=[]) (calls:=[]) (tu [AV.vnil,vb false]) (by kernel_rfl) (by kernel_rfl) (allB_cons (beq_t ((i_not (i_var _)).2 d23)) allB_nil) allP_nil allC_nil H
   ·have H:=H.2 d23
    exact path_wp (G:=given kp57 [] []) 1000 [false] ⟨(atC (cd Try.f57) [1,1,0,1,0,0,1,0,0,1,1,1,1,1,0,0]),[(1,AV.vec g 3 (List.map Bk.a l)),(2,AV.row 0 kv),(3,AV.row 1 bv),(4,AV.ptr 2 0 0 0),(10,AV.vnil),(11,vi i),(13,vi (Sp.cT (l.getD i.toNat default).3)),(16,vi (Sp.fnd s (Sp.cN (l.getD i.toNat default).3))),(17,vi 0)],[⟨List.map vb K,1,kv,false,true⟩,⟨List.map Bl.a B,1,bv,false,true⟩,⟨[ag [AV.vec fm 3 (List.map Bk.a mn),AV.vec h 2 (List.map Sb.a s)]],2,0,false,false⟩],[(!K.getD (Sp.fnd s (Sp.cN (l.getD i.toNat default).3)).toNat default) == false],[],_⟩ (by kernel_rfl) (bc (beq_f (fun h => d23 ((i_not (i_var _)).1 h))) b0) q0 c0 (H)
 ·have H:=H.2 d3
  exact path_ret (G:=given kp57 [] []) 1000 [false] (k:=((atC (cd Try.f57) [1,1,1,1])).tail) (env':=[(8,AV.vnil),(9,vb true)]) (L':=[⟨List.map vb K,1,kv,false,true⟩,⟨List.map Bl.a B,1,bv,false,true⟩,⟨[ag [AV.vec fm 3 (List.map Bk.a mn),AV.vec h 2 (List.map Sb.a s)]],2,0,false,false⟩]) (asm:=[(decide (i < (↑(List.map Bk.a l).length:Int))) == false]) (eqs:=[]) (calls:=[]) (tu [AV.vnil,vb true]) (by kernel_rfl) (by kernel_rfl) (allB_cons (beq_f (fun h => d3 (i2.1 h))) allB_nil) allP_nil allC_nil H
theorem tvRpa (fm:Bool) (mn:List Bk) (g:Bool) (l:List Bk) (h:Bool) (s:List Sb) (K:List Bool) (B:List Bl) (kv bv:Nat) (q:List Bk) (v:Nat) (i:Int)  (Q:AV -> Heap -> Prop) (H :
  ((i < (↑l.length:Int)) -> (Sp.okW (l.getD i.toNat default).3) /\
   (0 <= i) /\
   (i.toNat < l.length) /\
   ((¬(Sp.cIs (l.getD i.toNat default).3 = true)) -> ((q.length + 1) * 48 <= 1099511627776) /\
    (-9223372036854775808 <= i + 1 /\ i + 1 <= 9223372036854775807) /\
    tvRpa_at (fm) (mn) (g) (l) (h) (s) (K) (B) (kv) (bv) (q ++ [{ sk:=(l.getD i.toNat default).1,f:=(l.getD i.toNat default).2,ws:=(l.getD i.toNat default).3,cm:=(l.getD i.toNat default).4 }]) (v + 1) (i + 1) Q) /\
   (¬(¬(Sp.cIs (l.getD i.toNat default).3 = true)) -> (s.length <= 1000000) /\
    (0 <= Sp.fnd s (Sp.cN (l.getD i.toNat default).3)) /\
    ((Sp.fnd s (Sp.cN (l.getD i.toNat default).3)).toNat < K.length) /\
    ((¬(K.getD (Sp.fnd s (Sp.cN (l.getD i.toNat default).3)).toNat default = true)) -> Q (tu [AV.vnil,vb false]) [{ elems:=List.map vb K,es:=1,ver:=kv,frozen:=false,clean:=true },{ elems:=List.map Bl.a B,es:=1,ver:=bv,frozen:=false,clean:=true },{ elems:=[ag [AV.vec fm 3 (List.map Bk.a mn),AV.vec h 2 (List.map Sb.a s)]],es:=2,ver:=0,frozen:=false,clean:=false },{ elems:=List.map Bk.a q,es:=3,ver:=v,frozen:=false,clean:=true }]) /\
    (¬(¬(K.getD (Sp.fnd s (Sp.cN (l.getD i.toNat default).3)).toNat default = true)) -> tvRia_at (fm) (mn) (g) (l) (h) (s) (K) (B) (kv) (bv) (q) (v) (Sp.cT (l.getD i.toNat default).3) (Sp.fnd s (Sp.cN (l.getD i.toNat default).3)) (0) (i) Q))) /\
  (¬(i < (↑l.length:Int)) -> Q (tu [AV.row 3 v,vb true]) [{ elems:=List.map vb K,es:=1,ver:=kv,frozen:=false,clean:=true },{ elems:=List.map Bl.a B,es:=1,ver:=bv,frozen:=false,clean:=true },{ elems:=[ag [AV.vec fm 3 (List.map Bk.a mn),AV.vec h 2 (List.map Sb.a s)]],es:=2,ver:=0,frozen:=false,clean:=false },{ elems:=List.map Bk.a q,es:=3,ver:=v,frozen:=false,clean:=true }])) :
 tvRpa_at fm mn g l h s K B kv bv q v i Q:=by
 unfold tvRpa_at
 have w1:(List.map Bk.a l).length = l.length:=List.length_map ..
 have i2:(decide (i < (↑(List.map Bk.a l).length:Int))) = true ↔ (i < (↑l.length:Int)):=(by (try rw [w1]);all_goals exact i_dec)
 rcases xm (i < (↑l.length:Int)) with d3 | d3
 ·have H:=H.1 d3
  obtain ⟨k4,H⟩:=H
  obtain ⟨k6,H⟩:=H
  have i7:(decide (i.toNat < (List.map Bk.a l).length)) = true ↔ (i.toNat < l.length):=(by (try rw [w1]);all_goals exact i_dec)
  obtain ⟨k8,H⟩:=H
  refine path_wp (G:=given kp57 [(5,3,.elem (ag [vb (l.getD i.toNat default).1,AV.vec (l.getD i.toNat default).2 2 (List.map Wo.a (l.getD i.toNat default).3),AV.str (l.getD i.toNat default).4])),(5,4,.call (tu [vi (Sp.cN (l.getD i.toNat default).3),vi (Sp.cT (l.getD i.toNat default).3),vb (Sp.cIs (l.getD i.toNat default).3),vi (Sp.cE (l.getD i.toNat default).3)]) none)] []) 12 [true] ⟨(atC (cd Try.f57) [1,1,0,1,0,0,1,0,0,1,0,1]),[(1,AV.vec g 3 (List.map Bk.a l)),(2,AV.row 0 kv),(3,AV.row 1 bv),(4,AV.ptr 2 0 0 0),(10,AV.row 3 v),(11,vi i),(12,vi (Sp.cN (l.getD i.toNat default).3)),(13,vi (Sp.cT (l.getD i.toNat default).3)),(35,vb !Sp.cIs (l.getD i.toNat default).3)],[⟨List.map vb K,1,kv,false,true⟩,⟨List.map Bl.a B,1,bv,false,true⟩,⟨[ag [AV.vec fm 3 (List.map Bk.a mn),AV.vec h 2 (List.map Sb.a s)]],2,0,false,false⟩,⟨List.map Bk.a q,3,v,false,true⟩],_,[((List.map Bk.a l).get?Internal i.toNat = some (ag [vb (l.getD i.toNat default).1,AV.vec (l.getD i.toNat default).2 2 (List.map Wo.a (l.getD i.toNat default).3),AV.str (l.getD i.toNat default).4]))],_⟩ (by kernel_rfl) (bc (beq_t (i2.2 d3)) (bc (i_dec.2 k6) (bc (i7.2 k8) b0))) (qc (el_map k8) q0) (ce (@ev14_d ((l.getD i.toNat default).1) ((l.getD i.toNat default).2) ((l.getD i.toNat default).3) ((l.getD i.toNat default).4) k4) c0) ?_
  rcases xm (¬(Sp.cIs (l.getD i.toNat default).3 = true)) with d10 | d10
  ·have H:=H.1 d10
   have i12:(decide (i.toNat < (List.map Bk.a l).length)) = true ↔ (i.toNat < l.length):=(by (try rw [w1]);all_goals exact i_dec)
   have w13:(List.map Bk.a q).length = q.length:=List.length_map ..
   have i14:(decide (((List.map Bk.a q).length + 1) * 48 <= 1099511627776)) = true ↔ ((q.length + 1) * 48 <= 1099511627776):=(by (try rw [w13]);all_goals exact i_dec)
   obtain ⟨k15,H⟩:=H
   have w16:List.map Bk.a q ++ [ag [vb (l.getD i.toNat default).1,AV.vec (l.getD i.toNat default).2 2 (List.map Wo.a (l.getD i.toNat default).3),AV.str (l.getD i.toNat default).4]] = List.map Bk.a (q ++ [{ sk:=(l.getD i.toNat default).1,f:=(l.getD i.toNat default).2,ws:=(l.getD i.toNat default).3,cm:=(l.getD i.toNat default).4 }]):=(lm_app rfl rfl)
   obtain ⟨k17,H⟩:=H
   have w18:wi (i + 1) = i + 1:=wI64 k17
   exact path_wp (G:=given kp57 [(7,4,.elem (ag [vb (l.getD i.toNat default).1,AV.vec (l.getD i.toNat default).2 2 (List.map Wo.a (l.getD i.toNat default).3),AV.str (l.getD i.toNat default).4]))] []) 1000 [true] ⟨(atC (cd Try.f57) [1,1,0,1,0,0]),[(1,AV.vec g 3 (List.map Bk.a l)),(2,AV.row 0 kv),(3,AV.row 1 bv),(4,AV.ptr 2 0 0 0),(10,AV.row 3 (v + 1)),(11,vi (wi (i + 1)))],[⟨List.map vb K,1,kv,false,true⟩,⟨List.map Bl.a B,1,bv,false,true⟩,⟨[ag [AV.vec fm 3 (List.map Bk.a mn),AV.vec h 2 (List.map Sb.a s)]],2,0,false,false⟩,⟨List.map Bk.a q ++ [ag [vb (l.getD i.toNat default).1,AV.vec (l.getD i.toNat default).2 2 (List.map Wo.a (l.getD i.toNat default).3),AV.str (l.getD i.toNat default).4]],3,v + 1,false,true⟩],[(!Sp.cIs (l.getD i.toNat default).3) == true,decide (0 <= i),decide (i.toNat < (List.map Bk.a l).length),v == v,decide (((List.map Bk.a q).length + 1) * 48 <= 1099511627776)],[((List.map Bk.a l).get?Internal i.toNat = some (ag [vb (l.getD i.toNat default).1,AV.vec (l.getD i.toNat default).2 2 (List.map Wo.a (l.getD i.toNat default).3),AV.str (l.getD i.toNat default).4]))],_⟩ (by kernel_rfl) (bc (beq_t ((i_not (i_var _)).2 d10)) (bc (i_dec.2 k6) (bc (i12.2 k8) (bc (beq_self_eq_true _) (bc (i14.2 k15) b0))))) (qc (el_map k8) q0) c0 (by (try rw [w16]);(try rw [w18]);all_goals exact H)
  ·have H:=H.2 d10
   obtain ⟨k19,H⟩:=H
   obtain ⟨k21,H⟩:=H
   have w22:(List.map vb K).length = K.length:=List.length_map ..
   have i23:(decide ((Sp.fnd s (Sp.cN (l.getD i.toNat default).3)).toNat < (List.map vb K).length)) = true ↔ ((Sp.fnd s (Sp.cN (l.getD i.toNat default).3)).toNat < K.length):=(by (try rw [w22]);all_goals exact i_dec)
   obtain ⟨k24,H⟩:=H
   refine path_wp (G:=given kp57 [(8,2,.call (vi (Sp.fnd s (Sp.cN (l.getD i.toNat default).3))) none),(9,3,.elem (vb (K.getD (Sp.fnd s (Sp.cN (l.getD i.toNat default).3)).toNat default)))] []) 7 [false] ⟨(atC (cd Try.f57) [1,1,0,1,0,0,1,0,0,1,1,1,0,1]),[(1,AV.vec g 3 (List.map Bk.a l)),(2,AV.row 0 kv),(3,AV.row 1 bv),(4,AV.ptr 2 0 0 0),(10,AV.row 3 v),(11,vi i),(13,vi (Sp.cT (l.getD i.toNat default).3)),(16,vi (Sp.fnd s (Sp.cN (l.getD i.toNat default).3))),(50,vb !K.getD (Sp.fnd s (Sp.cN (l.getD i.toNat default).3)).toNat default)],[⟨List.map vb K,1,kv,false,true⟩,⟨List.map Bl.a B,1,bv,false,true⟩,⟨[ag [AV.vec fm 3 (List.map Bk.a mn),AV.vec h 2 (List.map Sb.a s)]],2,0,false,false⟩,⟨List.map Bk.a q,3,v,false,true⟩],[(!Sp.cIs (l.getD i.toNat default).3) == false,true,kv == kv,decide (0 <= Sp.fnd s (Sp.cN (l.getD i.toNat default).3)),decide ((Sp.fnd s (Sp.cN (l.getD i.toNat default).3)).toNat < (List.map vb K).length),kv == kv],[((List.map vb K).get?Internal (Sp.fnd s (Sp.cN (l.getD i.toNat default).3)).toNat = some (vb (K.getD (Sp.fnd s (Sp.cN (l.getD i.toNat default).3)).toNat default)))],_⟩ (by kernel_rfl) (bc (beq_f (fun h => d10 ((i_not (i_var _)).1 h))) (bc rfl (bc (beq_self_eq_true _) (bc (i_dec.2 k21) (bc (i23.2 k24) (bc (beq_self_eq_true _) b0)))))) (qc (el_map k24) q0) (ce (@ev19_d (fm) (h) (mn) (s) (Sp.cN (l.getD i.toNat default).3) k19) c0) ?_
   rcases xm (¬(K.getD (Sp.fnd s (Sp.cN (l.getD i.toNat default).3)).toNat default = true)) with d26 | d26
   ·have H:=H.1 d26
    exact path_ret (G:=given kp57 [] []) 1000 [true] (k:=((atC (cd Try.f57) [1,1,0,1,0,0,1,0,0,1,1,1,0,1,0,1])).tail) (env':=[(8,AV.vnil),(9,vb false)]) (L':=[⟨List.map vb K,1,kv,false,true⟩,⟨List.map Bl.a B,1,bv,false,true⟩,⟨[ag [AV.vec fm 3 (List.map Bk.a mn),AV.vec h 2 (List.map Sb.a s)]],2,0,false,false⟩,⟨List.map Bk.a q,3,v,false,true⟩]) (asm:=[(!K.getD (Sp.fnd s (Sp.cN (l.getD i.toNat default).3)).toNat default) == true]) (eqs:=[]) (calls:=[]) (tu [AV.vnil,vb false]) (by kernel_rfl) (by kernel_rfl) (allB_cons (beq_t ((i_not (i_var _)).2 d26)) allB_nil) allP_nil allC_nil H
   ·have H:=H.2 d26
    exact path_wp (G:=given kp57 [] []) 1000 [false] ⟨(atC (cd Try.f57) [1,1,0,1,0,0,1,0,0,1,1,1,1,1,0,0]),[(1,AV.vec g 3 (List.map Bk.a l)),(2,AV.row 0 kv),(3,AV.row 1 bv),(4,AV.ptr 2 0 0 0),(10,AV.row 3 v),(11,vi i),(13,vi (Sp.cT (l.getD i.toNat default).3)),(16,vi (Sp.fnd s (Sp.cN (l.getD i.toNat default).3))),(17,vi 0)],[⟨List.map vb K,1,kv,false,true⟩,⟨List.map Bl.a B,1,bv,false,true⟩,⟨[ag [AV.vec fm 3 (List.map Bk.a mn),AV.vec h 2 (List.map Sb.a s)]],2,0,false,false⟩,⟨List.map Bk.a q,3,v,false,true⟩],[(!K.getD (Sp.fnd s (Sp.cN (l.getD i.toNat default).3)).toNat default) == false],[],_⟩ (by kernel_rfl) (bc (beq_f (fun h => d26 ((i_not (i_var _)).1 h))) b0) q0 c0 (H)
 ·have H:=H.2 d3
  exact path_ret (G:=given kp57 [] []) 1000 [false] (k:=((atC (cd Try.f57) [1,1,1,1])).tail) (env':=[(8,AV.row 3 v),(9,vb true)]) (L':=[⟨List.map vb K,1,kv,false,true⟩,⟨List.map Bl.a B,1,bv,false,true⟩,⟨[ag [AV.vec fm 3 (List.map Bk.a mn),AV.vec h 2 (List.map Sb.a s)]],2,0,false,false⟩,⟨List.map Bk.a q,3,v,false,true⟩]) (asm:=[(decide (i < (↑(List.map Bk.a l).length:Int))) == false]) (eqs:=[]) (calls:=[]) (tu [AV.row 3 v,vb true]) (by kernel_rfl) (by kernel_rfl) (allB_cons (beq_f (fun h => d3 (i2.1 h))) allB_nil) allP_nil allC_nil H
noncomputable abbrev zTpR1 (n:Int) (t:Int):=bif bif decide (n < t) then false else false then true else false
theorem tvRi0 (fm:Bool) (mn:List Bk) (g:Bool) (l:List Bk) (h:Bool) (s:List Sb) (K:List Bool) (B:List Bl) (kv bv:Nat) (t k n i:Int) (bf:Bool) (he:B.getD k.toNat default = ⟨bf,[]⟩) (Q:AV -> Heap -> Prop) (H :
  ((n < t) -> (0 <= k)) /\
  ((n < t) -> (k.toNat < B.length)) /\
  ((((n < t) /\ (false = true)) \/ (false = true)) -> (0 <= k) /\
   (k.toNat < B.length) /\
   (-9223372036854775808 <= n + 1 /\ n + 1 <= 9223372036854775807) /\
   tvRi0_at (fm) (mn) (g) (l) (h) (s) (K) (B) (kv) (bv) (t) (k) (n + 1) (i) Q) /\
  (¬(((n < t) /\ (false = true)) \/ (false = true)) -> (-9223372036854775808 <= i + 1 /\ i + 1 <= 9223372036854775807) /\
   tvRpz_at (fm) (mn) (g) (l) (h) (s) (K) (B) (kv) (bv) (i + 1) Q)) :
 tvRi0_at fm mn g l h s K B kv bv t k n i Q:=by
 unfold tvRi0_at
 obtain ⟨k3,H⟩:=H
 have w4:(List.map Bl.a B).length = B.length:=List.length_map ..
 have i5:(!(decide (n < t) == true && true) || decide (k.toNat < (List.map Bl.a B).length)) = true ↔ ((n < t) -> (k.toNat < B.length)):=(by (try rw [w4]);all_goals exact (i_imp (i_at (i_bt i_dec)) i_dec))
 obtain ⟨k6,H⟩:=H
 refine path_wp (G:=given kp57 [(12,7,(.elem (.vec bf 3 []):Ans))] []) 3 [] ⟨(atC (cd Try.f57) [1,1,0,1,0,0,1,0,0,1,1,1,1,1,0,0,0,1]),[(1,AV.vec g 3 (List.map Bk.a l)),(2,AV.row 0 kv),(3,AV.row 1 bv),(4,AV.ptr 2 0 0 0),(10,AV.vnil),(11,vi i),(13,vi t),(16,vi k),(17,vi n),(66,vb (zTpR1 n t))],[⟨List.map vb K,1,kv,false,true⟩,⟨List.map Bl.a B,1,bv,false,true⟩,⟨[ag [AV.vec fm 3 (List.map Bk.a mn),AV.vec h 2 (List.map Sb.a s)]],2,0,false,false⟩],[!(decide (n < t) == true && true) || bv == bv,!(decide (n < t) == true && true) || decide (0 <= k),!(decide (n < t) == true && true) || decide (k.toNat < (List.map Bl.a B).length),!(decide (n < t) == true && true) || bv == bv],[((decide (n < t) == true && true) = true -> (List.map Bl.a B).get?Internal k.toNat = some (AV.vec bf 3 []))],_⟩ (by kernel_rfl) (bc ((i_imp (i_at (i_bt i_dec)) i_eq).2 (fun _ => rfl)) (bc ((i_imp (i_at (i_bt i_dec)) i_dec).2 k3) (bc (i5.2 k6) (bc ((i_imp (i_at (i_bt i_dec)) i_eq).2 (fun _ => rfl)) b0)))) (qc (fun h => el_mapE he (k6 ((i_at (i_bt i_dec)).1 h))) q0) c0 ?_
 rcases xm (((n < t) /\ (false = true)) \/ (false = true)) with d10 | d10
 ·have H:=H.1 d10
  obtain ⟨k12,H⟩:=H
  have i13:(decide (k.toNat < (List.map Bl.a B).length)) = true ↔ (k.toNat < B.length):=(by (try rw [w4]);all_goals exact i_dec)
  obtain ⟨k14,H⟩:=H
  obtain ⟨k15,H⟩:=H
  have w16:wi (n + 1) = n + 1:=wI64 k15
  exact path_wp (G:=given kp57 [(14,4,(.elem (.vec bf 3 []):Ans))] []) 1000 [true] ⟨(atC (cd Try.f57) [1,1,0,1,0,0,1,0,0,1,1,1,1,1,0,0]),[(1,AV.vec g 3 (List.map Bk.a l)),(2,AV.row 0 kv),(3,AV.row 1 bv),(4,AV.ptr 2 0 0 0),(10,AV.vnil),(11,vi i),(13,vi t),(16,vi k),(17,vi (wi (n + 1)))],[⟨List.map vb K,1,kv,false,true⟩,⟨List.map Bl.a B,1,bv,false,true⟩,⟨[ag [AV.vec fm 3 (List.map Bk.a mn),AV.vec h 2 (List.map Sb.a s)]],2,0,false,false⟩],[(zTpR1 n t) == true,bv == bv,decide (0 <= k),decide (k.toNat < (List.map Bl.a B).length),bv == bv],[((List.map Bl.a B).get?Internal k.toNat = some (AV.vec bf 3 []))],_⟩ (by kernel_rfl) (bc (beq_t ((i_bor (i_band i_dec (i_var _)) (i_var _)).2 d10)) (bc (beq_self_eq_true _) (bc (i_dec.2 k12) (bc (i13.2 k14) (bc (beq_self_eq_true _) b0))))) (qc (el_mapE he k14) q0) c0 (by (try rw [w16]);all_goals exact H)
 ·have H:=H.2 d10
  obtain ⟨k17,H⟩:=H
  have w18:wi (i + 1) = i + 1:=wI64 k17
  exact path_wp (G:=given kp57 [] []) 1000 [false] ⟨(atC (cd Try.f57) [1,1,0,1,0,0]),[(1,AV.vec g 3 (List.map Bk.a l)),(2,AV.row 0 kv),(3,AV.row 1 bv),(4,AV.ptr 2 0 0 0),(10,AV.vnil),(11,vi (wi (i + 1)))],[⟨List.map vb K,1,kv,false,true⟩,⟨List.map Bl.a B,1,bv,false,true⟩,⟨[ag [AV.vec fm 3 (List.map Bk.a mn),AV.vec h 2 (List.map Sb.a s)]],2,0,false,false⟩],[(zTpR1 n t) == false],[],_⟩ (by kernel_rfl) (bc (beq_f (fun h => d10 ((i_bor (i_band i_dec (i_var _)) (i_var _)).1 h))) b0) q0 c0 (by (try rw [w18]);all_goals exact H)
theorem tvRi1 (fm:Bool) (mn:List Bk) (g:Bool) (l:List Bk) (h:Bool) (s:List Sb) (K:List Bool) (B:List Bl) (kv bv:Nat) (t k n i:Int) (bf:Bool) (y:Bk) (Y:List Bk) (he:B.getD k.toNat default = ⟨bf,y :: Y⟩) (Q:AV -> Heap -> Prop) (H :
  ((n < t) -> (0 <= k)) /\
  ((n < t) -> (k.toNat < B.length)) /\
  ((((n < t) /\ ((↑(Y.length + 1):Int) > 0)) \/ (false = true)) -> (0 <= k) /\
   (k.toNat < B.length) /\
   ((Y.length + 1) * 48 <= 1099511627776) /\
   (-9223372036854775808 <= n + 1 /\ n + 1 <= 9223372036854775807) /\
   Wp M3 (.run fi57 (atC (cd Try.f57) [1,1,0,1,0,0,1,0,0,1,1,1,1,1,0,0]) [(1,AV.vec g 3 (List.map Bk.a l)),(2,AV.row 0 kv),(3,AV.row 1 bv),(4,AV.ptr 2 0 0 0),(10,AV.row 3 0),(11,vi i),(13,vi t),(16,vi k),(17,vi (n + 1))] [{ elems:=List.map vb K,es:=1,ver:=kv,frozen:=false,clean:=true },{ elems:=List.map Bl.a B,es:=1,ver:=bv,frozen:=false,clean:=true },{ elems:=[ag [AV.vec fm 3 (List.map Bk.a mn),AV.vec h 2 (List.map Sb.a s)]],es:=2,ver:=0,frozen:=false,clean:=false },{ elems:=ag [vb y.1,AV.vec y.2 2 (List.map Wo.a y.3),AV.str y.4] :: List.map Bk.a Y,es:=3,ver:=0,frozen:=false,clean:=true }]) Q) /\
  (¬(((n < t) /\ ((↑(Y.length + 1):Int) > 0)) \/ (false = true)) -> (-9223372036854775808 <= i + 1 /\ i + 1 <= 9223372036854775807) /\
   tvRpz_at (fm) (mn) (g) (l) (h) (s) (K) (B) (kv) (bv) (i + 1) Q)) :
 tvRi1_at fm mn g l h s K B kv bv t k n i Q:=by
 unfold tvRi1_at
 obtain ⟨k3,H⟩:=H
 have w4:(List.map Bl.a B).length = B.length:=List.length_map ..
 have i5:(!(decide (n < t) == true && true) || decide (k.toNat < (List.map Bl.a B).length)) = true ↔ ((n < t) -> (k.toNat < B.length)):=(by (try rw [w4]);all_goals exact (i_imp (i_at (i_bt i_dec)) i_dec))
 obtain ⟨k6,H⟩:=H
 have w9:(List.map Bk.a Y).length = Y.length:=List.length_map ..
 have i10:(bif bif decide (n < t) then decide ((↑((List.map Bk.a Y).length + 1):Int) > 0) else false then true else false) = true ↔ (((n < t) /\ ((↑(Y.length + 1):Int) > 0)) \/ (false = true)):=(by (try rw [w9]);all_goals exact (i_bor (i_band i_dec i_dec) (i_var _)))
 refine path_wp (G:=given kp57 [(12,7,(.elem (.vec bf 3 ((y :: Y).map Bk.a)):Ans))] []) 3 [] ⟨(atC (cd Try.f57) [1,1,0,1,0,0,1,0,0,1,1,1,1,1,0,0,0,1]),[(1,AV.vec g 3 (List.map Bk.a l)),(2,AV.row 0 kv),(3,AV.row 1 bv),(4,AV.ptr 2 0 0 0),(10,AV.vnil),(11,vi i),(13,vi t),(16,vi k),(17,vi n),(66,vb (bif bif decide (n < t) then decide ((↑((List.map Bk.a Y).length + 1):Int) > 0) else false then true else false))],[⟨List.map vb K,1,kv,false,true⟩,⟨List.map Bl.a B,1,bv,false,true⟩,⟨[ag [AV.vec fm 3 (List.map Bk.a mn),AV.vec h 2 (List.map Sb.a s)]],2,0,false,false⟩],[!(decide (n < t) == true && true) || bv == bv,!(decide (n < t) == true && true) || decide (0 <= k),!(decide (n < t) == true && true) || decide (k.toNat < (List.map Bl.a B).length),!(decide (n < t) == true && true) || bv == bv],[((decide (n < t) == true && true) = true -> (List.map Bl.a B).get?Internal k.toNat = some (AV.vec bf 3 (ag [vb y.1,AV.vec y.2 2 (List.map Wo.a y.3),AV.str y.4] :: List.map Bk.a Y)))],_⟩ (by kernel_rfl) (bc ((i_imp (i_at (i_bt i_dec)) i_eq).2 (fun _ => rfl)) (bc ((i_imp (i_at (i_bt i_dec)) i_dec).2 k3) (bc (i5.2 k6) (bc ((i_imp (i_at (i_bt i_dec)) i_eq).2 (fun _ => rfl)) b0)))) (qc (fun h => el_mapE he (k6 ((i_at (i_bt i_dec)).1 h))) q0) c0 ?_
 rcases xm (((n < t) /\ ((↑(Y.length + 1):Int) > 0)) \/ (false = true)) with d11 | d11
 ·have H:=H.1 d11
  obtain ⟨k13,H⟩:=H
  have i14:(decide (k.toNat < (List.map Bl.a B).length)) = true ↔ (k.toNat < B.length):=(by (try rw [w4]);all_goals exact i_dec)
  obtain ⟨k15,H⟩:=H
  have i16:(decide (((List.map Bk.a Y).length + 1) * 48 <= 1099511627776)) = true ↔ ((Y.length + 1) * 48 <= 1099511627776):=(by (try rw [w9]);all_goals exact i_dec)
  obtain ⟨k17,H⟩:=H
  obtain ⟨k18,H⟩:=H
  have w19:wi (n + 1) = n + 1:=wI64 k18
  exact path_wp (G:=given kp57 [(14,4,(.elem (.vec bf 3 ((y :: Y).map Bk.a)):Ans))] []) 1000 [true] ⟨(atC (cd Try.f57) [1,1,0,1,0,0,1,0,0,1,1,1,1,1,0,0]),[(1,AV.vec g 3 (List.map Bk.a l)),(2,AV.row 0 kv),(3,AV.row 1 bv),(4,AV.ptr 2 0 0 0),(10,AV.row 3 0),(11,vi i),(13,vi t),(16,vi k),(17,vi (wi (n + 1)))],[⟨List.map vb K,1,kv,false,true⟩,⟨List.map Bl.a B,1,bv,false,true⟩,⟨[ag [AV.vec fm 3 (List.map Bk.a mn),AV.vec h 2 (List.map Sb.a s)]],2,0,false,false⟩,⟨ag [vb y.1,AV.vec y.2 2 (List.map Wo.a y.3),AV.str y.4] :: List.map Bk.a Y,3,0,false,true⟩],[(bif bif decide (n < t) then decide ((↑((List.map Bk.a Y).length + 1):Int) > 0) else false then true else false) == true,bv == bv,decide (0 <= k),decide (k.toNat < (List.map Bl.a B).length),bv == bv,decide (((List.map Bk.a Y).length + 1) * 48 <= 1099511627776)],[((List.map Bl.a B).get?Internal k.toNat = some (AV.vec bf 3 (ag [vb y.1,AV.vec y.2 2 (List.map Wo.a y.3),AV.str y.4] :: List.map Bk.a Y)))],_⟩ (by kernel_rfl) (bc (beq_t (i10.2 d11)) (bc (beq_self_eq_true _) (bc (i_dec.2 k13) (bc (i14.2 k15) (bc (beq_self_eq_true _) (bc (i16.2 k17) b0)))))) (qc (el_mapE he k15) q0) c0 (by (try rw [w19]);all_goals exact H)
 ·have H:=H.2 d11
  obtain ⟨k20,H⟩:=H
  have w21:wi (i + 1) = i + 1:=wI64 k20
  exact path_wp (G:=given kp57 [] []) 1000 [false] ⟨(atC (cd Try.f57) [1,1,0,1,0,0]),[(1,AV.vec g 3 (List.map Bk.a l)),(2,AV.row 0 kv),(3,AV.row 1 bv),(4,AV.ptr 2 0 0 0),(10,AV.vnil),(11,vi (wi (i + 1)))],[⟨List.map vb K,1,kv,false,true⟩,⟨List.map Bl.a B,1,bv,false,true⟩,⟨[ag [AV.vec fm 3 (List.map Bk.a mn),AV.vec h 2 (List.map Sb.a s)]],2,0,false,false⟩],_,[],_⟩ (by kernel_rfl) (bc (beq_f (fun h => d11 (i10.1 h))) b0) q0 c0 (by (try rw [w21]);all_goals exact H)
theorem tvRia (fm:Bool) (mn:List Bk) (g:Bool) (l:List Bk) (h:Bool) (s:List Sb) (K:List Bool) (B:List Bl) (kv bv:Nat) (q:List Bk) (v:Nat) (t k n i:Int)  (Q:AV -> Heap -> Prop) (H :
  ((n < t) -> (0 <= k)) /\
  ((n < t) -> (k.toNat < B.length)) /\
  ((((n < t) /\ ((↑(B.getD k.toNat default).2.length:Int) > 0)) /\ ((↑q.length:Int) <= 20000)) -> (0 <= k) /\
   (k.toNat < B.length) /\
   ((q.length + (B.getD k.toNat default).2.length) * 48 <= 1099511627776) /\
   (-9223372036854775808 <= n + 1 /\ n + 1 <= 9223372036854775807) /\
   tvRia_at (fm) (mn) (g) (l) (h) (s) (K) (B) (kv) (bv) (q ++ (B.getD k.toNat default).2) (v + 1) (t) (k) (n + 1) (i) Q) /\
  (¬(((n < t) /\ ((↑(B.getD k.toNat default).2.length:Int) > 0)) /\ ((↑q.length:Int) <= 20000)) -> (-9223372036854775808 <= i + 1 /\ i + 1 <= 9223372036854775807) /\
   tvRpa_at (fm) (mn) (g) (l) (h) (s) (K) (B) (kv) (bv) (q) (v) (i + 1) Q)) :
 tvRia_at fm mn g l h s K B kv bv q v t k n i Q:=by
 unfold tvRia_at
 obtain ⟨k3,H⟩:=H
 have w4:(List.map Bl.a B).length = B.length:=List.length_map ..
 have i5:(!(decide (n < t) == true && true) || decide (k.toNat < (List.map Bl.a B).length)) = true ↔ ((n < t) -> (k.toNat < B.length)):=(by (try rw [w4]);all_goals exact (i_imp (i_at (i_bt i_dec)) i_dec))
 obtain ⟨k6,H⟩:=H
 have w8:(List.map Bk.a (B.getD k.toNat default).2).length = (B.getD k.toNat default).2.length:=List.length_map ..
 have i9:(!((bif decide (n < t) then decide ((↑(List.map Bk.a (B.getD k.toNat default).2).length:Int) > 0) else false) == true && true) || v == v) = true ↔ (((n < t) /\ ((↑(B.getD k.toNat default).2.length:Int) > 0)) -> (v = v)):=(by (try rw [w8]);all_goals exact (i_imp (i_at (i_bt (i_band i_dec i_dec))) i_eq))
 have w11:(List.map Bk.a q).length = q.length:=List.length_map ..
 have i12:(bif bif decide (n < t) then decide ((↑(List.map Bk.a (B.getD k.toNat default).2).length:Int) > 0) else false then decide ((↑(List.map Bk.a q).length:Int) <= 20000) else false) = true ↔ (((n < t) /\ ((↑(B.getD k.toNat default).2.length:Int) > 0)) /\ ((↑q.length:Int) <= 20000)):=(by (try rw [w8]);(try rw [w11]);all_goals exact (i_band (i_band i_dec i_dec) i_dec))
 refine path_wp (G:=given kp57 [(12,7,.elem (AV.vec (B.getD k.toNat default).1 3 (List.map Bk.a (B.getD k.toNat default).2)))] []) 3 [] ⟨(atC (cd Try.f57) [1,1,0,1,0,0,1,0,0,1,1,1,1,1,0,0,0,1]),[(1,AV.vec g 3 (List.map Bk.a l)),(2,AV.row 0 kv),(3,AV.row 1 bv),(4,AV.ptr 2 0 0 0),(10,AV.row 3 v),(11,vi i),(13,vi t),(16,vi k),(17,vi n),(66,vb (bif bif decide (n < t) then decide ((↑(List.map Bk.a (B.getD k.toNat default).2).length:Int) > 0) else false then decide ((↑(List.map Bk.a q).length:Int) <= 20000) else false))],[⟨List.map vb K,1,kv,false,true⟩,⟨List.map Bl.a B,1,bv,false,true⟩,⟨[ag [AV.vec fm 3 (List.map Bk.a mn),AV.vec h 2 (List.map Sb.a s)]],2,0,false,false⟩,⟨List.map Bk.a q,3,v,false,true⟩],[!(decide (n < t) == true && true) || bv == bv,!(decide (n < t) == true && true) || decide (0 <= k),!(decide (n < t) == true && true) || decide (k.toNat < (List.map Bl.a B).length),!(decide (n < t) == true && true) || bv == bv,!((bif decide (n < t) then decide ((↑(List.map Bk.a (B.getD k.toNat default).2).length:Int) > 0) else false) == true && true) || v == v],[((decide (n < t) == true && true) = true -> (List.map Bl.a B).get?Internal k.toNat = some (AV.vec (B.getD k.toNat default).1 3 (List.map Bk.a (B.getD k.toNat default).2)))],_⟩ (by kernel_rfl) (bc ((i_imp (i_at (i_bt i_dec)) i_eq).2 (fun _ => rfl)) (bc ((i_imp (i_at (i_bt i_dec)) i_dec).2 k3) (bc (i5.2 k6) (bc ((i_imp (i_at (i_bt i_dec)) i_eq).2 (fun _ => rfl)) (bc (i9.2 (fun _ => rfl)) b0))))) (qc (fun h => el_map (k6 ((i_at (i_bt i_dec)).1 h))) q0) c0 ?_
 rcases xm (((n < t) /\ ((↑(B.getD k.toNat default).2.length:Int) > 0)) /\ ((↑q.length:Int) <= 20000)) with d13 | d13
 ·have H:=H.1 d13
  obtain ⟨k15,H⟩:=H
  have i16:(decide (k.toNat < (List.map Bl.a B).length)) = true ↔ (k.toNat < B.length):=(by (try rw [w4]);all_goals exact i_dec)
  obtain ⟨k17,H⟩:=H
  have i18:(decide (((List.map Bk.a q).length + (List.map Bk.a (B.getD k.toNat default).2).length) * 48 <= 1099511627776)) = true ↔ ((q.length + (B.getD k.toNat default).2.length) * 48 <= 1099511627776):=(by (try rw [w8]);(try rw [w11]);all_goals exact i_dec)
  obtain ⟨k19,H⟩:=H
  have w20:List.map Bk.a q ++ List.map Bk.a (B.getD k.toNat default).2 = List.map Bk.a (q ++ (B.getD k.toNat default).2):=(lm_app rfl rfl)
  obtain ⟨k21,H⟩:=H
  have w22:wi (n + 1) = n + 1:=wI64 k21
  exact path_wp (G:=given kp57 [(14,4,.elem (AV.vec (B.getD k.toNat default).1 3 (List.map Bk.a (B.getD k.toNat default).2)))] []) 1000 [true] ⟨(atC (cd Try.f57) [1,1,0,1,0,0,1,0,0,1,1,1,1,1,0,0]),[(1,AV.vec g 3 (List.map Bk.a l)),(2,AV.row 0 kv),(3,AV.row 1 bv),(4,AV.ptr 2 0 0 0),(10,AV.row 3 (v + 1)),(11,vi i),(13,vi t),(16,vi k),(17,vi (wi (n + 1)))],[⟨List.map vb K,1,kv,false,true⟩,⟨List.map Bl.a B,1,bv,false,true⟩,⟨[ag [AV.vec fm 3 (List.map Bk.a mn),AV.vec h 2 (List.map Sb.a s)]],2,0,false,false⟩,⟨List.map Bk.a q ++ List.map Bk.a (B.getD k.toNat default).2,3,v + 1,false,true⟩],[(bif bif decide (n < t) then decide ((↑(List.map Bk.a (B.getD k.toNat default).2).length:Int) > 0) else false then decide ((↑(List.map Bk.a q).length:Int) <= 20000) else false) == true,bv == bv,decide (0 <= k),decide (k.toNat < (List.map Bl.a B).length),bv == bv,v == v,decide (((List.map Bk.a q).length + (List.map Bk.a (B.getD k.toNat default).2).length) * 48 <= 1099511627776)],[((List.map Bl.a B).get?Internal k.toNat = some (AV.vec (B.getD k.toNat default).1 3 (List.map Bk.a (B.getD k.toNat default).2)))],_⟩ (by kernel_rfl) (bc (beq_t (i12.2 d13)) (bc (beq_self_eq_true _) (bc (i_dec.2 k15) (bc (i16.2 k17) (bc (beq_self_eq_true _) (bc (beq_self_eq_true _) (bc (i18.2 k19) b0))))))) (qc (el_map k17) q0) c0 (by (try rw [w20]);(try rw [w22]);all_goals exact H)
 ·have H:=H.2 d13
  obtain ⟨k23,H⟩:=H
  have w24:wi (i + 1) = i + 1:=wI64 k23
  exact path_wp (G:=given kp57 [] []) 1000 [false] ⟨(atC (cd Try.f57) [1,1,0,1,0,0]),[(1,AV.vec g 3 (List.map Bk.a l)),(2,AV.row 0 kv),(3,AV.row 1 bv),(4,AV.ptr 2 0 0 0),(10,AV.row 3 v),(11,vi (wi (i + 1)))],[⟨List.map vb K,1,kv,false,true⟩,⟨List.map Bl.a B,1,bv,false,true⟩,⟨[ag [AV.vec fm 3 (List.map Bk.a mn),AV.vec h 2 (List.map Sb.a s)]],2,0,false,false⟩,⟨List.map Bk.a q,3,v,false,true⟩],_,[],_⟩ (by kernel_rfl) (bc (beq_f (fun h => d13 (i12.1 h))) b0) q0 c0 (by (try rw [w24]);all_goals exact H)
end Go.Av

namespace Go.Av
open Go.Proofs
namespace Sp
def app:Nat -> List Bk -> List Bk -> List Bk
 | 0,_,q => q
 | t + 1,Y,q => if 0 < Y.length /\ q.length <= 20000 then app t Y (q ++ Y) else q
def rpl (s:List Sb) (K:List Bool) (B:List Bl):List Bk -> List Bk -> Option (List Bk)
 | [],q => some q
 | x :: r,q =>
  if cIs x.ws = true then (if K.getD (at' s x) default = true then rpl s K B r (app (cT x.ws).toNat (B.getD (at' s x) default).bl q) else none)
  else rpl s K B r (q ++ [x])
def rplV:Option (List Bk) -> AV
 | none => .tup [.vnil,.bool false]
 | some [] => .tup [.vnil,.bool true]
 | some (y :: Y) => .tup [.vec false 3 ((y :: Y).map Bk.a),.bool true]
end Sp
abbrev rpH (K:List Bool) (B:List Bl) (kv bv:Nat):Heap:=[⟨K.map (.bool),1,kv,false,true⟩,⟨B.map Bl.a,1,bv,false,true⟩]
def okR (s:List Sb) (K:List Bool) (B:List Bl) (l:List Bk):Prop:=s.length <= 1000000 /\ K.length = s.length /\ B.length = s.length /\ Sp.okBs l /\ Sp.found s l /\ ∀ x ∈ B,x.bl.length <= 1000000000
theorem app_row {fm g h:Bool} {mn l:List Bk} {s:List Sb} {K:List Bool} {B:List Bl} {kv bv:Nat} {t k:Nat} {i:Int} {Q:AV -> Heap -> Prop} (hi:-9223372036854775808 <= i + 1 /\ i + 1 <= 9223372036854775807) (ht:t <= 1000000) (hk:k < B.length) (hB:(B.getD k default).bl.length <= 1000000000) :
  ∀ (c n:Nat) (q:List Bk) (v:Nat),n + c = t -> (∀ v,tvRpa_at fm mn g l h s K B kv bv (Sp.app c (B.getD k default).bl q) v (i + 1) Q) -> tvRia_at fm mn g l h s K B kv bv q v t k n i Q:=by
 intro c
 induction c with
 | zero =>
  intro n q v hn H
  refine tvRia _ _ _ _ _ _ _ _ _ _ _ _ _ _ _ _ _ ⟨fun z => by omega,fun z => by omega,fun z => by omega,fun _ => ⟨hi,H v⟩⟩
 | succ c ih =>
  intro n q v hn H
  refine tvRia _ _ _ _ _ _ _ _ _ _ _ _ _ _ _ _ _ ?_
  rw [Int.toNat_natCast]
  refine ⟨fun _ => by omega,fun _ => hk,fun z => ⟨by omega,hk,?_,by omega,ih (n + 1) _ (v + 1) (by omega) ?_⟩,fun z => ⟨hi,?_⟩⟩
  ·have:(q.length:Int) <= 20000:=z.2
   show (q.length + (B.getD k default).bl.length) * 48 <= _
   omega
  ·have h1:((B.getD k default).bl.length:Int) > 0:=z.1.2
   have h2:(q.length:Int) <= 20000:=z.2
   rw [Sp.app,if_pos ⟨by omega,by omega⟩] at H
   exact H
  ·have hx:¬(0 < (B.getD k default).bl.length /\ q.length <= 20000):=fun y => z ⟨⟨by omega,by show ((B.getD k default).bl.length:Int) > 0;omega⟩,by omega⟩
   rw [Sp.app,if_neg hx] at H
   exact H v
theorem rpl_loop {fm g h:Bool} {mn l:List Bk} {s:List Sb} {K:List Bool} {B:List Bl} {kv bv:Nat} (hok:okR s K B l) {R:Option (List Bk)}:∀ (c i:Nat) (q:List Bk),i + c = l.length -> q.length <= 2000000000 + 3 * i -> Sp.rpl s K B (l.drop i) q = R ->
    (q = [] -> tvRpz_at fm mn g l h s K B kv bv i (FrzQ (Sp.rplV R) (rpH K B kv bv))) /\ (q ≠ [] -> ∀ v,tvRpa_at fm mn g l h s K B kv bv q v i (FrzQ (Sp.rplV R) (rpH K B kv bv))):=by
  obtain ⟨o1,o2,o3,o4,o5,o6⟩:=hok
  have hll:=o4.1
  have appl:∀ (t:Nat) (Y q:List Bk),Y.length <= 1000000000 -> (Sp.app t Y q).length <= max q.length 1000020000:=by
    intro t
    induction t with
    | zero => intro Y q _;exact Nat.le_max_left _ _
    | succ t ih =>
      intro Y q hY
      rw [Sp.app]
      split
      · rename_i z
        refine Nat.le_trans (ih Y (q ++ Y) hY) ?_
        rw [List.length_append];omega
      · exact Nat.le_max_left _ _
  intro c
  induction c with
  | zero =>
    intro i q hi hq hR
    rw [List.drop_eq_nil_of_le (by omega),Sp.rpl] at hR
    subst hR
    refine ⟨fun h0 => ?_,fun h0 v => ?_⟩
    · subst h0
      exact tvRpz _ _ _ _ _ _ _ _ _ _ _ _ ⟨fun z => by omega,fun _ => ⟨rfl,fun b hb => (by cases hb),fun r hr => (by cases hr),rfl⟩⟩
    · cases q with
      | nil => exact (h0 rfl).elim
      | cons y Y =>
        refine tvRpa _ _ _ _ _ _ _ _ _ _ _ _ _ _ ⟨fun z => by omega,fun _ => ⟨rfl,fun b hb => ?_,fun r hr => ?_,rfl⟩⟩
        · rw [List.mem_singleton.1 hb];simp [verOk]
        · rw [List.mem_singleton.1 hr];show 2 <= 3;omega
  | succ c ih =>
    intro i q hi hq hR
    have hlt:i < l.length:=by omega
    have hx:l.getD i default ∈ l:=getD_mem hlt
    have hw:=o4.2 _ hx
    rw [drop_getD hlt,Sp.rpl] at hR
    by_cases k:Sp.cIs (l.getD i default).ws = true
    · rw [if_pos k] at hR
      have hf:=o5 _ hx k
      have hal:Sp.at' s (l.getD i default) < s.length:=at_len hf
      have hfe:((Sp.at' s (l.getD i default):Nat):Int) = Sp.fnd s (Sp.cN (l.getD i default).ws):=by unfold Sp.at';omega
      have hct:=(cIs_at k).1
      have htc:((Sp.cT (l.getD i default).ws).toNat:Int) = Sp.cT (l.getD i default).ws:=Int.toNat_of_nonneg (by omega)
      by_cases hK:K.getD (Sp.at' s (l.getD i default)) default = true
      · rw [if_pos hK] at hR
        have hBm:=o6 _ (getD_mem (show Sp.at' s (l.getD i default) < B.length by omega))
        have hal2:=appl (Sp.cT (l.getD i default).ws).toNat (B.getD (Sp.at' s (l.getD i default)) default).bl q hBm
        obtain ⟨z1,z2⟩:=ih (i + 1) _ (by omega) (by omega) hR
        refine ⟨fun h0 => ?_,fun h0 v => ?_⟩
        · subst h0
          refine tvRpz _ _ _ _ _ _ _ _ _ _ _ _ ⟨fun _ => ?_,fun z => by omega⟩
          rw [Int.toNat_natCast]
          refine ⟨hw,by omega,hlt,fun y => (y k).elim,fun _ => ⟨o1,hf,by rw [o2];exact hal,fun y => (y hK).elim,fun _ => ?_⟩⟩
          rw [<- hfe]
          obtain ⟨t,ht⟩:∃ t,(Sp.cT (l.getD i default).ws).toNat = t + 1:=⟨(Sp.cT (l.getD i default).ws).toNat - 1,by omega⟩
          have hT:Sp.cT (l.getD i default).ws = ((t + 1:Nat):Int):=by omega
          rw [hT]
          generalize hb:B.getD (Sp.at' s (l.getD i default)) default = bb at *
          obtain ⟨bf,bl⟩:=bb
          cases bl with
          | nil =>
            have e0:Sp.app (Sp.cT (l.getD i default).ws).toNat [] [] = []:=by rw [ht,Sp.app,if_neg (by simp)]
            refine tvRi0 _ _ _ _ _ _ _ _ _ _ _ _ _ _ bf (by rw [Int.toNat_natCast];exact hb) _ ⟨fun _ => by omega,fun _ => by rw [Int.toNat_natCast,o3];exact hal,fun z => ?_,fun _ => ⟨by omega,z1 e0⟩⟩
            rcases z with ⟨_,z⟩ | z <;> cases z
          | cons y Y =>
            have e0:Sp.app (Sp.cT (l.getD i default).ws).toNat (y :: Y) [] = Sp.app t (y :: Y) (y :: Y):=by rw [ht,Sp.app,if_pos (by simp),List.nil_append]
            have hne:Sp.app t (y :: Y) (y :: Y) ≠ []:=by
              have:∀ (t:Nat) (q:List Bk),q ≠ [] -> Sp.app t (y :: Y) q ≠ []:=by
                intro t
                induction t with
                | zero => intro q hq;exact hq
                | succ t ih => intro q hq;rw [Sp.app];split
                               · exact ih _ (by simp)
                               · exact hq
              exact this t _ (by simp)
            have z2:=z2 (by rw [e0];exact hne)
            simp only [e0] at z2
            refine tvRi1 _ _ _ _ _ _ _ _ _ _ _ _ _ _ bf y Y (by rw [Int.toNat_natCast];exact hb) _ ⟨fun _ => by omega,fun _ => by rw [Int.toNat_natCast,o3];exact hal,fun z => ⟨by omega,by rw [Int.toNat_natCast,o3];exact hal,?_,by omega,?_⟩,fun z => ?_⟩
            · simp at hBm;omega
            · have:=app_row (fm:=fm) (mn:=mn) (g:=g) (l:=l) (h:=h) (s:=s) (K:=K) (B:=B) (kv:=kv) (bv:=bv) (t:=t + 1) (k:=Sp.at' s (l.getD i default)) (i:=i) (Q:=FrzQ (Sp.rplV R) (rpH K B kv bv)) (by omega) (by omega) (by omega) (by rw [hb];exact hBm) t 1 (y :: Y) 0 (by omega) (by rw [hb];exact z2)
              exact this
            · exact (z (.inl ⟨by omega,by omega⟩)).elim
        · have hne:Sp.app (Sp.cT (l.getD i default).ws).toNat (B.getD (Sp.at' s (l.getD i default)) default).bl q ≠ []:=by
            have:∀ (t:Nat) (Y q:List Bk),q ≠ [] -> Sp.app t Y q ≠ []:=by
              intro t
              induction t with
              | zero => intro Y q hq;exact hq
              | succ t ih => intro Y q hq;rw [Sp.app];split
                             · exact ih _ _ (by simp [hq])
                             · exact hq
            exact this _ _ _ h0
          have z2:=z2 hne
          refine tvRpa _ _ _ _ _ _ _ _ _ _ _ _ _ _ ⟨fun _ => ?_,fun z => by omega⟩
          rw [Int.toNat_natCast]
          refine ⟨hw,by omega,hlt,fun y => (y k).elim,fun _ => ⟨o1,hf,by rw [o2];exact hal,fun y => (y hK).elim,fun _ => ?_⟩⟩
          rw [<- hfe,<- htc]
          exact app_row (t:=(Sp.cT (l.getD i default).ws).toNat) (k:=Sp.at' s (l.getD i default)) (by omega) (by omega) (by omega) hBm _ 0 q v (by omega) z2
      · rw [if_neg hK] at hR
        subst hR
        refine ⟨fun h0 => ?_,fun h0 v => ?_⟩
        · refine tvRpz _ _ _ _ _ _ _ _ _ _ _ _ ⟨fun _ => ?_,fun z => by omega⟩
          rw [Int.toNat_natCast]
          exact ⟨hw,by omega,hlt,fun y => (y k).elim,fun _ => ⟨o1,hf,by rw [o2];exact hal,fun _ => ⟨rfl,fun b hb => (by cases hb),fun r hr => (by cases hr),rfl⟩,fun y => (y hK).elim⟩⟩
        · refine tvRpa _ _ _ _ _ _ _ _ _ _ _ _ _ _ ⟨fun _ => ?_,fun z => by omega⟩
          rw [Int.toNat_natCast]
          exact ⟨hw,by omega,hlt,fun y => (y k).elim,fun _ => ⟨o1,hf,by rw [o2];exact hal,fun _ => ⟨rfl,fun b hb => (by cases hb),fun r hr => (by cases hr),rfl⟩,fun y => (y hK).elim⟩⟩
    · rw [if_neg k] at hR
      obtain ⟨_,z2⟩:=ih (i + 1) (q ++ [l.getD i default]) (by omega) (by rw [List.length_append,List.length_singleton];omega) hR
      have z2:=z2 (by simp)
      refine ⟨fun h0 => ?_,fun h0 v => ?_⟩
      · subst h0
        refine tvRpz _ _ _ _ _ _ _ _ _ _ _ _ ⟨fun _ => ?_,fun z => by omega⟩
        rw [Int.toNat_natCast]
        exact ⟨hw,by omega,hlt,fun _ => ⟨by omega,z2 0⟩,fun y => (y k).elim⟩
      · refine tvRpa _ _ _ _ _ _ _ _ _ _ _ _ _ _ ⟨fun _ => ?_,fun z => by omega⟩
        rw [Int.toNat_natCast]
        exact ⟨hw,by omega,hlt,fun _ => ⟨by omega,by omega,z2 (v + 1)⟩,fun y => (y k).elim⟩
theorem rpl_ev {fm g h:Bool} {mn l:List Bk} {s:List Sb} {K:List Bool} {B:List Bl} {kv bv:Nat} (hok:okR s K B l):Ev M3 (.own 57 [.agg [bsA fm mn,.vec h 2 (s.map Sb.a)],bsA g l,.row 0 kv,.row 1 bv] (rpH K B kv bv)) (Sp.rplV (Sp.rpl s K B l [])) (rpH K B kv bv):=by
 have:=(rpl_loop (fm:=fm) (g:=g) (h:=h) (mn:=mn) (kv:=kv) (bv:=bv) hok l.length 0 [] (by omega) (by simp) (by rw [List.drop_zero])).1 rfl
 refine own_freeze hm3 (by rfl) ?_ (owncall57 (tvRp _ _ _ _ _ _ _ _ _ _ _ this))
 unfold Sp.rplV
 split <;> rfl
end Go.Av

namespace Go.Av
open Go.Proofs
set_option maxRecDepth 100000
def fi30:Fi:=⟨76,[.tmp 2,.tmp 3]⟩
def kp30:List (Nat × List Nat):=[(0,[1]),(1,[1,5]),(2,[1,5,18]),(3,[2,3]),(4,[1,6,7]),(5,[1,6,7,8]),(6,[1,6,7,8,32]),(7,[1,6,7,8]),(8,[1,6,7,8,9]),(9,[1,6,7,8,9,39]),(10,[1,6,7,8,9]),(11,[1,6,7,8,9,46]),(12,[1,6,7,8,9]),(13,[10]),(14,[2,3])]
def tvY_at (g:Bool) (l:List Bk) (h:Bool) (s:List Sb) (Q:AV -> Heap -> Prop):Prop:=Wp M3 (.run fi30 (atC (cd Try.f30) []) [(0,.agg [.vec g 3 (l.map Bk.a),.vec h 2 (s.map Sb.a)])] []) Q
def tvYg_at (g:Bool) (l:List Bk) (h:Bool) (s:List Sb) (K:List Bool) (B:List Bl) (kv bv:Nat)  (Q:AV -> Heap -> Prop):Prop:=Wp M3 (.run fi30 (atC (cd Try.f30) [1,1,1]) [(1,.ptr 0 0 0 0),(6,.row 1 kv),(7,.row 2 bv)] [⟨[.agg [.vec g 3 (l.map Bk.a),.vec h 2 (s.map Sb.a)]],2,0,false,false⟩,⟨K.map (.bool),1,kv,false,true⟩,⟨B.map Bl.a,1,bv,false,true⟩]) Q
def tvYo_at (g:Bool) (l:List Bk) (h:Bool) (s:List Sb) (K:List Bool) (B:List Bl) (kv bv:Nat) (r:Int) (Q:AV -> Heap -> Prop):Prop:=Wp M3 (.run fi30 (atC (cd Try.f30) [1,1,1,0,1,0,0]) [(1,.ptr 0 0 0 0),(6,.row 1 kv),(7,.row 2 bv),(8,.int .i64 r)] [⟨[.agg [.vec g 3 (l.map Bk.a),.vec h 2 (s.map Sb.a)]],2,0,false,false⟩,⟨K.map (.bool),1,kv,false,true⟩,⟨B.map Bl.a,1,bv,false,true⟩]) Q
def tvYn_at (g:Bool) (l:List Bk) (h:Bool) (s:List Sb) (K:List Bool) (B:List Bl) (kv bv:Nat) (rd i:Int) (Q:AV -> Heap -> Prop):Prop:=Wp M3 (.run fi30 (atC (cd Try.f30) [1,1,1,0,1,0,0,1,0,0,1,0,0]) [(1,.ptr 0 0 0 0),(6,.row 1 kv),(7,.row 2 bv),(8,.int .i64 rd),(9,.int .i64 i)] [⟨[.agg [.vec g 3 (l.map Bk.a),.vec h 2 (s.map Sb.a)]],2,0,false,false⟩,⟨K.map (.bool),1,kv,false,true⟩,⟨B.map Bl.a,1,bv,false,true⟩]) Q
def tvYy_at (g:Bool) (l:List Bk) (h:Bool) (s:List Sb) (K:List Bool) (B:List Bl) (kv bv:Nat) (rd i:Int) (Q:AV -> Heap -> Prop):Prop:=Wp M3 (.run fi30 (atC (cd Try.f30) [1,1,1,0,1,0,0,1,0,0,1,0,0]) [(1,.ptr 0 0 0 0),(6,.row 1 kv),(7,.row 2 bv),(8,.int .i64 rd),(9,.int .i64 i)] [⟨[.agg [.vec g 3 (l.map Bk.a),.vec h 2 (s.map Sb.a)]],2,0,false,false⟩,⟨K.map (.bool),1,kv,false,true⟩,⟨B.map Bl.a,1,bv,false,true⟩]) Q
theorem call30 {args:List AV} {d:AV} (h:Wp M3 (.run fi30 [.code (cd Try.f30)] (argVars 0 args) []) (PureQ d)):Ev M3 (.pure 30 args) d []:=
 pure_pq Try.f30 fi30 (by kernel_rfl) (by kernel_rfl) (by kernel_rfl) (by kernel_rfl) h
theorem tvY (g:Bool) (l:List Bk) (h:Bool) (s:List Sb)  (dq:AV) (H :
  (Sp.okC1 l s) /\
  ((¬(Sp.siz l s).snd = 0) -> Weak (tu [AV.vnil,vi (Sp.siz l s).snd]) dq) /\
  (¬(¬(Sp.siz l s).snd = 0) -> Wp M3 (.run fi30 (atC (cd Try.f30) [1,1,0]) [(1,AV.ptr 0 0 0 0),(5,vi (Sp.siz l s).snd),(18,vb ((Sp.siz l s).snd != 0))] [{ elems:=[ag [AV.vec g 3 (List.map Bk.a l),AV.vec h 2 (List.map Sb.a s)]],es:=2,ver:=0,frozen:=false,clean:=false }]) (PureQ dq))) :
 tvY_at g l h s (PureQ dq):=by
 unfold tvY_at
 obtain ⟨k1,H⟩:=H
 refine path_wp (G:=given kp30 [(1,1,.call (tu [vi (Sp.siz l s).fst,vi (Sp.siz l s).snd]) none)] []) 7 [] ⟨(atC (cd Try.f30) [1,0,1,1]),[(1,AV.ptr 0 0 0 0),(5,vi (Sp.siz l s).snd),(18,vb ((Sp.siz l s).snd != 0))],[⟨[ag [AV.vec g 3 (List.map Bk.a l),AV.vec h 2 (List.map Sb.a s)]],2,0,false,false⟩],_,[],_⟩ (by kernel_rfl) (bc rfl b0) q0 (ce (@ev26_d (g) (h) (l) (s) k1) c0) ?_
 rcases xm (¬(Sp.siz l s).snd = 0) with d3 | d3
 ·have H:=H.1 d3
  exact path_rq (G:=given kp30 [] []) 1000 [true] (tu [AV.vnil,vi (Sp.siz l s).snd]) (by kernel_rfl) (bc (beq_t (i_ne.2 d3)) b0) q0 c0 H
 ·have H:=H.2 d3
  exact path_wp (G:=given kp30 [] []) 3 [false] ⟨(atC (cd Try.f30) [1,1,0]),[(1,AV.ptr 0 0 0 0),(5,vi (Sp.siz l s).snd),(18,vb ((Sp.siz l s).snd != 0))],[⟨[ag [AV.vec g 3 (List.map Bk.a l),AV.vec h 2 (List.map Sb.a s)]],2,0,false,false⟩],_,[],_⟩ (by kernel_rfl) (bc (beq_f (fun h => d3 (i_ne.1 h))) b0) q0 c0 (H)
theorem tvYg (g:Bool) (l:List Bk) (h:Bool) (s:List Sb) (K:List Bool) (B:List Bl) (kv bv:Nat)   (dq:AV) (H :
  tvYo_at (g) (l) (h) (s) (K) (B) (kv) (bv) (0) (PureQ dq)) :
 tvYg_at g l h s K B kv bv (PureQ dq):=by
 unfold tvYg_at
 exact path_wp (G:=given kp30 [] []) 1000 [] ⟨(atC (cd Try.f30) [1,1,1,0,1,0,0]),[(1,AV.ptr 0 0 0 0),(6,AV.row 1 kv),(7,AV.row 2 bv),(8,vi 0)],[⟨[ag [AV.vec g 3 (List.map Bk.a l),AV.vec h 2 (List.map Sb.a s)]],2,0,false,false⟩,⟨List.map vb K,1,kv,false,true⟩,⟨List.map Bl.a B,1,bv,false,true⟩],_,[],_⟩ (by kernel_rfl) b0 q0 c0 (H)
theorem tvYo (g:Bool) (l:List Bk) (h:Bool) (s:List Sb) (K:List Bool) (B:List Bl) (kv bv:Nat) (r:Int) (y:Bk) (Y:List Bk) (dq:AV) (H :
  ((r < (↑s.length:Int)) -> tvYn_at (g) (l) (h) (s) (K) (B) (kv) (bv) (r) (0) (PureQ dq)) /\
  (¬(r < (↑s.length:Int)) -> (Ev M3 (Conf.own 57 [ag [AV.vec g 3 (List.map Bk.a l),AV.vec h 2 (List.map Sb.a s)],AV.vec g 3 (List.map Bk.a l),AV.row 0 kv,AV.row 1 bv] [{ elems:=List.map vb K,es:=1,ver:=kv,frozen:=false,clean:=true },{ elems:=List.map Bl.a B,es:=1,ver:=bv,frozen:=false,clean:=true }]) (tu [AV.vec false 3 (ag [vb y.1,AV.vec y.2 2 (List.map Wo.a y.3),AV.str y.4] :: List.map Bk.a Y),vb true]) [{ elems:=List.map vb K,es:=1,ver:=kv,frozen:=false,clean:=true },{ elems:=List.map Bl.a B,es:=1,ver:=bv,frozen:=false,clean:=true }]) /\
   Weak (tu [AV.vec false 3 (ag [vb y.1,AV.vec y.2 2 (List.map Wo.a y.3),AV.str y.4] :: List.map Bk.a Y),vi 0]) dq)) :
 tvYo_at g l h s K B kv bv r (PureQ dq):=by
 unfold tvYo_at
 have w1:(List.map Sb.a s).length = s.length:=List.length_map ..
 have i2:(decide (r < (↑(List.map Sb.a s).length:Int))) = true ↔ (r < (↑s.length:Int)):=(by (try rw [w1]);all_goals exact i_dec)
 rcases xm (r < (↑s.length:Int)) with d3 | d3
 ·have H:=H.1 d3
  exact path_wp (G:=given kp30 [] []) 1000 [true] ⟨(atC (cd Try.f30) [1,1,1,0,1,0,0,1,0,0,1,0,0]),[(1,AV.ptr 0 0 0 0),(6,AV.row 1 kv),(7,AV.row 2 bv),(8,vi r),(9,vi 0)],[⟨[ag [AV.vec g 3 (List.map Bk.a l),AV.vec h 2 (List.map Sb.a s)]],2,0,false,false⟩,⟨List.map vb K,1,kv,false,true⟩,⟨List.map Bl.a B,1,bv,false,true⟩],_,[],_⟩ (by kernel_rfl) (bc rfl (bc (beq_t (i2.2 d3)) b0)) q0 c0 (H)
 ·have H:=H.2 d3
  obtain ⟨k4,H⟩:=H
  exact path_rq (G:=given kp30 [(13,5,(.call (.tup [.vec false 3 ((y :: Y).map Bk.a),.bool true]) (some [⟨K.map (.bool),1,kv,false,true⟩,⟨B.map Bl.a,1,bv,false,true⟩]):Ans))] []) 1000 [false] (calls:=[⟨true,true,57,[ag [AV.vec g 3 (List.map Bk.a l),AV.vec h 2 (List.map Sb.a s)],AV.vec g 3 (List.map Bk.a l),AV.row 0 kv,AV.row 1 bv],[⟨List.map vb K,1,kv,false,true⟩,⟨List.map Bl.a B,1,bv,false,true⟩],tu [AV.vec false 3 (ag [vb y.1,AV.vec y.2 2 (List.map Wo.a y.3),AV.str y.4] :: List.map Bk.a Y),vb true],[⟨List.map vb K,1,kv,false,true⟩,⟨List.map Bl.a B,1,bv,false,true⟩]⟩]) (tu [AV.vec false 3 (ag [vb y.1,AV.vec y.2 2 (List.map Wo.a y.3),AV.str y.4] :: List.map Bk.a Y),vi 0]) (by kernel_rfl) (bc rfl (bc (beq_f (fun h => d3 (i2.1 h))) (bc rfl (bc rfl b0)))) q0 (cc (fun _ => k4) c0) H
theorem tvYn (g:Bool) (l:List Bk) (h:Bool) (s:List Sb) (K:List Bool) (B:List Bl) (kv bv:Nat) (rd i:Int) (r:Bool) (dq:AV) (H :
  ((i < (↑s.length:Int)) -> (0 <= i) /\
   (i.toNat < K.length) /\
   ((¬(K.getD i.toNat default = true)) -> (Ev M3 (Conf.own 57 [ag [AV.vec g 3 (List.map Bk.a l),AV.vec h 2 (List.map Sb.a s)],AV.vec (s.getD i.toNat default).2 3 (List.map Bk.a (s.getD i.toNat default).3),AV.row 0 kv,AV.row 1 bv] [{ elems:=List.map vb K,es:=1,ver:=kv,frozen:=false,clean:=true },{ elems:=List.map Bl.a B,es:=1,ver:=bv,frozen:=false,clean:=true }]) (tu [AV.vnil,vb r]) [{ elems:=List.map vb K,es:=1,ver:=kv,frozen:=false,clean:=true },{ elems:=List.map Bl.a B,es:=1,ver:=bv,frozen:=false,clean:=true }]) /\
    (i.toNat < s.length) /\
    (i.toNat < B.length) /\
    (-9223372036854775808 <= i + 1 /\ i + 1 <= 9223372036854775807) /\
    Wp M3 (.run fi30 (atC (cd Try.f30) [1,1,1,0,1,0,0,1,0,0,1,0,0]) [(1,AV.ptr 0 0 0 0),(6,AV.row 1 kv),(7,AV.row 2 bv),(8,vi rd),(9,vi (i + 1))] [{ elems:=[ag [AV.vec g 3 (List.map Bk.a l),AV.vec h 2 (List.map Sb.a s)]],es:=2,ver:=0,frozen:=false,clean:=false },{ elems:=List.map vb (K.set i.toNat r),es:=1,ver:=kv,frozen:=false,clean:=true },{ elems:=(List.map Bl.a B).set i.toNat AV.vnil,es:=1,ver:=bv,frozen:=false,clean:=true }]) (PureQ dq)) /\
   (¬(¬(K.getD i.toNat default = true)) -> (-9223372036854775808 <= i + 1 /\ i + 1 <= 9223372036854775807) /\
    tvYn_at (g) (l) (h) (s) (K) (B) (kv) (bv) (rd) (i + 1) (PureQ dq))) /\
  (¬(i < (↑s.length:Int)) -> (-9223372036854775808 <= rd + 1 /\ rd + 1 <= 9223372036854775807) /\
   tvYo_at (g) (l) (h) (s) (K) (B) (kv) (bv) (rd + 1) (PureQ dq))) :
 tvYn_at g l h s K B kv bv rd i (PureQ dq):=by
 unfold tvYn_at
 have w1:(List.map Sb.a s).length = s.length:=List.length_map ..
 have i2:(decide (i < (↑(List.map Sb.a s).length:Int))) = true ↔ (i < (↑s.length:Int)):=(by (try rw [w1]);all_goals exact i_dec)
 rcases xm (i < (↑s.length:Int)) with d3 | d3
 ·have H:=H.1 d3
  obtain ⟨k5,H⟩:=H
  have w6:(List.map vb K).length = K.length:=List.length_map ..
  have i7:(decide (i.toNat < (List.map vb K).length)) = true ↔ (i.toNat < K.length):=(by (try rw [w6]);all_goals exact i_dec)
  obtain ⟨k8,H⟩:=H
  refine path_wp (G:=given kp30 [(11,3,.elem (vb (K.getD i.toNat default)))] []) 9 [true] ⟨(atC (cd Try.f30) [1,1,1,0,1,0,0,1,0,0,1,0,0,1,0,0,1]),[(1,AV.ptr 0 0 0 0),(6,AV.row 1 kv),(7,AV.row 2 bv),(8,vi rd),(9,vi i),(46,vb !K.getD i.toNat default)],[⟨[ag [AV.vec g 3 (List.map Bk.a l),AV.vec h 2 (List.map Sb.a s)]],2,0,false,false⟩,⟨List.map vb K,1,kv,false,true⟩,⟨List.map Bl.a B,1,bv,false,true⟩],[true,(decide (i < (↑(List.map Sb.a s).length:Int))) == true,kv == kv,decide (0 <= i),decide (i.toNat < (List.map vb K).length),kv == kv],[((List.map vb K).get?Internal i.toNat = some (vb (K.getD i.toNat default)))],_⟩ (by kernel_rfl) (bc rfl (bc (beq_t (i2.2 d3)) (bc (beq_self_eq_true _) (bc (i_dec.2 k5) (bc (i7.2 k8) (bc (beq_self_eq_true _) b0)))))) (qc (el_map k8) q0) c0 ?_
  rcases xm (¬(K.getD i.toNat default = true)) with d10 | d10
  ·have H:=H.1 d10
   obtain ⟨k11,H⟩:=H
   have i13:(decide (i.toNat < (List.map Sb.a s).length)) = true ↔ (i.toNat < s.length):=(by (try rw [w1]);all_goals exact i_dec)
   obtain ⟨k14,H⟩:=H
   have w16:(List.map Bl.a B).length = B.length:=List.length_map ..
   have i17:(decide (i.toNat < (List.map Bl.a B).length)) = true ↔ (i.toNat < B.length):=(by (try rw [w16]);all_goals exact i_dec)
   obtain ⟨k18,H⟩:=H
   have i20:(decide (i.toNat < (List.map vb K).length)) = true ↔ (i.toNat < K.length):=(by (try rw [w6]);all_goals exact i_dec)
   have w21:(List.map vb K).set i.toNat (vb r) = List.map vb (K.set i.toNat r):=(lm_set rfl rfl)
   obtain ⟨k22,H⟩:=H
   have w23:wi (i + 1) = i + 1:=wI64 k22
   exact path_wp (G:=given kp30 [(12,10,.elem (ag [vi (s.getD i.toNat default).n,AV.vec (s.getD i.toNat default).2 3 (List.map Bk.a (s.getD i.toNat default).3)])),(12,13,(.call (.tup [.vnil,.bool r]) (some [⟨K.map (.bool),1,kv,false,true⟩,⟨B.map Bl.a,1,bv,false,true⟩]):Ans)),(12,18,.elem (AV.vec (B.getD i.toNat default).1 3 (List.map Bk.a (B.getD i.toNat default).2))),(12,20,.elem (vb (K.getD i.toNat default)))] [(12,[13])]) 1000 [true] ⟨(atC (cd Try.f30) [1,1,1,0,1,0,0,1,0,0,1,0,0]),[(1,AV.ptr 0 0 0 0),(6,AV.row 1 kv),(7,AV.row 2 bv),(8,vi rd),(9,vi (wi (i + 1)))],[⟨[ag [AV.vec g 3 (List.map Bk.a l),AV.vec h 2 (List.map Sb.a s)]],2,0,false,false⟩,⟨(List.map vb K).set i.toNat (vb r),1,kv,false,true⟩,⟨(List.map Bl.a B).set i.toNat AV.vnil,1,bv,false,true⟩],[(!K.getD i.toNat default) == true,true,true,decide (0 <= i),decide (i.toNat < (List.map Sb.a s).length),bv == bv,decide (0 <= i),decide (i.toNat < (List.map Bl.a B).length),bv == bv,kv == kv,decide (0 <= i),decide (i.toNat < (List.map vb K).length),kv == kv],[((List.map Sb.a s).get?Internal i.toNat = some (ag [vi (s.getD i.toNat default).n,AV.vec (s.getD i.toNat default).2 3 (List.map Bk.a (s.getD i.toNat default).3)])),((List.map Bl.a B).get?Internal i.toNat = some (AV.vec (B.getD i.toNat default).1 3 (List.map Bk.a (B.getD i.toNat default).2))),((List.map vb K).get?Internal i.toNat = some (vb (K.getD i.toNat default)))],[⟨true,true,57,[ag [AV.vec g 3 (List.map Bk.a l),AV.vec h 2 (List.map Sb.a s)],AV.vec (s.getD i.toNat default).2 3 (List.map Bk.a (s.getD i.toNat default).3),AV.row 0 kv,AV.row 1 bv],[⟨List.map vb K,1,kv,false,true⟩,⟨List.map Bl.a B,1,bv,false,true⟩],tu [AV.vnil,vb r],[⟨List.map vb K,1,kv,false,true⟩,⟨List.map Bl.a B,1,bv,false,true⟩]⟩]⟩ (by kernel_rfl) (bc (beq_t ((i_not (i_var _)).2 d10)) (bc rfl (bc rfl (bc (i_dec.2 k5) (bc (i13.2 k14) (bc (beq_self_eq_true _) (bc (i_dec.2 k5) (bc (i17.2 k18) (bc (beq_self_eq_true _) (bc (beq_self_eq_true _) (bc (i_dec.2 k5) (bc (i20.2 k8) (bc (beq_self_eq_true _) b0))))))))))))) (qc (el_map k14) (qc (el_map k18) (qc (el_map k8) q0))) (cc (fun _ => k11) c0) (by (try rw [w21]);(try rw [w23]);all_goals exact H)
  ·have H:=H.2 d10
   obtain ⟨k24,H⟩:=H
   have w25:wi (i + 1) = i + 1:=wI64 k24
   exact path_wp (G:=given kp30 [] []) 1000 [false] ⟨(atC (cd Try.f30) [1,1,1,0,1,0,0,1,0,0,1,0,0]),[(1,AV.ptr 0 0 0 0),(6,AV.row 1 kv),(7,AV.row 2 bv),(8,vi rd),(9,vi (wi (i + 1)))],[⟨[ag [AV.vec g 3 (List.map Bk.a l),AV.vec h 2 (List.map Sb.a s)]],2,0,false,false⟩,⟨List.map vb K,1,kv,false,true⟩,⟨List.map Bl.a B,1,bv,false,true⟩],[(!K.getD i.toNat default) == false],[],_⟩ (by kernel_rfl) (bc (beq_f (fun h => d10 ((i_not (i_var _)).1 h))) b0) q0 c0 (by (try rw [w25]);all_goals exact H)
 ·have H:=H.2 d3
  obtain ⟨k26,H⟩:=H
  have w27:wi (rd + 1) = rd + 1:=wI64 k26
  exact path_wp (G:=given kp30 [] []) 1000 [false] ⟨(atC (cd Try.f30) [1,1,1,0,1,0,0]),[(1,AV.ptr 0 0 0 0),(6,AV.row 1 kv),(7,AV.row 2 bv),(8,vi (wi (rd + 1)))],[⟨[ag [AV.vec g 3 (List.map Bk.a l),AV.vec h 2 (List.map Sb.a s)]],2,0,false,false⟩,⟨List.map vb K,1,kv,false,true⟩,⟨List.map Bl.a B,1,bv,false,true⟩],_,[],_⟩ (by kernel_rfl) (bc rfl (bc (beq_f (fun h => d3 (i2.1 h))) b0)) q0 c0 (by (try rw [w27]);all_goals exact H)
theorem tvYy (g:Bool) (l:List Bk) (h:Bool) (s:List Sb) (K:List Bool) (B:List Bl) (kv bv:Nat) (rd i:Int) (y:Bk) (Y:List Bk) (dq:AV) (H :
  ((i < (↑s.length:Int)) -> (0 <= i) /\
   (i.toNat < K.length) /\
   ((¬(K.getD i.toNat default = true)) -> (Ev M3 (Conf.own 57 [ag [AV.vec g 3 (List.map Bk.a l),AV.vec h 2 (List.map Sb.a s)],AV.vec (s.getD i.toNat default).2 3 (List.map Bk.a (s.getD i.toNat default).3),AV.row 0 kv,AV.row 1 bv] [{ elems:=List.map vb K,es:=1,ver:=kv,frozen:=false,clean:=true },{ elems:=List.map Bl.a B,es:=1,ver:=bv,frozen:=false,clean:=true }]) (tu [AV.vec false 3 (ag [vb y.1,AV.vec y.2 2 (List.map Wo.a y.3),AV.str y.4] :: List.map Bk.a Y),vb true]) [{ elems:=List.map vb K,es:=1,ver:=kv,frozen:=false,clean:=true },{ elems:=List.map Bl.a B,es:=1,ver:=bv,frozen:=false,clean:=true }]) /\
    (i.toNat < s.length) /\
    (i.toNat < B.length) /\
    (-9223372036854775808 <= i + 1 /\ i + 1 <= 9223372036854775807) /\
    Wp M3 (.run fi30 (atC (cd Try.f30) [1,1,1,0,1,0,0,1,0,0,1,0,0]) [(1,AV.ptr 0 0 0 0),(6,AV.row 1 kv),(7,AV.row 2 bv),(8,vi rd),(9,vi (i + 1))] [{ elems:=[ag [AV.vec g 3 (List.map Bk.a l),AV.vec h 2 (List.map Sb.a s)]],es:=2,ver:=0,frozen:=false,clean:=false },{ elems:=List.map vb (K.set i.toNat true),es:=1,ver:=kv,frozen:=false,clean:=true },{ elems:=(List.map Bl.a B).set i.toNat (AV.vec false 3 (ag [vb y.1,AV.vec y.2 2 (List.map Wo.a y.3),AV.str y.4] :: List.map Bk.a Y)),es:=1,ver:=bv,frozen:=false,clean:=true }]) (PureQ dq)) /\
   (¬(¬(K.getD i.toNat default = true)) -> (-9223372036854775808 <= i + 1 /\ i + 1 <= 9223372036854775807) /\
    tvYn_at (g) (l) (h) (s) (K) (B) (kv) (bv) (rd) (i + 1) (PureQ dq))) /\
  (¬(i < (↑s.length:Int)) -> (-9223372036854775808 <= rd + 1 /\ rd + 1 <= 9223372036854775807) /\
   tvYo_at (g) (l) (h) (s) (K) (B) (kv) (bv) (rd + 1) (PureQ dq))) :
 tvYy_at g l h s K B kv bv rd i (PureQ dq):=by
 unfold tvYy_at
 have w1:(List.map Sb.a s).length = s.length:=List.length_map ..
 have i2:(decide (i < (↑(List.map Sb.a s).length:Int))) = true ↔ (i < (↑s.length:Int)):=(by (try rw [w1]);all_goals exact i_dec)
 rcases xm (i < (↑s.length:Int)) with d3 | d3
 ·have H:=H.1 d3
  obtain ⟨k5,H⟩:=H
  have w6:(List.map vb K).length = K.length:=List.length_map ..
  have i7:(decide (i.toNat < (List.map vb K).length)) = true ↔ (i.toNat < K.length):=(by (try rw [w6]);all_goals exact i_dec)
  obtain ⟨k8,H⟩:=H
  refine path_wp (G:=given kp30 [(11,3,.elem (vb (K.getD i.toNat default)))] []) 9 [true] ⟨(atC (cd Try.f30) [1,1,1,0,1,0,0,1,0,0,1,0,0,1,0,0,1]),[(1,AV.ptr 0 0 0 0),(6,AV.row 1 kv),(7,AV.row 2 bv),(8,vi rd),(9,vi i),(46,vb !K.getD i.toNat default)],[⟨[ag [AV.vec g 3 (List.map Bk.a l),AV.vec h 2 (List.map Sb.a s)]],2,0,false,false⟩,⟨List.map vb K,1,kv,false,true⟩,⟨List.map Bl.a B,1,bv,false,true⟩],[true,(decide (i < (↑(List.map Sb.a s).length:Int))) == true,kv == kv,decide (0 <= i),decide (i.toNat < (List.map vb K).length),kv == kv],[((List.map vb K).get?Internal i.toNat = some (vb (K.getD i.toNat default)))],_⟩ (by kernel_rfl) (bc rfl (bc (beq_t (i2.2 d3)) (bc (beq_self_eq_true _) (bc (i_dec.2 k5) (bc (i7.2 k8) (bc (beq_self_eq_true _) b0)))))) (qc (el_map k8) q0) c0 ?_
  rcases xm (¬(K.getD i.toNat default = true)) with d10 | d10
  ·have H:=H.1 d10
   obtain ⟨k11,H⟩:=H
   have i13:(decide (i.toNat < (List.map Sb.a s).length)) = true ↔ (i.toNat < s.length):=(by (try rw [w1]);all_goals exact i_dec)
   obtain ⟨k14,H⟩:=H
   have w16:(List.map Bl.a B).length = B.length:=List.length_map ..
   have i17:(decide (i.toNat < (List.map Bl.a B).length)) = true ↔ (i.toNat < B.length):=(by (try rw [w16]);all_goals exact i_dec)
   obtain ⟨k18,H⟩:=H
   have i20:(decide (i.toNat < (List.map vb K).length)) = true ↔ (i.toNat < K.length):=(by (try rw [w6]);all_goals exact i_dec)
   have w21:(List.map vb K).set i.toNat (vb true) = List.map vb (K.set i.toNat true):=(lm_set rfl rfl)
   obtain ⟨k22,H⟩:=H
   have w23:wi (i + 1) = i + 1:=wI64 k22
   exact path_wp (G:=given kp30 [(12,10,.elem (ag [vi (s.getD i.toNat default).n,AV.vec (s.getD i.toNat default).2 3 (List.map Bk.a (s.getD i.toNat default).3)])),(12,13,(.call (.tup [.vec false 3 ((y :: Y).map Bk.a),.bool true]) (some [⟨K.map (.bool),1,kv,false,true⟩,⟨B.map Bl.a,1,bv,false,true⟩]):Ans)),(12,18,.elem (AV.vec (B.getD i.toNat default).1 3 (List.map Bk.a (B.getD i.toNat default).2))),(12,20,.elem (vb (K.getD i.toNat default)))] [(12,[13])]) 1000 [true] ⟨(atC (cd Try.f30) [1,1,1,0,1,0,0,1,0,0,1,0,0]),[(1,AV.ptr 0 0 0 0),(6,AV.row 1 kv),(7,AV.row 2 bv),(8,vi rd),(9,vi (wi (i + 1)))],[⟨[ag [AV.vec g 3 (List.map Bk.a l),AV.vec h 2 (List.map Sb.a s)]],2,0,false,false⟩,⟨(List.map vb K).set i.toNat (vb true),1,kv,false,true⟩,⟨(List.map Bl.a B).set i.toNat (AV.vec false 3 (ag [vb y.1,AV.vec y.2 2 (List.map Wo.a y.3),AV.str y.4] :: List.map Bk.a Y)),1,bv,false,true⟩],[(!K.getD i.toNat default) == true,true,true,decide (0 <= i),decide (i.toNat < (List.map Sb.a s).length),bv == bv,decide (0 <= i),decide (i.toNat < (List.map Bl.a B).length),bv == bv,kv == kv,decide (0 <= i),decide (i.toNat < (List.map vb K).length),kv == kv],[((List.map Sb.a s).get?Internal i.toNat = some (ag [vi (s.getD i.toNat default).n,AV.vec (s.getD i.toNat default).2 3 (List.map Bk.a (s.getD i.toNat default).3)])),((List.map Bl.a B).get?Internal i.toNat = some (AV.vec (B.getD i.toNat default).1 3 (List.map Bk.a (B.getD i.toNat default).2))),((List.map vb K).get?Internal i.toNat = some (vb (K.getD i.toNat default)))],[⟨true,true,57,[ag [AV.vec g 3 (List.map Bk.a l),AV.vec h 2 (List.map Sb.a s)],AV.vec (s.getD i.toNat default).2 3 (List.map Bk.a (s.getD i.toNat default).3),AV.row 0 kv,AV.row 1 bv],[⟨List.map vb K,1,kv,false,true⟩,⟨List.map Bl.a B,1,bv,false,true⟩],tu [AV.vec false 3 (ag [vb y.1,AV.vec y.2 2 (List.map Wo.a y.3),AV.str y.4] :: List.map Bk.a Y),vb true],[⟨List.map vb K,1,kv,false,true⟩,⟨List.map Bl.a B,1,bv,false,true⟩]⟩]⟩ (by kernel_rfl) (bc (beq_t ((i_not (i_var _)).2 d10)) (bc rfl (bc rfl (bc (i_dec.2 k5) (bc (i13.2 k14) (bc (beq_self_eq_true _) (bc (i_dec.2 k5) (bc (i17.2 k18) (bc (beq_self_eq_true _) (bc (beq_self_eq_true _) (bc (i_dec.2 k5) (bc (i20.2 k8) (bc (beq_self_eq_true _) b0))))))))))))) (qc (el_map k14) (qc (el_map k18) (qc (el_map k8) q0))) (cc (fun _ => k11) c0) (by (try rw [w21]);(try rw [w23]);all_goals exact H)
  ·have H:=H.2 d10
   obtain ⟨k24,H⟩:=H
   have w25:wi (i + 1) = i + 1:=wI64 k24
   exact path_wp (G:=given kp30 [] []) 1000 [false] ⟨(atC (cd Try.f30) [1,1,1,0,1,0,0,1,0,0,1,0,0]),[(1,AV.ptr 0 0 0 0),(6,AV.row 1 kv),(7,AV.row 2 bv),(8,vi rd),(9,vi (wi (i + 1)))],[⟨[ag [AV.vec g 3 (List.map Bk.a l),AV.vec h 2 (List.map Sb.a s)]],2,0,false,false⟩,⟨List.map vb K,1,kv,false,true⟩,⟨List.map Bl.a B,1,bv,false,true⟩],[(!K.getD i.toNat default) == false],[],_⟩ (by kernel_rfl) (bc (beq_f (fun h => d10 ((i_not (i_var _)).1 h))) b0) q0 c0 (by (try rw [w25]);all_goals exact H)
 ·have H:=H.2 d3
  obtain ⟨k26,H⟩:=H
  have w27:wi (rd + 1) = rd + 1:=wI64 k26
  exact path_wp (G:=given kp30 [] []) 1000 [false] ⟨(atC (cd Try.f30) [1,1,1,0,1,0,0]),[(1,AV.ptr 0 0 0 0),(6,AV.row 1 kv),(7,AV.row 2 bv),(8,vi (wi (rd + 1)))],[⟨[ag [AV.vec g 3 (List.map Bk.a l),AV.vec h 2 (List.map Sb.a s)]],2,0,false,false⟩,⟨List.map vb K,1,kv,false,true⟩,⟨List.map Bl.a B,1,bv,false,true⟩],_,[],_⟩ (by kernel_rfl) (bc rfl (bc (beq_f (fun h => d3 (i2.1 h))) b0)) q0 c0 (by (try rw [w27]);all_goals exact H)
end Go.Av

namespace Go.Av
open Go.Proofs
noncomputable def ops4:Array Oper:=match atC (cd Try.f30) [1,1,0] with
 | .code (.region _ ops _) :: _ => ops
 | _ => #[]
noncomputable def H4 (g h:Bool) (l s:List AV):Heap:=[⟨[AV.agg [AV.vec g 3 l,AV.vec h 2 s]],2,0,false,false⟩]
noncomputable def X4 (g h:Bool) (l s:List AV) (e:Int) (b:Bool) (σ:List Nat):=ordX M3 (fun _ _ _ => none) fi30.n ops4 (fun _ => none) [1,6,7] [3,7] [(1,AV.ptr 0 0 0 0),(5,.int .i64 e),(18,.bool b)] (H4 g h l s) σ
def krow (n:Nat):Row:=⟨List.replicate n (.bool false),1,0,false,true⟩
def brow (n:Nat):Row:=⟨List.replicate n .vnil,1,0,false,true⟩
def mkAsS (z n:Int):List Bool:=[decide (0 <= n),decide (n <= n),decide (n * z <= 1099511627776),decide (n <= 1099511627776)]
theorem X4_a (g h:Bool) (l s:List AV) (e:Int) (b:Bool):X4 g h l s e b [3,7] = some ([(1,AV.ptr 0 0 0 0),(6,AV.row 1 0),(7,AV.row 2 0)],[⟨[AV.agg [AV.vec g 3 l,AV.vec h 2 s]],2,0,false,false⟩,krow (s.length:Int).toNat,brow (s.length:Int).toNat],(0 == 0) :: (mkAsS 1 s.length ++ ((0 == 0) :: mkAsS 24 s.length)),[],[]):=by kernel_rfl
theorem X4_b (g h:Bool) (l s:List AV) (e:Int) (b:Bool):X4 g h l s e b [7,3] = some ([(1,AV.ptr 0 0 0 0),(6,AV.row 1 0),(7,AV.row 2 0)],[⟨[AV.agg [AV.vec g 3 l,AV.vec h 2 s]],2,0,false,false⟩,krow (s.length:Int).toNat,brow (s.length:Int).toNat],(0 == 0) :: (0 == 0) :: (mkAsS 24 s.length ++ mkAsS 1 s.length),[],[]):=by kernel_rfl
theorem mkAsS_ok {z:Int} {n:Nat} (hz:1 <= z /\ z <= 24) (h:n <= 1000000):∀ b ∈ mkAsS z n,b = true:=by
 intro b hb
 have h1:(n:Int) * z <= 1000000 * 24:=Int.mul_le_mul (by omega) hz.2 (by omega) (by omega)
 unfold mkAsS at hb
 simp only [List.mem_cons,List.not_mem_nil,or_false] at hb
 rcases hb with rfl | rfl | rfl | rfl <;> exact decide_eq_true (by omega)
theorem wk_brow (n:Nat):WkCells (List.replicate n .vnil) ((List.replicate n (⟨false,[]⟩:Bl)).map Bl.a):=by
 refine ⟨by simp,fun i x y hx hy => ?_⟩
 rw [List.getElem?_replicate] at hx
 rw [List.getElem?_map,List.getElem?_replicate] at hy
 by_cases hi:i < n
 ·rw [if_pos hi] at hx hy
  have hx:=Option.some.inj hx
  have hy:Bl.a ⟨false,[]⟩ = y:=Option.some.inj hy
  subst hx;subst hy
  refine ⟨rfl,rfl,fun k c d hc hd => ?_⟩
  match k with
  | 0 =>
   have hc:AV.vnil = c:=Option.some.inj hc
   have hd:AV.vec false 3 [] = d:=Option.some.inj hd
   subst hc;subst hd
   exact .inr ⟨rfl,.vnil 3⟩
  | k + 1 => exact absurd hc (by simp [AV.cells])
 ·rw [if_neg hi] at hx;cases hx
theorem tvY4 {g h:Bool} {l:List Bk} {s:List Sb} {e:Int} {b:Bool} {dq:AV} (hs:s.length <= 1000000) (H:tvYg_at g l h s (List.replicate s.length false) (List.replicate s.length ⟨false,[]⟩) 0 0 (PureQ dq)) :
  Wp M3 (.run fi30 (atC (cd Try.f30) [1,1,0]) [(1,AV.ptr 0 0 0 0),(5,.int .i64 e),(18,.bool b)] [⟨[AV.agg [AV.vec g 3 (l.map Bk.a),AV.vec h 2 (s.map Sb.a)]],2,0,false,false⟩]) (PureQ dq):=by
 have hm1:∀ b ∈ mkAsS 1 (s.map Sb.a).length,b = true:=by rw [List.length_map];exact mkAsS_ok (by omega) hs
 have hm2:∀ b ∈ mkAsS 24 (s.map Sb.a).length,b = true:=by rw [List.length_map];exact mkAsS_ok (by omega) hs
 refine wp_any2 (id:=4) (ops:=ops4) (c:=3) (d:=7) hm3 rfl (X4_a g h (l.map Bk.a) (s.map Sb.a) e b) (X4_b g h (l.map Bk.a) (s.map Sb.a) e b) (fun b hb => ?_) (fun b hb => ?_) ?_
 ·simp only [List.mem_cons,List.mem_append] at hb
  rcases hb with rfl | hb | rfl | hb
  ·rfl
  ·exact hm1 b hb
  ·rfl
  ·exact hm2 b hb
 ·simp only [List.mem_cons,List.mem_append] at hb
  rcases hb with rfl | rfl | hb | hb
  ·rfl
  ·rfl
  ·exact hm2 b hb
  ·exact hm1 b hb
 ·rw [List.length_map,Int.toNat_natCast]
  unfold tvYg_at at H
  rw [List.map_replicate] at H
  refine wp_weaken hm3 2 (brow s.length) ((List.replicate s.length (⟨false,[]⟩:Bl)).map Bl.a) rfl rfl (wk_brow s.length) ?_
  exact H
end Go.Av

namespace Go.Av
open Go.Proofs
theorem app_exact {Y:List Bk}:∀ (t:Nat) (q:List Bk),q.length + t * Y.length <= 20000 -> Sp.app t Y q = q ++ Sp.rep t Y
 | 0,q,_ => by rw [Sp.app,rep_zero,List.append_nil]
 | t + 1,q,h => by
  rw [Nat.succ_mul] at h
  rw [Sp.app]
  by_cases h0:0 < Y.length
  ·rw [if_pos ⟨h0,by omega⟩,app_exact t (q ++ Y) (by rw [List.length_append];omega),rep_succ,List.append_assoc]
  ·rw [if_neg fun z => h0 z.1]
   have:Y = []:=List.eq_nil_of_length_eq_zero (by omega)
   subst this
   rw [rep_nil,List.append_nil]
theorem app_len {Y:List Bk} {M:Nat} (hY:Y.length <= M):∀ (t:Nat) (q:List Bk),(Sp.app t Y q).length <= max q.length (20000 + M):=by
 intro t
 induction t with
 | zero => intro q;exact Nat.le_max_left _ _
 | succ t ih =>
  intro q
  rw [Sp.app]
  split
  ·rename_i z
   refine Nat.le_trans (ih (q ++ Y)) ?_
   rw [List.length_append];omega
  ·exact Nat.le_max_left _ _
theorem rpl_len {s:List Sb} {K:List Bool} {B:List Bl} {M:Nat} (hB:∀ i,(B.getD i default).bl.length <= M):∀ (l q Y:List Bk),Sp.rpl s K B l q = some Y -> Y.length <= max q.length (20000 + M) + l.length
 | [],q,Y,h => by rw [Sp.rpl] at h;rw [<- Option.some.inj h];have:=Nat.le_max_left q.length (20000 + M);simp only [List.length_nil];omega
 | x :: r,q,Y,h => by
  rw [Sp.rpl] at h
  rw [List.length_cons]
  split at h
  ·split at h
   ·have h1:=rpl_len hB r _ Y h
    have h2:=app_len (hB (Sp.at' s x)) (Sp.cT x.ws).toNat q
    omega
   ·cases h
  ·have h1:=rpl_len hB r _ Y h
   rw [List.length_append,List.length_singleton] at h1
   omega
theorem rpl_known {s:List Sb} {K:List Bool} {B:List Bl}:∀ (l q:List Bk),(Sp.rpl s K B l q).isSome = true ↔ ∀ x ∈ l,Sp.cIs x.ws = true -> K.getD (Sp.at' s x) default = true
 | [],q => ⟨fun _ x hx => (by cases hx),fun _ => rfl⟩
 | x :: r,q => by
  rw [Sp.rpl]
  by_cases k:Sp.cIs x.ws = true
  ·rw [if_pos k]
   by_cases hK:K.getD (Sp.at' s x) default = true
   ·rw [if_pos hK,rpl_known r]
    constructor
    ·intro h y hy ky
     rcases List.mem_cons.1 hy with rfl | hy
     ·exact hK
     ·exact h y hy ky
    ·exact fun h y hy => h y (List.mem_cons_of_mem _ hy)
   ·rw [if_neg hK]
    exact ⟨fun h => (by cases h),fun h => (hK (h x (by simp) k)).elim⟩
  ·rw [if_neg k,rpl_known r]
   constructor
   ·intro h y hy ky
    rcases List.mem_cons.1 hy with rfl | hy
    ·exact (k ky).elim
    ·exact h y hy ky
   ·exact fun h y hy => h y (List.mem_cons_of_mem _ hy)
theorem rpl_exact {s:List Sb} {K:List Bool} {B:List Bl} {E:Int -> List Bk}:∀ (l q:List Bk),(∀ x ∈ l,Sp.cIs x.ws = true -> K.getD (Sp.at' s x) default = true /\ ((E (Sp.cN x.ws)).length <= 20000 -> (B.getD (Sp.at' s x) default).bl = E (Sp.cN x.ws))) -> (q ++ Sp.xpd E l).length <= 20000 -> Sp.rpl s K B l q = some (q ++ Sp.xpd E l)
 | [],q,_,_ => by rw [Sp.rpl,show Sp.xpd E [] = [] from rfl,List.append_nil]
 | x :: r,q,h,hl => by
  have hr:=fun y hy => h y (List.mem_cons_of_mem _ hy)
  rw [xpd_cons,<- List.append_assoc] at hl ⊢
  rw [Sp.rpl]
  by_cases k:Sp.cIs x.ws = true
  ·rw [if_pos k] at hl ⊢
   obtain ⟨h1,h2⟩:=h x (by simp) k
   have hct:=(cIs_at k).1
   have hl':=hl
   rw [List.length_append,List.length_append,rep_len] at hl'
   have hE:(E (Sp.cN x.ws)).length <= (Sp.cT x.ws).toNat * (E (Sp.cN x.ws)).length:=Nat.le_mul_of_pos_left _ (by omega)
   rw [if_pos k,if_pos h1,h2 (by omega),app_exact _ _ (by omega)]
   exact rpl_exact r _ hr hl
  ·rw [if_neg k] at hl ⊢
   rw [if_neg k]
   exact rpl_exact r _ hr hl
def KInv (s:List Sb) (K:List Bool) (B:List Bl) (M:Nat):Prop:=K.length = s.length /\ B.length = s.length /\ (∀ i,(B.getD i default).bl.length <= M) /\ ∀ i,i < s.length -> K.getD i default = true -> (Sp.VN s (s.getD i default).n).isSome = true /\ ((Sp.XN s (s.getD i default).n).length <= 20000 -> (B.getD i default).bl = Sp.XN s (s.getD i default).n)
def KDone (s:List Sb) (k:Nat) (p:Nat -> Prop) (K:List Bool):Prop:=∀ i,i < s.length -> p i -> (Sp.V (Sp.bod s) k (s.getD i default).n).isSome = true -> K.getD i default = true
theorem at_K {s:List Sb} {K:List Bool} {B:List Bl} {M:Nat} (hI:KInv s K B M) {x:Bk} (hf:0 <= Sp.fnd s (Sp.cN x.ws)) (hk:K.getD (Sp.at' s x) default = true):(Sp.VN s (Sp.cN x.ws)).isSome = true /\ ((Sp.XN s (Sp.cN x.ws)).length <= 20000 -> (B.getD (Sp.at' s x) default).bl = Sp.XN s (Sp.cN x.ws)):=by
 obtain ⟨h1,h2⟩:=fnd_n hf
 have:=hI.2.2.2 (Sp.at' s x) h1 hk
 unfold Sp.at' at this ⊢
 rw [h2] at this
 exact this
theorem getD_setB {α:Type} [Inhabited α] {l:List α} {i j:Nat} {a:α} (hi:i < l.length):(l.set i a).getD j default = if i = j then a else l.getD j default:=by
 rw [List.getD_eq_getElem?_getD,List.getElem?_set,List.getD_eq_getElem?_getD]
 by_cases e:i = j
 ·rw [if_pos e,if_pos e,if_pos hi];rfl
 ·rw [if_neg e,if_neg e]
theorem step_none {s:List Sb} {K:List Bool} {B:List Bl} {M k i:Nat} (hI:KInv s K B M) (hi:i < s.length) (hK:¬K.getD i default = true) (hd:KDone s k (fun _ => True) K) (hp:KDone s (k + 1) (fun j => j < i) K) (h:okF s) (hn:Sp.rpl s K B (s.getD i default).bl [] = none) :
  KInv s (K.set i false) (B.set i ⟨false,[]⟩) M /\ KDone s k (fun _ => True) (K.set i false) /\ KDone s (k + 1) (fun j => j < i + 1) (K.set i false):=by
 obtain ⟨i1,i2,i3,i4⟩:=hI
 have eK:∀ j,(K.set i false).getD j default = if i = j then false else K.getD j default:=fun j => getD_setB (by omega)
 have eB:∀ j,(B.set i ⟨false,[]⟩).getD j default = if i = j then ⟨false,[]⟩ else B.getD j default:=fun j => getD_setB (by omega)
 have hx:s.getD i default ∈ s:=getD_mem hi
 refine ⟨⟨by simp [i1],by simp [i2],fun j => ?_,fun j hj hk => ?_⟩,fun j hj _ hv => ?_,fun j hj hji hv => ?_⟩
 ·rw [eB];split
  ·simp
  ·exact i3 j
 ·rw [eK] at hk
  split at hk
  ·cases hk
  ·rename_i e
   rw [eB,if_neg e];exact i4 j hj hk
 ·rw [eK]
  by_cases e:i = j
  ·subst e;exact (hK (hd i hj trivial hv)).elim
  ·rw [if_neg e];exact hd j hj trivial hv
 ·rw [eK]
  by_cases e:i = j
  ·subst e
   have hs:(Sp.rpl s K B (s.getD i default).bl []).isSome = true:=(rpl_known _ _).2 fun x hxb kx => by
    have hf:=h.2 _ hx x hxb kx
    obtain ⟨f1,f2⟩:=fnd_n hf
    refine hd (Sp.at' s x) f1 trivial ?_
    unfold Sp.at'
    rw [f2]
    rw [<- bod_at h.1 hx] at hxb
    exact V_succ.1 hv x hxb kx
   rw [hn] at hs;cases hs
  ·rw [if_neg e];exact hp j hj (by omega) hv
theorem step_some {s:List Sb} {K:List Bool} {B:List Bl} {M k i:Nat} {Y:List Bk} (hI:KInv s K B M) (hi:i < s.length) (hd:KDone s k (fun _ => True) K) (hp:KDone s (k + 1) (fun j => j < i) K) (h:okF s) (hbl:(s.getD i default).bl.length <= 1000) (hn:Sp.rpl s K B (s.getD i default).bl [] = some Y) :
  KInv s (K.set i true) (B.set i ⟨false,Y⟩) (M + 21000) /\ KDone s k (fun _ => True) (K.set i true) /\ KDone s (k + 1) (fun j => j < i + 1) (K.set i true):=by
 have hI':=hI
 obtain ⟨i1,i2,i3,i4⟩:=hI
 have eK:∀ j,(K.set i true).getD j default = if i = j then true else K.getD j default:=fun j => getD_setB (by omega)
 have eB:∀ j,(B.set i ⟨false,Y⟩).getD j default = if i = j then ⟨false,Y⟩ else B.getD j default:=fun j => getD_setB (by omega)
 have hx:s.getD i default ∈ s:=getD_mem hi
 have hkn:=(rpl_known _ _).1 (by rw [hn];rfl:(Sp.rpl s K B (s.getD i default).bl []).isSome = true)
 have hV1:(Sp.V (Sp.bod s) (s.length + 1) (s.getD i default).n).isSome = true:=V_succ.2 fun x hxb kx => by
  rw [bod_at h.1 hx] at hxb
  exact (at_K hI' (h.2 _ hx x hxb kx) (hkn x hxb kx)).1
 have hV:=VN_pig h hx hV1
 have hX:Sp.XN s (s.getD i default).n = Sp.xpd (Sp.XN s) (s.getD i default).bl:=by
  have:=(X_mono1 s.length (s.getD i default).n hV).symm
  rw [Sp.X,bod_at h.1 hx] at this
  exact this
 have hYl:=rpl_len i3 _ _ _ hn
 have hYm:Y.length <= M + 21000:=by simp only [List.length_nil] at hYl;omega
 refine ⟨⟨by simp [i1],by simp [i2],fun j => ?_,fun j hj hk => ?_⟩,fun j hj _ hv => ?_,fun j hj hji hv => ?_⟩
 ·rw [eB];split
  ·exact hYm
  ·have:=i3 j;omega
 ·rw [eK] at hk
  rw [eB]
  by_cases e:i = j
  ·subst e
   rw [if_pos rfl]
   refine ⟨hV,fun hlen => ?_⟩
   rw [hX] at hlen ⊢
   have:=rpl_exact (E:=Sp.XN s) (s.getD i default).bl [] (fun x hxb kx => ⟨hkn x hxb kx,(at_K hI' (h.2 _ hx x hxb kx) (hkn x hxb kx)).2⟩) (by rw [List.nil_append];exact hlen)
   rw [hn,List.nil_append] at this
   exact Option.some.inj this
  ·rw [if_neg e] at hk ⊢;exact i4 j hj hk
 ·rw [eK];split
  ·rfl
  ·exact hd j hj trivial hv
 ·rw [eK];split
  ·rfl
  ·exact hp j hj (by omega) hv
theorem wk_set {B:List Bl} {i:Nat}:WkCells ((B.map Bl.a).set i .vnil) ((B.set i ⟨false,[]⟩).map Bl.a):=by
 refine ⟨by simp,fun j x y hx hy => ?_⟩
 rw [List.getElem?_map,List.getElem?_set] at hy
 rw [List.getElem?_set] at hx
 by_cases e:i = j
 ·rw [if_pos e] at hx hy
  rw [List.length_map] at hx
  by_cases hj:i < B.length
  ·rw [if_pos hj] at hx hy
   have hx:=Option.some.inj hx
   have hy:Bl.a ⟨false,[]⟩ = y:=Option.some.inj hy
   subst hx;subst hy
   refine ⟨rfl,rfl,fun k c d hc hd => ?_⟩
   match k with
   | 0 =>
    have hc:AV.vnil = c:=Option.some.inj hc
    have hd:AV.vec false 3 [] = d:=Option.some.inj hd
    subst hc;subst hd
    exact .inr ⟨rfl,.vnil 3⟩
   | k + 1 => exact absurd hc (by simp [AV.cells])
  ·rw [if_neg hj] at hx;cases hx
 ·rw [if_neg e] at hx hy
  rw [List.getElem?_map] at hx
  rw [hx] at hy
  have hy:=Option.some.inj hy
  subst hy
  obtain ⟨b,_,rfl⟩:=Option.map_eq_some_iff.1 hx
  exact ⟨rfl,rfl,fun k c d hc hd => .inl (by rw [hc] at hd;exact (Option.some.inj hd).symm)⟩
namespace Sp
def xqr (l:List Bk) (s:List Sb):List Bk × Int:=if (siz l s).2 = 0 then (XM l s,0) else ([],(siz l s).2)
end Sp
theorem tvYo_loop {g h:Bool} {l:List Bk} {s:List Sb} (hk:Sp.okC1 l s) (he:(Sp.siz l s).2 = 0) {dq:AV} (hq:.tup [bsA false (Sp.XM l s),.int .i64 0] = dq):∀ (c r:Nat) (K:List Bool) (B:List Bl) (kv bv:Nat),r + c = s.length -> KInv s K B (21000 * (r * s.length)) -> KDone s r (fun _ => True) K -> tvYo_at g l h s K B kv bv r (PureQ dq):=by
 obtain ⟨k1,k2,k3,k4⟩:=hk
 obtain ⟨x0,_,_,_⟩:=siz_ok he
 obtain ⟨a1,a2,a3,a4⟩:=xe_ok x0
 have hlost:=a3
 rw [blks_any,Bool.or_eq_false_iff] at hlost
 have hF:okF s:=⟨prpB_rep a1,fun x hx => found_of (by
  have:=hlost.2
  rw [List.any_eq_false] at this
  exact Bool.eq_false_iff.2 (this x hx))⟩
 have hfm:=found_of hlost.1
 have okr:∀ {K B M} {b:List Bk},KInv s K B M -> M <= 1000000000 -> Sp.okBs b -> Sp.found s b -> okR s K B b:=fun {K B M b} hI hM hb hf => ⟨by omega,hI.1,hI.2.1,hb,hf,fun x hx => by
  obtain ⟨i,hi,rfl⟩:=List.getElem_of_mem hx
  have:=hI.2.2.1 i
  rw [List.getD_eq_getElem?_getD,List.getElem?_eq_getElem hi] at this
  exact Nat.le_trans this hM⟩
 intro c
 induction c with
 | zero =>
  intro r K B kv bv hr hI hD
  have hrn:r = s.length:=by omega
  have hM:21000 * (r * s.length) <= 1000000000:=by
   have:r * s.length <= 100 * 100:=Nat.mul_le_mul (by omega) (by omega)
   omega
  have hkn:∀ x ∈ l,Sp.cIs x.ws = true -> K.getD (Sp.at' s x) default = true:=fun x hx k => by
   obtain ⟨f1,f2⟩:=fnd_n (hfm x hx k)
   refine hD (Sp.at' s x) f1 trivial ?_
   rw [hrn]
   unfold Sp.at'
   rw [f2]
   exact (main_V x0 x hx k).2
  have hex:=rpl_exact (E:=Sp.XN s) l [] (fun x hx k => ⟨hkn x hx k,(at_K hI (hfm x hx k) (hkn x hx k)).2⟩) (by rw [List.nil_append];exact (siz_len he).2)
  rw [List.nil_append] at hex
  have hev:=rpl_ev (fm:=g) (g:=g) (h:=h) (mn:=l) (kv:=kv) (bv:=bv) (okr hI hM k1 hfm)
  rw [hex] at hev
  have hne:∃ y Y,Sp.xpd (Sp.XN s) l = y :: Y:=by
   have p:=a1
   unfold Sp.prpB at p
   simp only [Bool.and_eq_true] at p
   obtain ⟨Z,e,hZ⟩:=ordB_pos p.2.1
   have p2:=p.2.1
   rw [hZ] at p2
   have he1:=(ordB_snoc.1 p2).1.1
   have hc:Sp.cIs e.ws = false:=Bool.eq_false_iff.2 fun y => by rw [call_end y] at he1;cases he1
   have:Sp.xpd (Sp.XN s) l = Sp.xpd (Sp.XN s) Z ++ [e]:=by rw [hZ,xpd_app,xpd_nocall (l:=[e]) fun b hb => by rw [List.mem_singleton] at hb;rw [hb];exact hc]
   cases hx:Sp.xpd (Sp.XN s) l with
   | nil => rw [hx] at this;simp at this
   | cons y Y => exact ⟨y,Y,rfl⟩
  obtain ⟨y,Y,hyY⟩:=hne
  rw [hyY] at hev
  have hXM:Sp.XM l s = y :: Y:=hyY
  rw [hXM] at hq
  refine tvYo _ _ _ _ _ _ _ _ _ y Y _ ⟨fun z => by omega,fun _ => ⟨hev,?_⟩⟩
  rw [<- hq];exact .refl _
 | succ c ih =>
  intro r K B kv bv hr hI hD
  refine tvYo _ _ _ _ _ _ _ _ _ default [] _ ⟨fun _ => ?_,fun z => by omega⟩
  have inner:∀ (c' i:Nat) (K:List Bool) (B:List Bl) (kv bv:Nat),i + c' = s.length -> KInv s K B (21000 * (r * s.length + i)) -> KDone s r (fun _ => True) K -> KDone s (r + 1) (fun j => j < i) K -> tvYn_at g l h s K B kv bv r i (PureQ dq):=by
   intro c'
   induction c' with
   | zero =>
    intro i K B kv bv hi hI hD hP
    refine tvYn _ _ _ _ _ _ _ _ _ _ true _ ⟨fun z => by omega,fun _ => ⟨by omega,ih (r + 1) K B kv bv (by omega) ?_ fun j hj _ hv => hP j hj (by omega) hv⟩⟩
    have:(r + 1) * s.length = r * s.length + i:=by rw [Nat.succ_mul];omega
    rw [this];exact hI
   | succ c' ih' =>
    intro i K B kv bv hi hI hD hP
    have hlt:i < s.length:=by omega
    have hx:s.getD i default ∈ s:=getD_mem hlt
    obtain ⟨hb1,hb2⟩:=k4 _ hx
    have hM:21000 * (r * s.length + i) <= 1000000000:=by
     have:r * s.length <= 100 * 100:=Nat.mul_le_mul (by omega) (by omega)
     omega
    have hnext:21000 * (r * s.length + i) <= 21000 * (r * s.length + (i + 1)):=by omega
    have up:∀ {K B M M'},M <= M' -> KInv s K B M -> KInv s K B M':=fun {K B M M'} hMM h => ⟨h.1,h.2.1,fun i => Nat.le_trans (h.2.2.1 i) hMM,h.2.2.2⟩
    by_cases hKi:K.getD i default = true
    ·refine tvYn _ _ _ _ _ _ _ _ _ _ true _ ⟨fun _ => ?_,fun z => by omega⟩
     rw [Int.toNat_natCast]
     refine ⟨by omega,by rw [hI.1];exact hlt,fun y => (y hKi).elim,fun _ => ⟨by omega,ih' (i + 1) K B kv bv (by omega) (up hnext hI) hD fun j hj hji hv => ?_⟩⟩
     by_cases e:j = i
     ·rw [e];exact hKi
     ·exact hP j hj (by omega) hv
    ·have hev:=rpl_ev (fm:=g) (g:=(s.getD i default).f) (h:=h) (mn:=l) (kv:=kv) (bv:=bv) (okr hI hM hb1 (hF.2 _ hx))
     cases hR:Sp.rpl s K B (s.getD i default).bl [] with
     | none =>
      rw [hR] at hev
      obtain ⟨n1,n2,n3⟩:=step_none hI hlt hKi hD hP hF hR
      refine tvYn _ _ _ _ _ _ _ _ _ _ false _ ⟨fun _ => ?_,fun z => by omega⟩
      rw [Int.toNat_natCast]
      refine ⟨by omega,by rw [hI.1];exact hlt,fun _ => ⟨hev,hlt,by rw [hI.2.1];exact hlt,by omega,?_⟩,fun y => (y hKi).elim⟩
      exact wp_weaken hm3 2 ⟨(B.map Bl.a).set i .vnil,1,bv,false,true⟩ ((B.set i ⟨false,[]⟩).map Bl.a) rfl rfl wk_set (ih' (i + 1) _ _ kv bv (by omega) (up hnext n1) n2 n3)
     | some Y =>
      rw [hR] at hev
      obtain ⟨n1,n2,n3⟩:=step_some hI hlt hD hP hF hb2 hR
      have n1:KInv s (K.set i true) (B.set i ⟨false,Y⟩) (21000 * (r * s.length + (i + 1))):=up (by omega) n1
      cases Y with
      | nil =>
       refine tvYn _ _ _ _ _ _ _ _ _ _ true _ ⟨fun _ => ?_,fun z => by omega⟩
       rw [Int.toNat_natCast]
       refine ⟨by omega,by rw [hI.1];exact hlt,fun _ => ⟨hev,hlt,by rw [hI.2.1];exact hlt,by omega,?_⟩,fun y => (y hKi).elim⟩
       exact wp_weaken hm3 2 ⟨(B.map Bl.a).set i .vnil,1,bv,false,true⟩ ((B.set i ⟨false,[]⟩).map Bl.a) rfl rfl wk_set (ih' (i + 1) _ _ kv bv (by omega) n1 n2 n3)
      | cons y Y =>
       have hn:=ih' (i + 1) _ _ kv bv (by omega) n1 n2 n3
       unfold tvYn_at at hn
       rw [List.map_set (f:=Bl.a)] at hn
       refine (tvYy _ _ _ _ _ _ _ _ _ _ y Y _ ⟨fun _ => ?_,fun z => by omega⟩:tvYy_at g l h s K B kv bv r i (PureQ dq))
       rw [Int.toNat_natCast]
       exact ⟨by omega,by rw [hI.1];exact hlt,fun _ => ⟨hev,hlt,by rw [hI.2.1];exact hlt,by omega,hn⟩,fun y => (y hKi).elim⟩
  exact inner s.length 0 K B kv bv (by omega) (by rw [Nat.add_zero];exact hI) hD fun j _ hj => by omega
theorem ev30 (g h:Bool) (l:List Bk) (s:List Sb) (hk:Sp.okC1 l s):Ev M1 (.pure 30 [pgA g h l s]) (.tup [bsA false (Sp.xqr l s).1,.int .i64 (Sp.xqr l s).2]) []:=by
 refine ev_M3 (call30 (tvY _ _ _ _ _ ⟨hk,fun y => ?_,fun y => ?_⟩))
 ·have:Sp.xqr l s = ([],(Sp.siz l s).2):=by unfold Sp.xqr;rw [if_neg y]
  rw [this];exact weak_tup2' (.vnil 3)
 ·have he:=Classical.not_not.1 y
  have:Sp.xqr l s = (Sp.XM l s,0):=by unfold Sp.xqr;rw [if_pos he]
  rw [this]
  have hs:=hk.2.1
  refine tvY4 (by omega) (tvYg _ _ _ _ _ _ _ _ _ (tvYo_loop hk he rfl s.length 0 _ _ 0 0 (by omega) ⟨by simp,by simp,fun i => ?_,fun i hi hk => ?_⟩ fun i _ _ hv => by simp [Sp.V] at hv))
  ·rw [List.getD_eq_getElem?_getD,List.getElem?_replicate]
   split
   ·simp
   ·exact Nat.zero_le _
  ·rw [List.getD_eq_getElem?_getD,List.getElem?_replicate,if_pos hi] at hk
   cases hk
end Go.Av

namespace Go.Av
open Go.Proofs
set_option maxRecDepth 100000
def fi7:Fi:=⟨65,[.tmp 2]⟩
def kp7:List (Nat × List Nat):=[(0,[1]),(1,[1,17]),(2,[2]),(3,[1,3,4]),(4,[1,3,4,5,6]),(5,[1,3,4,5,6,7,8]),(6,[3,4,5,6,7,8,9]),(7,[2])]
def tvLx_at (g:Bool) (l:List Bk) (h:Bool) (s:List Sb) (Q:AV -> Heap -> Prop):Prop:=Wp M1 (.run fi7 (atC (cd Try.f7) []) [(0,.agg [.vec g 3 (l.map Bk.a),.vec h 2 (s.map Sb.a)])] []) Q
theorem call7 {args:List AV} {d:AV} (h:wc M1 fi7 Try.f7 args d):Ev M1 (.pure 7 args) d []:=pcl _ _ (by kernel_rfl) h
theorem tvLx (g:Bool) (l:List Bk) (h:Bool) (s:List Sb)  (dq:AV) (H :
  ((¬(Sp.fewA l s = true)) -> vb true = dq) /\
  (¬(¬(Sp.fewA l s = true)) -> (l.length <= 1000000 /\ s.length <= 1000000 /\ ∀ (x:Sb),x ∈ s -> x.bl.length <= 1000000) /\
   (Sp.okN l (Sp.own s)) /\
   (Sp.okC1 l s) /\
   (((((Sp.siz l (Sp.own s)).snd = (Sp.chk l s).snd) /\ ((Sp.exq l (Sp.own s)).snd = (Sp.chk l s).snd)) /\ ((Sp.siz l (Sp.own s)).fst = (Sp.chk l s).fst)) -> (Sp.okBs (Sp.exq l (Sp.own s)).1)) /\
   vb (bif bif bif bif (Sp.siz l (Sp.own s)).snd == (Sp.chk l s).snd then (Sp.exq l (Sp.own s)).snd == (Sp.chk l s).snd else false then (Sp.siz l (Sp.own s)).fst == (Sp.chk l s).fst else false then Sp.sameL (Sp.exq l (Sp.own s)).1 (Sp.xqr l s).1 else false then (↑(Sp.exq l (Sp.own s)).1.length:Int) == (Sp.chk l s).fst else false) = dq)) :
 tvLx_at g l h s (PureQ dq):=by
 unfold tvLx_at
 refine path_wp (G:=given kp7 [(1,0,.call (vb true) none),(1,4,.call (vb (Sp.fewA l s)) none)] []) 5 [] ⟨(atC (cd Try.f7) [1,0,1]),[(1,AV.ptr 0 0 0 0),(17,vb !Sp.fewA l s)],[⟨[ag [AV.vec g 3 (List.map Bk.a l),AV.vec h 2 (List.map Sb.a s)]],2,0,false,false⟩],_,[],_⟩ (by kernel_rfl) (bc rfl b0) q0 (ce (@ev11 ) (ce (@ev15 (g) (h) (l) (s)) c0)) ?_
 rcases xm (¬(Sp.fewA l s = true)) with d2 | d2
 ·have H:=H.1 d2
  exact path_re (G:=given kp7 [(2,0,.call (vb true) none)] []) 1000 [true] (asm:=[(!Sp.fewA l s) == true]) (vb true) (by kernel_rfl) (bc (beq_t ((i_not (i_var _)).2 d2)) b0) q0 (ce (@ev11 ) c0) H
 ·have H:=H.2 d2
  obtain ⟨k3,H⟩:=H
  obtain ⟨k4,H⟩:=H
  obtain ⟨k5,H⟩:=H
  obtain ⟨k7,H⟩:=H
  have w8:(List.map Bk.a (Sp.exq l (Sp.own s)).1).length = (Sp.exq l (Sp.own s)).1.length:=List.length_map ..
  exact path_re (G:=given kp7 [(3,1,.call (ag [AV.vec false 3 (List.map Bk.a l),AV.vec false 2 (List.map Sb.a (Sp.own s))]) none),(3,2,.call (tu [vi (Sp.siz l (Sp.own s)).fst,vi (Sp.siz l (Sp.own s)).snd]) none),(4,1,.call (ag [AV.vec false 3 (List.map Bk.a l),AV.vec false 2 (List.map Sb.a (Sp.own s))]) none),(4,2,.call (tu [AV.vec false 3 (List.map Bk.a (Sp.exq l (Sp.own s)).1),vi (Sp.exq l (Sp.own s)).snd]) none),(5,1,.call (tu [vi (Sp.chk l s).fst,vi (Sp.chk l s).snd]) none),(6,1,.call (tu [AV.vec false 3 (List.map Bk.a (Sp.xqr l s).1),vi (Sp.xqr l s).snd]) none),(7,16,.call (vb (Sp.sameL (Sp.exq l (Sp.own s)).1 (Sp.xqr l s).1)) none)] []) 1000 [false] (asm:=[(!Sp.fewA l s) == false,true,true,true,true]) (calls:=[⟨true,false,17,[ag [AV.vec g 3 (List.map Bk.a l),AV.vec h 2 (List.map Sb.a s)]],[],ag [AV.vec false 3 (List.map Bk.a l),AV.vec false 2 (List.map Sb.a (Sp.own s))],[]⟩,⟨true,false,29,[ag [AV.vec false 3 (List.map Bk.a l),AV.vec false 2 (List.map Sb.a (Sp.own s))]],[],tu [vi (Sp.siz l (Sp.own s)).fst,vi (Sp.siz l (Sp.own s)).snd],[]⟩,⟨true,false,17,[ag [AV.vec g 3 (List.map Bk.a l),AV.vec h 2 (List.map Sb.a s)]],[],ag [AV.vec false 3 (List.map Bk.a l),AV.vec false 2 (List.map Sb.a (Sp.own s))],[]⟩,⟨true,false,16,[ag [AV.vec false 3 (List.map Bk.a l),AV.vec false 2 (List.map Sb.a (Sp.own s))]],[],tu [AV.vec false 3 (List.map Bk.a (Sp.exq l (Sp.own s)).1),vi (Sp.exq l (Sp.own s)).snd],[]⟩,⟨true,false,26,[ag [AV.vec g 3 (List.map Bk.a l),AV.vec h 2 (List.map Sb.a s)]],[],tu [vi (Sp.chk l s).fst,vi (Sp.chk l s).snd],[]⟩,⟨true,false,30,[ag [AV.vec g 3 (List.map Bk.a l),AV.vec h 2 (List.map Sb.a s)]],[],tu [AV.vec false 3 (List.map Bk.a (Sp.xqr l s).1),vi (Sp.xqr l s).snd],[]⟩,⟨(bif bif (Sp.siz l (Sp.own s)).snd == (Sp.chk l s).snd then (Sp.exq l (Sp.own s)).snd == (Sp.chk l s).snd else false then (Sp.siz l (Sp.own s)).fst == (Sp.chk l s).fst else false) == true && true && true,false,18,[AV.vec false 3 (List.map Bk.a (Sp.exq l (Sp.own s)).1),AV.vec false 3 (List.map Bk.a (Sp.xqr l s).1)],[],vb (Sp.sameL (Sp.exq l (Sp.own s)).1 (Sp.xqr l s).1),[]⟩]) (vb (bif bif bif bif (Sp.siz l (Sp.own s)).snd == (Sp.chk l s).snd then (Sp.exq l (Sp.own s)).snd == (Sp.chk l s).snd else false then (Sp.siz l (Sp.own s)).fst == (Sp.chk l s).fst else false then Sp.sameL (Sp.exq l (Sp.own s)).1 (Sp.xqr l s).1 else false then (↑(List.map Bk.a (Sp.exq l (Sp.own s)).1).length:Int) == (Sp.chk l s).fst else false)) (by kernel_rfl) (bc (beq_f (fun h => d2 ((i_not (i_var _)).1 h))) (bc rfl (bc rfl (bc rfl (bc rfl b0))))) q0 (cc (fun _ => (@ev17 (g) (h) (l) (s) k3)) (cc (fun _ => (@ev29 (false) (l) (false) (Sp.own s) k4)) (cc (fun _ => (@ev17 (g) (h) (l) (s) k3)) (cc (fun _ => (@ev16 (false) (l) (false) (Sp.own s) k4)) (cc (fun _ => (@ev26 (g) (h) (l) (s) k5)) (cc (fun _ => (@ev30 (g) (h) (l) (s) k5)) (cc (fun hc => ((@ev18 (false) (false) ((Sp.exq l (Sp.own s)).1) ((Sp.xqr l s).1) (k7 ((i_at (i_at (i_bt (i_band (i_band i_eq i_eq) i_eq)))).1 hc))):Ev M1 (Conf.pure 18 [AV.vec false 3 (List.map Bk.a (Sp.exq l (Sp.own s)).1),AV.vec false 3 (List.map Bk.a (Sp.xqr l s).1)]) (vb (Sp.sameL (Sp.exq l (Sp.own s)).1 (Sp.xqr l s).1)) [])) c0))))))) (by (try rw [w8]);all_goals exact H)
end Go.Av

namespace Go.Av
open Go.Proofs
theorem siz_bad {l:List Bk} {s:List Sb} (h:¬(Sp.siz l s).2 = 0):(Sp.siz l s).1 = 0:=by
 unfold Sp.siz at h ⊢
 split
 ·rfl
 ·rename_i k
  rw [if_neg k] at h
  split
  ·rfl
  ·rename_i k2
   rw [if_neg k2] at h;exact (h rfl).elim
theorem ev7 (l:List Bk) (s:List Sb):Ev M1 (.pure 7 [pgA false false l s]) (.bool true) []:=by
 refine call7 (tvLx false l false s _ ⟨fun _ => rfl,fun h => ?_⟩)
 have hf:=Classical.not_not.1 h
 obtain ⟨h1,h2,h3,h4⟩:=fewA_at hf
 have hN:Sp.okN l (Sp.own s):=okN_of h2 (own_mem (p:=fun _ b => Sp.okBs b /\ b.length <= 1000) fun x hx => ⟨(h4 x hx).1.1,by have:=(h4 x hx).1.2;omega⟩) (by rw [own_len];omega) (by omega)
 refine ⟨⟨by omega,by omega,fun x hx => by have:=(h4 x hx).1.2;omega⟩,hN,⟨h2,by omega,by omega,fun x hx => ⟨(h4 x hx).1.1,by have:=(h4 x hx).1.2;omega⟩⟩,fun _ => exq_okBs hN,?_⟩
 rw [(siz_own l s).1,(siz_own l s).2,chk_siz]
 have e1:(Sp.exq l s).2 = (Sp.siz l s).2:=by
  unfold Sp.exq
  split
  ·rename_i k;exact k.symm
  ·rfl
 have e2:Sp.sameL (Sp.exq l s).1 (Sp.xqr l s).1 = true:=by
  unfold Sp.sameL Sp.exq Sp.xqr
  refine decide_eq_true ?_
  split
  ·exact cl_keys _
  ·rfl
 have e3:((Sp.exq l s).1.length:Int) = (Sp.siz l s).1:=by
  by_cases k:(Sp.siz l s).2 = 0
  ·unfold Sp.exq
   rw [if_pos k,List.length_map]
   exact (siz_len k).1
  ·unfold Sp.exq
   rw [if_neg k,siz_bad k];rfl
 rw [e1,e2,e3]
 simp
end Go.Av
