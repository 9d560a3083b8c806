/- PART 6 of the texts of a claim, joined by a program: what each part shows stands at its head. -/
import Derived.Test.YtgnpmphnpnfapaaPart39a9fd1fc1

namespace Go.Av
open Go.Proofs
theorem exq_okBs {l:List Bk} {s:List Sb} (h:Sp.okN l s):Sp.okBs (Sp.exq l s).1:=by
 unfold Sp.exq
 split
 ·rename_i k
  refine ⟨by rw [List.length_map];have:=(siz_len k).2;omega,fun b hb => ?_⟩
  obtain ⟨c,hc,rfl⟩:=List.mem_map.1 hb
  exact h.2.2.2.2 c (XM_mem hc).2
 ·exact ⟨by simp,fun b hb => by cases hb⟩
theorem exq_ok {l:List Bk} {s:List Sb} (h:(Sp.exq l s).2 = 0):Sp.xe l s = 0 /\ (Sp.sumE (Sp.VN s) l).1 <= 8 /\ (Sp.XM l s).length <= 20000 /\ (Sp.exq l s).1 = (Sp.XM l s).map Sp.cl:=by
 have hs:(Sp.siz l s).2 = 0:=by
  unfold Sp.exq at h
  split at h
  ·assumption
  ·exact h
 obtain ⟨a1,a2,_,_⟩:=siz_ok hs
 refine ⟨a1,a2,(siz_len hs).2,?_⟩
 unfold Sp.exq;rw [if_pos hs]
theorem weak_mid {fx:Bool} {x z:AV} (hx:x.cells = [x] /\ x.plain = true) (hz:z.cells = [z] /\ z.plain = true):Weak (.vec fx 1 [x,.vnil,z]) (.vec fx 1 [x,.vec false 3 [],z]):=by
 refine .cells _ _ _ _ rfl (fun i a b ha hb => ?_) (fun y hy => ?_) fun y hy => ?_
 ·match i with
  | 0 => simp at ha hb;subst ha;subst hb;exact .refl _
  | 1 => simp at ha hb;subst ha;subst hb;exact .vnil 3
  | 2 => simp at ha hb;subst ha;subst hb;exact .refl _
  | i + 3 => simp at ha
 ·simp only [List.mem_cons,List.not_mem_nil,or_false] at hy
  rcases hy with rfl | rfl | rfl
  ·exact hx
  ·exact ⟨rfl,rfl⟩
  ·exact hz
 ·simp only [List.mem_cons,List.not_mem_nil,or_false] at hy
  rcases hy with rfl | rfl | rfl
  ·exact hx.1
  ·rfl
  ·exact hz.1
theorem idxF_is {α:Type} [Inhabited α] (p:α -> Bool):∀ (l:List α) (i:Int),0 <= i -> 0 <= Sp.idxF p l i -> p (l.getD (Sp.idxF p l i - i).toNat default) = true
 | [],i,_,h => by exact absurd h (by show ¬(0:Int) <= -1;omega)
 | b :: r,i,hi,h => by
  rw [Sp.idxF] at h ⊢
  split at h
  ·rename_i k
   rw [if_pos k,Int.sub_self];exact k
  ·rename_i k
   rw [if_neg k]
   have:=idxF_is p r (i + 1) (by omega) h
   rcases idxF_ge p r (i + 1) (by omega) with ⟨h1,_⟩ | ⟨h1,_⟩
   ·omega
   ·rw [show (Sp.idxF p r (i + 1) - i).toNat = (Sp.idxF p r (i + 1) - (i + 1)).toNat + 1 by omega,List.getD_cons_succ];exact this
theorem fnd_n {s:List Sb} {m:Int} (h:0 <= Sp.fnd s m):(Sp.fnd s m).toNat < s.length /\ (s.getD (Sp.fnd s m).toNat default).n = m:=by
 have hl:=fnd_len s m
 refine ⟨by omega,?_⟩
 unfold Sp.fnd Sp.idxP at h ⊢
 have:=idxF_is (Sp.isN m) s 0 (by omega) h
 rw [Int.sub_zero] at this
 exact of_decide_eq_true this
theorem bod_own {s:List Sb} {m:Int} (hr:Sp.repB s = false) (h:0 <= Sp.fnd s m):Sp.bod (Sp.own s) m = (s.getD (Sp.fnd s m).toNat default).bl:=by
 obtain ⟨h1,h2⟩:=fnd_n h
 have hm:(⟨(s.getD (Sp.fnd s m).toNat default).n,false,(s.getD (Sp.fnd s m).toNat default).bl⟩:Sb) ∈ Sp.own s:=by
  unfold Sp.own
  exact List.mem_map.2 ⟨_,getD_mem h1,rfl⟩
 have:=bod_at (by rw [own_rep];exact hr) hm
 simp only [h2] at this
 exact this
def inOK (l:List Bk) (s:List Sb):Prop:=Sp.fewA l s = true /\ (Sp.exq l (Sp.own s)).2 = 0
def Sp.inL (l:List Bk) (s:List Sb) (j:Nat):List Bk:=l.take j ++ (Sp.rep (Sp.cT (l.getD j default).ws).toNat (s.getD (Sp.fnd s (Sp.cN (l.getD j default).ws)).toNat default).bl ++ l.drop (j + 1))
theorem in_facts {l:List Bk} {s:List Sb} (h:inOK l s) {j:Nat} (hj:j < l.length) (k:Sp.cIs (l.getD j default).ws = true):0 <= Sp.fnd s (Sp.cN (l.getD j default).ws) /\ 0 < (l.drop (j + 1)).length /\ Sp.exq (Sp.inL l s j) (Sp.own s) = Sp.exq l (Sp.own s):=by
 obtain ⟨h1,h2⟩:=h
 obtain ⟨a1,a2,a3,a4⟩:=exq_ok h2
 obtain ⟨b1,b2,b3,_⟩:=xe_ok a1
 have hl:l = l.take j ++ l.getD j default :: l.drop (j + 1):=by
  rw [<- drop_getD hj,List.take_append_drop]
 have hf:0 <= Sp.fnd s (Sp.cN (l.getD j default).ws):=by
  have hb:=b3
  rw [blks_any,Bool.or_eq_false_iff] at hb
  have:=nums_of.1 (found_of hb.1 _ (getD_mem hj) k)
  refine nums_of.2 ?_
  have e:Sp.nums (Sp.own s) = Sp.nums s:=by unfold Sp.nums Sp.own;rw [List.map_map];rfl
  rw [<- e];exact this
 have hr:Sp.repB s = false:=by rw [<- own_rep];exact prpB_rep b1
 have hi:=inlined (A:=l.take j) (C:=l.drop (j + 1)) (x:=l.getD j default) (t:=Sp.own s) (by rw [<- hl];exact a1) (by rw [<- hl];exact a2) (by rw [<- hl];exact a3) k
 rw [bod_own hr hf,<- hl] at hi
 exact ⟨hf,hi.1,hi.2⟩
theorem in_okN {l:List Bk} {s:List Sb} (h:Sp.fewA l s = true) {B:List Bk} {j:Nat} (hB:B.length <= 200) (hb:∀ b ∈ B,∃ x ∈ s,b ∈ x.bl):Sp.okN (l.take j ++ (B ++ l.drop (j + 1))) (Sp.own s):=by
 obtain ⟨h1,h2,h3,h4⟩:=fewA_at h
 have hlen:(l.take j ++ (B ++ l.drop (j + 1))).length <= 1000:=by simp only [List.length_append,List.length_take,List.length_drop];omega
 refine okN_of ⟨by omega,fun b hbm => ?_⟩ (own_mem (p:=fun _ b => Sp.okBs b /\ b.length <= 1000) fun x hx => ⟨(h4 x hx).1.1,by have:=(h4 x hx).1.2;omega⟩) (by rw [own_len];omega) hlen
 rw [List.mem_append,List.mem_append] at hbm
 rcases hbm with hbm | hbm | hbm
 ·exact h2.2 b (List.mem_of_mem_take hbm)
 ·obtain ⟨x,hx,hxb⟩:=hb b hbm
  exact (h4 x hx).1.1.2 b hxb
 ·exact h2.2 b (List.mem_of_mem_drop hbm)
theorem tvL_end {g h:Bool} {l:List Bk} {s:List Sb} (hin:inOK l s) {j:Nat} (hj:j < l.length) (k:Sp.cIs (l.getD j default).ws = true) {B:List Bk} (hB:B = Sp.rep (Sp.cT (l.getD j default).ws).toNat (s.getD (Sp.fnd s (Sp.cN (l.getD j default).ws)).toNat default).bl) (hlB:B.length <= 200) :
  (B = [] -> tvLif_at g l h s (Sp.own s) (Sp.exq l (Sp.own s)).1 j (PureQ (.bool true))) /\ tvLig_at g l h s (Sp.own s) (Sp.exq l (Sp.own s)).1 B j (PureQ (.bool true)):=by
 obtain ⟨f1,f2,f3⟩:=in_facts hin hj k
 have hb:∀ b ∈ B,∃ x ∈ s,b ∈ x.bl:=fun b hb => by
  rw [hB] at hb
  exact ⟨_,getD_mem (fnd_n f1).1,rep_mem hb⟩
 have hN:=in_okN (j:=j) hin.1 hlB hb
 have hl:=(fewA_at hin.1).2.2.1
 have hin':Sp.inL l s j = l.take j ++ (B ++ l.drop (j + 1)):=by unfold Sp.inL;rw [hB]
 rw [hin'] at f3
 have hW:=exq_okBs hN
 have e1:((j:Int) + 1).toNat = j + 1:=by omega
 have fin:AV.bool (bif (Sp.exq (l.take j ++ (B ++ l.drop (j + 1))) (Sp.own s)).2 == 0 then Sp.sameL (Sp.exq (l.take j ++ (B ++ l.drop (j + 1))) (Sp.own s)).1 (Sp.exq l (Sp.own s)).1 else false) = .bool true:=by
  rw [f3,hin.2]
  have:Sp.sameL (Sp.exq l (Sp.own s)).1 (Sp.exq l (Sp.own s)).1 = true:=decide_eq_true rfl
  rw [this];rfl
 have hlen:(l.take j).length + B.length + (l.drop (j + 1)).length <= 1000000:=by simp only [List.length_take,List.length_drop];omega
 have hc:=concat3 true (g && false) false (g && true) (l.take j) B (l.drop (j + 1)) f2 hlen
 refine ⟨fun h0 => ?_,?_⟩
 ·refine tvLif _ _ _ _ _ _ _ _ ⟨by omega,l.take j ++ (B ++ l.drop (j + 1)),?_,by omega,by omega,by omega,by omega,by omega,hN,fun _ => hW,fin⟩
  rw [List.drop_zero,List.take_length,Int.toNat_natCast,e1]
  refine ev_weak hm1 hc rfl rfl fun i x y hx hy => ?_
  match i with
  | 0 =>
   have hx:=Option.some.inj hx
   have hy:=Option.some.inj hy
   subst hx;subst hy;subst h0
   exact weak_mid (fx:=true) (x:=bsA (g && false) (l.take j)) (z:=bsA (g && true) (l.drop (j + 1))) ⟨rfl,rfl⟩ ⟨rfl,rfl⟩
  | i + 1 => simp at hx
 ·refine tvLig _ _ _ _ _ _ _ _ _ ⟨by omega,l.take j ++ (B ++ l.drop (j + 1)),?_,by omega,by omega,by omega,by omega,by omega,hN,fun _ => hW,fin⟩
  rw [List.drop_zero,List.take_length,Int.toNat_natCast,e1]
  exact hc
theorem tvL_body {g h:Bool} {l:List Bk} {s:List Sb} {fb:Bool} (hin:inOK l s) {j:Nat} (hj:j < l.length) (k:Sp.cIs (l.getD j default).ws = true) {b:List Bk} (hb:b = (s.getD (Sp.fnd s (Sp.cN (l.getD j default).ws)).toNat default).bl) (h2:Sp.cT (l.getD j default).ws * b.length <= 200) :
  (b = [] -> tvLid_at g l h s (Sp.own s) (Sp.exq l (Sp.own s)).1 fb j (Sp.cT (l.getD j default).ws) 0 (PureQ (.bool true))) /\ ∀ y b',b = y :: b' -> tvLih_at g l h s (Sp.own s) (Sp.exq l (Sp.own s)).1 fb y b' j (Sp.cT (l.getD j default).ws) 0 (PureQ (.bool true)):=by
 have hct:=(cIs_at k).1
 have htc:((Sp.cT (l.getD j default).ws).toNat:Int) = Sp.cT (l.getD j default).ws:=Int.toNat_of_nonneg (by omega)
 have hrl:(Sp.rep (Sp.cT (l.getD j default).ws).toNat b).length <= 200:=by
  rw [rep_len]
  have:(((Sp.cT (l.getD j default).ws).toNat * b.length:Nat):Int) = Sp.cT (l.getD j default).ws * b.length:=by rw [Int.natCast_mul,htc]
  omega
 obtain ⟨e1,e2⟩:=tvL_end (g:=g) (h:=h) hin hj k (B:=Sp.rep (Sp.cT (l.getD j default).ws).toNat b) (by rw [hb]) hrl
 rw [rep_len] at hrl
 rw [<- htc]
 generalize hT:(Sp.cT (l.getD j default).ws).toNat = t at *
 refine ⟨fun h0 => ?_,fun y b' h0 => ?_⟩
 ·have e1:=e1 (by rw [h0,rep_nil])
  have lp:∀ (c i:Nat),i + c = t -> tvLid_at g l h s (Sp.own s) (Sp.exq l (Sp.own s)).1 fb j t i (PureQ (.bool true)):=by
   intro c
   induction c with
   | zero => intro i hi;exact tvLid _ _ _ _ _ _ _ _ _ _ _ ⟨fun z => by omega,fun _ => e1⟩
   | succ c ih => intro i hi;exact tvLid _ _ _ _ _ _ _ _ _ _ _ ⟨fun _ => ⟨by omega,ih (i + 1) (by omega)⟩,fun z => by omega⟩
  exact lp t 0 (by omega)
 ·have lp:∀ (c i:Nat) (q:List Bk) (v:Nat),i + c = t -> q ++ Sp.rep c b = Sp.rep t b -> tvLie_at g l h s (Sp.own s) (Sp.exq l (Sp.own s)).1 fb b q v j t i (PureQ (.bool true)):=by
   intro c
   induction c with
   | zero =>
    intro i q v hi hq
    rw [rep_zero,List.append_nil] at hq
    rw [<- hq] at e2
    refine tvLie _ _ _ _ _ _ _ _ _ _ _ _ _ _ ⟨fun z => by omega,fun _ => ?_⟩
    exact wp_melt hm1 [2] (env':=[(2,.ptr 0 0 0 0),(5,bsA false (Sp.exq l (Sp.own s)).1),(14,.int .i64 j),(20,.ptr 1 0 0 0),(21,bsA false q)]) (L':=[⟨[.agg [bsA g l,.vec h 2 (s.map Sb.a)]],2,0,false,true⟩,⟨[.agg [bsA false l,.vec false 2 ((Sp.own s).map Sb.a)]],2,0,false,true⟩,⟨q.map Bk.a,3,v,true,true⟩]) (bs:=[v == v]) (by kernel_rfl) (by kernel_rfl) (by kernel_rfl) (allB_cons (by simp) allB_nil) (wp_narrow [0,1] (by kernel_rfl) e2)
   | succ c ih =>
    intro i q v hi hq
    rw [rep_succ,<- List.append_assoc] at hq
    have hl:=congrArg List.length hq
    rw [List.length_append,List.length_append,rep_len,rep_len] at hl
    exact tvLie _ _ _ _ _ _ _ _ _ _ _ _ _ _ ⟨fun _ => ⟨by omega,by omega,ih (i + 1) _ (v + 1) (by omega) hq⟩,fun z => by omega⟩
  have hbl:b.length = b'.length + 1:=by rw [h0];rfl
  obtain ⟨t',ht'⟩:∃ t',t = t' + 1:=⟨t - 1,by omega⟩
  refine tvLih _ _ _ _ _ _ _ _ _ _ _ _ _ ⟨fun _ => ⟨?_,by omega,?_⟩,fun z => by omega⟩
  ·rw [ht',Nat.succ_mul] at hrl;omega
  ·have:=lp t' 1 b 0 (by omega) (by rw [ht',rep_succ])
   rw [h0] at this
   exact this
theorem tvLic_run {g h:Bool} {l:List Bk} {s:List Sb} {w:Int} {q:List Int} {v:Nat} (hin:inOK l s) (hw:0 <= w /\ w <= 255) (hq:∀ y ∈ q,∃ j:Nat,y = j /\ j < l.length /\ Sp.cIs (l.getD j default).ws = true) (hq0:q ≠ []) (hql:q.length <= 1000):tvLic_at g l h s w (Sp.exq l (Sp.own s)).1 q v (PureQ (.bool true)):=by
 obtain ⟨h1,h2,h3,h4⟩:=fewA_at hin.1
 have hpos:0 < q.length:=by
  cases q with
  | nil => exact (hq0 rfl).elim
  | cons _ _ => simp
 have m1:=Int.tmod_nonneg (q.length:Int) hw.1
 have m2:=Int.tmod_lt_of_pos w (show (0:Int) < q.length by omega)
 have hlt:(w.tmod (q.length:Int)).toNat < q.length:=by omega
 obtain ⟨j,hj,hjl,k⟩:=hq _ (getD_mem hlt)
 refine tvLic _ _ _ _ _ _ _ _ _ ?_
 rw [hj,Int.toNat_natCast]
 obtain ⟨f1,_,_⟩:=in_facts hin hjl k
 obtain ⟨f2,f3⟩:=fnd_n f1
 have hct:=(cIs_at k).1
 have hx:=h4 _ (getD_mem f2)
 have hb1:(s.getD (Sp.fnd s (Sp.cN (l.getD j default).ws)).toNat default).bl.length <= 40:=hx.1.2
 have hmul:0 <= Sp.cT (l.getD j default).ws * ((s.getD (Sp.fnd s (Sp.cN (l.getD j default).ws)).toNat default).bl.length:Int):=Int.mul_nonneg (by omega) (by omega)
 have hmul2:Sp.cT (l.getD j default).ws * ((s.getD (Sp.fnd s (Sp.cN (l.getD j default).ws)).toNat default).bl.length:Int) <= 9999 * 40:=Int.mul_le_mul (by omega) (by omega) (by omega) (by omega)
 refine ⟨by omega,by omega,m1,hlt,h2.2 _ (getD_mem hjl),by omega,hjl,by omega,f1,f2,⟨?_,?_⟩,fun _ => rfl,fun z => ⟨⟨by omega,by omega,fun x hx => by have:=(h4 x hx).1.2;omega⟩,?_⟩⟩
 ·exact Int.le_trans (by omega) hmul
 ·exact Int.le_trans hmul2 (by omega)
 ·have z':Sp.cT (l.getD j default).ws * ((s.getD (Sp.fnd s (Sp.cN (l.getD j default).ws)).toNat default).bl.length:Int) <= 200:=Int.not_lt.1 z
  obtain ⟨b1,b2⟩:=tvL_body (g:=g) (h:=h) (fb:=(s.getD (Sp.fnd s (Sp.cN (l.getD j default).ws)).toNat default).f) hin hjl k rfl z'
  generalize hbody:(s.getD (Sp.fnd s (Sp.cN (l.getD j default).ws)).toNat default) = x at *
  obtain ⟨xn,xf,xb⟩:=x
  cases xb with
  | nil => exact b1 rfl
  | cons y b' => exact b2 y b' rfl
end Go.Av

namespace Go.Av
open Go.Proofs
theorem tvLib_loop {g h:Bool} {l:List Bk} {s:List Sb} {w:Int} (hin:inOK l s) (hw:0 <= w /\ w <= 255):∀ (c i:Nat) (q:List Int) (v:Nat),i + c = l.length -> q ≠ [] -> q.length <= i -> (∀ y ∈ q,∃ j:Nat,y = j /\ j < l.length /\ Sp.cIs (l.getD j default).ws = true) -> tvLib_at g l h s w (Sp.exq l (Sp.own s)).1 q v l.length i (PureQ (.bool true)):=by
 obtain ⟨h1,h2,h3,h4⟩:=fewA_at hin.1
 intro c
 induction c with
 | zero =>
  intro i q v hi hq0 hql hq
  refine tvLib _ _ _ _ _ _ _ _ _ _ _ ⟨fun z => by omega,fun _ => ⟨fun z => ?_,fun _ => tvLic_run hin hw hq hq0 (by omega)⟩⟩
  exact (hq0 (List.eq_nil_of_length_eq_zero (by omega))).elim
 | succ c ih =>
  intro i q v hi hq0 hql hq
  have hlt:i < l.length:=by omega
  refine tvLib _ _ _ _ _ _ _ _ _ _ _ ⟨fun _ => ?_,fun z => by omega⟩
  rw [Int.toNat_natCast]
  refine ⟨by omega,hlt,h2.2 _ (getD_mem hlt),fun k => ⟨by omega,by omega,ih (i + 1) _ (v + 1) (by omega) (by simp) (by simp;omega) fun y hy => ?_⟩,fun k => ⟨by omega,ih (i + 1) q v (by omega) hq0 (by omega) hq⟩⟩
  rw [List.mem_append,List.mem_singleton] at hy
  rcases hy with hy | rfl
  ·exact hq y hy
  ·exact ⟨i,rfl,hlt,k⟩
theorem ev4 (l:List Bk) (s:List Sb) (w:Int) (hw:0 <= w /\ w <= 255):Ev M1 (.pure 4 [pgA false false l s,.int .u8 w]) (.bool true) []:=by
 refine call4 (tvLi false l false s w _ ⟨fun _ => rfl,fun h => ?_⟩)
 have hf:=Classical.not_not.1 h
 obtain ⟨h1,h2,h3,h4⟩:=fewA_at hf
 have hN:Sp.okN l (Sp.own s):=okN_of h2 (own_mem (p:=fun _ b => Sp.okBs b /\ b.length <= 1000) fun x hx => ⟨(h4 x hx).1.1,by have:=(h4 x hx).1.2;omega⟩) (by rw [own_len];omega) (by omega)
 refine ⟨⟨by omega,by omega,fun x hx => by have:=(h4 x hx).1.2;omega⟩,hN,fun k => ?_,fun k => ?_⟩
 ·have:((Sp.exq l (Sp.own s)).2 != 0) = true:=by simpa using k
  rw [this]
 ·have hin:inOK l s:=⟨hf,Classical.not_not.1 k⟩
  have lp:∀ (c i:Nat),i + c = l.length -> (∀ b ∈ l.take i,Sp.cIs b.ws = false) -> tvLia_at false l false s w (Sp.exq l (Sp.own s)).1 l.length i (PureQ (.bool true)):=by
   intro c
   induction c with
   | zero =>
    intro i hi hno
    rw [List.take_of_length_le (by omega)] at hno
    refine tvLia _ _ _ _ _ _ _ _ _ ⟨fun z => by omega,fun _ => ⟨exq_okBs hN,?_⟩⟩
    obtain ⟨_,_,_,e⟩:=exq_ok hin.2
    rw [e]
    have:Sp.XM l (Sp.own s) = l:=xpd_nocall hno
    rw [this]
    congr 1
    unfold Sp.sameL
    rw [cl_keys];exact decide_eq_true rfl
   | succ c ih =>
    intro i hi hno
    have hlt:i < l.length:=by omega
    refine tvLia _ _ _ _ _ _ _ _ _ ⟨fun _ => ?_,fun z => by omega⟩
    rw [Int.toNat_natCast]
    refine ⟨by omega,hlt,h2.2 _ (getD_mem hlt),fun k => ⟨by omega,tvLib_loop hin hw c (i + 1) [(i:Int)] 0 (by omega) (by simp) (by simp) fun y hy => ?_⟩,fun k => ⟨by omega,ih (i + 1) (by omega) fun b hb => ?_⟩⟩
    ·rw [List.mem_singleton] at hy;subst hy
     exact ⟨i,rfl,hlt,k⟩
    ·rw [List.take_succ_eq_append_getElem hlt,List.mem_append,List.mem_singleton] at hb
     rcases hb with hb | rfl
     ·exact hno b hb
     ·rw [List.getD_eq_getElem?_getD,List.getElem?_eq_getElem hlt] at k
      exact Bool.eq_false_iff.2 k
  exact lp l.length 0 (by omega) fun b hb => by simp at hb
end Go.Av
