/- PART 4 of the texts of a claim, joined by a program: what each part shows stands at its head. -/
import Derived.Test.YtboepobkdibhcaaPartf1fc1f4873

namespace Go.Av
mutual
theorem deepA_ren {L K:Heap} {f:Nat -> Nat} (hb:∀ (r:Nat) row,L[r]? = some row -> K[f r]? = some (Zad f row)):∀ (a:AV) {d:AV},deepA L a = some d -> deepA K (renA f a) = some d /\ deepV K (renA f a) = deepV L a
 | .any,_,h => by simp [deepA,pureA] at h
 | .bool b,_,h => ⟨h,rfl⟩
 | .int k n,_,h => ⟨h,rfl⟩
 | .str s,_,h => ⟨h,rfl⟩
 | .flt s,_,h => ⟨h,rfl⟩
 | .nilp,_,h => ⟨h,rfl⟩
 | .nilf,_,h => ⟨h,rfl⟩
 | .nilm,_,h => ⟨h,rfl⟩
 | .vnil,_,h => ⟨h,rfl⟩
 | .eptr ..,_,h => ⟨h,rfl⟩
 | .vec ..,_,h => ⟨h,rfl⟩
 | .mapr r,_,h => pureA_ren hb (.mapr r) h
 | .ref r v lo len,_,h => pureA_ren hb (.ref r v lo len) h
 | .ptr r v i j,_,h => pureA_ren hb (.ptr r v i j) h
 | .func fn a b,_,h => pureA_ren hb (.func fn a b) h
 | .row r v,_,h => by
  cases hr:L[r]? with
  | none => simp [deepA,hr] at h
  | some row =>
   have h2:=hb r row hr
   obtain ⟨s1,s2,_,s4,_⟩:=Zay f row
   cases hc:row.clean with
   | true =>
    have e:Zad f row = row:=by simp [Zad,hc]
    simp only [deepA,hr,hc,cond_true] at h
    exact ⟨by simp only [renA,deepA,h2,e,hc,cond_true];exact h,by simp only [renA,deepV,Zbd,h2,hr,e,hc,cond_true]⟩
   | false =>
    have e:Zad f row = { row with elems:=renL f row.elems }:=by simp [Zad,hc]
    simp only [deepA,hr,hc,cond_false] at h
    cases hp:pureL L row.elems with
    | none => simp [hp] at h
    | some ys =>
     obtain ⟨p1,p2⟩:=pureL_ren hb row.elems hp
     rw [hp] at h
     exact ⟨by simp only [renA,deepA,h2,e,hc,cond_false,p1];exact h,by simp only [renA,deepV,Zbd,h2,hr,e,hc,cond_false,p2]⟩
 | .agg cs,_,h => by
  cases hr:deepL L cs with
  | none => simp [deepA,hr] at h
  | some ds =>
   obtain ⟨h1,h2⟩:=deepL_ren hb cs hr
   exact ⟨by simpa only [renA,deepA,h1,hr] using h,by simp only [renA,deepV,h2]⟩
 | .tup cs,_,h => by
  cases hr:deepL L cs with
  | none => simp [deepA,hr] at h
  | some ds =>
   obtain ⟨h1,h2⟩:=deepL_ren hb cs hr
   exact ⟨by simpa only [renA,deepA,h1,hr] using h,by simp only [renA,deepV,h2]⟩
theorem deepL_ren {L K:Heap} {f:Nat -> Nat} (hb:∀ (r:Nat) row,L[r]? = some row -> K[f r]? = some (Zad f row)):∀ (l:List AV) {ds:List AV},deepL L l = some ds -> deepL K (renL f l) = some ds /\ deepVL K (renL f l) = deepVL L l
 | [],_,h => ⟨h,rfl⟩
 | c :: l,_,h => by
  cases hr:deepA L c with
  | none => simp [deepL,hr] at h
  | some d =>
   cases hr2:deepL L l with
   | none => simp [deepL,hr,hr2] at h
   | some ds2 =>
    obtain ⟨h1,h2⟩:=deepA_ren hb c hr
    obtain ⟨h3,h4⟩:=deepL_ren hb l hr2
    exact ⟨by simpa only [renL,deepL,h1,h3,hr,hr2] using h,by simp only [renL,deepVL,h2,h4]⟩
end
theorem wp_narrowD {M:Mach} {fi:Fi} {k:List Item} {env env':Vars} {L Lc:Heap} {d:AV} (rs:List Nat) (hn:Za4 L rs env = some (env',Lc)) (h:Wp M (.run fi k env' Lc) (ZaM d)):Wp M (.run fi k env L) (ZaM d):=by
 refine .narrow rs env' Lc hn (.mono h fun v L1 ⟨d0,hq1,hq2,hq3⟩ => ?_)
 unfold Za4 at hn
 split at hn
 ·rename_i rows hrows
  split at hn
  ·rename_i hc
   simp only [Bool.and_eq_true] at hc
   obtain ⟨p1,p2⟩:=deepA_ren (back_at (L1:=L1) hrows ((ZaU rs).1 hc.1)) v hq1
   exact ⟨d0,p1,by rw [p2];exact hq2,hq3⟩
  ·simp at hn
 ·simp at hn
def swp (p q r:Nat):Nat:=if r=p then q else if r=q then p else r
theorem ZbJ (p q r:Nat):swp p q (swp p q r)=r:=by unfold swp;split <;> (try split) <;> (try split) <;> omega
theorem ZcI {p q n r:Nat} (hp:p<n) (hq:q<n) (h:r<n):swp p q r<n:=by unfold swp;split <;> (try split) <;> omega
theorem Zb2 {p q r:Nat} (h1:r ≠ p) (h2:r ≠ q):swp p q r=r:=by unfold swp;rw [if_neg h1,if_neg h2]
theorem swp_q (p q:Nat):swp p q q=p:=by unfold swp;split <;> simp_all
theorem Zeb {p q a b:Nat} (h:swp p q a=swp p q b):a=b:=by have:=congrArg (swp p q) h;rwa [ZbJ,ZbJ] at this
def swH (p q:Nat) (L:Heap):Heap:=(List.range L.length).map fun j=>Zad (swp p q) (L.getD (swp p q j) ⟨[],0,0,false,true⟩)
theorem ZcN (p q:Nat) (L:Heap):(swH p q L).length=L.length:=by simp [swH]
theorem ZcO {p q:Nat} {L:Heap} (hp:p < L.length) (hq:q < L.length) {r:Nat} {row:Row} (h:L[r]? = some row):(swH p q L)[swp p q r]? = some (Zad (swp p q) row):=by
 have hr:=(List.getElem?_eq_some_iff.1 h).1
 have:=ZcI hp hq hr
 unfold swH
 rw [List.getElem?_map,List.getElem?_range this]
 simp only [Option.map_some,ZbJ]
 rw [List.getD_eq_getElem?_getD,h];rfl
theorem Zde {L:Heap}:∀ (rs:List Nat),(∀ r ∈ rs,r < L.length) -> Zav L rs = some (rs.map fun r => L.getD r ⟨[],0,0,false,true⟩)
 | [],_ => rfl
 | r :: rs,h => by
  have h1:=h r (List.mem_cons_self ..)
  simp only [Zav,List.getElem?_eq_getElem h1,Zde rs fun q hq => h q (List.mem_cons_of_mem _ hq),List.map_cons,List.getD_eq_getElem?_getD,Option.getD_some]
theorem Zda {f g:Nat -> Nat} {row:Row} (h:∀ r ∈ Zag row,f r = g r):Zad f row = Zad g row:=by
 unfold Zad
 cases hc:row.clean with
 | true => rfl
 | false =>
  simp only [cond_false]
  rw [renL_ext row.elems fun r hr => h r (by unfold Zag;rw [hc];exact hr)]
theorem wp_swap {M:Mach} {fi:Fi} {k:List Item} {env:Vars} {L:Heap} {d:AV} {p q:Nat} (hp:p < L.length) (hq:q < L.length) (henv:∀ r ∈ rowsL (env.map (·.2)),r < L.length) (href:∀ row ∈ L,∀ r ∈ Zag row,r < L.length)
  (h:Wp M (.run fi k (renV (swp p q) env) (swH p q L)) (ZaM d)):Wp M (.run fi k env L) (ZaM d):=by
 have hmem:∀ r,r ∈ (List.range L.length).map (swp p q) ↔ r < L.length:=by
  intro r
  rw [List.mem_map]
  constructor
  ·rintro ⟨a,ha,rfl⟩;exact ZcI hp hq (List.mem_range.1 ha)
  ·intro hr;exact ⟨swp p q r,List.mem_range.2 (ZcI hp hq hr),ZbJ p q r⟩
 have hnd:((List.range L.length).map (swp p q)).Nodup:=by
  refine List.pairwise_map.2 (List.Pairwise.imp_of_mem ?_ List.nodup_range)
  intro a b _ _ hab e;exact hab (Zeb e)
 refine wp_narrowD ((List.range L.length).map (swp p q)) (env':=renV (swp p q) env) (Lc:=swH p q L) ?_ h
 unfold Za4
 rw [Zde _ fun r hr => (hmem r).1 hr]
 have hpos:∀ r,r < L.length -> Zah ((List.range L.length).map (swp p q)) r = swp p q r:=fun r hr =>
  ZbV hnd (by rw [List.getElem?_map,List.getElem?_range (ZcI hp hq hr)];simp [ZbJ])
 have hrow:∀ r,r < L.length -> ∀ s ∈ Zag (L.getD r ⟨[],0,0,false,true⟩),s < L.length:=fun r hr s hs =>
  href _ (by rw [List.getD_eq_getElem?_getD,List.getElem?_eq_getElem hr];exact List.getElem_mem hr) s hs
 simp only
 rw [if_pos]
 ·congr 1
  refine Prod.ext ?_ ?_
  ·show renV _ env = renV _ env
   unfold renV
   refine List.map_congr_left fun e he => ?_
   have:∀ r ∈ rowsA e.2,Zah ((List.range L.length).map (swp p q)) r = swp p q r:=fun r hr => hpos r (henv r (by
    have:e.2 ∈ env.map (·.2):=List.mem_map.2 ⟨e,he,rfl⟩
    have gen:∀ (l:List AV) (x:AV),x ∈ l -> r ∈ rowsA x -> r ∈ rowsL l:=by
     intro l
     induction l with
     | nil => intro x hx;cases hx
     | cons y l ih =>
      intro x hx hr
      simp only [rowsL,List.mem_append]
      rcases List.mem_cons.1 hx with rfl | hx
      ·exact .inl hr
      ·exact .inr (ih x hx hr)
    exact gen _ _ this hr))
   rw [renA_ext e.2 this]
  ·show List.map _ _ = swH p q L
   unfold swH
   rw [List.map_map,List.map_map]
   refine List.map_congr_left fun j hj => ?_
   have hj:=List.mem_range.1 hj
   exact Zda fun s hs => hpos s (hrow _ (ZcI hp hq hj) s hs)
 ·simp only [Bool.and_eq_true,List.all_eq_true,List.contains_iff_mem]
  refine ⟨(ZaU _).2 hnd,fun r hr => (hmem r).2 (henv r hr),fun row hr s hs => ?_⟩
  obtain ⟨r,hr1,rfl⟩:=List.mem_map.1 hr
  exact (hmem s).2 (hrow r ((hmem r).1 hr1) s hs)
end Go.Av

namespace Go.Av
structure Mx (U:Nat) (os:List Nat) (L:Heap) (C:Nat -> List AV) (cv:Nat -> Nat) (M:Nat -> List (Option Row)) (ρ:Nat -> Nat -> Nat):Prop where
 len:U <= L.length
 osU:∀ u ∈ os,u < U
 out:∀ u ∈ os,L[u]? = some ⟨C u,1,cv u,false,false⟩ /\ (C u).length = (M u).length
 fix:∀ (r:Nat) (row:Row),r < U -> r ∉ os -> L[r]? = some row -> ∀ s ∈ Zag row,s < U
 cln:∀ (r:Nat) (row:Row),U <= r -> L[r]? = some row -> Zag row = []
 hit:∀ u ∈ os,∀ (j:Nat) (row:Row),(M u)[j]? = some (some row) -> (C u)[j]? = some (.row (ρ u j) row.ver) /\ L[ρ u j]? = some row /\ U <= ρ u j
 nil:∀ u ∈ os,∀ (j:Nat),(M u)[j]? = some none -> (C u)[j]? = some AV.vnil
 inj:∀ u ∈ os,∀ w ∈ os,∀ (i j:Nat) (r s:Row),(M u)[i]? = some (some r) -> (M w)[j]? = some (some s) -> ρ u i = ρ w j -> u = w /\ i = j
 hcl:∀ u ∈ os,∀ (j:Nat) (row:Row),(M u)[j]? = some (some row) -> row.clean = true
theorem ZcM {p q U r:Nat} (hp:U<=p) (hq:U<=q) (h:r<U):swp p q r=r:=Zb2 (by omega) (by omega)
theorem ren_fix {p q U:Nat} {row:Row} (hp:U <= p) (hq:U <= q) (h:∀ s ∈ Zag row,s < U):Zad (swp p q) row = row:=by
 have:=Zda (f:=swp p q) (g:=fun r => r) fun r hr => ZcM hp hq (h r hr)
 rw [this]
 unfold Zad
 cases hc:row.clean with
 | true => rfl
 | false => simp only [cond_false];rw [renL_id,<- hc]
theorem Zee {row:Row} (h:row.clean=true):Zag row=[]:=by unfold Zag;rw [h];rfl
theorem ren_none {f:Nat -> Nat} {row:Row} (h:Zag row = []):Zad f row = row:=by
 have:=Zda (f:=f) (g:=fun r => r) (row:=row) fun r hr => by rw [h] at hr;cases hr
 rw [this]
 unfold Zad
 cases hc:row.clean with
 | true => rfl
 | false => simp only [cond_false];rw [renL_id,<- hc]
theorem swH_get {p q:Nat} {L:Heap} (hp:p < L.length) (hq:q < L.length) {r:Nat} {row:Row} (h:(swH p q L)[r]? = some row):∃ row0,L[swp p q r]? = some row0 /\ row = Zad (swp p q) row0:=by
 have hr:r < L.length:=by have:=(List.getElem?_eq_some_iff.1 h).1;rwa [ZcN] at this
 have hs:=ZcI (p:=p) (q:=q) hp hq hr
 have:=ZcO hp hq (List.getElem?_eq_getElem hs)
 rw [ZbJ,h] at this
 exact ⟨_,List.getElem?_eq_getElem hs,Option.some.inj this⟩
theorem Mx.swap {U:Nat} {os:List Nat} {L:Heap} {C:Nat -> List AV} {cv:Nat -> Nat} {M:Nat -> List (Option Row)} {ρ:Nat -> Nat -> Nat} (h:Mx U os L C cv M ρ) {p q:Nat} (hp:U <= p) (hq:U <= q) (hpl:p < L.length) (hql:q < L.length) :
  Mx U os (swH p q L) (fun u => (C u).map (renA (swp p q))) cv M (fun u j => swp p q (ρ u j)):=by
 have hge:∀ r,U <= r -> U <= swp p q r:=fun r hr => by unfold swp;split <;> (try split) <;> omega
 have hlt:∀ r,r < U -> swp p q r = r:=fun r hr => ZcM hp hq hr
 refine ⟨by rw [ZcN];exact h.len,h.osU,fun u hu => ?_,fun r row hr hno hrow => ?_,fun r row hr hrow => ?_,fun u hu j row hm => ?_,fun u hu j hm => ?_,fun u hu w hw i j r s h1 h2 e => h.inj u hu w hw i j r s h1 h2 (Zeb e),h.hcl⟩
 ·obtain ⟨o1,o2⟩:=h.out u hu
  have:=ZcO hpl hql o1
  rw [hlt u (h.osU u hu)] at this
  refine ⟨?_,by rw [List.length_map];exact o2⟩
  rw [this]
  unfold Zad
  simp only [cond_false]
  rw [Za3]
 ·obtain ⟨row0,e1,rfl⟩:=swH_get hpl hql hrow
  rw [hlt r hr] at e1
  rw [ren_fix hp hq (h.fix r row0 hr hno e1)]
  exact h.fix r row0 hr hno e1
 ·obtain ⟨row0,e1,rfl⟩:=swH_get hpl hql hrow
  have hc:=h.cln _ row0 (hge r hr) e1
  rw [ren_none hc];exact hc
 ·obtain ⟨e1,e2,e3⟩:=h.hit u hu j row hm
  refine ⟨by rw [List.getElem?_map,e1];rfl,?_,hge _ e3⟩
  have:=ZcO hpl hql e2
  rw [ren_none (h.cln _ row e3 e2)] at this
  exact this
 ·rw [List.getElem?_map,h.nil u hu j hm];rfl
theorem Mx.upd {U:Nat} {os:List Nat} {L:Heap} {C:Nat -> List AV} {cv:Nat -> Nat} {M:Nat -> List (Option Row)} {ρ:Nat -> Nat -> Nat} (h:Mx U os L C cv M ρ) {u a:Nat} (hu:u ∈ os) {ra rb:Row} (ha:(M u)[a]? = some (some ra)) (hc:rb.clean = true) (hv:rb.ver = ra.ver) :
  Mx U os (L.set (ρ u a) rb) C cv (fun w => if w = u then (M u).set a (some rb) else M w) ρ:=by
 obtain ⟨e1,e2,e3⟩:=h.hit u hu a ra ha
 have hal:=(List.getElem?_eq_some_iff.1 ha).1
 have hset:∀ (r:Nat),r ≠ ρ u a -> (L.set (ρ u a) rb)[r]? = L[r]?:=fun r hr => by rw [List.getElem?_set,if_neg fun e => hr e.symm]
 have hself:(L.set (ρ u a) rb)[ρ u a]? = some rb:=by rw [List.getElem?_set,if_pos rfl,if_pos (List.getElem?_eq_some_iff.1 e2).1]
 have hM:∀ (w j:Nat) x,(if w = u then (M u).set a (some rb) else M w)[j]? = some x -> (w = u /\ j = a /\ x = some rb) \/ (¬(w = u /\ j = a) /\ (M w)[j]? = some x):=fun w j x hx => by
  by_cases hw:w = u
  ·rw [if_pos hw,List.getElem?_set] at hx
   by_cases hj:a = j
   ·rw [if_pos hj,if_pos hal] at hx
    exact .inl ⟨hw,hj.symm,(Option.some.inj hx).symm⟩
   ·rw [if_neg hj] at hx
    exact .inr ⟨fun e => hj e.2.symm,by rw [hw];exact hx⟩
  ·rw [if_neg hw] at hx
   exact .inr ⟨fun e => hw e.1,hx⟩
 refine ⟨by rw [List.length_set];exact h.len,h.osU,fun w hw => ?_,fun r row hr hno hrow => ?_,fun r row hr hrow => ?_,fun w hw j row hm => ?_,fun w hw j hm => ?_,fun w hw x hx i j r s h1 h2 e => ?_,fun w hw j row hm => ?_⟩
 ·have:=h.osU w hw
  rw [hset w (by omega)]
  refine ⟨(h.out w hw).1,?_⟩
  split
  ·rename_i e;subst e;rw [List.length_set];exact (h.out w hw).2
  ·exact (h.out w hw).2
 ·rw [hset r (by omega)] at hrow;exact h.fix r row hr hno hrow
 ·by_cases e:r = ρ u a
  ·subst e;rw [hself] at hrow;rw [<- Option.some.inj hrow];exact Zee hc
  ·rw [hset r e] at hrow;exact h.cln r row hr hrow
 ·rcases hM w j _ hm with ⟨rfl,rfl,hx⟩ | ⟨hne,hx⟩
  ·have hx:=Option.some.inj hx
   subst hx
   exact ⟨by rw [hv];exact e1,hself,e3⟩
  ·obtain ⟨d1,d2,d3⟩:=h.hit w hw j row hx
   refine ⟨d1,?_,d3⟩
   rw [hset _ fun e => hne (h.inj w hw u hu j a row ra hx ha e)]
   exact d2
 ·rcases hM w j _ hm with ⟨rfl,rfl,hx⟩ | ⟨hne,hx⟩
  ·cases hx
  ·exact h.nil w hw j hx
 ·have src:∀ (w i:Nat) r,(if w = u then (M u).set a (some rb) else M w)[i]? = some (some r) -> ∃ r0,(M w)[i]? = some (some r0):=fun w i r hr => by
   rcases hM w i _ hr with ⟨rfl,rfl,_⟩ | ⟨_,hx⟩
   ·exact ⟨ra,ha⟩
   ·exact ⟨r,hx⟩
  obtain ⟨r0,h1'⟩:=src w i r h1
  obtain ⟨s0,h2'⟩:=src x j s h2
  exact h.inj w hw x hx i j r0 s0 h1' h2' e
 ·rcases hM w j _ hm with ⟨_,_,hx⟩ | ⟨_,hx⟩
  ·rw [Option.some.inj hx];exact hc
  ·exact h.hcl w hw j row hx
theorem Mx.cell {U:Nat} {os:List Nat} {L:Heap} {C:Nat -> List AV} {cv:Nat -> Nat} {M:Nat -> List (Option Row)} {ρ:Nat -> Nat -> Nat} (h:Mx U os L C cv M ρ) {u a:Nat} (hu:u ∈ os) (ha:a < (M u).length) {rb:Row} (hc:rb.clean = true) :
  Mx U os ((L.set u ⟨(C u).set a (.row L.length rb.ver),1,cv u,false,false⟩) ++ [rb]) (fun w => if w = u then (C u).set a (.row L.length rb.ver) else C w) cv (fun w => if w = u then (M u).set a (some rb) else M w) (fun w j => if w = u /\ j = a then L.length else ρ w j):=by
 have huU:=h.osU u hu
 have hlen:=h.len
 have hget:∀ (r:Nat),r < L.length -> r ≠ u -> ((L.set u ⟨(C u).set a (.row L.length rb.ver),1,cv u,false,false⟩) ++ [rb])[r]? = L[r]?:=fun r hr hne => by
  rw [List.getElem?_append_left (by rw [List.length_set];exact hr),List.getElem?_set,if_neg fun e => hne e.symm]
 have hgu:((L.set u ⟨(C u).set a (.row L.length rb.ver),1,cv u,false,false⟩) ++ [rb])[u]? = some ⟨(C u).set a (.row L.length rb.ver),1,cv u,false,false⟩:=by
  rw [List.getElem?_append_left (by rw [List.length_set];omega),List.getElem?_set,if_pos rfl,if_pos (by omega)]
 have hgl:((L.set u ⟨(C u).set a (.row L.length rb.ver),1,cv u,false,false⟩) ++ [rb])[L.length]? = some rb:=by
  rw [List.getElem?_append_right (by rw [List.length_set];exact Nat.le_refl _),List.length_set,Nat.sub_self];rfl
 have hgt:∀ (r:Nat) row,((L.set u ⟨(C u).set a (.row L.length rb.ver),1,cv u,false,false⟩) ++ [rb])[r]? = some row -> r < L.length \/ (r = L.length /\ row = rb):=fun r row hr => by
  have:=(List.getElem?_eq_some_iff.1 hr).1
  rw [List.length_append,List.length_set,List.length_singleton] at this
  by_cases e:r = L.length
  ·subst e;rw [hgl] at hr;exact .inr ⟨rfl,(Option.some.inj hr).symm⟩
  ·exact .inl (by omega)
 have hM:∀ (w j:Nat) x,(if w = u then (M u).set a (some rb) else M w)[j]? = some x -> (w = u /\ j = a /\ x = some rb) \/ (¬(w = u /\ j = a) /\ (M w)[j]? = some x):=fun w j x hx => by
  by_cases hw:w = u
  ·rw [if_pos hw,List.getElem?_set] at hx
   by_cases hj:a = j
   ·rw [if_pos hj,if_pos ha] at hx
    exact .inl ⟨hw,hj.symm,(Option.some.inj hx).symm⟩
   ·rw [if_neg hj] at hx
    exact .inr ⟨fun e => hj e.2.symm,by rw [hw];exact hx⟩
  ·rw [if_neg hw] at hx
   exact .inr ⟨fun e => hw e.1,hx⟩
 have hC:∀ (w j:Nat),¬(w = u /\ j = a) -> (if w = u then (C u).set a (.row L.length rb.ver) else C w)[j]? = (C w)[j]?:=fun w j hne => by
  by_cases hw:w = u
  ·rw [if_pos hw,List.getElem?_set,if_neg fun e => hne ⟨hw,e.symm⟩,hw]
  ·rw [if_neg hw]
 have hCa:(if u = u then (C u).set a (.row L.length rb.ver) else C u)[a]? = some (.row L.length rb.ver):=by
  rw [if_pos rfl,List.getElem?_set,if_pos rfl,if_pos (by rw [(h.out u hu).2];exact ha)]
 refine ⟨by rw [List.length_append,List.length_set];omega,h.osU,fun w hw => ?_,fun r row hr hno hrow => ?_,fun r row hr hrow => ?_,fun w hw j row hm => ?_,fun w hw j hm => ?_,fun w hw x hx i j r s h1 h2 e => ?_,fun w hw j row hm => ?_⟩
 ·by_cases e:w = u
  ·subst e
   refine ⟨by rw [hgu,if_pos rfl],?_⟩
   rw [if_pos rfl,if_pos rfl,List.length_set,List.length_set];exact (h.out w hw).2
  ·have:=h.osU w hw
   rw [hget w (by omega) e,if_neg e,if_neg e];exact h.out w hw
 ·rw [hget r (by omega) fun e => hno (by rw [e];exact hu)] at hrow
  exact h.fix r row hr hno hrow
 ·rcases hgt r row hrow with hl | ⟨_,rfl⟩
  ·rw [hget r hl (by omega)] at hrow;exact h.cln r row hr hrow
  ·exact Zee hc
 ·rcases hM w j _ hm with ⟨rfl,rfl,hx⟩ | ⟨hne,hx⟩
  ·have hx:=Option.some.inj hx
   subst hx
   have e:(if w = w /\ j = j then L.length else ρ w j) = L.length:=if_pos ⟨rfl,rfl⟩
   rw [e]
   exact ⟨hCa,hgl,hlen⟩
  ·obtain ⟨d1,d2,d3⟩:=h.hit w hw j row hx
   have hlt:=(List.getElem?_eq_some_iff.1 d2).1
   rw [if_neg hne,hC w j hne,hget _ hlt (by omega)]
   exact ⟨d1,d2,d3⟩
 ·rcases hM w j _ hm with ⟨rfl,rfl,hx⟩ | ⟨hne,hx⟩
  ·cases hx
  ·rw [hC w j hne];exact h.nil w hw j hx
 ·rcases hM w i _ h1 with ⟨rfl,rfl,_⟩ | ⟨n1,x1⟩ <;> rcases hM x j _ h2 with ⟨rfl,rfl,_⟩ | ⟨n2,x2⟩
  ·exact ⟨rfl,rfl⟩
  ·rw [if_pos ⟨rfl,rfl⟩,if_neg n2] at e
   have:=(List.getElem?_eq_some_iff.1 (h.hit x hx j s x2).2.1).1
   omega
  ·rw [if_neg n1,if_pos ⟨rfl,rfl⟩] at e
   have:=(List.getElem?_eq_some_iff.1 (h.hit w hw i r x1).2.1).1
   omega
  ·rw [if_neg n1,if_neg n2] at e
   exact h.inj w hw x hx i j r s x1 x2 e
 ·rcases hM w j _ hm with ⟨_,_,hx⟩ | ⟨_,hx⟩
  ·rw [Option.some.inj hx];exact hc
  ·exact h.hcl w hw j row hx
theorem Mx.app {U:Nat} {os:List Nat} {L:Heap} {C:Nat -> List AV} {cv:Nat -> Nat} {M:Nat -> List (Option Row)} {ρ:Nat -> Nat -> Nat} (h:Mx U os L C cv M ρ) {u a:Nat} (hu:u ∈ os) {ra rb:Row} (ha:(M u)[a]? = some (some ra)) (hc:rb.clean = true) :
  Mx U os ((L.set (ρ u a) rb).set u ⟨(C u).set a (.row (ρ u a) rb.ver),1,cv u,false,false⟩) (fun w => if w = u then (C u).set a (.row (ρ u a) rb.ver) else C w) cv (fun w => if w = u then (M u).set a (some rb) else M w) ρ:=by
 obtain ⟨e1,e2,e3⟩:=h.hit u hu a ra ha
 have hal:=(List.getElem?_eq_some_iff.1 ha).1
 have hρl:=(List.getElem?_eq_some_iff.1 e2).1
 have huU:=h.osU u hu
 have hlen:=h.len
 have hget:∀ (r:Nat),r ≠ ρ u a -> r ≠ u -> ((L.set (ρ u a) rb).set u ⟨(C u).set a (.row (ρ u a) rb.ver),1,cv u,false,false⟩)[r]? = L[r]?:=fun r h1 h2 => by
  rw [List.getElem?_set,if_neg fun e => h2 e.symm,List.getElem?_set,if_neg fun e => h1 e.symm]
 have hgu:((L.set (ρ u a) rb).set u ⟨(C u).set a (.row (ρ u a) rb.ver),1,cv u,false,false⟩)[u]? = some ⟨(C u).set a (.row (ρ u a) rb.ver),1,cv u,false,false⟩:=by
  rw [List.getElem?_set,if_pos rfl,if_pos (by rw [List.length_set];omega)]
 have hga:((L.set (ρ u a) rb).set u ⟨(C u).set a (.row (ρ u a) rb.ver),1,cv u,false,false⟩)[ρ u a]? = some rb:=by
  rw [List.getElem?_set,if_neg (by omega),List.getElem?_set,if_pos rfl,if_pos hρl]
 have hM:∀ (w j:Nat) x,(if w = u then (M u).set a (some rb) else M w)[j]? = some x -> (w = u /\ j = a /\ x = some rb) \/ (¬(w = u /\ j = a) /\ (M w)[j]? = some x):=fun w j x hx => by
  by_cases hw:w = u
  ·rw [if_pos hw,List.getElem?_set] at hx
   by_cases hj:a = j
   ·rw [if_pos hj,if_pos hal] at hx
    exact .inl ⟨hw,hj.symm,(Option.some.inj hx).symm⟩
   ·rw [if_neg hj] at hx
    exact .inr ⟨fun e => hj e.2.symm,by rw [hw];exact hx⟩
  ·rw [if_neg hw] at hx
   exact .inr ⟨fun e => hw e.1,hx⟩
 have hC:∀ (w j:Nat),¬(w = u /\ j = a) -> (if w = u then (C u).set a (.row (ρ u a) rb.ver) else C w)[j]? = (C w)[j]?:=fun w j hne => by
  by_cases hw:w = u
  ·rw [if_pos hw,List.getElem?_set,if_neg fun e => hne ⟨hw,e.symm⟩,hw]
  ·rw [if_neg hw]
 have hCa:(if u = u then (C u).set a (.row (ρ u a) rb.ver) else C u)[a]? = some (.row (ρ u a) rb.ver):=by
  rw [if_pos rfl,List.getElem?_set,if_pos rfl,if_pos (by rw [(h.out u hu).2];exact hal)]
 refine ⟨by rw [List.length_set,List.length_set];exact hlen,h.osU,fun w hw => ?_,fun r row hr hno hrow => ?_,fun r row hr hrow => ?_,fun w hw j row hm => ?_,fun w hw j hm => ?_,fun w hw x hx i j r s h1 h2 e => ?_,fun w hw j row hm => ?_⟩
 ·by_cases e:w = u
  ·subst e
   refine ⟨by rw [hgu,if_pos rfl],?_⟩
   rw [if_pos rfl,if_pos rfl,List.length_set,List.length_set];exact (h.out w hw).2
  ·have:=h.osU w hw
   rw [hget w (by omega) e,if_neg e,if_neg e];exact h.out w hw
 ·rw [hget r (by omega) fun e => hno (by rw [e];exact hu)] at hrow
  exact h.fix r row hr hno hrow
 ·by_cases e:r = ρ u a
  ·subst e;rw [hga] at hrow;rw [<- Option.some.inj hrow];exact Zee hc
  ·rw [hget r e (by omega)] at hrow;exact h.cln r row hr hrow
 ·rcases hM w j _ hm with ⟨rfl,rfl,hx⟩ | ⟨hne,hx⟩
  ·have hx:=Option.some.inj hx
   subst hx
   exact ⟨hCa,hga,e3⟩
  ·obtain ⟨d1,d2,d3⟩:=h.hit w hw j row hx
   rw [hC w j hne,hget _ (fun e => hne (h.inj w hw u hu j a row ra hx ha e)) (by omega)]
   exact ⟨d1,d2,d3⟩
 ·rcases hM w j _ hm with ⟨rfl,rfl,hx⟩ | ⟨hne,hx⟩
  ·cases hx
  ·rw [hC w j hne];exact h.nil w hw j hx
 ·have src:∀ (w i:Nat) r,(if w = u then (M u).set a (some rb) else M w)[i]? = some (some r) -> ∃ r0,(M w)[i]? = some (some r0):=fun w i r hr => by
   rcases hM w i _ hr with ⟨rfl,rfl,_⟩ | ⟨_,hx⟩
   ·exact ⟨ra,ha⟩
   ·exact ⟨r,hx⟩
  obtain ⟨r0,h1'⟩:=src w i r h1
  obtain ⟨s0,h2'⟩:=src x j s h2
  exact h.inj w hw x hx i j r0 s0 h1' h2' e
 ·rcases hM w j _ hm with ⟨_,_,hx⟩ | ⟨_,hx⟩
  ·rw [Option.some.inj hx];exact hc
  ·exact h.hcl w hw j row hx
theorem Mx.refs {U:Nat} {os:List Nat} {L:Heap} {C:Nat -> List AV} {cv:Nat -> Nat} {M:Nat -> List (Option Row)} {ρ:Nat -> Nat -> Nat} (h:Mx U os L C cv M ρ):∀ row ∈ L,∀ r ∈ Zag row,r < L.length:=by
 intro row hrow r hr
 obtain ⟨i,hi⟩:=List.getElem?_of_mem hrow
 by_cases hU:i < U
 ·by_cases ho:i ∈ os
  ·obtain ⟨o1,o2⟩:=h.out i ho
   rw [hi] at o1
   have e:=Option.some.inj o1
   subst e
   unfold Zag at hr
   simp only [cond_false] at hr
   obtain ⟨j,c,hc,hrc⟩:=Zcb hr
   have hj:j < (M i).length:=by rw [<- o2];exact (List.getElem?_eq_some_iff.1 hc).1
   cases hm:(M i)[j] with
   | none =>
    rw [h.nil i ho j (by rw [List.getElem?_eq_getElem hj,hm])] at hc
    rw [<- Option.some.inj hc] at hrc;cases hrc
   | some row =>
    obtain ⟨d1,d2,_⟩:=h.hit i ho j row (by rw [List.getElem?_eq_getElem hj,hm])
    rw [d1] at hc
    rw [<- Option.some.inj hc] at hrc
    have:r = ρ i j:=by simpa [rowsA] using hrc
    rw [this];exact (List.getElem?_eq_some_iff.1 d2).1
  ·have:=h.fix i row hU ho hi r hr
   have:=h.len
   omega
 ·have hc:=h.cln i row (by omega) hi
  rw [hc] at hr;cases hr
theorem ZdC {N:Mach} {fi:Fi} {k:List Item} {env:Vars} {L:Heap} {d:AV} {U:Nat} {os:List Nat} {C:Nat -> List AV} {cv:Nat -> Nat} {M:Nat -> List (Option Row)} {ρ:Nat -> Nat -> Nat} (h:Mx U os L C cv M ρ) (henv:(rowsL (env.map (·.2))).all (fun r => Nat.blt r U) = true) {u a p:Nat} (hu:u ∈ os) {ra:Row} (ha:(M u)[a]? = some (some ra)) (hp:U <= p) (hpl:p < L.length)
  (H:∀ L' C' ρ',Mx U os L' C' cv M ρ' -> L'.length = L.length -> L'[p]? = some ra -> ρ' u a = p -> (∀ w ∈ os,∀ (j:Nat) (r:Row),(M w)[j]? = some (some r) -> ρ w j ≠ p -> ρ w j ≠ ρ u a -> ρ' w j = ρ w j) -> (∀ (r:Nat),r < U -> r ∉ os -> L'[r]? = L[r]?) -> Wp N (.run fi k env L') (ZaM d)):Wp N (.run fi k env L) (ZaM d):=by
 obtain ⟨e1,e2,e3⟩:=h.hit u hu a ra ha
 have hql:=(List.getElem?_eq_some_iff.1 e2).1
 have hE:∀ r ∈ rowsL (env.map (·.2)),r < U:=fun r hr => Nat.blt_eq.mp (List.all_eq_true.1 henv r hr)
 have hlen:=h.len
 refine wp_swap (p:=p) (q:=ρ u a) hpl hql (fun r hr => by have:=hE r hr;omega) h.refs ?_
 have hren:renV (swp p (ρ u a)) env = env:=by
  unfold renV
  have:env.map (fun e => (e.1,renA (swp p (ρ u a)) e.2)) = env.map id:=List.map_congr_left fun e he => by
   have:∀ r ∈ rowsA e.2,swp p (ρ u a) r = (fun r => r) r:=fun r hr => ZcM hp e3 (hE r (by
    have hm:e.2 ∈ env.map (·.2):=List.mem_map_of_mem he
    obtain ⟨i,hi⟩:=List.getElem?_of_mem hm
    exact ZaT hi hr))
   rw [renA_ext e.2 this,renA_id];rfl
  rw [this,List.map_id]
 rw [hren]
 have hs:=h.swap hp e3 hpl hql
 refine H _ _ _ hs (ZcN ..) ?_ (swp_q ..) (fun w hw j r hm n1 n2 => Zb2 n1 n2) (fun r hr hno => ?_)
 ·have:=(hs.hit u hu a ra ha).2.1
  rw [swp_q] at this;exact this
 ·have hrl:r < L.length:=by omega
  have:=ZcO hpl hql (List.getElem?_eq_getElem hrl)
  rw [ZcM hp e3 hr,ren_fix hp e3 (h.fix r _ hr hno (List.getElem?_eq_getElem hrl))] at this
  rw [this,List.getElem?_eq_getElem hrl]
theorem pureL_of {L:Heap}:∀ {C ys:List AV},C.length = ys.length -> (∀ (j:Nat) c y,C[j]? = some c -> ys[j]? = some y -> pureA L c = some y) -> pureL L C = some ys
 | [],[],_,_ => rfl
 | [],_ :: _,h,_ => by simp at h
 | _ :: _,[],h,_ => by simp at h
 | c :: C,y :: ys,h,hp => by
  have h1:=hp 0 c y rfl rfl
  have h2:=pureL_of (C:=C) (ys:=ys) (by simpa using h) fun j c y hc hy => hp (j + 1) c y (by simpa using hc) (by simpa using hy)
  simp only [pureL,h1,h2]
theorem versL_of {L:Heap}:∀ {C:List AV},(∀ (j:Nat) c,C[j]? = some c -> ∀ b ∈ versA L c,b = true) -> ∀ b ∈ versL L C,b = true
 | [],_,b,hb => by cases hb
 | c :: C,h,b,hb => by
  simp only [versL,List.mem_append] at hb
  rcases hb with hb | hb
  ·exact h 0 c rfl b hb
  ·exact versL_of (fun j c hc => h (j + 1) c (by simpa using hc)) b hb
def Zc6:Option Row -> AV
 | none => .vnil
 | some row => .vec false row.es row.elems
theorem Mx.deep {U:Nat} {os:List Nat} {L:Heap} {C:Nat -> List AV} {cv:Nat -> Nat} {M:Nat -> List (Option Row)} {ρ:Nat -> Nat -> Nat} (h:Mx U os L C cv M ρ) {u:Nat} (hu:u ∈ os):deepA L (.row u (cv u)) = some (.vec false 1 ((M u).map Zc6)) /\ allB (deepV L (.row u (cv u))):=by
 obtain ⟨o1,o2⟩:=h.out u hu
 have cell:∀ (j:Nat) c,(C u)[j]? = some c -> ∃ m,(M u)[j]? = some m /\ pureA L c = some (Zc6 m) /\ ∀ b ∈ versA L c,b = true:=fun j c hc => by
  have hj:j < (M u).length:=by rw [<- o2];exact (List.getElem?_eq_some_iff.1 hc).1
  refine ⟨_,List.getElem?_eq_getElem hj,?_⟩
  cases hm:(M u)[j] with
  | none =>
   rw [h.nil u hu j (by rw [List.getElem?_eq_getElem hj,hm])] at hc
   rw [<- Option.some.inj hc]
   exact ⟨rfl,fun b hb => by cases hb⟩
  | some row =>
   obtain ⟨d1,d2,d3⟩:=h.hit u hu j row (by rw [List.getElem?_eq_getElem hj,hm])
   rw [d1] at hc
   rw [<- Option.some.inj hc]
   have hcl:=h.hcl u hu j row (by rw [List.getElem?_eq_getElem hj,hm])
   refine ⟨?_,fun b hb => ?_⟩
   ·simp only [pureA,d2,hcl,cond_true];rfl
   ·have:b = Zbd L (ρ u j) row.ver:=by simpa [versA] using hb
    rw [this];simp [Zbd,d2]
 constructor
 ·simp only [deepA,o1,cond_false]
  rw [pureL_of (ys:=(M u).map Zc6) (by rw [List.length_map];exact o2) fun j c y hc hy => by
   obtain ⟨m,m1,m2,_⟩:=cell j c hc
   rw [List.getElem?_map,m1] at hy
   rw [m2];exact hy]
 ·rw [Zbu]
  intro b hb
  simp only [deepV,o1,cond_false,List.mem_cons] at hb
  rcases hb with rfl | hb
  ·simp [Zbd,o1]
  ·refine versL_of (fun j c hc => ?_) b hb
   obtain ⟨m,_,_,m3⟩:=cell j c hc
   exact m3
theorem Mx.push {U:Nat} {os:List Nat} {L:Heap} {C:Nat -> List AV} {cv:Nat -> Nat} {M:Nat -> List (Option Row)} {ρ:Nat -> Nat -> Nat} (h:Mx U os L C cv M ρ) {z:Row} (hz:Zag z = []):Mx U os (L ++ [z]) C cv M ρ:=by
 have hg:∀ (r:Nat) (row:Row),L[r]? = some row -> (L ++ [z])[r]? = some row:=fun r row hr => by
  rw [List.getElem?_append_left (List.getElem?_eq_some_iff.1 hr).1];exact hr
 have hgt:∀ (r:Nat) (row:Row),(L ++ [z])[r]? = some row -> L[r]? = some row \/ row = z:=fun r row hr => by
  have:=(List.getElem?_eq_some_iff.1 hr).1
  rw [List.length_append,List.length_singleton] at this
  by_cases e:r = L.length
  ·subst e
   rw [List.getElem?_append_right (Nat.le_refl _),Nat.sub_self] at hr
   exact .inr (Option.some.inj hr).symm
  ·rw [List.getElem?_append_left (by omega)] at hr;exact .inl hr
 refine ⟨by rw [List.length_append];have:=h.len;omega,h.osU,fun u hu => ⟨hg _ _ (h.out u hu).1,(h.out u hu).2⟩,fun r row hr hno hrow s hs => ?_,fun r row hr hrow => ?_,fun u hu j row hm => ?_,h.nil,h.inj,h.hcl⟩
 ·rcases hgt r row hrow with e | rfl
  ·exact h.fix r row hr hno e s hs
  ·rw [hz] at hs;cases hs
 ·rcases hgt r row hrow with e | rfl
  ·exact h.cln r row hr e
  ·exact hz
 ·obtain ⟨e1,e2,e3⟩:=h.hit u hu j row hm
  exact ⟨e1,hg _ _ e2,e3⟩
theorem Mx.up {U:Nat} {os:List Nat} {L:Heap} {C:Nat -> List AV} {cv:Nat -> Nat} {M:Nat -> List (Option Row)} {ρ:Nat -> Nat -> Nat} (h:Mx U os L C cv M ρ) (hl:U < L.length) (hn:∀ u ∈ os,∀ (j:Nat) (row:Row),(M u)[j]? = some (some row) -> ρ u j ≠ U):Mx (U + 1) os L C cv M ρ:=by
 refine ⟨hl,fun u hu => by have:=h.osU u hu;omega,h.out,fun r row hr hno hrow s hs => ?_,fun r row hr hrow => h.cln r row (by omega) hrow,fun u hu j row hm => ?_,h.nil,h.inj,h.hcl⟩
 ·by_cases e:r = U
  ·rw [h.cln r row (by omega) hrow] at hs;cases hs
  ·have:=h.fix r row (by omega) hno hrow s hs;omega
 ·obtain ⟨e1,e2,e3⟩:=h.hit u hu j row hm
  have:=hn u hu j row hm
  exact ⟨e1,e2,by omega⟩
theorem Mx.down {U:Nat} {os:List Nat} {L:Heap} {C:Nat -> List AV} {cv:Nat -> Nat} {M:Nat -> List (Option Row)} {ρ:Nat -> Nat -> Nat} (h:Mx (U + 1) os L C cv M ρ) (ho:∀ u ∈ os,u < U) {z:Row} (hU:L[U]? = some z) (hz:Zag z = []) (hf:∀ (r:Nat) (row:Row),r < U -> r ∉ os -> L[r]? = some row -> ∀ s ∈ Zag row,s < U):Mx U os L C cv M ρ:=by
 refine ⟨by have:=h.len;omega,ho,h.out,hf,fun r row hr hrow => ?_,fun u hu j row hm => ?_,h.nil,h.inj,h.hcl⟩
 ·by_cases e:r = U
  ·rw [e,hU] at hrow;rw [<- Option.some.inj hrow];exact hz
  ·exact h.cln r row (by omega) hrow
 ·obtain ⟨e1,e2,e3⟩:=h.hit u hu j row hm
  exact ⟨e1,e2,by omega⟩
theorem wp_box {N:Mach} {fi:Fi} {k:List Item} {env env':Vars} {L:Heap} {d:AV} {U:Nat} {os:List Nat} {C:Nat -> List AV} {cv:Nat -> Nat} {M:Nat -> List (Option Row)} {ρ:Nat -> Nat -> Nat} (h:Mx U os L C cv M ρ) {z:Row} (hz:Zag z = []) (henv:∀ r ∈ rowsL (env.map (·.2)),r <= L.length) (hren:renV (swp U L.length) env = env')
  (H:∀ L' C' ρ',Mx (U + 1) os L' C' cv M ρ' -> L'[U]? = some z -> (∀ (r:Nat),r < U -> r ∉ os -> L'[r]? = L[r]?) -> Wp N (.run fi k env' L') (ZaM d)):Wp N (.run fi k env (L ++ [z])) (ZaM d):=by
 have hp:=h.push hz
 have hlen:=h.len
 have hU:U < (L ++ [z]).length:=by rw [List.length_append,List.length_singleton];omega
 have hq:L.length < (L ++ [z]).length:=by rw [List.length_append,List.length_singleton];omega
 refine wp_swap (p:=U) (q:=L.length) hU hq (fun r hr => by have:=henv r hr;omega) hp.refs ?_
 rw [hren]
 have hs:=hp.swap (p:=U) (q:=L.length) (Nat.le_refl U) hlen hU hq
 have hz':(L ++ [z])[L.length]? = some z:=by rw [List.getElem?_append_right (Nat.le_refl _),Nat.sub_self];rfl
 have hUz:(swH U L.length (L ++ [z]))[U]? = some z:=by
  have:=ZcO hU hq hz'
  rw [swp_q,ren_none hz] at this;exact this
 refine H _ _ _ (hs.up (by rw [ZcN];exact hU) fun u hu j row hm e => ?_) hUz fun r hr hno => ?_
 ·have h1:=(List.getElem?_eq_some_iff.1 (h.hit u hu j row hm).2.1).1
  have h2:swp U L.length (ρ u j) = swp U L.length L.length:=by rw [swp_q];exact e
  have:=Zeb h2
  omega
 ·have hrl:r < L.length:=by omega
  have hr':(L ++ [z])[r]? = some L[r]:=by rw [List.getElem?_append_left hrl,List.getElem?_eq_getElem hrl]
  have:=ZcO hU hq hr'
  rw [ZcM (Nat.le_refl U) hlen hr,ren_fix (U:=U) (Nat.le_refl U) hlen (hp.fix r _ hr hno hr')] at this
  rw [this,List.getElem?_eq_getElem hrl]
end Go.Av

namespace Go.Av
open Go.Proofs
set_option maxRecDepth 100000
def fi36:Fi:=⟨90,[.tmp 4]⟩
def kp36:List (Nat × List Nat):=[(0,[0,1]),(1,[0,1,5]),(2,[0,1,5,6]),(3,[0,1,5,6,15]),(4,[0,1,5,6]),(5,[0,1,5,6]),(6,[0,1,5,7]),(7,[0,1,5,7,26]),(8,[0,1,5,7]),(9,[0,1,5,7]),(10,[0,5,8]),(11,[0,5,8,45]),(12,[0,5,8]),(13,[0,5,8,9]),(14,[0,5,8,9,50]),(15,[0,5,8,9]),(16,[0,5,8,9,10]),(17,[0,5,8,9,10,55]),(18,[0,5,8,9,10]),(19,[0,5,8,9,10]),(20,[4])]
def dD_at (n:Int) (f:Bool) (ps:List Pr) (Q:AV->Heap->Prop):Prop:=Wp M1 (.run fi36 (atC (cd Try.f36) []) [(0,.int .i64 n),(1,.vec f 2 (ps.map Pr.v))] []) Q
def dI0_at (n:Int) (f:Bool) (ps:List Pr) (w:Nat) (Q:AV->Heap->Prop):Prop:=Wp M1 (.run fi36 (atC (cd Try.f36) [1,1,0,1,0,0]) [(0,.int .i64 n),(1,.vec f 2 (ps.map Pr.v)),(5,.row 0 0),(6,.int .i64 0)] [⟨List.replicate w .vnil,1,0,false,true⟩]) Q
def dP0_at (n:Int) (f:Bool) (ps:List Pr) (w:Nat) (Q:AV->Heap->Prop):Prop:=Wp M1 (.run fi36 (atC (cd Try.f36) [1,1,1,0,1,0,0]) [(0,.int .i64 n),(1,.vec f 2 (ps.map Pr.v)),(5,.row 0 0),(7,.int .i64 0)] [⟨List.replicate w .vnil,1,0,false,true⟩]) Q
def dK0_at (n:Int) (w:Nat) (Q:AV->Heap->Prop):Prop:=Wp M1 (.run fi36 (atC (cd Try.f36) [1,1,1,1,0,1,0,0]) [(0,.int .i64 n),(5,.row 0 0),(8,.int .i64 0)] [⟨List.replicate w .vnil,1,0,false,true⟩]) Q
def dI_at (n:Int) (C:List AV) (cv:Nat) (R:Heap) (f:Bool) (ps:List Pr) (i:Int) (Q:AV->Heap->Prop):Prop:=Wp M1 (.run fi36 (atC (cd Try.f36) [1,1,0,1,0,0]) [(0,.int .i64 n),(1,.vec f 2 (ps.map Pr.v)),(5,.row 0 cv),(6,.int .i64 i)] (⟨C,1,cv,false,false⟩::R)) Q
def dP_at (n:Int) (C:List AV) (cv:Nat) (R:Heap) (f:Bool) (ps:List Pr) (i:Int) (Q:AV->Heap->Prop):Prop:=Wp M1 (.run fi36 (atC (cd Try.f36) [1,1,1,0,1,0,0]) [(0,.int .i64 n),(1,.vec f 2 (ps.map Pr.v)),(5,.row 0 cv),(7,.int .i64 i)] (⟨C,1,cv,false,false⟩::R)) Q
def dPf_at (n:Int) (C:List AV) (cv:Nat) (R:Heap) (f:Bool) (ps:List Pr) (i:Int) (m:List Bool) (Q:AV->Heap->Prop):Prop:=Wp M1 (.run fi36 (atC (cd Try.f36) [1,1,1,0,1,0,0,1,0,0]) [(0,.int .i64 n),(1,.vec f 2 (ps.map Pr.v)),(5,.row 0 cv),(7,.int .i64 i)] (⟨C,1,cv,false,false⟩::⟨m.map (.bool),1,0,false,true⟩::R)) Q
def dK_at (n:Int) (C:List AV) (cv:Nat) (R:Heap) (k:Int) (Q:AV->Heap->Prop):Prop:=Wp M1 (.run fi36 (atC (cd Try.f36) [1,1,1,1,0,1,0,0]) [(0,.int .i64 n),(5,.row 0 cv),(8,.int .i64 k)] (⟨C,1,cv,false,false⟩::R)) Q
def dA_at (n:Int) (C:List AV) (cv:Nat) (R:Heap) (k a:Int) (Q:AV->Heap->Prop):Prop:=Wp M1 (.run fi36 (atC (cd Try.f36) [1,1,1,1,0,1,0,0,1,0,0,1,0,0]) [(0,.int .i64 n),(5,.row 0 cv),(8,.int .i64 k),(9,.int .i64 a)] (⟨C,1,cv,false,false⟩::R)) Q
def dB_at (n:Int) (C:List AV) (cv:Nat) (R:Heap) (k a b:Int) (Q:AV->Heap->Prop):Prop:=Wp M1 (.run fi36 (atC (cd Try.f36) [1,1,1,1,0,1,0,0,1,0,0,1,0,0,1,0,0,1,0,0]) [(0,.int .i64 n),(5,.row 0 cv),(8,.int .i64 k),(9,.int .i64 a),(10,.int .i64 b)] (⟨C,1,cv,false,false⟩::R)) Q
def dB1_at (n:Int) (C:List AV) (cv:Nat) (R:Heap) (k a b:Int) (m:List Bool) (Q:AV->Heap->Prop):Prop:=Wp M1 (.run fi36 (atC (cd Try.f36) [1,1,1,1,0,1,0,0,1,0,0,1,0,0,1,0,0,1,0,0,1,0,0]) [(0,.int .i64 n),(5,.row 0 cv),(8,.int .i64 k),(9,.int .i64 a),(10,.int .i64 b)] (⟨C,1,cv,false,false⟩::⟨m.map (.bool),1,0,false,true⟩::R)) Q
def dB2_at (n:Int) (C:List AV) (cv:Nat) (R:Heap) (k a b:Int) (m o:List Bool) (Q:AV->Heap->Prop):Prop:=Wp M1 (.run fi36 (atC (cd Try.f36) [1,1,1,1,0,1,0,0,1,0,0,1,0,0,1,0,0,1,0,0,1,0,0]) [(0,.int .i64 n),(5,.row 0 cv),(8,.int .i64 k),(9,.int .i64 a),(10,.int .i64 b)] (⟨C,1,cv,false,false⟩::⟨m.map (.bool),1,0,false,true⟩::⟨o.map (.bool),1,0,false,true⟩::R)) Q
theorem dD (n:Int) (f:Bool) (ps:List Pr)  (Q:AV -> Heap -> Prop) (H :
  (0 <= n) /\
  (n * 24 <= 1099511627776) /\
  (n <= 1099511627776) /\
  dI0_at (n) (f) (ps) (n.toNat) Q) :
 dD_at n f ps Q:=by
 unfold dD_at
 obtain ⟨k2,k5,k7,H⟩:=H
 exact Zab (G:=Zae kp36 [] []) 1000 [] ⟨(atC (cd Try.f36) [1,1,0,1,0,0]),[(0,vi n),(1,AV.vec f 2 (List.map Pr.v ps)),(5,AV.row 0 0),(6,vi 0)],[⟨List.replicate n.toNat AV.vnil,1,0,false,true⟩],[decide (0 <= n),decide (n <= n),decide (n * 24 <= 1099511627776),decide (n <= 1099511627776)],[],_⟩ (by kernel_rfl) (bc (Zaa.2 k2) (bc (Zaa.2 (by omega)) (bc (Zaa.2 k5) (bc (Zaa.2 k7) b0)))) q0 c0 (H)
theorem dI0 (n:Int) (f:Bool) (ps:List Pr) (w:Nat)  (Q:AV -> Heap -> Prop) (H :
  ((0 < n) -> (0 <= n) /\
   (n * 1 <= 1099511627776) /\
   (n <= 1099511627776) /\
   (0 < (List.replicate w AV.vnil).length) /\
   ((List.replicate w AV.vnil).get?Internal 0 = some AV.vnil) /\
   dI_at (n) ((List.replicate w AV.vnil).set 0 (AV.row 1 0)) (0) ([{ elems:=List.map vb (List.replicate n.toNat false),es:=1,ver:=0,frozen:=false,clean:=true }]) (f) (ps) (1) Q) /\
  (¬(0 < n) -> dP0_at (n) (f) (ps) (w) Q)) :
 dI0_at n f ps w Q:=by
 unfold dI0_at
 rcases xq H with ⟨d2,H⟩|⟨d2,H⟩
 ·obtain ⟨k4,k7,k9,k11,k12,H⟩:=H
  have w13:List.replicate n.toNat (vb false) = List.map vb (List.replicate n.toNat false):=(lm_rep rfl)
  exact Zab (G:=Zae kp36 [(5,5,(.elem .vnil:Ans))] []) 1000 [true] ⟨(atC (cd Try.f36) [1,1,0,1,0,0]),[(0,vi n),(1,AV.vec f 2 (List.map Pr.v ps)),(5,AV.row 0 0),(6,vi 1)],[⟨(List.replicate w AV.vnil).set 0 (AV.row 1 0),1,0,false,false⟩,⟨List.replicate n.toNat (vb false),1,0,false,true⟩],[(decide (0 < n)) == true,decide (0 <= n),decide (n <= n),decide (n * 1 <= 1099511627776),decide (n <= 1099511627776),true,true,decide (0 < (List.replicate w AV.vnil).length),true],[((List.replicate w AV.vnil).get?Internal 0 = some AV.vnil)],_⟩ (by kernel_rfl) (bc (Zas (Zaa.2 d2)) (bc (Zaa.2 k4) (bc (Zaa.2 (by omega)) (bc (Zaa.2 k7) (bc (Zaa.2 k9) (bc rfl (bc rfl (bc (Zaa.2 k11) (bc rfl b0))))))))) (qc k12 q0) c0 (by (try rw [w13]);all_goals exact H)
 ·exact Zab (G:=Zae kp36 [] []) 1000 [false] ⟨(atC (cd Try.f36) [1,1,1,0,1,0,0]),[(0,vi n),(1,AV.vec f 2 (List.map Pr.v ps)),(5,AV.row 0 0),(7,vi 0)],[⟨List.replicate w AV.vnil,1,0,false,true⟩],_,[],_⟩ (by kernel_rfl) (bc (Zap (fun h => d2 (Zaa.1 h))) b0) q0 c0 (H)
theorem dP0 (n:Int) (f:Bool) (ps:List Pr) (w:Nat)  (Q:AV -> Heap -> Prop) (H :
  ((0 < (↑ps.length:Int)) -> Wp M1 (.run fi36 (atC (cd Try.f36) [1,1,1,0,1,0,0,1,0,0]) [(0,vi n),(1,AV.vec f 2 (List.map Pr.v ps)),(5,AV.row 0 0),(7,vi 0)] [{ elems:=List.replicate w AV.vnil,es:=1,ver:=0,frozen:=false,clean:=true }]) Q) /\
  (¬(0 < (↑ps.length:Int)) -> dK0_at (n) (w) Q)) :
 dP0_at n f ps w Q:=by
 unfold dP0_at
 have w1:(List.map Pr.v ps).length = ps.length:=List.length_map ..
 have i2:(decide (0 < (↑(List.map Pr.v ps).length:Int))) = true ↔ (0 < (↑ps.length:Int)):=(by (try rw [w1]);all_goals exact Zaa)
 rcases xq H with ⟨d3,H⟩|⟨d3,H⟩
 ·exact Zab (G:=Zae kp36 [] []) 7 [true] ⟨(atC (cd Try.f36) [1,1,1,0,1,0,0,1,0,0]),[(0,vi n),(1,AV.vec f 2 (List.map Pr.v ps)),(5,AV.row 0 0),(7,vi 0),(26,vb (decide (0 < (↑(List.map Pr.v ps).length:Int))))],[⟨List.replicate w AV.vnil,1,0,false,true⟩],_,[],_⟩ (by kernel_rfl) (bc (Zas (i2.2 d3)) b0) q0 c0 (by (try rw [w1]);all_goals exact Wp.less [0,1,5,7] (H))
 ·exact Zab (G:=Zae kp36 [] []) 1000 [false] ⟨(atC (cd Try.f36) [1,1,1,1,0,1,0,0]),[(0,vi n),(5,AV.row 0 0),(8,vi 0)],[⟨List.replicate w AV.vnil,1,0,false,true⟩],_,[],_⟩ (by kernel_rfl) (bc (Zap (fun h => d3 (i2.1 h))) b0) q0 c0 (H)
theorem dK0 (n:Int) (w:Nat)  (Q:AV -> Heap -> Prop) (H :
  ((0 < n) -> Wp M1 (.run fi36 (atC (cd Try.f36) [1,1,1,1,0,1,0,0,1,0,0,1,0,0]) [(0,vi n),(5,AV.row 0 0),(8,vi 0),(9,vi 0)] [{ elems:=List.replicate w AV.vnil,es:=1,ver:=0,frozen:=false,clean:=true }]) Q) /\
  (¬(0 < n) -> Q (AV.row 0 0) [{ elems:=List.replicate w AV.vnil,es:=1,ver:=0,frozen:=false,clean:=true }])) :
 dK0_at n w Q:=by
 unfold dK0_at
 rcases xq H with ⟨d2,H⟩|⟨d2,H⟩
 ·exact Zab (G:=Zae kp36 [] []) 1000 [true] ⟨(atC (cd Try.f36) [1,1,1,1,0,1,0,0,1,0,0,1,0,0]),[(0,vi n),(5,AV.row 0 0),(8,vi 0),(9,vi 0)],[⟨List.replicate w AV.vnil,1,0,false,true⟩],_,[],_⟩ (by kernel_rfl) (bc (Zas (Zaa.2 d2)) b0) q0 c0 (H)
 ·exact ZaG (G:=Zae kp36 [] []) 1000 [false] (k:=((atC (cd Try.f36) [1,1,1,1,1,1])).tail) (env':=[(4,AV.row 0 0)]) (L':=[⟨List.replicate w AV.vnil,1,0,false,true⟩]) (asm:=[(decide (0 < n)) == false]) (eqs:=[]) (calls:=[]) (AV.row 0 0) (by kernel_rfl) (by kernel_rfl) (Zaf (Zap (fun h => d2 (Zaa.1 h))) Zak) Zal ZaJ H
theorem dI (n:Int) (C:List AV) (cv:Nat) (R:Heap) (f:Bool) (ps:List Pr) (i:Int)  (Q:AV -> Heap -> Prop) (H :
  ((i < n) -> (0 <= n) /\
   (n * 1 <= 1099511627776) /\
   (n <= 1099511627776) /\
   (0 <= i) /\
   (i.toNat < C.length) /\
   (C.get?Internal i.toNat = some AV.vnil) /\
   (-9223372036854775808 <= i + 1 /\ i + 1 <= 9223372036854775807) /\
   dI_at (n) (C.set i.toNat (AV.row (List.length R + 1) 0)) (cv) (List.append R [{ elems:=List.replicate n.toNat (ofC (Value.bool false)),es:=((fun x => Try.prog) ()).types[4].size,ver:=0,frozen:=false,clean:=true }]) (f) (ps) (i + 1) Q) /\
  (¬(i < n) -> dP_at (n) (C) (cv) (R) (f) (ps) (0) Q)) :
 dI_at n C cv R f ps i Q:=by
 unfold dI_at
 rcases xq H with ⟨d2,H⟩|⟨d2,H⟩
 ·obtain ⟨k4,k7,k9,k11,k13,k14,k15,H⟩:=H
  have w16:wi (i + 1) = i + 1:=wI64 k15
  exact Zab (G:=Zae kp36 [(5,5,(.elem .vnil:Ans))] []) 1000 [true] ⟨(atC (cd Try.f36) [1,1,0,1,0,0]),[(0,vi n),(1,AV.vec f 2 (List.map Pr.v ps)),(5,AV.row 0 cv),(6,vi (wi (i + 1)))],⟨C.set i.toNat (AV.row (List.length R + 1) 0),1,cv,false,false⟩ :: List.append R [⟨List.replicate n.toNat (ofC (Value.bool false)),((fun x => Try.prog) ()).types[4].size,0,false,true⟩],[(decide (i < n)) == true,decide (0 <= n),decide (n <= n),decide (n * 1 <= 1099511627776),decide (n <= 1099511627776),cv == cv,decide (0 <= i),decide (i.toNat < C.length),cv == cv],[(C.get?Internal i.toNat = some AV.vnil)],_⟩ (by kernel_rfl) (bc (Zas (Zaa.2 d2)) (bc (Zaa.2 k4) (bc (Zaa.2 (by omega)) (bc (Zaa.2 k7) (bc (Zaa.2 k9) (bc (beq_self_eq_true _) (bc (Zaa.2 k11) (bc (Zaa.2 k13) (bc (beq_self_eq_true _) b0))))))))) (qc k14 q0) c0 (by (try rw [w16]);all_goals exact H)
 ·exact Zab (G:=Zae kp36 [] []) 1000 [false] ⟨(atC (cd Try.f36) [1,1,1,0,1,0,0]),[(0,vi n),(1,AV.vec f 2 (List.map Pr.v ps)),(5,AV.row 0 cv),(7,vi 0)],⟨C,1,cv,false,false⟩ :: R,_,[],_⟩ (by kernel_rfl) (bc (Zap (fun h => d2 (Zaa.1 h))) b0) q0 c0 (H)
theorem dP (n:Int) (C:List AV) (cv:Nat) (R:Heap) (f:Bool) (ps:List Pr) (i:Int)  (Q:AV -> Heap -> Prop) (H :
  ((i < (↑ps.length:Int)) -> Wp M1 (.run fi36 (atC (cd Try.f36) [1,1,1,0,1,0,0,1,0,0]) [(0,vi n),(1,AV.vec f 2 (List.map Pr.v ps)),(5,AV.row 0 cv),(7,vi i)] ({ elems:=C,es:=1,ver:=cv,frozen:=false,clean:=false } :: R)) Q) /\
  (¬(i < (↑ps.length:Int)) -> dK_at (n) (C) (cv) (R) (0) Q)) :
 dP_at n C cv R f ps i Q:=by
 unfold dP_at
 have w1:(List.map Pr.v ps).length = ps.length:=List.length_map ..
 have i2:(decide (i < (↑(List.map Pr.v ps).length:Int))) = true ↔ (i < (↑ps.length:Int)):=(by (try rw [w1]);all_goals exact Zaa)
 rcases xq H with ⟨d3,H⟩|⟨d3,H⟩
 ·exact Zab (G:=Zae kp36 [] []) 7 [true] ⟨(atC (cd Try.f36) [1,1,1,0,1,0,0,1,0,0]),[(0,vi n),(1,AV.vec f 2 (List.map Pr.v ps)),(5,AV.row 0 cv),(7,vi i),(26,vb (decide (i < (↑(List.map Pr.v ps).length:Int))))],⟨C,1,cv,false,false⟩ :: R,_,[],_⟩ (by kernel_rfl) (bc (Zas (i2.2 d3)) b0) q0 c0 (by (try rw [w1]);all_goals exact Wp.less [0,1,5,7] (H))
 ·exact Zab (G:=Zae kp36 [] []) 1000 [false] ⟨(atC (cd Try.f36) [1,1,1,1,0,1,0,0]),[(0,vi n),(5,AV.row 0 cv),(8,vi 0)],⟨C,1,cv,false,false⟩ :: R,_,[],_⟩ (by kernel_rfl) (bc (Zap (fun h => d3 (i2.1 h))) b0) q0 c0 (H)
noncomputable abbrev zPxH1 (ps:List Pr) (i:Int):=ag [vi (ps.getD i.toNat default).a,vi (ps.getD i.toNat default).b]
theorem dPf (n:Int) (C:List AV) (cv:Nat) (R:Heap) (f:Bool) (ps:List Pr) (i:Int) (m:List Bool)  (Q:AV -> Heap -> Prop) (H :
  (0 <= i) /\
  (i.toNat < ps.length) /\
  (0 <= (ps.getD i.toNat default).a) /\
  ((ps.getD i.toNat default).a.toNat < C.length) /\
  (0 <= (ps.getD i.toNat default).b) /\
  ((ps.getD i.toNat default).b.toNat < m.length) /\
  (C.get?Internal (ps.getD i.toNat default).a.toNat = some (AV.row 1 0)) /\
  (-9223372036854775808 <= i + 1 /\ i + 1 <= 9223372036854775807) /\
  dP_at (n) (C) (cv) ({ elems:=List.map vb (m.set (ps.getD i.toNat default).b.toNat true),es:=1,ver:=0,frozen:=false,clean:=true } :: R) (f) (ps) (i + 1) Q) :
 dPf_at n C cv R f ps i m Q:=by
 unfold dPf_at
 obtain ⟨k2,H⟩:=H
 have w3:(List.map Pr.v ps).length = ps.length:=List.length_map ..
 have i4:(decide (i.toNat < (List.map Pr.v ps).length)) = true ↔ (i.toNat < ps.length):=(by (try rw [w3]);all_goals exact Zaa)
 obtain ⟨k5,k7,k9,H⟩:=H
 have i11:(decide (i.toNat < (List.map Pr.v ps).length)) = true ↔ (i.toNat < ps.length):=(by (try rw [w3]);all_goals exact Zaa)
 obtain ⟨k13,H⟩:=H
 have w14:(List.map vb m).length = m.length:=List.length_map ..
 have i15:(decide ((ps.getD i.toNat default).b.toNat < (List.map vb m).length)) = true ↔ ((ps.getD i.toNat default).b.toNat < m.length):=(by (try rw [w14]);all_goals exact Zaa)
 obtain ⟨k16,k17,H⟩:=H
 have w18:(List.map vb m).set (ps.getD i.toNat default).b.toNat (vb true) = List.map vb (m.set (ps.getD i.toNat default).b.toNat true):=(Zdk rfl rfl)
 obtain ⟨k19,H⟩:=H
 have w20:wi (i + 1) = i + 1:=wI64 k19
 exact Zab (G:=Zae kp36 [(9,5,.elem (zPxH1 ps i)),(9,7,(.elem (.row 1 0):Ans)),(9,12,.elem (zPxH1 ps i)),(9,14,.elem (vb (m.getD (ps.getD i.toNat default).b.toNat default)))] []) 1000 [] ⟨(atC (cd Try.f36) [1,1,1,0,1,0,0]),[(0,vi n),(1,AV.vec f 2 (List.map Pr.v ps)),(5,AV.row 0 cv),(7,vi (wi (i + 1)))],⟨C,1,cv,false,false⟩ :: ⟨(List.map vb m).set (ps.getD i.toNat default).b.toNat (vb true),1,0,false,true⟩ :: R,[decide (0 <= i),decide (i.toNat < (List.map Pr.v ps).length),true,true,cv == cv,decide (0 <= (ps.getD i.toNat default).a),decide ((ps.getD i.toNat default).a.toNat < C.length),cv == cv,decide (0 <= i),decide (i.toNat < (List.map Pr.v ps).length),true,true,true,decide (0 <= (ps.getD i.toNat default).b),decide ((ps.getD i.toNat default).b.toNat < (List.map vb m).length),true],[((List.map Pr.v ps).get?Internal i.toNat = some (zPxH1 ps i)),(C.get?Internal (ps.getD i.toNat default).a.toNat = some (AV.row 1 0)),((List.map Pr.v ps).get?Internal i.toNat = some (zPxH1 ps i)),((List.map vb m).get?Internal (ps.getD i.toNat default).b.toNat = some (vb (m.getD (ps.getD i.toNat default).b.toNat default)))],_⟩ (by kernel_rfl) (bc (Zaa.2 k2) (bc (i4.2 k5) (bc rfl (bc rfl (bc (beq_self_eq_true _) (bc (Zaa.2 k7) (bc (Zaa.2 k9) (bc (beq_self_eq_true _) (bc (Zaa.2 k2) (bc (i11.2 k5) (bc rfl (bc rfl (bc rfl (bc (Zaa.2 k13) (bc (i15.2 k16) (bc rfl b0)))))))))))))))) (qc (Zaq k5) (qc k17 (qc (Zaq k5) (qc (Zaq k16) q0)))) c0 (by (try rw [w18]);(try rw [w20]);all_goals exact H)
theorem dK (n:Int) (C:List AV) (cv:Nat) (R:Heap) (k:Int)  (Q:AV -> Heap -> Prop) (H :
  ((k < n) -> dA_at (n) (C) (cv) (R) (k) (0) Q) /\
  (¬(k < n) -> Q (AV.row 0 cv) ({ elems:=C,es:=1,ver:=cv,frozen:=false,clean:=false } :: R))) :
 dK_at n C cv R k Q:=by
 unfold dK_at
 rcases xq H with ⟨d2,H⟩|⟨d2,H⟩
 ·exact Zab (G:=Zae kp36 [] []) 1000 [true] ⟨(atC (cd Try.f36) [1,1,1,1,0,1,0,0,1,0,0,1,0,0]),[(0,vi n),(5,AV.row 0 cv),(8,vi k),(9,vi 0)],⟨C,1,cv,false,false⟩ :: R,_,[],_⟩ (by kernel_rfl) (bc (Zas (Zaa.2 d2)) b0) q0 c0 (H)
 ·exact ZaG (G:=Zae kp36 [] []) 1000 [false] (k:=((atC (cd Try.f36) [1,1,1,1,1,1])).tail) (env':=[(4,AV.row 0 cv)]) (L':=⟨C,1,cv,false,false⟩ :: R) (asm:=[(decide (k < n)) == false]) (eqs:=[]) (calls:=[]) (AV.row 0 cv) (by kernel_rfl) (by kernel_rfl) (Zaf (Zap (fun h => d2 (Zaa.1 h))) Zak) Zal ZaJ H
theorem dA (n:Int) (C:List AV) (cv:Nat) (R:Heap) (k a:Int)  (Q:AV -> Heap -> Prop) (H :
  ((a < n) -> dB_at (n) (C) (cv) (R) (k) (a) (0) Q) /\
  (¬(a < n) -> (-9223372036854775808 <= k + 1 /\ k + 1 <= 9223372036854775807) /\
   dK_at (n) (C) (cv) (R) (k + 1) Q)) :
 dA_at n C cv R k a Q:=by
 unfold dA_at
 rcases xq H with ⟨d2,H⟩|⟨d2,H⟩
 ·exact Zab (G:=Zae kp36 [] []) 1000 [true] ⟨(atC (cd Try.f36) [1,1,1,1,0,1,0,0,1,0,0,1,0,0,1,0,0,1,0,0]),[(0,vi n),(5,AV.row 0 cv),(8,vi k),(9,vi a),(10,vi 0)],⟨C,1,cv,false,false⟩ :: R,_,[],_⟩ (by kernel_rfl) (bc (Zas (Zaa.2 d2)) b0) q0 c0 (H)
 ·obtain ⟨k3,H⟩:=H
  have w4:wi (k + 1) = k + 1:=wI64 k3
  exact Zab (G:=Zae kp36 [] []) 1000 [false] ⟨(atC (cd Try.f36) [1,1,1,1,0,1,0,0]),[(0,vi n),(5,AV.row 0 cv),(8,vi (wi (k + 1)))],⟨C,1,cv,false,false⟩ :: R,_,[],_⟩ (by kernel_rfl) (bc (Zap (fun h => d2 (Zaa.1 h))) b0) q0 c0 (by (try rw [w4]);all_goals exact H)
theorem dB (n:Int) (C:List AV) (cv:Nat) (R:Heap) (k a b:Int)  (Q:AV -> Heap -> Prop) (H :
  ((b < n) -> Wp M1 (.run fi36 (atC (cd Try.f36) [1,1,1,1,0,1,0,0,1,0,0,1,0,0,1,0,0,1,0,0,1,0,0]) [(0,vi n),(5,AV.row 0 cv),(8,vi k),(9,vi a),(10,vi b)] ({ elems:=C,es:=1,ver:=cv,frozen:=false,clean:=false } :: R)) Q) /\
  (¬(b < n) -> (-9223372036854775808 <= a + 1 /\ a + 1 <= 9223372036854775807) /\
   dA_at (n) (C) (cv) (R) (k) (a + 1) Q)) :
 dB_at n C cv R k a b Q:=by
 unfold dB_at
 rcases xq H with ⟨d2,H⟩|⟨d2,H⟩
 ·exact Zab (G:=Zae kp36 [] []) 7 [true] ⟨(atC (cd Try.f36) [1,1,1,1,0,1,0,0,1,0,0,1,0,0,1,0,0,1,0,0,1,0,0]),[(0,vi n),(5,AV.row 0 cv),(8,vi k),(9,vi a),(10,vi b),(55,vb (decide (b < n)))],⟨C,1,cv,false,false⟩ :: R,_,[],_⟩ (by kernel_rfl) (bc (Zas (Zaa.2 d2)) b0) q0 c0 (Wp.less [0,5,8,9,10] (H))
 ·obtain ⟨k3,H⟩:=H
  have w4:wi (a + 1) = a + 1:=wI64 k3
  exact Zab (G:=Zae kp36 [] []) 1000 [false] ⟨(atC (cd Try.f36) [1,1,1,1,0,1,0,0,1,0,0,1,0,0]),[(0,vi n),(5,AV.row 0 cv),(8,vi k),(9,vi (wi (a + 1)))],⟨C,1,cv,false,false⟩ :: R,_,[],_⟩ (by kernel_rfl) (bc (Zap (fun h => d2 (Zaa.1 h))) b0) q0 c0 (by (try rw [w4]);all_goals exact H)
theorem dB1 (n:Int) (C:List AV) (cv:Nat) (R:Heap) (k a b:Int) (m:List Bool)  (Q:AV -> Heap -> Prop) (H :
  (0 <= a) /\
  (a.toNat < C.length) /\
  (0 <= b) /\
  (b.toNat < m.length) /\
  ((¬(m.getD b.toNat default = true)) -> (0 <= k)) /\
  ((¬(m.getD b.toNat default = true)) -> (k.toNat < m.length)) /\
  (((m.getD k.toNat default = true) /\ (¬(m.getD b.toNat default = true))) -> (0 <= k)) /\
  (((m.getD k.toNat default = true) /\ (¬(m.getD b.toNat default = true))) -> (k.toNat < C.length)) /\
  (C.get?Internal a.toNat = some (AV.row 1 0)) /\
  ((m.getD b.toNat default == false && true) = true -> C.get?Internal a.toNat = some (AV.row 1 0)) /\
  ((m.getD k.toNat default == true && (m.getD b.toNat default == false && true)) = true -> C.get?Internal k.toNat = some (AV.row 1 0)) /\
  (-9223372036854775808 <= b + 1 /\ b + 1 <= 9223372036854775807) /\
  dB_at (n) (C) (cv) ({ elems:=List.map vb (m.set b.toNat (bif m.getD b.toNat default then true else bif m.getD k.toNat default then m.getD b.toNat default else false)),es:=1,ver:=0,frozen:=false,clean:=true } :: R) (k) (a) (b + 1) Q) :
 dB1_at n C cv R k a b m Q:=by
 unfold dB1_at
 obtain ⟨k2,k4,k8,H⟩:=H
 have w9:(List.map vb m).length = m.length:=List.length_map ..
 have i10:(decide (b.toNat < (List.map vb m).length)) = true ↔ (b.toNat < m.length):=(by (try rw [w9]);all_goals exact Zaa)
 obtain ⟨k11,k17,H⟩:=H
 have i18:(!(m.getD b.toNat default == false && true) || decide (k.toNat < (List.map vb m).length)) = true ↔ ((¬(m.getD b.toNat default = true)) -> (k.toNat < m.length)):=(by (try rw [w9]);all_goals exact (ZaE (i_at (i_bf (Zar _))) Zaa))
 obtain ⟨k19,k22,k24,H⟩:=H
 have i27:(!(m.getD k.toNat default == true && (m.getD b.toNat default == false && true)) || decide (b.toNat < (List.map vb m).length)) = true ↔ (((m.getD k.toNat default = true) /\ (¬(m.getD b.toNat default = true))) -> (b.toNat < m.length)):=(by (try rw [w9]);all_goals exact (ZaE (Zem (i_bt (Zar _)) (i_at (i_bf (Zar _)))) Zaa))
 have i29:(decide (b.toNat < (List.map vb m).length)) = true ↔ (b.toNat < m.length):=(by (try rw [w9]);all_goals exact Zaa)
 obtain ⟨k30,k31,k33,H⟩:=H
 have w35:(List.map vb m).set b.toNat (vb (bif m.getD b.toNat default then true else bif m.getD k.toNat default then m.getD b.toNat default else false)) = List.map vb (m.set b.toNat (bif m.getD b.toNat default then true else bif m.getD k.toNat default then m.getD b.toNat default else false)):=(Zdk rfl rfl)
 obtain ⟨k36,H⟩:=H
 have w37:wi (b + 1) = b + 1:=wI64 k36
 exact Zab (G:=Zae kp36 [(19,3,(.elem (.row 1 0):Ans)),(19,8,(.elem (.row 1 0):Ans)),(19,11,.elem (vb (m.getD b.toNat default))),(19,16,(.elem (.row 1 0):Ans)),(19,19,.elem (vb (m.getD k.toNat default))),(19,24,(.elem (.row 1 0):Ans)),(19,27,.elem (vb (m.getD b.toNat default))),(19,31,.elem (vb (m.getD b.toNat default)))] []) 1000 [] ⟨(atC (cd Try.f36) [1,1,1,1,0,1,0,0,1,0,0,1,0,0,1,0,0,1,0,0]),[(0,vi n),(5,AV.row 0 cv),(8,vi k),(9,vi a),(10,vi (wi (b + 1)))],⟨C,1,cv,false,false⟩ :: ⟨(List.map vb m).set b.toNat (vb (bif m.getD b.toNat default then true else bif m.getD k.toNat default then m.getD b.toNat default else false)),1,0,false,true⟩ :: R,[cv == cv,decide (0 <= a),decide (a.toNat < C.length),cv == cv,cv == cv,decide (0 <= a),decide (a.toNat < C.length),cv == cv,true,decide (0 <= b),decide (b.toNat < (List.map vb m).length),true,!(m.getD b.toNat default == false && true) || cv == cv,!(m.getD b.toNat default == false && true) || decide (0 <= a),!(m.getD b.toNat default == false && true) || decide (a.toNat < C.length),!(m.getD b.toNat default == false && true) || cv == cv,!(m.getD b.toNat default == false && true) || true,!(m.getD b.toNat default == false && true) || decide (0 <= k),!(m.getD b.toNat default == false && true) || decide (k.toNat < (List.map vb m).length),!(m.getD b.toNat default == false && true) || true,!(m.getD k.toNat default == true && (m.getD b.toNat default == false && true)) || cv == cv,!(m.getD k.toNat default == true && (m.getD b.toNat default == false && true)) || decide (0 <= k),!(m.getD k.toNat default == true && (m.getD b.toNat default == false && true)) || decide (k.toNat < C.length),!(m.getD k.toNat default == true && (m.getD b.toNat default == false && true)) || cv == cv,!(m.getD k.toNat default == true && (m.getD b.toNat default == false && true)) || true,!(m.getD k.toNat default == true && (m.getD b.toNat default == false && true)) || decide (0 <= b),!(m.getD k.toNat default == true && (m.getD b.toNat default == false && true)) || decide (b.toNat < (List.map vb m).length),!(m.getD k.toNat default == true && (m.getD b.toNat default == false && true)) || true,true,decide (0 <= b),decide (b.toNat < (List.map vb m).length),true],[(C.get?Internal a.toNat = some (AV.row 1 0)),(C.get?Internal a.toNat = some (AV.row 1 0)),((List.map vb m).get?Internal b.toNat = some (vb (m.getD b.toNat default))),((m.getD b.toNat default == false && true) = true -> C.get?Internal a.toNat = some (AV.row 1 0)),((m.getD b.toNat default == false && true) = true -> (List.map vb m).get?Internal k.toNat = some (vb (m.getD k.toNat default))),((m.getD k.toNat default == true && (m.getD b.toNat default == false && true)) = true -> C.get?Internal k.toNat = some (AV.row 1 0)),((m.getD k.toNat default == true && (m.getD b.toNat default == false && true)) = true -> (List.map vb m).get?Internal b.toNat = some (vb (m.getD b.toNat default))),((List.map vb m).get?Internal b.toNat = some (vb (m.getD b.toNat default)))],_⟩ (by kernel_rfl) (bc (beq_self_eq_true _) (bc (Zaa.2 k2) (bc (Zaa.2 k4) (bc (beq_self_eq_true _) (bc (beq_self_eq_true _) (bc (Zaa.2 k2) (bc (Zaa.2 k4) (bc (beq_self_eq_true _) (bc rfl (bc (Zaa.2 k8) (bc (i10.2 k11) (bc rfl (bc ((ZaE (i_at (i_bf (Zar _))) i_eq).2 (fun _ => rfl)) (bc ((ZaE (i_at (i_bf (Zar _))) Zaa).2 (fun _ => k2)) (bc ((ZaE (i_at (i_bf (Zar _))) Zaa).2 (fun _ => k4)) (bc ((ZaE (i_at (i_bf (Zar _))) i_eq).2 (fun _ => rfl)) (bc (Bool.or_true _) (bc ((ZaE (i_at (i_bf (Zar _))) Zaa).2 k17) (bc (i18.2 k19) (bc (Bool.or_true _) (bc ((ZaE (Zem (i_bt (Zar _)) (i_at (i_bf (Zar _)))) i_eq).2 (fun _ => rfl)) (bc ((ZaE (Zem (i_bt (Zar _)) (i_at (i_bf (Zar _)))) Zaa).2 k22) (bc ((ZaE (Zem (i_bt (Zar _)) (i_at (i_bf (Zar _)))) Zaa).2 k24) (bc ((ZaE (Zem (i_bt (Zar _)) (i_at (i_bf (Zar _)))) i_eq).2 (fun _ => rfl)) (bc (Bool.or_true _) (bc ((ZaE (Zem (i_bt (Zar _)) (i_at (i_bf (Zar _)))) Zaa).2 (fun _ => k8)) (bc (i27.2 (fun _ => k11)) (bc (Bool.or_true _) (bc rfl (bc (Zaa.2 k8) (bc (i29.2 k11) (bc rfl b0)))))))))))))))))))))))))))))))) (qc k30 (qc k30 (qc (Zaq k11) (qc k31 (qc (fun h => Zaq (k19 ((i_at (i_bf (Zar _))).1 h))) (qc k33 (qc (fun h => Zaq k11) (qc (Zaq k11) q0)))))))) c0 (by (try rw [w35]);(try rw [w37]);all_goals exact H)
theorem dB2 (n:Int) (C:List AV) (cv:Nat) (R:Heap) (k a b:Int) (m o:List Bool)  (Q:AV -> Heap -> Prop) (H :
  (0 <= a) /\
  (a.toNat < C.length) /\
  (0 <= b) /\
  (b.toNat < m.length) /\
  ((¬(m.getD b.toNat default = true)) -> (0 <= k)) /\
  ((¬(m.getD b.toNat default = true)) -> (k.toNat < m.length)) /\
  (((m.getD k.toNat default = true) /\ (¬(m.getD b.toNat default = true))) -> (0 <= k)) /\
  (((m.getD k.toNat default = true) /\ (¬(m.getD b.toNat default = true))) -> (k.toNat < C.length)) /\
  (((m.getD k.toNat default = true) /\ (¬(m.getD b.toNat default = true))) -> (b.toNat < o.length)) /\
  (C.get?Internal a.toNat = some (AV.row 1 0)) /\
  ((m.getD b.toNat default == false && true) = true -> C.get?Internal a.toNat = some (AV.row 1 0)) /\
  ((m.getD k.toNat default == true && (m.getD b.toNat default == false && true)) = true -> C.get?Internal k.toNat = some (AV.row 2 0)) /\
  (-9223372036854775808 <= b + 1 /\ b + 1 <= 9223372036854775807) /\
  dB_at (n) (C) (cv) ({ elems:=List.map vb (m.set b.toNat (bif m.getD b.toNat default then true else bif m.getD k.toNat default then o.getD b.toNat default else false)),es:=1,ver:=0,frozen:=false,clean:=true } :: { elems:=List.map vb o,es:=1,ver:=0,frozen:=false,clean:=true } :: R) (k) (a) (b + 1) Q) :
 dB2_at n C cv R k a b m o Q:=by
 unfold dB2_at
 obtain ⟨k2,k4,k8,H⟩:=H
 have w9:(List.map vb m).length = m.length:=List.length_map ..
 have i10:(decide (b.toNat < (List.map vb m).length)) = true ↔ (b.toNat < m.length):=(by (try rw [w9]);all_goals exact Zaa)
 obtain ⟨k11,k17,H⟩:=H
 have i18:(!(m.getD b.toNat default == false && true) || decide (k.toNat < (List.map vb m).length)) = true ↔ ((¬(m.getD b.toNat default = true)) -> (k.toNat < m.length)):=(by (try rw [w9]);all_goals exact (ZaE (i_at (i_bf (Zar _))) Zaa))
 obtain ⟨k19,k22,k24,H⟩:=H
 have w27:(List.map vb o).length = o.length:=List.length_map ..
 have i28:(!(m.getD k.toNat default == true && (m.getD b.toNat default == false && true)) || decide (b.toNat < (List.map vb o).length)) = true ↔ (((m.getD k.toNat default = true) /\ (¬(m.getD b.toNat default = true))) -> (b.toNat < o.length)):=(by (try rw [w27]);all_goals exact (ZaE (Zem (i_bt (Zar _)) (i_at (i_bf (Zar _)))) Zaa))
 obtain ⟨k29,H⟩:=H
 have i31:(decide (b.toNat < (List.map vb m).length)) = true ↔ (b.toNat < m.length):=(by (try rw [w9]);all_goals exact Zaa)
 obtain ⟨k32,k33,k35,H⟩:=H
 have w37:(List.map vb m).set b.toNat (vb (bif m.getD b.toNat default then true else bif m.getD k.toNat default then o.getD b.toNat default else false)) = List.map vb (m.set b.toNat (bif m.getD b.toNat default then true else bif m.getD k.toNat default then o.getD b.toNat default else false)):=(Zdk rfl rfl)
 obtain ⟨k38,H⟩:=H
 have w39:wi (b + 1) = b + 1:=wI64 k38
 exact Zab (G:=Zae kp36 [(19,3,(.elem (.row 1 0):Ans)),(19,8,(.elem (.row 1 0):Ans)),(19,11,.elem (vb (m.getD b.toNat default))),(19,16,(.elem (.row 1 0):Ans)),(19,19,.elem (vb (m.getD k.toNat default))),(19,24,(.elem (.row 2 0):Ans)),(19,27,.elem (vb (o.getD b.toNat default))),(19,31,.elem (vb (m.getD b.toNat default)))] []) 1000 [] ⟨(atC (cd Try.f36) [1,1,1,1,0,1,0,0,1,0,0,1,0,0,1,0,0,1,0,0]),[(0,vi n),(5,AV.row 0 cv),(8,vi k),(9,vi a),(10,vi (wi (b + 1)))],⟨C,1,cv,false,false⟩ :: ⟨(List.map vb m).set b.toNat (vb (bif m.getD b.toNat default then true else bif m.getD k.toNat default then o.getD b.toNat default else false)),1,0,false,true⟩ :: ⟨List.map vb o,1,0,false,true⟩ :: R,[cv == cv,decide (0 <= a),decide (a.toNat < C.length),cv == cv,cv == cv,decide (0 <= a),decide (a.toNat < C.length),cv == cv,true,decide (0 <= b),decide (b.toNat < (List.map vb m).length),true,!(m.getD b.toNat default == false && true) || cv == cv,!(m.getD b.toNat default == false && true) || decide (0 <= a),!(m.getD b.toNat default == false && true) || decide (a.toNat < C.length),!(m.getD b.toNat default == false && true) || cv == cv,!(m.getD b.toNat default == false && true) || true,!(m.getD b.toNat default == false && true) || decide (0 <= k),!(m.getD b.toNat default == false && true) || decide (k.toNat < (List.map vb m).length),!(m.getD b.toNat default == false && true) || true,!(m.getD k.toNat default == true && (m.getD b.toNat default == false && true)) || cv == cv,!(m.getD k.toNat default == true && (m.getD b.toNat default == false && true)) || decide (0 <= k),!(m.getD k.toNat default == true && (m.getD b.toNat default == false && true)) || decide (k.toNat < C.length),!(m.getD k.toNat default == true && (m.getD b.toNat default == false && true)) || cv == cv,!(m.getD k.toNat default == true && (m.getD b.toNat default == false && true)) || true,!(m.getD k.toNat default == true && (m.getD b.toNat default == false && true)) || decide (0 <= b),!(m.getD k.toNat default == true && (m.getD b.toNat default == false && true)) || decide (b.toNat < (List.map vb o).length),!(m.getD k.toNat default == true && (m.getD b.toNat default == false && true)) || true,true,decide (0 <= b),decide (b.toNat < (List.map vb m).length),true],[(C.get?Internal a.toNat = some (AV.row 1 0)),(C.get?Internal a.toNat = some (AV.row 1 0)),((List.map vb m).get?Internal b.toNat = some (vb (m.getD b.toNat default))),((m.getD b.toNat default == false && true) = true -> C.get?Internal a.toNat = some (AV.row 1 0)),((m.getD b.toNat default == false && true) = true -> (List.map vb m).get?Internal k.toNat = some (vb (m.getD k.toNat default))),((m.getD k.toNat default == true && (m.getD b.toNat default == false && true)) = true -> C.get?Internal k.toNat = some (AV.row 2 0)),((m.getD k.toNat default == true && (m.getD b.toNat default == false && true)) = true -> (List.map vb o).get?Internal b.toNat = some (vb (o.getD b.toNat default))),((List.map vb m).get?Internal b.toNat = some (vb (m.getD b.toNat default)))],_⟩ (by kernel_rfl) (bc (beq_self_eq_true _) (bc (Zaa.2 k2) (bc (Zaa.2 k4) (bc (beq_self_eq_true _) (bc (beq_self_eq_true _) (bc (Zaa.2 k2) (bc (Zaa.2 k4) (bc (beq_self_eq_true _) (bc rfl (bc (Zaa.2 k8) (bc (i10.2 k11) (bc rfl (bc ((ZaE (i_at (i_bf (Zar _))) i_eq).2 (fun _ => rfl)) (bc ((ZaE (i_at (i_bf (Zar _))) Zaa).2 (fun _ => k2)) (bc ((ZaE (i_at (i_bf (Zar _))) Zaa).2 (fun _ => k4)) (bc ((ZaE (i_at (i_bf (Zar _))) i_eq).2 (fun _ => rfl)) (bc (Bool.or_true _) (bc ((ZaE (i_at (i_bf (Zar _))) Zaa).2 k17) (bc (i18.2 k19) (bc (Bool.or_true _) (bc ((ZaE (Zem (i_bt (Zar _)) (i_at (i_bf (Zar _)))) i_eq).2 (fun _ => rfl)) (bc ((ZaE (Zem (i_bt (Zar _)) (i_at (i_bf (Zar _)))) Zaa).2 k22) (bc ((ZaE (Zem (i_bt (Zar _)) (i_at (i_bf (Zar _)))) Zaa).2 k24) (bc ((ZaE (Zem (i_bt (Zar _)) (i_at (i_bf (Zar _)))) i_eq).2 (fun _ => rfl)) (bc (Bool.or_true _) (bc ((ZaE (Zem (i_bt (Zar _)) (i_at (i_bf (Zar _)))) Zaa).2 (fun _ => k8)) (bc (i28.2 k29) (bc (Bool.or_true _) (bc rfl (bc (Zaa.2 k8) (bc (i31.2 k11) (bc rfl b0)))))))))))))))))))))))))))))))) (qc k32 (qc k32 (qc (Zaq k11) (qc k33 (qc (fun h => Zaq (k19 ((i_at (i_bf (Zar _))).1 h))) (qc k35 (qc (fun h => Zaq (k29 ((Zem (i_bt (Zar _)) (i_at (i_bf (Zar _)))).1 h))) (qc (Zaq k11) q0)))))))) c0 (by (try rw [w37]);(try rw [w39]);all_goals exact H)
end Go.Av

namespace Go.Av
theorem Mx.congr {U:Nat} {os:List Nat} {L:Heap} {C C':Nat -> List AV} {cv cv':Nat -> Nat} {M M':Nat -> List (Option Row)} {ρ ρ':Nat -> Nat -> Nat} (h:Mx U os L C cv M ρ) (e:∀ u ∈ os,C u = C' u /\ cv u = cv' u /\ M u = M' u /\ ∀ j,ρ u j = ρ' u j):Mx U os L C' cv' M' ρ':=by
 refine ⟨h.len,h.osU,fun u hu => ?_,h.fix,h.cln,fun u hu j row hm => ?_,fun u hu j hm => ?_,fun u hu w hw i j r s h1 h2 h3 => ?_,fun u hu j row hm => ?_⟩
 ·obtain ⟨e1,e2,e3,_⟩:=e u hu
  rw [<- e1,<- e2,<- e3];exact h.out u hu
 ·obtain ⟨e1,e2,e3,e4⟩:=e u hu
  rw [<- e3] at hm
  rw [<- e1,<- e4];exact h.hit u hu j row hm
 ·obtain ⟨e1,_,e3,_⟩:=e u hu
  rw [<- e3] at hm
  rw [<- e1];exact h.nil u hu j hm
 ·obtain ⟨_,_,e3,e4⟩:=e u hu
  obtain ⟨_,_,f3,f4⟩:=e w hw
  rw [<- e3] at h1
  rw [<- f3] at h2
  rw [<- e4,<- f4] at h3
  exact h.inj u hu w hw i j r s h1 h2 h3
 ·rw [<- (e u hu).2.2.1] at hm;exact h.hcl u hu j row hm
def Mx1 (L:Heap) (C:List AV) (cv:Nat) (M:List (Option Row)) (ρ:Nat->Nat):Prop:=Mx 1 [0] L (fun _=>C) (fun _=>cv) (fun _=>M) (fun _=>ρ)
theorem list2 {α:Type} {L:List α} {x y:α} (h0:L[0]? = some x) (h1:L[1]? = some y):∃ R,L = x :: y :: R:=by
 match L,h0,h1 with
 | a :: b :: R,h0,h1 => exact ⟨R,by rw [Option.some.inj h0,Option.some.inj h1]⟩
theorem list3 {α:Type} {L:List α} {x y z:α} (h0:L[0]? = some x) (h1:L[1]? = some y) (h2:L[2]? = some z):∃ R,L = x :: y :: z :: R:=by
 match L,h0,h1,h2 with
 | a :: b :: c :: R,h0,h1,h2 => exact ⟨R,by rw [Option.some.inj h0,Option.some.inj h1,Option.some.inj h2]⟩
theorem Mx1.out' {L:Heap} {C:List AV} {cv:Nat} {M:List (Option Row)} {ρ:Nat->Nat} (h:Mx1 L C cv M ρ):L[0]? = some ⟨C,1,cv,false,false⟩/\C.length=M.length:=Mx.out h 0 (by simp)
theorem Mx1.hit' {L:Heap} {C:List AV} {cv:Nat} {M:List (Option Row)} {ρ:Nat->Nat} (h:Mx1 L C cv M ρ) {j:Nat} {row:Row} (hm:M[j]? = some (some row)):C[j]? = some (.row (ρ j) row.ver)/\L[ρ j]? = some row/\1<=ρ j:=Mx.hit h 0 (by simp) j row hm
theorem Mx1.cell {C:List AV} {cv:Nat} {R:Heap} {M:List (Option Row)} {ρ:Nat -> Nat} (h:Mx1 (⟨C,1,cv,false,false⟩ :: R) C cv M ρ) {a:Nat} (ha:a < M.length) {rb:Row} (hc:rb.clean = true) :
  ∃ ρ',Mx1 (⟨C.set a (.row (R.length + 1) rb.ver),1,cv,false,false⟩ :: (R ++ [rb])) (C.set a (.row (R.length + 1) rb.ver)) cv (M.set a (some rb)) ρ':=by
 have:=Mx.cell h (u:=0) (a:=a) (by simp) ha hc
 exact ⟨fun j => if j = a then R.length + 1 else ρ j,this.congr fun u hu => by
  rw [List.mem_singleton] at hu;subst hu
  refine ⟨by rw [if_pos rfl];rfl,rfl,by rw [if_pos rfl],fun j => ?_⟩
  by_cases e:j = a
  ·rw [if_pos ⟨rfl,e⟩,if_pos e];rfl
  ·rw [if_neg fun x => e x.2,if_neg e]⟩
theorem Mx1.upd1 {C:List AV} {cv:Nat} {x ra rb:Row} {R:Heap} {M:List (Option Row)} {ρ:Nat -> Nat} (h:Mx1 (x :: ra :: R) C cv M ρ) {a:Nat} (ha:M[a]? = some (some ra)) (h1:ρ a = 1) (hc:rb.clean = true) (hv:rb.ver = ra.ver):Mx1 (x :: rb :: R) C cv (M.set a (some rb)) ρ:=by
 have:=Mx.upd h (u:=0) (a:=a) (by simp) ha hc hv
 simp only [h1] at this
 exact this.congr fun u hu => by
  rw [List.mem_singleton] at hu;subst hu
  exact ⟨rfl,rfl,by rw [if_pos rfl],fun _ => rfl⟩
theorem focus1 {N:Mach} {fi:Fi} {k:List Item} {env:Vars} {L:Heap} {d:AV} {C:List AV} {cv:Nat} {M:List (Option Row)} {ρ:Nat -> Nat} (h:Mx1 L C cv M ρ) (henv:(rowsL (env.map (·.2))).all (fun r => Nat.blt r 1) = true) {a:Nat} {ra:Row} (ha:M[a]? = some (some ra))
  (H:∀ C' R ρ',Mx1 (⟨C',1,cv,false,false⟩ :: ra :: R) C' cv M ρ' -> ρ' a = 1 -> C'[a]? = some (.row 1 ra.ver) -> Wp N (.run fi k env (⟨C',1,cv,false,false⟩ :: ra :: R)) (ZaM d)):Wp N (.run fi k env L) (ZaM d):=by
 obtain ⟨e1,e2,e3⟩:=h.hit' ha
 have hl:=(List.getElem?_eq_some_iff.1 e2).1
 refine ZdC h henv (u:=0) (a:=a) (p:=1) (by simp) ha (Nat.le_refl 1) (by omega) fun L' C' ρ' hM hlen hp hρ _ _ => ?_
 have hM1:Mx1 L' (C' 0) cv M (ρ' 0):=hM.congr fun u hu => by
  rw [List.mem_singleton] at hu;subst hu
  exact ⟨rfl,rfl,rfl,fun _ => rfl⟩
 obtain ⟨R,rfl⟩:=list2 hM1.out'.1 hp
 have:=(hM1.hit' ha).1
 rw [hρ] at this
 exact H (C' 0) R (ρ' 0) hM1 hρ this
theorem focus2 {N:Mach} {fi:Fi} {k:List Item} {env:Vars} {L:Heap} {d:AV} {C:List AV} {cv:Nat} {M:List (Option Row)} {ρ:Nat -> Nat} (h:Mx1 L C cv M ρ) (henv:(rowsL (env.map (·.2))).all (fun r => Nat.blt r 1) = true) {a b:Nat} {ra rb:Row} (ha:M[a]? = some (some ra)) (hb:M[b]? = some (some rb)) (hab:a ≠ b)
  (H:∀ C' R ρ',Mx1 (⟨C',1,cv,false,false⟩ :: ra :: rb :: R) C' cv M ρ' -> ρ' a = 1 -> C'[a]? = some (.row 1 ra.ver) -> C'[b]? = some (.row 2 rb.ver) -> Wp N (.run fi k env (⟨C',1,cv,false,false⟩ :: ra :: rb :: R)) (ZaM d)):Wp N (.run fi k env L) (ZaM d):=by
 refine focus1 h henv ha fun C1 R1 ρ1 h1 h1a _ => ?_
 obtain ⟨e1,e2,e3⟩:=h1.hit' hb
 have hne:ρ1 b ≠ 1:=fun e => hab (Mx.inj h1 0 (by simp) 0 (by simp) a b ra rb ha hb (by rw [h1a,e])).2
 have hl:=(List.getElem?_eq_some_iff.1 e2).1
 refine ZdC h1 henv (u:=0) (a:=b) (p:=2) (by simp) hb (by omega) (by omega) fun L' C' ρ' hM hlen hp hρ ho _ => ?_
 have hM1:Mx1 L' (C' 0) cv M (ρ' 0):=hM.congr fun u hu => by
  rw [List.mem_singleton] at hu;subst hu
  exact ⟨rfl,rfl,rfl,fun _ => rfl⟩
 have hra:ρ' 0 a = 1:=by
  have:=ho 0 (by simp) a ra ha (by rw [h1a];omega) (by rw [h1a];exact fun e => hne e.symm)
  rw [this];exact h1a
 obtain ⟨ca,la,_⟩:=hM1.hit' ha
 rw [hra] at ca la
 obtain ⟨R,rfl⟩:=list3 hM1.out'.1 la hp
 have cb:=(hM1.hit' hb).1
 rw [hρ] at cb
 exact H (C' 0) R (ρ' 0) hM1 hra ca cb
theorem Mx1.deep {C:List AV} {cv:Nat} {L:Heap} {M:List (Option Row)} {ρ:Nat -> Nat} (h:Mx1 L C cv M ρ) {d:AV} (hd:.vec false 1 (M.map Zc6) = d):ZaM d (.row 0 cv) L:=by
 obtain ⟨h1,h2⟩:=Mx.deep h (u:=0) (by simp)
 subst hd
 exact deep_of h1 h2
end Go.Av

namespace Go.Av
open Go.Proofs
def Mb (m:List Bool):AV:=.vec false 1 (m.map (.bool))
abbrev bRow (m:List Bool):Row:=⟨m.map (.bool),1,0,false,true⟩
def ZeK (M:List (List Bool)):List (Option Row):=M.map fun m=>some (bRow m)
theorem mRows_at {M:List (List Bool)} {a:Nat} (h:a < M.length):(ZeK M)[a]? = some (some (bRow (M.getD a []))):=by
 unfold ZeK
 rw [List.getElem?_map,List.getElem?_eq_getElem h,List.getD_eq_getElem?_getD,List.getElem?_eq_getElem h];rfl
theorem Zfw {M:List (List Bool)} {a:Nat} {m:List Bool}:(ZeK M).set a (some (bRow m)) = ZeK (M.set a m):=by
 unfold ZeK;rw [List.map_set]
namespace Sp
noncomputable def tab (n:Nat) (ps:List Pr):List (List Bool):=(List.range n).map fun (a:Nat)=>(List.range n).map fun (b:Nat) => @decide (dep ps a b) (Classical.propDecidable _)
end Sp
theorem tab_get {n:Nat} {ps:List Pr} {a b:Nat} (ha:a < n) (hb:b < n):Sp.ZbW (Sp.tab n ps) a b = true ↔ Sp.dep ps a b:=by
 unfold Sp.ZbW Sp.tab
 rw [List.getD_eq_getElem?_getD (l:=(List.range n).map _),List.getElem?_map,List.getElem?_range ha,Option.map_some,Option.getD_some,List.getD_eq_getElem?_getD,List.getElem?_map,List.getElem?_range hb,Option.map_some,Option.getD_some]
 exact @decide_eq_true_iff _ (Classical.propDecidable _)
theorem tab_dim (n:Nat) (ps:List Pr):Sp.mDim n (Sp.tab n ps):=by
 unfold Sp.tab
 refine ⟨by simp,fun a ha => ?_⟩
 rw [List.getD_eq_getElem?_getD,List.getElem?_map,List.getElem?_range ha];simp
theorem mat_ext {n:Nat} {M N:List (List Bool)} (hM:Sp.mDim n M) (hN:Sp.mDim n N) (h:∀ a b,a < n -> b < n -> Sp.ZbW M a b = Sp.ZbW N a b):M = N:=by
 apply List.ext_getElem?
 intro a
 by_cases ha:a < n
 ·have e1:M[a]? = some (M.getD a []):=by rw [List.getD_eq_getElem?_getD,List.getElem?_eq_getElem (by rw [hM.1];exact ha)];rfl
  have e2:N[a]? = some (N.getD a []):=by rw [List.getD_eq_getElem?_getD,List.getElem?_eq_getElem (by rw [hN.1];exact ha)];rfl
  rw [e1,e2]
  congr 1
  apply List.ext_getElem?
  intro b
  by_cases hb:b < n
  ·have:=h a b ha hb
   unfold Sp.ZbW at this
   have f1:(M.getD a [])[b]? = some ((M.getD a []).getD b false):=by rw [List.getD_eq_getElem?_getD (l:=M.getD a []),List.getElem?_eq_getElem (by rw [hM.2 a ha];exact hb)];rfl
   have f2:(N.getD a [])[b]? = some ((N.getD a []).getD b false):=by rw [List.getD_eq_getElem?_getD (l:=N.getD a []),List.getElem?_eq_getElem (by rw [hN.2 a ha];exact hb)];rfl
   rw [f1,f2,this]
  ·rw [List.getElem?_eq_none (by rw [hM.2 a ha];omega),List.getElem?_eq_none (by rw [hN.2 a ha];omega)]
 ·rw [List.getElem?_eq_none (by rw [hM.1];omega),List.getElem?_eq_none (by rw [hN.1];omega)]
def DI (n:Nat) (C:List AV) (cv:Nat) (R:Heap) (M:List (List Bool)):Prop:=Sp.mDim n M /\ ∃ ρ,Mx1 (⟨C,1,cv,false,false⟩::R) C cv (ZeK M) ρ
section
variable {n:Nat} {ps:List Pr} {d:AV}
theorem dK_loop (hv:Sp.okV n ps) (hn:n <= 1000) (hd:.vec false 1 ((Sp.tab n ps).map Mb) = d):∀ (c k:Nat) (C:List AV) (cv:Nat) (R:Heap) (M:List (List Bool)),k + c = n -> DI n C cv R M -> Sp.mSnd ps n M -> Sp.mCpl ps n k M -> dK_at n C cv R k (ZaM d):=by
 intro c
 induction c with
 | zero =>
  intro k C cv R M hk hD hs hc
  have hkn:k = n:=by omega
  subst hkn
  obtain ⟨hd1,ρ,hM⟩:=hD
  have e:M = Sp.tab k ps:=mat_ext hd1 (tab_dim k ps) fun a b ha hb => by
   rw [Bool.eq_iff_iff,tab_get ha hb]
   exact tab_end hv hs hc ha hb
  refine dK _ _ _ _ _ _ ⟨fun z => by omega,fun _ => hM.deep ?_⟩
  rw [<- hd,<- e]
  unfold ZeK
  rw [List.map_map];rfl
 | succ c ih =>
  intro k C cv R M hk hD hs hc
  have hkn:k < n:=by omega
  refine dK _ _ _ _ _ _ ⟨fun _ => ?_,fun z => by omega⟩
  have rowL:∀ (c' a:Nat) (C:List AV) (cv:Nat) (R:Heap) (N:List (List Bool)),a + c' = n -> DI n C cv R N -> Sp.mSnd ps n N -> Sp.mStg n k M N (fun i _ => i < a) -> dA_at n C cv R k a (ZaM d):=by
   intro c'
   induction c' with
   | zero =>
    intro a C cv R N ha hD hs hst
    refine dA _ _ _ _ _ _ _ ⟨fun z => by omega,fun _ => ⟨by omega,ih (k + 1) C cv R N (by omega) hD hs (stg_end hkn hc ⟨hst.1,fun i j hi hj _ => hst.2 i j hi hj (by omega)⟩)⟩⟩
   | succ c' ihA =>
    intro a C cv R N ha hD hs hst
    have han:a < n:=by omega
    refine dA _ _ _ _ _ _ _ ⟨fun _ => ?_,fun z => by omega⟩
    have colL:∀ (c'' b:Nat) (C:List AV) (cv:Nat) (R:Heap) (N:List (List Bool)),b + c'' = n -> DI n C cv R N -> Sp.mSnd ps n N -> Sp.mStg n k M N (fun i j => i < a \/ (i = a /\ j < b)) -> dB_at n C cv R k a b (ZaM d):=by
     intro c''
     induction c'' with
     | zero =>
      intro b C cv R N hb hD hs hst
      refine dB _ _ _ _ _ _ _ _ ⟨fun z => by omega,fun _ => ⟨by omega,ihA (a + 1) C cv R N (by omega) hD hs ⟨hst.1,fun i j hi hj hp => hst.2 i j hi hj ?_⟩⟩⟩
      by_cases e:i < a
      ·exact .inl e
      ·exact .inr ⟨by omega,by omega⟩
     | succ c'' ihB =>
      intro b C cv R N hb hD hs hst
      have hbn:b < n:=by omega
      refine dB _ _ _ _ _ _ _ _ ⟨fun _ => ?_,fun z => by omega⟩
      obtain ⟨hd1,ρ,hM⟩:=hD
      obtain ⟨s1,s2,s3⟩:=stg_step (b:=b) hd1 han hbn hkn hs hst
      have hst':Sp.mStg n k M (Sp.mSet N a b (Sp.ZbW N a b || (Sp.ZbW N a k && Sp.ZbW N k b))) (fun i j => i < a \/ (i = a /\ j < b + 1)):=⟨s3.1,fun i j hi hj hp => s3.2 i j hi hj (by
       rcases hp with hp | ⟨hp,hq⟩
       ·exact .inl (.inl hp)
       ·by_cases e:j = b
        ·exact .inr ⟨hp,e⟩
        ·exact .inl (.inr ⟨hp,by omega⟩))⟩
      have hra:=mRows_at (M:=N) (a:=a) (by rw [hd1.1];exact han)
      have hla:=hd1.2 a han
      by_cases e:a = k
      ·subst e
       refine focus1 hM (by rfl) hra fun C' R' ρ' h1 h2 h3 => ?_
       have hcl:C'.length = n:=by have:=h1.out'.2;unfold ZeK at this;rw [this,List.length_map,hd1.1]
       refine (dB1 _ _ _ _ _ _ _ (N.getD a []) _ ?_:dB1_at n C' cv R' a a b (N.getD a []) (ZaM d))
       rw [Int.toNat_natCast,Int.toNat_natCast]
       refine ⟨by omega,by rw [hcl];exact han,by omega,by rw [hla];exact hbn,fun _ => by omega,fun _ => by rw [hla];exact han,fun _ => by omega,fun _ => by rw [hcl];exact han,h3,fun _ => h3,fun _ => h3,by omega,?_⟩
       have hu:=h1.upd1 hra h2 (rb:=bRow ((N.getD a []).set b (Sp.ZbW N a b || (Sp.ZbW N a a && Sp.ZbW N a b)))) rfl rfl
       rw [Zfw] at hu
       have hn:=ihB (b + 1) C' cv _ _ (by omega) ⟨s1,ρ',hu⟩ s2 hst'
       have hval:(bif (N.getD a []).getD b default then true else bif (N.getD a []).getD a default then (N.getD a []).getD b default else false) = (Sp.ZbW N a b || (Sp.ZbW N a a && Sp.ZbW N a b)):=by
        unfold Sp.ZbW
        show (bif (N.getD a []).getD b false then true else bif (N.getD a []).getD a false then (N.getD a []).getD b false else false) = _
        cases (N.getD a []).getD b false <;> cases (N.getD a []).getD a false <;> rfl
       rw [hval]
       exact hn
      ·have hrk:=mRows_at (M:=N) (a:=k) (by rw [hd1.1];exact hkn)
       have hlk:=hd1.2 k hkn
       refine focus2 hM (by rfl) hra hrk e fun C' R' ρ' h1 h2 h3 h4 => ?_
       have hcl:C'.length = n:=by have:=h1.out'.2;unfold ZeK at this;rw [this,List.length_map,hd1.1]
       refine (dB2 _ _ _ _ _ _ _ (N.getD a []) (N.getD k []) _ ?_:dB2_at n C' cv R' k a b (N.getD a []) (N.getD k []) (ZaM d))
       rw [Int.toNat_natCast,Int.toNat_natCast,Int.toNat_natCast]
       refine ⟨by omega,by rw [hcl];exact han,by omega,by rw [hla];exact hbn,fun _ => by omega,fun _ => by rw [hla];exact hkn,fun _ => by omega,fun _ => by rw [hcl];exact hkn,fun _ => by rw [hlk];exact hbn,h3,fun _ => h3,fun _ => h4,by omega,?_⟩
       have hu:=h1.upd1 hra h2 (rb:=bRow ((N.getD a []).set b (Sp.ZbW N a b || (Sp.ZbW N a k && Sp.ZbW N k b)))) rfl rfl
       rw [Zfw] at hu
       have hn:=ihB (b + 1) C' cv _ _ (by omega) ⟨s1,ρ',hu⟩ s2 hst'
       have hval:(bif (N.getD a []).getD b default then true else bif (N.getD a []).getD k default then (N.getD k []).getD b default else false) = (Sp.ZbW N a b || (Sp.ZbW N a k && Sp.ZbW N k b)):=by
        unfold Sp.ZbW
        show (bif (N.getD a []).getD b false then true else bif (N.getD a []).getD k false then (N.getD k []).getD b false else false) = _
        cases (N.getD a []).getD b false <;> cases (N.getD a []).getD k false <;> cases (N.getD k []).getD b false <;> rfl
       rw [hval]
       exact hn
    exact colL n 0 C cv R N (by omega) hD hs ⟨hst.1,fun i j hi hj hp => hst.2 i j hi hj (by rcases hp with hp | ⟨_,hp⟩ <;> omega)⟩
  exact rowL n 0 C cv R M (by omega) hD hs ⟨fun i j _ _ h => h,fun i j _ _ hp => by omega⟩
theorem dP_loop (f:Bool) (hv:Sp.okV n ps) (hn:n <= 1000) (hpl:ps.length <= 1000000) (hd:.vec false 1 ((Sp.tab n ps).map Mb) = d):∀ (c i:Nat) (C:List AV) (cv:Nat) (R:Heap) (M:List (List Bool)),i + c = ps.length -> DI n C cv R M ->
  (∀ a b:Nat,a < n -> b < n -> (Sp.ZbW M a b = true ↔ Sp.edge (ps.take i) a b)) -> dP_at n C cv R f ps i (ZaM d):=by
 intro c
 induction c with
 | zero =>
  intro i C cv R M hi hD hM
  rw [List.take_of_length_le (by omega)] at hM
  refine dP _ _ _ _ _ _ _ _ ⟨fun z => by omega,fun _ => dK_loop hv hn hd n 0 C cv R M (by omega) hD (fun a b ha hb h => .one ((hM a b ha hb).1 h)) fun a b ha hb h => (hM a b ha hb).2 ?_⟩
  cases h with
  | one e => exact e
  | cons e hm _ =>
   obtain ⟨p,hp,_,rfl⟩:=e
   have:=hv p hp
   have h0:p.b < ((0:Nat):Int):=hm
   omega
 | succ c ih =>
  intro i C cv R M hi hD hM
  have hlt:i < ps.length:=by omega
  have hp:=hv _ (getD_mem hlt)
  refine dP _ _ _ _ _ _ _ _ ⟨fun _ => ?_,fun z => by omega⟩
  obtain ⟨hd1,ρ,hMx⟩:=hD
  obtain ⟨a,ha⟩:=Int.eq_ofNat_of_zero_le hp.1
  obtain ⟨b,hb⟩:=Int.eq_ofNat_of_zero_le hp.2.2.1
  have han:a < n:=by omega
  have hbn:b < n:=by omega
  have hra:=mRows_at (M:=M) (a:=a) (by rw [hd1.1];exact han)
  refine focus1 hMx (by rfl) hra fun C' R' ρ' h1 h2 h3 => ?_
  have hcl:C'.length = n:=by have:=h1.out'.2;unfold ZeK at this;rw [this,List.length_map,hd1.1]
  refine (dPf _ _ _ _ _ _ _ (M.getD a []) _ ?_:dPf_at n C' cv R' f ps i (M.getD a []) (ZaM d))
  rw [Int.toNat_natCast,ha,hb,Int.toNat_natCast,Int.toNat_natCast]
  refine ⟨by omega,hlt,by omega,by rw [hcl];exact han,by omega,by rw [hd1.2 a han];exact hbn,h3,by omega,?_⟩
  have hu:=h1.upd1 hra h2 (rb:=bRow ((M.getD a []).set b true)) rfl rfl
  rw [Zfw] at hu
  refine ih (i + 1) C' cv _ (Sp.mSet M a b true) (by omega) ⟨mDim_set hd1 han,ρ',hu⟩ fun x y hx hy => ?_
  rw [ZeW hd1 han hbn,List.take_succ_eq_append_getElem hlt]
  have hpi:ps[i] = ps.getD i default:=by rw [List.getD_eq_getElem?_getD,List.getElem?_eq_getElem hlt];rfl
  have hed:Sp.edge (ps.take i ++ [ps[i]]) x y ↔ Sp.edge (ps.take i) x y \/ ((a:Int) = x /\ (b:Int) = y):=by
   unfold Sp.edge
   constructor
   ·rintro ⟨p,hp,e1,e2⟩
    rw [List.mem_append,List.mem_singleton] at hp
    rcases hp with hp | rfl
    ·exact .inl ⟨p,hp,e1,e2⟩
    ·rw [hpi,ha] at e1
     rw [hpi,hb] at e2
     exact .inr ⟨e1,e2⟩
   ·rintro (⟨p,hp,e⟩ | ⟨e1,e2⟩)
    ·exact ⟨p,List.mem_append_left _ hp,e⟩
    ·exact ⟨ps[i],List.mem_append_right _ (by simp),by rw [hpi,ha];exact e1,by rw [hpi,hb];exact e2⟩
  rw [hed]
  by_cases e:x = a /\ y = b
  ·rw [if_pos e]
   exact ⟨fun _ => .inr ⟨by rw [e.1],by rw [e.2]⟩,fun _ => rfl⟩
  ·rw [if_neg e,hM x y hx hy]
   exact ⟨.inl,fun h => h.resolve_right fun ⟨h1,h2⟩ => e ⟨by omega,by omega⟩⟩
end
end Go.Av

namespace Go.Av
open Go.Proofs
theorem Mx1.base (n:Nat):Mx1 [⟨List.replicate n .vnil,1,0,false,false⟩] (List.replicate n .vnil) 0 (List.replicate n none) (fun _ => 1):=by
 have no:∀ (j:Nat) (row:Row),(List.replicate n (none:Option Row))[j]? = some (some row) -> False:=fun j row h => by
  rw [List.getElem?_replicate] at h
  split at h
  ·cases h
  ·cases h
 refine ⟨by simp,by simp,fun u hu => ?_,fun r row hr hno => ?_,fun r row hr hrow => ?_,fun u _ j row h => (no j row h).elim,fun u _ j h => ?_,fun u _ w _ i j r s h => (no i r h).elim,fun u _ j row h => (no j row h).elim⟩
 ·rw [List.mem_singleton] at hu;subst hu
  exact ⟨rfl,by simp⟩
 ·exact absurd (show r = 0 by omega) (by simpa using hno)
 ·have:=(List.getElem?_eq_some_iff.1 hrow).1
  simp at this;omega
 ·rw [List.getElem?_replicate] at h ⊢
  split at h
  ·rename_i hj;rw [if_pos hj]
  ·cases h
theorem dI_loop {n:Nat} {ps:List Pr} {d:AV} (f:Bool) (hv:Sp.okV n ps) (hn:n <= 1000) (hpl:ps.length <= 1000000) (hd:.vec false 1 ((Sp.tab n ps).map Mb) = d):∀ (c i:Nat) (C:List AV) (cv:Nat) (R:Heap) (ρ:Nat -> Nat),i + c = n ->
  Mx1 (⟨C,1,cv,false,false⟩ :: R) C cv (List.replicate i (some (bRow (List.replicate n false))) ++ List.replicate c none) ρ -> dI_at n C cv R f ps i (ZaM d):=by
 intro c
 induction c with
 | zero =>
  intro i C cv R ρ hi hM
  have hin:i = n:=by omega
  subst hin
  rw [List.replicate_zero,List.append_nil] at hM
  have e:List.replicate i (some (bRow (List.replicate i false))) = ZeK (List.replicate i (List.replicate i false)):=by unfold ZeK;rw [List.map_replicate]
  rw [e] at hM
  have hdim:Sp.mDim i (List.replicate i (List.replicate i false)):=⟨by simp,fun a ha => by
   rw [List.getD_eq_getElem?_getD,List.getElem?_replicate,if_pos ha];simp⟩
  refine dI _ _ _ _ _ _ _ _ ⟨fun z => by omega,fun _ => dP_loop f hv hn hpl hd ps.length 0 C cv R _ (by omega) ⟨hdim,ρ,hM⟩ fun a b ha hb => ?_⟩
  unfold Sp.ZbW
  rw [List.getD_eq_getElem?_getD (l:=List.replicate i (List.replicate i false)),List.getElem?_replicate,if_pos ha,Option.getD_some,List.getD_eq_getElem?_getD,List.getElem?_replicate,if_pos hb]
  constructor
  ·intro h;cases h
  ·rintro ⟨p,hp,_⟩;simp at hp
 | succ c ih =>
  intro i C cv R ρ hi hM
  have hlen:=hM.out'.2
  simp only [List.length_append,List.length_replicate] at hlen
  have hnone:(List.replicate i (some (bRow (List.replicate n false))) ++ List.replicate (c + 1) (none:Option Row))[i]? = some none:=by
   rw [List.getElem?_append_right (by simp),List.length_replicate,Nat.sub_self,List.replicate_succ];rfl
  have hC:=Mx.nil hM 0 (by simp) i hnone
  refine dI _ _ _ _ _ _ _ _ ⟨fun _ => ?_,fun z => by omega⟩
  rw [Int.toNat_natCast,Int.toNat_natCast]
  obtain ⟨ρ',h'⟩:=Mx1.cell hM (a:=i) (rb:=bRow (List.replicate n false)) (by simp) rfl
  have e:(List.replicate i (some (bRow (List.replicate n false))) ++ List.replicate (c + 1) (none:Option Row)).set i (some (bRow (List.replicate n false))) = List.replicate (i + 1) (some (bRow (List.replicate n false))) ++ List.replicate c none:=by
   rw [List.set_append_right _ _ (by simp),List.length_replicate,Nat.sub_self,List.replicate_succ,List.set_cons_zero,List.replicate_succ',List.append_assoc];rfl
  rw [e] at h'
  have hnext:=ih (i + 1) _ cv _ ρ' (by omega) h'
  have er:bRow (List.replicate n false) = ⟨List.replicate n (.bool false),1,0,false,true⟩:=by unfold bRow;rw [List.map_replicate]
  rw [er] at hnext
  exact ⟨by omega,by omega,by omega,by omega,by omega,hC,by omega,hnext⟩
structure Bw where
 l:List Bool
 deriving Inhabited
def Bw.a (x:Bw):AV:=.vec false 1 (x.l.map (.bool))
noncomputable def Sp.tabW (n:Nat) (ps:List Pr):List Bw:=(Sp.tab n ps).map Bw.mk
theorem tabW_a (n:Nat) (ps:List Pr):(Sp.tabW n ps).map Bw.a=(Sp.tab n ps).map Mb:=by unfold Sp.tabW;rw [List.map_map];rfl
theorem tabW_get {n:Nat} {ps:List Pr} {a:Nat} (ha:a < n):((Sp.tabW n ps).getD a default).l = (Sp.tab n ps).getD a []:=by
 have h:=(tab_dim n ps).1
 unfold Sp.tabW
 rw [List.getD_eq_getElem?_getD,List.getElem?_map,List.getElem?_eq_getElem (by rw [h];exact ha),List.getD_eq_getElem?_getD,List.getElem?_eq_getElem (by rw [h];exact ha)];rfl
theorem tabW_len (n:Nat) (ps:List Pr):(Sp.tabW n ps).length=n:=by unfold Sp.tabW;rw [List.length_map,(tab_dim n ps).1]
theorem dep_ev (n:Nat) (f:Bool) (ps:List Pr) (h:Sp.okV n ps /\ n <= 1000 /\ ps.length <= 1000000):Ev M1 (.pure 36 [.int .i64 n,.vec f 2 (ps.map Pr.v)]) (.vec false 1 ((Sp.tabW n ps).map Bw.a)) []:=by
 obtain ⟨hv,hn,hpl⟩:=h
 rw [tabW_a]
 refine ZfR hm1 Try.f36 fi36 (by kernel_rfl) (by kernel_rfl) (by kernel_rfl) (by kernel_rfl) (dD _ _ _ _ ⟨by omega,by omega,by omega,?_⟩)
 rw [Int.toNat_natCast]
 cases n with
 | zero =>
  have hps:ps = []:=by
   cases ps with
   | nil => rfl
   | cons p ps => have:=hv p (by simp);omega
  subst hps
  refine dI0 _ _ _ _ _ ⟨fun z => by omega,fun _ => (dP0 _ _ _ _ _ ⟨fun z => by simp at z,fun _ => dK0 _ _ _ ⟨fun z => by omega,fun _ => ?_⟩⟩:dP0_at ((0:Nat):Int) f [] 0 _)⟩
  exact deep_of rfl (Zaf (by simp [Zbd]) Zak)
 | succ n =>
  obtain ⟨ρ',h'⟩:=Mx1.cell (Mx1.base (n + 1)) (a:=0) (rb:=bRow (List.replicate (n + 1) false)) (by simp) rfl
  have e:(List.replicate (n + 1) (none:Option Row)).set 0 (some (bRow (List.replicate (n + 1) false))) = List.replicate 1 (some (bRow (List.replicate (n + 1) false))) ++ List.replicate n none:=rfl
  rw [e] at h'
  refine dI0 _ _ _ _ _ ⟨fun _ => ⟨by omega,by omega,by omega,by simp,rfl,?_⟩,fun z => by omega⟩
  rw [Int.toNat_natCast]
  exact dI_loop f hv hn hpl rfl n 1 _ 0 _ ρ' (by omega) h'
theorem Ze3 {n:Int} {ps:List Pr} (h:Sp.vd n ps = 0):∃ m:Nat,n = m /\ Sp.okV m ps /\ m <= 1000 /\ ps.length <= 1000000:=by
 obtain ⟨h0,h1,h2,h3⟩:=vd_zero h
 refine ⟨n.toNat,by omega,fun p hp => ?_,by omega,by omega⟩
 obtain ⟨a1,a2,a3,a4,_⟩:=h3 p hp
 omega
theorem ev36 (n:Int) (f:Bool) (ps:List Pr) (h:Sp.vd n ps = 0):Ev M1 (.pure 36 [.int .i64 n,.vec f 2 (ps.map Pr.v)]) (.vec false 1 ((Sp.tabW n.toNat ps).map Bw.a)) []:=by
 obtain ⟨m,rfl,hm⟩:=Ze3 h
 rw [Int.toNat_natCast]
 exact dep_ev m f ps hm
end Go.Av

namespace Go.Av
open Go.Proofs
set_option maxRecDepth 100000
def fi18:Fi:=⟨22,[.tmp 4]⟩
def kp18:List (Nat × List Nat):=[(0,[0,1]),(1,[0,5]),(2,[0,5,6]),(3,[0,5,6,12]),(4,[0,5,6]),(5,[0,5,6,21]),(6,[4]),(7,[4])]
def pCy_at (n:Int) (f:Bool) (ps:List Pr) (Q:AV->Heap->Prop):Prop:=Wp M1 (.run fi18 (atC (cd Try.f18) []) [(0,.int .i64 n),(1,.vec f 2 (ps.map Pr.v))] []) Q
def Zfr (n:Int) (fm:Bool) (T:List Bw) (i:Int) (Q:AV->Heap->Prop):Prop:=Wp M1 (.run fi18 (atC (cd Try.f18) [1,1,0,1,0,0]) [(0,.int .i64 n),(5,.vec fm 1 (T.map Bw.a)),(6,.int .i64 i)] []) Q
theorem call18 {args:List AV} {d:AV} (h:wc M1 fi18 Try.f18 args d):Ev M1 (.pure 18 args) d []:=pcl _ _ (by kernel_rfl) h
theorem pCy (n:Int) (f:Bool) (ps:List Pr)  (dq:AV) (H :
  (Sp.vd n ps = 0) /\
  Zfr (n) (false) (Sp.tabW n.toNat ps) (0) (Zat dq)) :
 pCy_at n f ps (Zat dq):=by
 unfold pCy_at
 obtain ⟨k1,H⟩:=H
 exact Zab (G:=Zae kp18 [(1,2,.call (vf (List.map Bw.a (Sp.tabW n.toNat ps))) none)] []) 1000 [] ⟨(atC (cd Try.f18) [1,1,0,1,0,0]),[(0,vi n),(5,vf (List.map Bw.a (Sp.tabW n.toNat ps))),(6,vi 0)],[],_,[],_⟩ (by kernel_rfl) b0 q0 (ce (@ev36 (n) (f) (ps) k1) c0) (H)
theorem pCyL (n:Int) (fm:Bool) (T:List Bw) (i:Int)  (dq:AV) (H :
  ((i < n) -> (0 <= i) /\
   (i.toNat < T.length) /\
   (i.toNat < (T.getD i.toNat default).1.length) /\
   (((T.getD i.toNat default).1.getD i.toNat default = true) -> vb true = dq) /\
   (¬((T.getD i.toNat default).1.getD i.toNat default = true) -> (-9223372036854775808 <= i + 1 /\ i + 1 <= 9223372036854775807) /\
    Zfr (n) (fm) (T) (i + 1) (Zat dq))) /\
  (¬(i < n) -> vb false = dq)) :
 Zfr n fm T i (Zat dq):=by
 unfold Zfr
 rcases xq H with ⟨d2,H⟩|⟨d2,H⟩
 ·obtain ⟨k4,H⟩:=H
  have w5:(List.map Bw.a T).length = T.length:=List.length_map ..
  have i6:(decide (i.toNat < (List.map Bw.a T).length)) = true ↔ (i.toNat < T.length):=(by (try rw [w5]);all_goals exact Zaa)
  obtain ⟨k7,H⟩:=H
  have w9:(List.map vb (T.getD i.toNat default).1).length = (T.getD i.toNat default).1.length:=List.length_map ..
  have i10:(decide (i.toNat < (List.map vb (T.getD i.toNat default).1).length)) = true ↔ (i.toNat < (T.getD i.toNat default).1.length):=(by (try rw [w9]);all_goals exact Zaa)
  obtain ⟨k11,H⟩:=H
  refine Zab (G:=Zae kp18 [(5,3,.elem (vf (List.map vb (T.getD i.toNat default).1))),(5,6,.elem (vb ((T.getD i.toNat default).1.getD i.toNat default)))] []) 9 [true] ⟨(atC (cd Try.f18) [1,1,0,1,0,0,1,0,0,1]),[(0,vi n),(5,AV.vec fm 1 (List.map Bw.a T)),(6,vi i),(21,vb ((T.getD i.toNat default).1.getD i.toNat default))],[],_,[((List.map Bw.a T).get?Internal i.toNat = some (vf (List.map vb (T.getD i.toNat default).1))),((List.map vb (T.getD i.toNat default).1).get?Internal i.toNat = some (vb ((T.getD i.toNat default).1.getD i.toNat default)))],_⟩ (by kernel_rfl) (bc (Zas (Zaa.2 d2)) (bc (Zaa.2 k4) (bc (i6.2 k7) (bc (Zaa.2 k4) (bc (i10.2 k11) b0))))) (qc (Zaq k7) (qc (Zaq k11) q0)) c0 ?_
  rcases xq H with ⟨d13,H⟩|⟨d13,H⟩
  ·exact ZaB (G:=Zae kp18 [] []) 1000 [true] (asm:=[((T.getD i.toNat default).1.getD i.toNat default) == true]) (vb true) (by kernel_rfl) (bc (Zas ((Zar _).2 d13)) b0) q0 c0 H
  ·obtain ⟨k14,H⟩:=H
   have w15:wi (i + 1) = i + 1:=wI64 k14
   exact Zab (G:=Zae kp18 [] []) 1000 [false] ⟨(atC (cd Try.f18) [1,1,0,1,0,0]),[(0,vi n),(5,AV.vec fm 1 (List.map Bw.a T)),(6,vi (wi (i + 1)))],[],[((T.getD i.toNat default).1.getD i.toNat default) == false],[],_⟩ (by kernel_rfl) (bc (Zap (fun h => d13 ((Zar _).1 h))) b0) q0 c0 (by (try rw [w15]);all_goals exact H)
 ·exact ZaB (G:=Zae kp18 [] []) 1000 [false] (vb false) (by kernel_rfl) (bc (Zap (fun h => d2 (Zaa.1 h))) b0) q0 c0 H
end Go.Av

namespace Go.Av
open Go.Proofs
set_option maxRecDepth 100000
def fi34:Fi:=⟨51,[.cell 4 50]⟩
def kp34:List (Nat × List Nat):=[(0,[0,1,4]),(1,[1,4,5]),(2,[4,5,13,14,15]),(3,[4,5,13,14,15,16]),(4,[4,5,7,13,14,15]),(5,[4,5,7,13,14,15]),(6,[4,5,13,14,15]),(7,[4,5,13,14,15]),(8,[4])]
def Zgg (f:Bool) (ps:List Pr) (C D:List AV) (cv dv:Nat) (R:Heap) (m i:Int) (p:Pr) (Q:AV->Heap->Prop):Prop:=Wp M1 (.run fi34 (atC (cd Try.f34) [1,1,0,1,0,0,1,1,0,0,1,0]) [(4,.ptr 0 0 0 0),(5,.ptr 3 0 0 0),(13,.vec f 2 (ps.map Pr.v)),(14,.int .i64 m),(15,.int .i64 i),(7,.ptr 4 0 0 0)] (⟨[.agg [.vnil,.vnil]],2,0,false,false⟩::⟨C,1,cv,false,false⟩::⟨D,1,dv,false,false⟩::⟨[.agg [.row 1 cv,.row 2 dv]],2,0,false,false⟩::⟨[.agg [.int .i64 p.a,.int .i64 p.b]],2,0,false,false⟩::R)) Q
def rrn_at (f:Bool) (ps:List Pr) (C D:List AV) (cv dv:Nat) (R:Heap) (m i:Int) (p:Pr) (q:List Int) (v:Nat) (Q:AV->Heap->Prop):Prop:=Wp M1 (.run fi34 (atC (cd Try.f34) [1,1,0,1,0,0,1,1,0,0,1,0]) [(4,.ptr 0 0 0 0),(5,.ptr 3 0 0 0),(13,.vec f 2 (ps.map Pr.v)),(14,.int .i64 m),(15,.int .i64 i),(7,.ptr 4 0 0 0)] (⟨[.agg [.vnil,.vnil]],2,0,false,false⟩::⟨C,1,cv,false,false⟩::⟨D,1,dv,false,false⟩::⟨[.agg [.row 1 cv,.row 2 dv]],2,0,false,false⟩::⟨[.agg [.int .i64 p.a,.int .i64 p.b]],2,0,false,false⟩::⟨q.map (.int .i64),1,v,false,true⟩::R)) Q
def rnr_at (f:Bool) (ps:List Pr) (C D:List AV) (cv dv:Nat) (R:Heap) (m i:Int) (p:Pr) (r:List Int) (w:Nat) (Q:AV->Heap->Prop):Prop:=Wp M1 (.run fi34 (atC (cd Try.f34) [1,1,0,1,0,0,1,1,0,0,1,0]) [(4,.ptr 0 0 0 0),(5,.ptr 3 0 0 0),(13,.vec f 2 (ps.map Pr.v)),(14,.int .i64 m),(15,.int .i64 i),(7,.ptr 4 0 0 0)] (⟨[.agg [.vnil,.vnil]],2,0,false,false⟩::⟨C,1,cv,false,false⟩::⟨D,1,dv,false,false⟩::⟨[.agg [.row 1 cv,.row 2 dv]],2,0,false,false⟩::⟨[.agg [.int .i64 p.a,.int .i64 p.b]],2,0,false,false⟩::⟨r.map (.int .i64),1,w,false,true⟩::R)) Q
def rrr_at (f:Bool) (ps:List Pr) (C D:List AV) (cv dv:Nat) (R:Heap) (m i:Int) (p:Pr) (q:List Int) (v:Nat) (r:List Int) (w:Nat) (Q:AV->Heap->Prop):Prop:=Wp M1 (.run fi34 (atC (cd Try.f34) [1,1,0,1,0,0,1,1,0,0,1,0]) [(4,.ptr 0 0 0 0),(5,.ptr 3 0 0 0),(13,.vec f 2 (ps.map Pr.v)),(14,.int .i64 m),(15,.int .i64 i),(7,.ptr 4 0 0 0)] (⟨[.agg [.vnil,.vnil]],2,0,false,false⟩::⟨C,1,cv,false,false⟩::⟨D,1,dv,false,false⟩::⟨[.agg [.row 1 cv,.row 2 dv]],2,0,false,false⟩::⟨[.agg [.int .i64 p.a,.int .i64 p.b]],2,0,false,false⟩::⟨q.map (.int .i64),1,v,false,true⟩::⟨r.map (.int .i64),1,w,false,true⟩::R)) Q
def r00_at (f:Bool) (ps:List Pr) (C D:List AV) (cv dv:Nat) (R:Heap) (m i:Int) (p:Pr) (Q:AV->Heap->Prop):Prop:=Wp M1 (.run fi34 (atC (cd Try.f34) [1,1,0,1,0,0,1,1,0,0,1,0]) [(4,.ptr 0 0 0 0),(5,.ptr 3 0 0 0),(13,.vec f 2 (ps.map Pr.v)),(14,.int .i64 m),(15,.int .i64 i),(7,.ptr 4 0 0 0)] (⟨[.agg [.vnil,.vnil]],2,0,false,false⟩::⟨C,1,cv,false,true⟩::⟨D,1,dv,false,true⟩::⟨[.agg [.row 1 cv,.row 2 dv]],2,0,false,false⟩::⟨[.agg [.int .i64 p.a,.int .i64 p.b]],2,0,false,false⟩::R)) Q
def rB_at (f:Bool) (ps:List Pr) (xc:Bool) (C D:List AV) (cv dv:Nat) (R:Heap) (Q:AV->Heap->Prop):Prop:=Wp M1 (.run fi34 (atC (cd Try.f34) [1,1]) [(4,.ptr 0 0 0 0),(5,.ptr 3 0 0 0),(1,.vec f 2 (ps.map Pr.v))] (⟨[.agg [.vnil,.vnil]],2,0,false,false⟩::⟨C,1,cv,false,xc⟩::⟨D,1,dv,false,xc⟩::⟨[.agg [.row 1 cv,.row 2 dv]],2,0,false,false⟩::R)) Q
def Zf3 (f:Bool) (ps:List Pr) (xc:Bool) (C D:List AV) (cv dv:Nat) (R:Heap) (m i:Int) (Q:AV->Heap->Prop):Prop:=Wp M1 (.run fi34 (atC (cd Try.f34) [1,1,0,1,0,0]) [(4,.ptr 0 0 0 0),(5,.ptr 3 0 0 0),(13,.vec f 2 (ps.map Pr.v)),(14,.int .i64 m),(15,.int .i64 i)] (⟨[.agg [.vnil,.vnil]],2,0,false,false⟩::⟨C,1,cv,false,xc⟩::⟨D,1,dv,false,xc⟩::⟨[.agg [.row 1 cv,.row 2 dv]],2,0,false,false⟩::R)) Q
theorem rnn (f:Bool) (ps:List Pr) (C D:List AV) (cv dv:Nat) (R:Heap) (m i:Int) (p:Pr)  (Q:AV -> Heap -> Prop) (H :
  (0 <= p.a) /\
  (p.a.toNat < D.length) /\
  (D.get?Internal p.a.toNat = some AV.vnil) /\
  (0 <= p.b) /\
  (p.b.toNat < C.length) /\
  (C.get?Internal p.b.toNat = some AV.vnil) /\
  (-9223372036854775808 <= i + 1 /\ i + 1 <= 9223372036854775807) /\
  Zf3 (f) (ps) (false) (C.set p.b.toNat (AV.row ((List.append R [{ elems:=[vi p.b],es:=((fun x => Try.prog) ()).types[3].size,ver:=0,frozen:=false,clean:=true }]).length + 1 + 1 + 1 + 1 + 1) 0)) (D.set p.a.toNat (AV.row (List.length R + 1 + 1 + 1 + 1 + 1) 0)) (cv) (dv) ({ elems:=[ag [vi p.a,vi p.b]],es:=2,ver:=0,frozen:=false,clean:=false } :: (List.append R [{ elems:=[vi p.b],es:=((fun x => Try.prog) ()).types[3].size,ver:=0,frozen:=false,clean:=true }]).append [{ elems:=[vi p.a],es:=((fun x => Try.prog) ()).types[3].size,ver:=0,frozen:=false,clean:=true }]) (m) (i + 1) Q) :
 Zgg f ps C D cv dv R m i p Q:=by
 unfold Zgg
 obtain ⟨k2,k4,k7,k9,k11,k14,k15,H⟩:=H
 have w16:wi (i + 1) = i + 1:=wI64 k15
 exact Zab (G:=Zae kp34 [(5,9,(.elem .vnil:Ans)),(5,15,(.elem .vnil:Ans)),(6,9,(.elem .vnil:Ans)),(6,15,(.elem .vnil:Ans))] [(6,[1013]),(5,[1013])]) 1000 [] ⟨(atC (cd Try.f34) [1,1,0,1,0,0]),[(4,AV.ptr 0 0 0 0),(5,AV.ptr 3 0 0 0),(13,AV.vec f 2 (List.map Pr.v ps)),(14,vi m),(15,vi (wi (i + 1)))],⟨[ag [AV.vnil,AV.vnil]],2,0,false,false⟩ :: ⟨C.set p.b.toNat (AV.row ((List.append R [⟨[vi p.b],((fun x => Try.prog) ()).types[3].size,0,false,true⟩]).length + 1 + 1 + 1 + 1 + 1) 0),1,cv,false,false⟩ :: ⟨D.set p.a.toNat (AV.row (List.length R + 1 + 1 + 1 + 1 + 1) 0),1,dv,false,false⟩ :: ⟨[ag [AV.row 1 cv,AV.row 2 dv]],2,0,false,false⟩ :: ⟨[ag [vi p.a,vi p.b]],2,0,false,false⟩ :: (List.append R [⟨[vi p.b],((fun x => Try.prog) ()).types[3].size,0,false,true⟩]).append [⟨[vi p.a],((fun x => Try.prog) ()).types[3].size,0,false,true⟩],[true,true,true,true,true,true,true,true,dv == dv,decide (0 <= p.a),decide (p.a.toNat < D.length),dv == dv,true,true,true,true,dv == dv,decide (0 <= p.a),decide (p.a.toNat < D.length),dv == dv,true,true,true,true,true,true,true,true,cv == cv,decide (0 <= p.b),decide (p.b.toNat < C.length),cv == cv,true,true,true,true,cv == cv,decide (0 <= p.b),decide (p.b.toNat < C.length),cv == cv],[(D.get?Internal p.a.toNat = some AV.vnil),(D.get?Internal p.a.toNat = some AV.vnil),(C.get?Internal p.b.toNat = some AV.vnil),(C.get?Internal p.b.toNat = some AV.vnil)],_⟩ (by kernel_rfl) (bc rfl (bc rfl (bc rfl (bc rfl (bc rfl (bc rfl (bc rfl (bc rfl (bc (beq_self_eq_true _) (bc (Zaa.2 k2) (bc (Zaa.2 k4) (bc (beq_self_eq_true _) (bc rfl (bc rfl (bc rfl (bc rfl (bc (beq_self_eq_true _) (bc (Zaa.2 k2) (bc (Zaa.2 k4) (bc (beq_self_eq_true _) (bc rfl (bc rfl (bc rfl (bc rfl (bc rfl (bc rfl (bc rfl (bc rfl (bc (beq_self_eq_true _) (bc (Zaa.2 k9) (bc (Zaa.2 k11) (bc (beq_self_eq_true _) (bc rfl (bc rfl (bc rfl (bc rfl (bc (beq_self_eq_true _) (bc (Zaa.2 k9) (bc (Zaa.2 k11) (bc (beq_self_eq_true _) b0)))))))))))))))))))))))))))))))))))))))) (qc k7 (qc k7 (qc k14 (qc k14 q0)))) c0 (by (try rw [w16]);all_goals exact H)
theorem rrn (f:Bool) (ps:List Pr) (C D:List AV) (cv dv:Nat) (R:Heap) (m i:Int) (p:Pr) (q:List Int) (v:Nat)  (Q:AV -> Heap -> Prop) (H :
  (0 <= p.a) /\
  (p.a.toNat < D.length) /\
  ((q.length + 1) * 8 <= 1099511627776) /\
  (D.get?Internal p.a.toNat = some (AV.row 5 v)) /\
  (0 <= p.b) /\
  (p.b.toNat < C.length) /\
  (C.get?Internal p.b.toNat = some AV.vnil) /\
  (-9223372036854775808 <= i + 1 /\ i + 1 <= 9223372036854775807) /\
  Zf3 (f) (ps) (false) (C.set p.b.toNat (AV.row (List.length R + 1 + 1 + 1 + 1 + 1 + 1) 0)) (D.set p.a.toNat (AV.row 5 (v + 1))) (cv) (dv) ({ elems:=[ag [vi p.a,vi p.b]],es:=2,ver:=0,frozen:=false,clean:=false } :: { elems:=List.map (vi) (q ++ [p.b]),es:=1,ver:=v + 1,frozen:=false,clean:=true } :: List.append R [{ elems:=[vi p.a],es:=((fun x => Try.prog) ()).types[3].size,ver:=0,frozen:=false,clean:=true }]) (m) (i + 1) Q) :
 rrn_at f ps C D cv dv R m i p q v Q:=by
 unfold rrn_at
 obtain ⟨k2,k4,H⟩:=H
 have w5:(List.map (vi) q).length = q.length:=List.length_map ..
 have i6:(decide (((List.map (vi) q).length + 1) * 8 <= 1099511627776)) = true ↔ ((q.length + 1) * 8 <= 1099511627776):=(by (try rw [w5]);all_goals exact Zaa)
 obtain ⟨k7,k10,H⟩:=H
 have w11:List.map (vi) q ++ [vi p.b] = List.map (vi) (q ++ [p.b]):=(Zfy rfl rfl)
 obtain ⟨k13,k15,k18,k19,H⟩:=H
 have w20:wi (i + 1) = i + 1:=wI64 k19
 exact Zab (G:=Zae kp34 [(5,9,(.elem (.row 5 v):Ans)),(5,15,(.elem (.row 5 v):Ans)),(6,9,(.elem .vnil:Ans)),(6,15,(.elem .vnil:Ans))] [(6,[1013]),(5,[4015,4014,7013,902012,6011,6010,4009,4008,6007,6006,5005,6003,6002,5001])]) 1000 [] ⟨(atC (cd Try.f34) [1,1,0,1,0,0]),[(4,AV.ptr 0 0 0 0),(5,AV.ptr 3 0 0 0),(13,AV.vec f 2 (List.map Pr.v ps)),(14,vi m),(15,vi (wi (i + 1)))],⟨[ag [AV.vnil,AV.vnil]],2,0,false,false⟩ :: ⟨C.set p.b.toNat (AV.row (List.length R + 1 + 1 + 1 + 1 + 1 + 1) 0),1,cv,false,false⟩ :: ⟨D.set p.a.toNat (AV.row 5 (v + 1)),1,dv,false,false⟩ :: ⟨[ag [AV.row 1 cv,AV.row 2 dv]],2,0,false,false⟩ :: ⟨[ag [vi p.a,vi p.b]],2,0,false,false⟩ :: ⟨List.map (vi) q ++ [vi p.b],1,v + 1,false,true⟩ :: List.append R [⟨[vi p.a],((fun x => Try.prog) ()).types[3].size,0,false,true⟩],[true,true,true,true,true,true,true,true,dv == dv,decide (0 <= p.a),decide (p.a.toNat < D.length),dv == dv,true,true,true,v == v,decide (((List.map (vi) q).length + 1) * 8 <= 1099511627776),dv == dv,decide (0 <= p.a),decide (p.a.toNat < D.length),dv == dv,true,true,true,true,true,true,true,true,cv == cv,decide (0 <= p.b),decide (p.b.toNat < C.length),cv == cv,true,true,true,true,cv == cv,decide (0 <= p.b),decide (p.b.toNat < C.length),cv == cv],[(D.get?Internal p.a.toNat = some (AV.row 5 v)),(D.get?Internal p.a.toNat = some (AV.row 5 v)),(C.get?Internal p.b.toNat = some AV.vnil),(C.get?Internal p.b.toNat = some AV.vnil)],_⟩ (by kernel_rfl) (bc rfl (bc rfl (bc rfl (bc rfl (bc rfl (bc rfl (bc rfl (bc rfl (bc (beq_self_eq_true _) (bc (Zaa.2 k2) (bc (Zaa.2 k4) (bc (beq_self_eq_true _) (bc rfl (bc rfl (bc rfl (bc (beq_self_eq_true _) (bc (i6.2 k7) (bc (beq_self_eq_true _) (bc (Zaa.2 k2) (bc (Zaa.2 k4) (bc (beq_self_eq_true _) (bc rfl (bc rfl (bc rfl (bc rfl (bc rfl (bc rfl (bc rfl (bc rfl (bc (beq_self_eq_true _) (bc (Zaa.2 k13) (bc (Zaa.2 k15) (bc (beq_self_eq_true _) (bc rfl (bc rfl (bc rfl (bc rfl (bc (beq_self_eq_true _) (bc (Zaa.2 k13) (bc (Zaa.2 k15) (bc (beq_self_eq_true _) b0))))))))))))))))))))))))))))))))))))))))) (qc k10 (qc k10 (qc k18 (qc k18 q0)))) c0 (by (try rw [w11]);(try rw [w20]);all_goals exact H)
theorem rnr (f:Bool) (ps:List Pr) (C D:List AV) (cv dv:Nat) (R:Heap) (m i:Int) (p:Pr) (r:List Int) (w:Nat)  (Q:AV -> Heap -> Prop) (H :
  (0 <= p.a) /\
  (p.a.toNat < D.length) /\
  (D.get?Internal p.a.toNat = some AV.vnil) /\
  (0 <= p.b) /\
  (p.b.toNat < C.length) /\
  ((r.length + 1) * 8 <= 1099511627776) /\
  (C.get?Internal p.b.toNat = some (AV.row 5 w)) /\
  (-9223372036854775808 <= i + 1 /\ i + 1 <= 9223372036854775807) /\
  Zf3 (f) (ps) (false) (C.set p.b.toNat (AV.row 5 (w + 1))) (D.set p.a.toNat (AV.row (List.length R + 1 + 1 + 1 + 1 + 1 + 1) 0)) (cv) (dv) ({ elems:=[ag [vi p.a,vi p.b]],es:=2,ver:=0,frozen:=false,clean:=false } :: { elems:=List.map (vi) (r ++ [p.a]),es:=1,ver:=w + 1,frozen:=false,clean:=true } :: List.append R [{ elems:=[vi p.b],es:=((fun x => Try.prog) ()).types[3].size,ver:=0,frozen:=false,clean:=true }]) (m) (i + 1) Q) :
 rnr_at f ps C D cv dv R m i p r w Q:=by
 unfold rnr_at
 obtain ⟨k2,k4,k7,k9,k11,H⟩:=H
 have w12:(List.map (vi) r).length = r.length:=List.length_map ..
 have i13:(decide (((List.map (vi) r).length + 1) * 8 <= 1099511627776)) = true ↔ ((r.length + 1) * 8 <= 1099511627776):=(by (try rw [w12]);all_goals exact Zaa)
 obtain ⟨k14,k17,H⟩:=H
 have w18:List.map (vi) r ++ [vi p.a] = List.map (vi) (r ++ [p.a]):=(Zfy rfl rfl)
 obtain ⟨k19,H⟩:=H
 have w20:wi (i + 1) = i + 1:=wI64 k19
 exact Zab (G:=Zae kp34 [(5,9,(.elem .vnil:Ans)),(5,15,(.elem .vnil:Ans)),(6,9,(.elem (.row 5 w):Ans)),(6,15,(.elem (.row 5 w):Ans))] [(6,[3015,3014,7013,902012,6011,6010,3009,3008,6007,6006,5005,6003,6002,5001]),(5,[1013])]) 1000 [] ⟨(atC (cd Try.f34) [1,1,0,1,0,0]),[(4,AV.ptr 0 0 0 0),(5,AV.ptr 3 0 0 0),(13,AV.vec f 2 (List.map Pr.v ps)),(14,vi m),(15,vi (wi (i + 1)))],⟨[ag [AV.vnil,AV.vnil]],2,0,false,false⟩ :: ⟨C.set p.b.toNat (AV.row 5 (w + 1)),1,cv,false,false⟩ :: ⟨D.set p.a.toNat (AV.row (List.length R + 1 + 1 + 1 + 1 + 1 + 1) 0),1,dv,false,false⟩ :: ⟨[ag [AV.row 1 cv,AV.row 2 dv]],2,0,false,false⟩ :: ⟨[ag [vi p.a,vi p.b]],2,0,false,false⟩ :: ⟨List.map (vi) r ++ [vi p.a],1,w + 1,false,true⟩ :: List.append R [⟨[vi p.b],((fun x => Try.prog) ()).types[3].size,0,false,true⟩],[true,true,true,true,true,true,true,true,dv == dv,decide (0 <= p.a),decide (p.a.toNat < D.length),dv == dv,true,true,true,true,dv == dv,decide (0 <= p.a),decide (p.a.toNat < D.length),dv == dv,true,true,true,true,true,true,true,true,cv == cv,decide (0 <= p.b),decide (p.b.toNat < C.length),cv == cv,true,true,true,w == w,decide (((List.map (vi) r).length + 1) * 8 <= 1099511627776),cv == cv,decide (0 <= p.b),decide (p.b.toNat < C.length),cv == cv],[(D.get?Internal p.a.toNat = some AV.vnil),(D.get?Internal p.a.toNat = some AV.vnil),(C.get?Internal p.b.toNat = some (AV.row 5 w)),(C.get?Internal p.b.toNat = some (AV.row 5 w))],_⟩ (by kernel_rfl) (bc rfl (bc rfl (bc rfl (bc rfl (bc rfl (bc rfl (bc rfl (bc rfl (bc (beq_self_eq_true _) (bc (Zaa.2 k2) (bc (Zaa.2 k4) (bc (beq_self_eq_true _) (bc rfl (bc rfl (bc rfl (bc rfl (bc (beq_self_eq_true _) (bc (Zaa.2 k2) (bc (Zaa.2 k4) (bc (beq_self_eq_true _) (bc rfl (bc rfl (bc rfl (bc rfl (bc rfl (bc rfl (bc rfl (bc rfl (bc (beq_self_eq_true _) (bc (Zaa.2 k9) (bc (Zaa.2 k11) (bc (beq_self_eq_true _) (bc rfl (bc rfl (bc rfl (bc (beq_self_eq_true _) (bc (i13.2 k14) (bc (beq_self_eq_true _) (bc (Zaa.2 k9) (bc (Zaa.2 k11) (bc (beq_self_eq_true _) b0))))))))))))))))))))))))))))))))))))))))) (qc k7 (qc k7 (qc k17 (qc k17 q0)))) c0 (by (try rw [w18]);(try rw [w20]);all_goals exact H)
theorem rrr (f:Bool) (ps:List Pr) (C D:List AV) (cv dv:Nat) (R:Heap) (m i:Int) (p:Pr) (q:List Int) (v:Nat) (r:List Int) (w:Nat)  (Q:AV -> Heap -> Prop) (H :
  (0 <= p.a) /\
  (p.a.toNat < D.length) /\
  ((q.length + 1) * 8 <= 1099511627776) /\
  (D.get?Internal p.a.toNat = some (AV.row 5 v)) /\
  (0 <= p.b) /\
  (p.b.toNat < C.length) /\
  ((r.length + 1) * 8 <= 1099511627776) /\
  (C.get?Internal p.b.toNat = some (AV.row 6 w)) /\
  (-9223372036854775808 <= i + 1 /\ i + 1 <= 9223372036854775807) /\
  Zf3 (f) (ps) (false) (C.set p.b.toNat (AV.row 6 (w + 1))) (D.set p.a.toNat (AV.row 5 (v + 1))) (cv) (dv) ({ elems:=[ag [vi p.a,vi p.b]],es:=2,ver:=0,frozen:=false,clean:=false } :: { elems:=List.map (vi) (q ++ [p.b]),es:=1,ver:=v + 1,frozen:=false,clean:=true } :: { elems:=List.map (vi) (r ++ [p.a]),es:=1,ver:=w + 1,frozen:=false,clean:=true } :: R) (m) (i + 1) Q) :
 rrr_at f ps C D cv dv R m i p q v r w Q:=by
 unfold rrr_at
 obtain ⟨k2,k4,H⟩:=H
 have w5:(List.map (vi) q).length = q.length:=List.length_map ..
 have i6:(decide (((List.map (vi) q).length + 1) * 8 <= 1099511627776)) = true ↔ ((q.length + 1) * 8 <= 1099511627776):=(by (try rw [w5]);all_goals exact Zaa)
 obtain ⟨k7,k10,H⟩:=H
 have w11:List.map (vi) q ++ [vi p.b] = List.map (vi) (q ++ [p.b]):=(Zfy rfl rfl)
 obtain ⟨k13,k15,H⟩:=H
 have w16:(List.map (vi) r).length = r.length:=List.length_map ..
 have i17:(decide (((List.map (vi) r).length + 1) * 8 <= 1099511627776)) = true ↔ ((r.length + 1) * 8 <= 1099511627776):=(by (try rw [w16]);all_goals exact Zaa)
 obtain ⟨k18,k21,H⟩:=H
 have w22:List.map (vi) r ++ [vi p.a] = List.map (vi) (r ++ [p.a]):=(Zfy rfl rfl)
 obtain ⟨k23,H⟩:=H
 have w24:wi (i + 1) = i + 1:=wI64 k23
 exact Zab (G:=Zae kp34 [(5,9,(.elem (.row 5 v):Ans)),(5,15,(.elem (.row 5 v):Ans)),(6,9,(.elem (.row 6 w):Ans)),(6,15,(.elem (.row 6 w):Ans))] [(6,[3015,3014,8013,902012,6011,6010,3009,3008,6007,6006,5005,6003,6002,5001]),(5,[4015,4014,7013,902012,6011,6010,4009,4008,6007,6006,5005,6003,6002,5001])]) 1000 [] ⟨(atC (cd Try.f34) [1,1,0,1,0,0]),[(4,AV.ptr 0 0 0 0),(5,AV.ptr 3 0 0 0),(13,AV.vec f 2 (List.map Pr.v ps)),(14,vi m),(15,vi (wi (i + 1)))],⟨[ag [AV.vnil,AV.vnil]],2,0,false,false⟩ :: ⟨C.set p.b.toNat (AV.row 6 (w + 1)),1,cv,false,false⟩ :: ⟨D.set p.a.toNat (AV.row 5 (v + 1)),1,dv,false,false⟩ :: ⟨[ag [AV.row 1 cv,AV.row 2 dv]],2,0,false,false⟩ :: ⟨[ag [vi p.a,vi p.b]],2,0,false,false⟩ :: ⟨List.map (vi) q ++ [vi p.b],1,v + 1,false,true⟩ :: ⟨List.map (vi) r ++ [vi p.a],1,w + 1,false,true⟩ :: R,[true,true,true,true,true,true,true,true,dv == dv,decide (0 <= p.a),decide (p.a.toNat < D.length),dv == dv,true,true,true,v == v,decide (((List.map (vi) q).length + 1) * 8 <= 1099511627776),dv == dv,decide (0 <= p.a),decide (p.a.toNat < D.length),dv == dv,true,true,true,true,true,true,true,true,cv == cv,decide (0 <= p.b),decide (p.b.toNat < C.length),cv == cv,true,true,true,w == w,decide (((List.map (vi) r).length + 1) * 8 <= 1099511627776),cv == cv,decide (0 <= p.b),decide (p.b.toNat < C.length),cv == cv],[(D.get?Internal p.a.toNat = some (AV.row 5 v)),(D.get?Internal p.a.toNat = some (AV.row 5 v)),(C.get?Internal p.b.toNat = some (AV.row 6 w)),(C.get?Internal p.b.toNat = some (AV.row 6 w))],_⟩ (by kernel_rfl) (bc rfl (bc rfl (bc rfl (bc rfl (bc rfl (bc rfl (bc rfl (bc rfl (bc (beq_self_eq_true _) (bc (Zaa.2 k2) (bc (Zaa.2 k4) (bc (beq_self_eq_true _) (bc rfl (bc rfl (bc rfl (bc (beq_self_eq_true _) (bc (i6.2 k7) (bc (beq_self_eq_true _) (bc (Zaa.2 k2) (bc (Zaa.2 k4) (bc (beq_self_eq_true _) (bc rfl (bc rfl (bc rfl (bc rfl (bc rfl (bc rfl (bc rfl (bc rfl (bc (beq_self_eq_true _) (bc (Zaa.2 k13) (bc (Zaa.2 k15) (bc (beq_self_eq_true _) (bc rfl (bc rfl (bc rfl (bc (beq_self_eq_true _) (bc (i17.2 k18) (bc (beq_self_eq_true _) (bc (Zaa.2 k13) (bc (Zaa.2 k15) (bc (beq_self_eq_true _) b0)))))))))))))))))))))))))))))))))))))))))) (qc k10 (qc k10 (qc k21 (qc k21 q0)))) c0 (by (try rw [w11]);(try rw [w22]);(try rw [w24]);all_goals exact H)
theorem r00 (f:Bool) (ps:List Pr) (C D:List AV) (cv dv:Nat) (R:Heap) (m i:Int) (p:Pr)  (Q:AV -> Heap -> Prop) (H :
  (0 <= p.a) /\
  (p.a.toNat < D.length) /\
  (D.get?Internal p.a.toNat = some AV.vnil) /\
  (0 <= p.b) /\
  (p.b.toNat < C.length) /\
  (C.get?Internal p.b.toNat = some AV.vnil) /\
  (-9223372036854775808 <= i + 1 /\ i + 1 <= 9223372036854775807) /\
  Zf3 (f) (ps) (false) (C.set p.b.toNat (AV.row ((List.append R [{ elems:=[vi p.b],es:=((fun x => Try.prog) ()).types[3].size,ver:=0,frozen:=false,clean:=true }]).length + 1 + 1 + 1 + 1 + 1) 0)) (D.set p.a.toNat (AV.row (List.length R + 1 + 1 + 1 + 1 + 1) 0)) (cv) (dv) ({ elems:=[ag [vi p.a,vi p.b]],es:=2,ver:=0,frozen:=false,clean:=false } :: (List.append R [{ elems:=[vi p.b],es:=((fun x => Try.prog) ()).types[3].size,ver:=0,frozen:=false,clean:=true }]).append [{ elems:=[vi p.a],es:=((fun x => Try.prog) ()).types[3].size,ver:=0,frozen:=false,clean:=true }]) (m) (i + 1) Q) :
 r00_at f ps C D cv dv R m i p Q:=by
 unfold r00_at
 obtain ⟨k2,k4,k7,k9,k11,k14,k15,H⟩:=H
 have w16:wi (i + 1) = i + 1:=wI64 k15
 exact Zab (G:=Zae kp34 [(5,9,(.elem .vnil:Ans)),(5,15,(.elem .vnil:Ans)),(6,9,(.elem .vnil:Ans)),(6,15,(.elem .vnil:Ans))] [(6,[1013]),(5,[1013])]) 1000 [] ⟨(atC (cd Try.f34) [1,1,0,1,0,0]),[(4,AV.ptr 0 0 0 0),(5,AV.ptr 3 0 0 0),(13,AV.vec f 2 (List.map Pr.v ps)),(14,vi m),(15,vi (wi (i + 1)))],⟨[ag [AV.vnil,AV.vnil]],2,0,false,false⟩ :: ⟨C.set p.b.toNat (AV.row ((List.append R [⟨[vi p.b],((fun x => Try.prog) ()).types[3].size,0,false,true⟩]).length + 1 + 1 + 1 + 1 + 1) 0),1,cv,false,false⟩ :: ⟨D.set p.a.toNat (AV.row (List.length R + 1 + 1 + 1 + 1 + 1) 0),1,dv,false,false⟩ :: ⟨[ag [AV.row 1 cv,AV.row 2 dv]],2,0,false,false⟩ :: ⟨[ag [vi p.a,vi p.b]],2,0,false,false⟩ :: (List.append R [⟨[vi p.b],((fun x => Try.prog) ()).types[3].size,0,false,true⟩]).append [⟨[vi p.a],((fun x => Try.prog) ()).types[3].size,0,false,true⟩],[true,true,true,true,true,true,true,true,dv == dv,decide (0 <= p.a),decide (p.a.toNat < D.length),dv == dv,true,true,true,true,dv == dv,decide (0 <= p.a),decide (p.a.toNat < D.length),dv == dv,true,true,true,true,true,true,true,true,cv == cv,decide (0 <= p.b),decide (p.b.toNat < C.length),cv == cv,true,true,true,true,cv == cv,decide (0 <= p.b),decide (p.b.toNat < C.length),cv == cv],[(D.get?Internal p.a.toNat = some AV.vnil),(D.get?Internal p.a.toNat = some AV.vnil),(C.get?Internal p.b.toNat = some AV.vnil),(C.get?Internal p.b.toNat = some AV.vnil)],_⟩ (by kernel_rfl) (bc rfl (bc rfl (bc rfl (bc rfl (bc rfl (bc rfl (bc rfl (bc rfl (bc (beq_self_eq_true _) (bc (Zaa.2 k2) (bc (Zaa.2 k4) (bc (beq_self_eq_true _) (bc rfl (bc rfl (bc rfl (bc rfl (bc (beq_self_eq_true _) (bc (Zaa.2 k2) (bc (Zaa.2 k4) (bc (beq_self_eq_true _) (bc rfl (bc rfl (bc rfl (bc rfl (bc rfl (bc rfl (bc rfl (bc rfl (bc (beq_self_eq_true _) (bc (Zaa.2 k9) (bc (Zaa.2 k11) (bc (beq_self_eq_true _) (bc rfl (bc rfl (bc rfl (bc rfl (bc (beq_self_eq_true _) (bc (Zaa.2 k9) (bc (Zaa.2 k11) (bc (beq_self_eq_true _) b0)))))))))))))))))))))))))))))))))))))))) (qc k7 (qc k7 (qc k14 (qc k14 q0)))) c0 (by (try rw [w16]);all_goals exact H)
theorem rB (f:Bool) (ps:List Pr) (xc:Bool) (C D:List AV) (cv dv:Nat) (R:Heap)  (Q:AV -> Heap -> Prop) (H :
  Zf3 (f) (ps) (xc) (C) (D) (cv) (dv) (R) ((↑ps.length:Int)) (0) Q) :
 rB_at f ps xc C D cv dv R Q:=by
 unfold rB_at
 have w1:(List.map Pr.v ps).length = ps.length:=List.length_map ..
 exact Zab (G:=Zae kp34 [] []) 1000 [] ⟨(atC (cd Try.f34) [1,1,0,1,0,0]),[(4,AV.ptr 0 0 0 0),(5,AV.ptr 3 0 0 0),(13,AV.vec f 2 (List.map Pr.v ps)),(14,vi (↑(List.map Pr.v ps).length:Int)),(15,vi 0)],⟨[ag [AV.vnil,AV.vnil]],2,0,false,false⟩ :: ⟨C,1,cv,false,xc⟩ :: ⟨D,1,dv,false,xc⟩ :: ⟨[ag [AV.row 1 cv,AV.row 2 dv]],2,0,false,false⟩ :: R,_,[],_⟩ (by kernel_rfl) b0 q0 c0 (by (try rw [w1]);all_goals exact H)
theorem rH (f:Bool) (ps:List Pr) (xc:Bool) (C D:List AV) (cv dv:Nat) (R:Heap) (m i:Int)  (Q:AV -> Heap -> Prop) (H :
  ((i < m) -> Wp M1 (.run fi34 (atC (cd Try.f34) [1,1,0,1,0,0,1,1,0,0,0]) [(4,AV.ptr 0 0 0 0),(5,AV.ptr 3 0 0 0),(13,AV.vec f 2 (List.map Pr.v ps)),(14,vi m),(15,vi i),(16,vb (decide (i < m)))] ({ elems:=[ag [AV.vnil,AV.vnil]],es:=2,ver:=0,frozen:=false,clean:=false } :: { elems:=C,es:=1,ver:=cv,frozen:=false,clean:=xc } :: { elems:=D,es:=1,ver:=dv,frozen:=false,clean:=xc } :: { elems:=[ag [AV.row 1 cv,AV.row 2 dv]],es:=2,ver:=0,frozen:=false,clean:=false } :: R)) Q) /\
  (¬(i < m) -> Q (ag [AV.row 1 cv,AV.row 2 dv]) ({ elems:=[ag [AV.row 1 cv,AV.row 2 dv]],es:=2,ver:=0,frozen:=false,clean:=false } :: { elems:=C,es:=1,ver:=cv,frozen:=false,clean:=xc } :: { elems:=D,es:=1,ver:=dv,frozen:=false,clean:=xc } :: { elems:=[ag [AV.row 1 cv,AV.row 2 dv]],es:=2,ver:=0,frozen:=false,clean:=false } :: R))) :
 Zf3 f ps xc C D cv dv R m i Q:=by
 unfold Zf3
 rcases xq H with ⟨d2,H⟩|⟨d2,H⟩
 ·exact Zab (G:=Zae kp34 [] []) 8 [true] ⟨(atC (cd Try.f34) [1,1,0,1,0,0,1,1,0,0,0]),[(4,AV.ptr 0 0 0 0),(5,AV.ptr 3 0 0 0),(13,AV.vec f 2 (List.map Pr.v ps)),(14,vi m),(15,vi i),(16,vb (decide (i < m)))],⟨[ag [AV.vnil,AV.vnil]],2,0,false,false⟩ :: ⟨C,1,cv,false,xc⟩ :: ⟨D,1,dv,false,xc⟩ :: ⟨[ag [AV.row 1 cv,AV.row 2 dv]],2,0,false,false⟩ :: R,_,[],_⟩ (by kernel_rfl) (bc (Zas (Zaa.2 d2)) b0) q0 c0 (H)
 ·exact ZaG (G:=Zae kp34 [] []) 1000 [false] (k:=((atC (cd Try.f34) [1,1,1,1])).tail) (env':=[(4,AV.ptr 0 0 0 0)]) (L':=⟨[ag [AV.row 1 cv,AV.row 2 dv]],2,0,false,false⟩ :: ⟨C,1,cv,false,xc⟩ :: ⟨D,1,dv,false,xc⟩ :: ⟨[ag [AV.row 1 cv,AV.row 2 dv]],2,0,false,false⟩ :: R) (asm:=[(decide (i < m)) == false,true,true]) (eqs:=[]) (calls:=[]) (ag [AV.row 1 cv,AV.row 2 dv]) (by kernel_rfl) (by kernel_rfl) (Zaf (Zap (fun h => d2 (Zaa.1 h))) (Zaf rfl (Zaf rfl Zak))) Zal ZaJ H
end Go.Av

namespace Go.Av
open Go.RowKit
theorem wp_any3 {M:Mach} (hm:(M.P ()).follows .mixedOrders = true) {fi:Fi} {id:Nat} {ops:Array Oper} {ans:Nat -> Option Ans} {keep:List Nat} {env e1:Vars} {L L1:Heap} {k:List Item} {Q:AV -> Heap -> Prop} {c d g:Nat} {a1:List Nat -> List Bool}
  (hcd:Zft [c,d,g] = true) (h1:∀ σ ∈ [[c,d,g],[d,c,g],[d,g,c],[c,g,d],[g,c,d],[g,d,c]],ordX M (fun _ _ _ => none) fi.n ops ans keep [c,d,g] env L σ = some (e1,L1,a1 σ,[],[]))
  (hA:∀ σ,∀ b ∈ a1 σ,b = true) (hk:Wp M (.run fi k e1 L1) Q):Wp M (.run fi (.code (.region id ops true) :: k) env L) Q:=by
 refine .sem (ZaK.after fun S a h5 h6 h7 h8 b k2 cs hbb => ?_)
 obtain ⟨a',w',⟨S',e0,n1,n2,n3,n4,n5,n6⟩,hs⟩:=any_sound hm (id:=id) (fi:=fi) (ops:=ops) (env:=env) (L:=L) (call:=fun _ _ _ => none) (ans:=ans) (keep:=keep) (C:=[c,d,g])
  (hot:=hotX M (fun _ _ _ => none) fi.n ops ans [c,d,g] env L) (l:=fun σ => ordGo ops [c,d,g] ops.size σ (List.range ops.size) []) (rs:=rsX M (fun _ _ _ => none) fi.n ops ans [c,d,g] env L) (e1:=e1) (L1:=L1) ((ZaU [c,d,g]).1 hcd) (fun σ hσ => by
   refine ⟨a1 σ,[],[],h1 σ ?_,hA σ,by simp,by simp⟩
   simp only [perms,Zds,List.flatMap_cons,List.flatMap_nil,List.map_cons,List.map_nil,List.append_nil,List.mem_append,List.mem_cons,List.not_mem_nil,or_false] at hσ ⊢
   rcases hσ with (h | h | h) | h | h | h <;> subst h <;> simp) h5 h6 h7 h8 b k2 cs hbb
 exact ⟨a',w',⟨S',e1,e0,n1,n2,n3.symm ▸ Zbo hm hk,n4,n5,n6⟩,hs⟩
end Go.Av

namespace Go.Av
open Go.Proofs
noncomputable def rdO1:Array Oper:=match atC (cd Try.f34) [1,0] with
 | .code (.region _ ops _) :: _ => ops
 | _ => #[]
noncomputable def rdX (n:Int) (f:Bool) (ps:List AV) (σ:List Nat):=ordX M1 (fun _ _ _=>none) fi34.n rdO1 (fun _=>none) [4,5,1] [1,3,5] [(0,.int .i64 n),(1,.vec f 2 ps),(4,AV.ptr 0 0 0 0)] [⟨[.agg [.vnil,.vnil]],2,0,false,false⟩] σ
def nrow (n:Nat):Row:=⟨List.replicate n .vnil,1,0,false,true⟩
def rdAsm (n:Int):List Bool:=[decide (0<=n),decide (n<=n),decide (n*24<=1099511627776),decide (n<=1099511627776)]
def rdEnd (f:Bool) (ps:List AV) (n:Nat):Vars × Heap:=([(4,AV.ptr 0 0 0 0),(5,AV.ptr 3 0 0 0),(1,.vec f 2 ps)],[⟨[.agg [.vnil,.vnil]],2,0,false,false⟩,nrow n,nrow n,⟨[.agg [.row 1 0,.row 2 0]],2,0,false,false⟩])
def rdAll (n:Int):List Bool:=rdAsm n++(rdAsm n++[0==0])
theorem rdX_all (n:Int) (f:Bool) (ps:List AV):∀ σ ∈ [[1,3,5],[3,1,5],[3,5,1],[1,5,3],[5,1,3],[5,3,1]],rdX n f ps σ = some ((rdEnd f ps n.toNat).1,(rdEnd f ps n.toNat).2,rdAll n,[],[]):=by
 intro σ h
 simp only [List.mem_cons,List.not_mem_nil,or_false] at h
 rcases h with h | h | h | h | h | h <;> subst h <;> kernel_rfl
theorem rdAll_ok {n:Nat} (h:n <= 1000000):∀ b ∈ rdAll n,b = true:=by
 intro b hb
 unfold rdAll rdAsm at hb
 simp only [List.mem_append,List.mem_cons,List.not_mem_nil,or_false] at hb
 rcases hb with (rfl | rfl | rfl | rfl) | (rfl | rfl | rfl | rfl) | rfl
 all_goals first | rfl | exact decide_eq_true (by omega)
theorem rd1 {n:Nat} {f:Bool} {ps:List Pr} {Q:AV -> Heap -> Prop} (hn:n <= 1000000) (H:rB_at f ps true (List.replicate n .vnil) (List.replicate n .vnil) 0 0 [] Q):Wp M1 (.run fi34 (atC (cd Try.f34) [1,0]) [(0,.int .i64 n),(1,.vec f 2 (ps.map Pr.v)),(4,AV.ptr 0 0 0 0)] [⟨[.agg [.vnil,.vnil]],2,0,false,false⟩]) Q:=by
 refine wp_any3 (id:=1) (ops:=rdO1) (c:=1) (d:=3) (g:=5) (a1:=fun _ => rdAll n) hm1 rfl (rdX_all n f (ps.map Pr.v)) (fun _ => rdAll_ok hn) ?_
 rw [Int.toNat_natCast]
 unfold rB_at at H
 exact H
end Go.Av

namespace Go.Av
open Go.Proofs
theorem Zga {P:Unit -> Program} {el:Option AV} {L:Heap} {z:Row} {T:TypeId} {ver i j:Nat} {v:AV}:ZcP P el (L ++ [z]) T (.ptr L.length ver i j) v = (ZcP P el [z] T (.ptr 0 ver i j) v).map fun s => { s with L':=s.L'.map fun l => L ++ l }:=by
 have h1:(L ++ [z])[L.length]? = some z:=by simp
 have h2:∀ y:Row,(L ++ [z]).set L.length y = L ++ [y]:=fun y => by simp
 unfold ZcP
 simp only [h1,h2,List.getElem?_cons_zero,List.set_cons_zero]
 repeat' split
 all_goals rfl
noncomputable def rdO4:Array Oper:=match atC (cd Try.f34) [1,1,0,1,0,0,1,1,0,0,0] with
 | .code (.region _ ops _) :: _ => ops
 | _ => #[]
def Zfh (x:AV) (i:Nat):Option Ans:=bif Nat.beq i 1 then some (.elem x) else none
def rdE (f b:Bool) (ps:List AV) (m i:Int):Vars:=[(4,AV.ptr 0 0 0 0),(5,AV.ptr 3 0 0 0),(13,.vec f 2 ps),(14,.int .i64 m),(15,.int .i64 i),(16,.bool b)]
noncomputable def rdS2 (f b:Bool) (ps:List AV) (x:AV) (m i:Int) (L:Heap):Option RS:=Zaj M1.P M1.inl (fun _ _ _=>none) fi34.n rdO4 (Zfh x) (fun _=>2) [0,1,2] ⟨lift (rdE f b ps m i),L,[],[],[]⟩
abbrev rdP (x y:Int):AV:=.agg [.int .i64 x,.int .i64 y]
noncomputable def rdT (f b:Bool) (ps:List AV) (x y m i:Int) (L:Heap) (z:AV) (q:List Bool):RS:=⟨(7,[],.ptr L.length 0 0 0)::(18,[],rdP x y)::(17,[],.eptr 2 ps i.toNat 0)::lift (rdE f b ps m i),L++[⟨[z],2,0,false,false⟩],[decide (0<=i),decide (i.toNat<ps.length)]++q,[ps[i.toNat]? = some (rdP x y)],[]⟩
theorem rdS2_eq (f b:Bool) (ps:List AV) (x y m i:Int) (L:Heap):rdS2 f b ps (rdP x y) m i L=some (rdT f b ps x y m i L (rdP 0 0) []):=by kernel_rfl
noncomputable def rdO43:Oper:=match rdO4[3]? with
 | some o => o
 | none => ⟨none,.load 47 (.tmp 7),0,"",#[],none⟩
theorem rdO4_3:rdO4[3]? = some rdO43:=by kernel_rfl
theorem rdO4_g:rdO43.guard=none:=by kernel_rfl
theorem rdO4_d:rdO43.dst=none:=by kernel_rfl
theorem rdO4_o:rdO43.op = .store 47 (.tmp 7) (.tmp 18):=by kernel_rfl
theorem rdO4_run (f b:Bool) (ps:List AV) (x y m i:Int) (L:Heap):Zaj M1.P M1.inl (fun _ _ _ => none) fi34.n rdO4 (Zfh (rdP x y)) (fun _ => 2) (List.range rdO4.size) ⟨lift (rdE f b ps m i),L,[],[],[]⟩ = some (rdT f b ps x y m i L (rdP x y) [0 == 0]):=by
 have hr:List.range rdO4.size = [0,1,2] ++ [3]:=by kernel_rfl
 rw [hr,ZdH]
 have h2:Zaj M1.P M1.inl (fun _ _ _ => none) fi34.n rdO4 (Zfh (rdP x y)) (fun _ => 2) [0,1,2] ⟨lift (rdE f b ps m i),L,[],[],[]⟩ = some (rdT f b ps x y m i L (rdP 0 0) []):=rdS2_eq f b ps x y m i L
 rw [h2,Option.bind_some]
 have ho:=rdO4_3
 have hs:ZaO M1.P M1.inl (fun _ _ _ => none) (Zfh (rdP x y) 3) (fun ex => ev (rdT f b ps x y m i L (rdP 0 0) []).env (ex ++ [])) (rdT f b ps x y m i L (rdP 0 0) []).L rdO43 = some { v:=.tup [],L':=some (L ++ [⟨[rdP x y],2,0,false,false⟩]),asm:=[0 == 0] }:=by
  unfold ZaO
  rw [rdO4_o]
  show ZcP M1.P none (L ++ [⟨[rdP 0 0],2,0,false,false⟩]) 47 (.ptr L.length 0 0 0) (rdP x y) = _
  rw [Zga]
  kernel_rfl
 have h3:Za6 M1.P M1.inl (fun _ _ _ => none) fi34.n rdO4 (Zfh (rdP x y) 3) 2 rdO43 (rdT f b ps x y m i L (rdP 0 0) []) = some (rdT f b ps x y m i L (rdP x y) [0 == 0]):=
  ZbF.2 ⟨_,_,(Zb7 rdO4_g).2 ⟨_,hs,rfl,rfl⟩,by rw [rdO4_d];rfl,rfl⟩
 simp only [Zaj,ho,h3]
end Go.Av

namespace Go.Av
open Go.Proofs
noncomputable def rdO0:Array Oper:=match cd Try.f34 with
 | .seq (.region _ ops _) _ => ops
 | _ => #[]
noncomputable def rdB0:Code:=match cd Try.f34 with
 | .seq _ b => b
 | _ => .skip
noncomputable def rdB1:Code:=match rdB0 with
 | .seq _ b => b
 | _ => .skip
theorem rdC0:cd Try.f34 = .seq (.region 0 rdO0 false) rdB0:=by kernel_rfl
theorem rdC1:rdB0 = .seq (.region 1 rdO1 true) rdB1:=by kernel_rfl
theorem rdC1':atC (cd Try.f34) [1,0]=[.code (.region 1 rdO1 true),.code rdB1]:=by kernel_rfl
noncomputable def rdK4:List Item:=(atC (cd Try.f34) [1,1,0,1,0,0,1,1,0,0,0]).tail
noncomputable def rdA4:Code:=match rdK4 with
 | .code (.seq a _) :: _ => a
 | _ => .skip
noncomputable def rdB4:Code:=match rdK4 with
 | .code (.seq _ b) :: _ => b
 | _ => .skip
theorem rdC4:atC (cd Try.f34) [1,1,0,1,0,0,1,1,0,0,0] = .code (.region 4 rdO4 false)::rdK4:=by kernel_rfl
theorem rdC4a:rdK4 = .code (.seq rdA4 rdB4)::rdK4.tail:=by kernel_rfl
theorem rdC4b:atC (cd Try.f34) [1,1,0,1,0,0,1,1,0,0,1,0] = .code rdA4 :: .code rdB4::rdK4.tail:=by kernel_rfl
noncomputable def rdT0 (n:Int) (f:Bool) (ps:List AV):RS:=⟨[(4,[],.ptr 0 0 0 0),(0,[],.int .i64 n),(1,[],.vec f 2 ps)],[⟨[.agg [.vnil,.vnil]],2,0,false,false⟩],[],[],[]⟩
theorem rdT0_eq (n:Int) (f:Bool) (ps:List AV):Zaj M1.P M1.inl (fun _ _ _=>none) fi34.n rdO0 (fun _=>none) (fun _=>2) (List.range rdO0.size) ⟨lift [(0,.int .i64 n),(1,.vec f 2 ps)],[],[],[],[]⟩=some (rdT0 n f ps):=by kernel_rfl
theorem rd0 {n:Int} {f:Bool} {ps:List AV} {Q:AV -> Heap -> Prop} (H:Wp M1 (.run fi34 (atC (cd Try.f34) [1,0]) [(0,.int .i64 n),(1,.vec f 2 ps),(4,AV.ptr 0 0 0 0)] [⟨[.agg [.vnil,.vnil]],2,0,false,false⟩]) Q):Wp M1 (.run fi34 [.code (cd Try.f34)] [(0,.int .i64 n),(1,.vec f 2 ps)] []) Q:=by
 rw [rdC0]
 refine .seq (.region (fun _ _ _ => none) (fun _ => none) (fun _ => 2) [0,1,4] (rdT0 n f ps) (by intro h;cases h) (rdT0_eq n f ps) ?_ ?_ ?_ ?_ ?_)
 ·intro b hb;cases hb
 ·intro b hb;cases hb
 ·intro b hb;cases hb
 ·intro b hb;cases hb
 ·rw [rdC1]
  rw [rdC1'] at H
  exact .seq H
theorem rdF4 (f b:Bool) (ps:List AV) (x y m i:Int) (L:Heap):Zbc [4,5,13,14,15,7] (rdT f b ps x y m i L (rdP x y) [0==0]).env=[(4,AV.ptr 0 0 0 0),(5,AV.ptr 3 0 0 0),(13,.vec f 2 ps),(14,.int .i64 m),(15,.int .i64 i),(7,.ptr L.length 0 0 0)]:=by kernel_rfl
theorem rd4 {f b:Bool} {ps:List AV} {x y m i:Int} {L:Heap} {Q:AV -> Heap -> Prop} (hi:0 <= i) (hl:i.toNat < ps.length) (hx:ps[i.toNat]? = some (rdP x y))
  (H:Wp M1 (.run fi34 (atC (cd Try.f34) [1,1,0,1,0,0,1,1,0,0,1,0]) [(4,AV.ptr 0 0 0 0),(5,AV.ptr 3 0 0 0),(13,.vec f 2 ps),(14,.int .i64 m),(15,.int .i64 i),(7,.ptr L.length 0 0 0)] (L ++ [⟨[rdP x y],2,0,false,false⟩])) Q) :
  Wp M1 (.run fi34 (atC (cd Try.f34) [1,1,0,1,0,0,1,1,0,0,0]) (rdE f b ps m i) L) Q:=by
 rw [rdC4]
 refine .region (fun _ _ _ => none) (Zfh (rdP x y)) (fun _ => 2) [4,5,13,14,15,7] _ (by intro h;cases h) (rdO4_run f b ps x y m i L) ?_ ?_ ?_ ?_ ?_
 ·intro c hc
  have hc:c ∈ [decide (0 <= i),decide (i.toNat < ps.length)] ++ [0 == 0]:=hc
  simp only [List.mem_append,List.mem_cons,List.not_mem_nil,or_false] at hc
  rcases hc with (rfl | rfl) | rfl
  ·exact decide_eq_true hi
  ·exact decide_eq_true hl
  ·rfl
 ·intro p hp
  have hp:p ∈ [ps[i.toNat]? = some (rdP x y)]:=hp
  rw [List.mem_singleton] at hp
  rw [hp];exact hx
 ·intro c hc;cases hc
 ·intro c hc;cases hc
 ·rw [rdF4,rdC4a]
  rw [rdC4b] at H
  exact .seq H
namespace Sp
def bfl (ps:List Pr) (b:Int):List Int:=(ps.filter fun p=>p.b==b).map Pr.a
def bhl (ps:List Pr) (a:Int):List Int:=(ps.filter fun p=>p.a==a).map Pr.b
end Sp
abbrev nR (l:List Int) (v:Nat):Row:=⟨l.map (.int .i64),1,v,false,true⟩
def Cel (l:List Int) (m:Option Row):Prop:=(l=[]/\m=none)\/(l ≠ [] /\ ∃ v,m=some (nR l v))
abbrev CC {α:Type} (x y:α):Nat->α:=fun u=>if u=1 then x else y
abbrev rF0:Row:=⟨[.agg [.vnil,.vnil]],2,0,false,false⟩
abbrev rBX (cv dv:Nat):Row:=⟨[.agg [.row 1 cv,.row 2 dv]],2,0,false,false⟩
abbrev rPB (p:Pr):Row:=⟨[.agg [.int .i64 p.a,.int .i64 p.b]],2,0,false,false⟩
def Cels (n:Nat) (g:Int->List Int) (M:List (Option Row)):Prop:=M.length=n /\ ∀ j,j<n -> ∃ x,M[j]? = some x/\Cel (g j) x
abbrev rL (C D:List AV) (cv dv:Nat) (R:Heap):Heap:=rF0::⟨C,1,cv,false,false⟩::⟨D,1,dv,false,false⟩::rBX cv dv::R
def RI (U n:Nat) (C D:List AV) (cv dv:Nat) (R:Heap) (M N:List (Option Row)) (ρ:Nat->Nat->Nat):Prop:=Mx U [1,2] (rL C D cv dv R) (CC C D) (CC cv dv) (CC M N) ρ
theorem cels_set {n:Nat} {g g':Int -> List Int} {M:List (Option Row)} {a:Int} {l:List Int} {v:Nat} (h:Cels n g M) (ha:0 <= a /\ a < n) (hl:l ≠ []) (hg:g' a = l) (hne:∀ j:Nat,(j:Int) ≠ a -> g' j = g j):Cels n g' (M.set a.toNat (some (nR l v))):=by
 refine ⟨by rw [List.length_set];exact h.1,fun j hj => ?_⟩
 rw [List.getElem?_set]
 by_cases e:a.toNat = j
 ·rw [if_pos e,if_pos (by rw [h.1];omega)]
  refine ⟨_,rfl,.inr ⟨?_,v,?_⟩⟩
  ·rw [show (j:Int) = a by omega,hg];exact hl
  ·rw [show (j:Int) = a by omega,hg]
 ·rw [if_neg e,hne j (by omega)]
  exact h.2 j hj
theorem bfl_snoc (qs:List Pr) (p:Pr) (b:Int):Sp.bfl (qs ++ [p]) b = if p.b = b then Sp.bfl qs b ++ [p.a] else Sp.bfl qs b:=by
 unfold Sp.bfl
 rw [List.filter_append,List.map_append]
 by_cases e:p.b = b
 ·rw [if_pos e,List.filter_cons_of_pos (by simpa using e)];rfl
 ·rw [if_neg e,List.filter_cons_of_neg (by simpa using e)];simp
theorem bhl_snoc (qs:List Pr) (p:Pr) (a:Int):Sp.bhl (qs ++ [p]) a = if p.a = a then Sp.bhl qs a ++ [p.b] else Sp.bhl qs a:=by
 unfold Sp.bhl
 rw [List.filter_append,List.map_append]
 by_cases e:p.a = a
 ·rw [if_pos e,List.filter_cons_of_pos (by simpa using e)];rfl
 ·rw [if_neg e,List.filter_cons_of_neg (by simpa using e)];simp
theorem cels_bf {n:Nat} {qs:List Pr} {p:Pr} {M:List (Option Row)} {v:Nat} (h:Cels n (Sp.bfl qs) M) (hp:0 <= p.b /\ p.b < n):Cels n (Sp.bfl (qs ++ [p])) (M.set p.b.toNat (some (nR (Sp.bfl qs p.b ++ [p.a]) v))):=
 cels_set h hp (by simp) (by rw [bfl_snoc,if_pos rfl]) fun j hj => by rw [bfl_snoc,if_neg fun e => hj e.symm]
theorem cels_bh {n:Nat} {qs:List Pr} {p:Pr} {M:List (Option Row)} {v:Nat} (h:Cels n (Sp.bhl qs) M) (hp:0 <= p.a /\ p.a < n):Cels n (Sp.bhl (qs ++ [p])) (M.set p.a.toNat (some (nR (Sp.bhl qs p.a ++ [p.b]) v))):=
 cels_set h hp (by simp) (by rw [bhl_snoc,if_pos rfl]) fun j hj => by rw [bhl_snoc,if_neg fun e => hj e.symm]
section
variable {U n:Nat} {C D:List AV} {cv dv:Nat} {R:Heap} {M N:List (Option Row)} {ρ:Nat->Nat->Nat} {z:Row}
theorem RI.cellD (h:RI 5 n C D cv dv (z :: R) M N ρ) {a:Nat} (ha:a < N.length) {rb:Row} (hc:rb.clean = true) (hv:rb.ver = 0):∃ ρ',RI 5 n C (D.set a (.row (R.length + 5) 0)) cv dv (z :: (R ++ [rb])) M (N.set a (some rb)) ρ':=by
 have:=Mx.cell h (u:=2) (a:=a) (by simp) ha hc
 rw [hv] at this
 exact ⟨fun w j => if w = 2 /\ j = a then R.length + 5 else ρ w j,Mx.congr this fun u hu => by
  simp only [List.mem_cons,List.not_mem_nil,or_false] at hu
  rcases hu with rfl | rfl
  ·exact ⟨rfl,rfl,rfl,fun j => rfl⟩
  ·exact ⟨rfl,rfl,rfl,fun j => rfl⟩⟩
theorem RI.cellC (h:RI 5 n C D cv dv (z :: R) M N ρ) {a:Nat} (ha:a < M.length) {rb:Row} (hc:rb.clean = true) (hv:rb.ver = 0):∃ ρ',RI 5 n (C.set a (.row (R.length + 5) 0)) D cv dv (z :: (R ++ [rb])) (M.set a (some rb)) N ρ':=by
 have:=Mx.cell h (u:=1) (a:=a) (by simp) ha hc
 rw [hv] at this
 exact ⟨fun w j => if w = 1 /\ j = a then R.length + 5 else ρ w j,Mx.congr this fun u hu => by
  simp only [List.mem_cons,List.not_mem_nil,or_false] at hu
  rcases hu with rfl | rfl
  ·exact ⟨rfl,rfl,rfl,fun j => rfl⟩
  ·exact ⟨rfl,rfl,rfl,fun j => rfl⟩⟩
theorem RI.appD {x ra rb:Row} {p:Nat} (h:RI 5 n C D cv dv R M N ρ) {a:Nat} (ha:N[a]? = some (some ra)) (hp:ρ 2 a = p) (hc:rb.clean = true) {R':Heap} (hR:((rL C D cv dv R).set p rb).set 2 ⟨D.set a (.row p rb.ver),1,dv,false,false⟩ = rL C (D.set a (.row p rb.ver)) cv dv R'):RI 5 n C (D.set a (.row p rb.ver)) cv dv R' M (N.set a (some rb)) ρ:=by
 have:=Mx.app h (u:=2) (a:=a) (by simp) ha hc
 rw [hp] at this
 unfold RI
 rw [<- hR]
 exact Mx.congr this fun u hu => by
  simp only [List.mem_cons,List.not_mem_nil,or_false] at hu
  rcases hu with rfl | rfl
  ·exact ⟨rfl,rfl,rfl,fun j => rfl⟩
  ·exact ⟨rfl,rfl,rfl,fun j => rfl⟩
theorem RI.appC {ra rb:Row} {p:Nat} (h:RI 5 n C D cv dv R M N ρ) {a:Nat} (ha:M[a]? = some (some ra)) (hp:ρ 1 a = p) (hc:rb.clean = true) {R':Heap} (hR:((rL C D cv dv R).set p rb).set 1 ⟨C.set a (.row p rb.ver),1,cv,false,false⟩ = rL (C.set a (.row p rb.ver)) D cv dv R'):RI 5 n (C.set a (.row p rb.ver)) D cv dv R' (M.set a (some rb)) N ρ:=by
 have:=Mx.app h (u:=1) (a:=a) (by simp) ha hc
 rw [hp] at this
 unfold RI
 rw [<- hR]
 exact Mx.congr this fun u hu => by
  simp only [List.mem_cons,List.not_mem_nil,or_false] at hu
  rcases hu with rfl | rfl
  ·exact ⟨rfl,rfl,rfl,fun j => rfl⟩
  ·exact ⟨rfl,rfl,rfl,fun j => rfl⟩
theorem rL_fix {C D:List AV} {cv dv:Nat} {R:Heap} (r:Nat) (row:Row) (hr:r < 4) (hno:r ∉ [1,2]) (h:(rL C D cv dv R)[r]? = some row):∀ s ∈ Zag row,s < 4:=by
 have:r = 0 \/ r = 3:=by
  simp only [List.mem_cons,List.not_mem_nil,or_false] at hno
  omega
 rcases this with rfl | rfl
 ·have e:row = rF0:=(Option.some.inj h).symm
  subst e
  intro s hs;simp [Zag,rowsL,rowsA] at hs
 ·have e:row = rBX cv dv:=(Option.some.inj h).symm
  subst e
  intro s hs;simp [Zag,rowsL,rowsA] at hs;omega
theorem RI.dn {p:Pr} (h:RI 5 n C D cv dv (rPB p :: R) M N ρ):RI 4 n C D cv dv (rPB p :: R) M N ρ:=by
 refine Mx.down h (by intro u hu;simp only [List.mem_cons,List.not_mem_nil,or_false] at hu;omega) (z:=rPB p) rfl (by simp [Zag,rowsL,rowsA]) fun r row hr hno hrow => rL_fix r row hr hno hrow
end
end Go.Av

namespace Go.Av
open Go.Proofs
theorem Mx.fixd {U:Nat} {os:List Nat} {L:Heap} {C:Nat -> List AV} {cv:Nat -> Nat} {M:Nat -> List (Option Row)} {ρ:Nat -> Nat -> Nat} (h:Mx U os L C cv M ρ) {r:Nat} {z:Row} (hr:r < U) (hno:r ∉ os) (hz:∀ s ∈ Zag z,s < U):Mx U os (L.set r z) C cv M ρ:=by
 have hne:∀ q,q ≠ r -> (L.set r z)[q]? = L[q]?:=fun q hq => by rw [List.getElem?_set,if_neg fun e => hq e.symm]
 refine ⟨by rw [List.length_set];exact h.len,h.osU,fun u hu => ?_,fun q row hq hqo hrow => ?_,fun q row hq hrow => ?_,fun u hu j row hm => ?_,h.nil,h.inj,h.hcl⟩
 ·rw [hne u fun e => hno (e ▸ hu)];exact h.out u hu
 ·by_cases e:q = r
  ·subst e
   rw [List.getElem?_set,if_pos rfl,if_pos (by have:=h.len;omega)] at hrow
   rw [<- Option.some.inj hrow];exact hz
  ·rw [hne q e] at hrow;exact h.fix q row hq hqo hrow
 ·rw [hne q (by omega)] at hrow;exact h.cln q row hq hrow
 ·obtain ⟨e1,e2,e3⟩:=h.hit u hu j row hm
  rw [hne _ (by omega)];exact ⟨e1,e2,e3⟩
theorem Zdr {α:Type}:∀ {k:Nat} {L P:List α},P.length = k -> (∀ r,r < k -> L[r]? = P[r]?) -> ∃ R,L = P ++ R
 | 0,L,P,hP,_ => ⟨L,by rw [List.length_eq_zero_iff.1 hP];rfl⟩
 | k + 1,L,P,hP,h => by
  match P,hP with
  | x :: P,hP =>
   have h0:=h 0 (by omega)
   match L,h0 with
   | y :: L,h0 =>
    obtain ⟨R,hR⟩:=Zdr (k:=k) (L:=L) (P:=P) (by simpa using hP) fun r hr => by simpa using h (r + 1) (by omega)
    have:y = x:=by simpa using h0
    exact ⟨R,by rw [hR,this];rfl⟩
section
variable {n:Nat} {C D:List AV} {cv dv:Nat} {R:Heap} {M N:List (Option Row)} {ρ:Nat->Nat->Nat} {z:Row} {fi:Fi} {k:List Item} {env:Vars} {d:AV}
theorem RI.focD (h:RI 5 n C D cv dv (z :: R) M N ρ) (henv:(rowsL (env.map (·.2))).all (fun r => Nat.blt r 5) = true) {a:Nat} {ra:Row} (ha:N[a]? = some (some ra))
  (H:∀ C' D' R' ρ',RI 5 n C' D' cv dv (z :: ra :: R') M N ρ' -> ρ' 2 a = 5 -> Wp M1 (.run fi k env (rL C' D' cv dv (z :: ra :: R'))) (ZaM d)):Wp M1 (.run fi k env (rL C D cv dv (z :: R))) (ZaM d):=by
 obtain ⟨e1,e2,e3⟩:=Mx.hit h 2 (by simp) a ra ha
 have hl:=(List.getElem?_eq_some_iff.1 e2).1
 refine ZdC h henv (u:=2) (a:=a) (p:=5) (by simp) ha (Nat.le_refl 5) (by omega) fun L' C' ρ' hM hlen hp hρ _ hfix => ?_
 have h1:=(hM.out 1 (by simp)).1
 have h2:=(hM.out 2 (by simp)).1
 have h0:=hfix 0 (by omega) (by simp)
 have h3:=hfix 3 (by omega) (by simp)
 have h4:=hfix 4 (by omega) (by simp)
 obtain ⟨R',rfl⟩:=Zdr (k:=6) (L:=L') (P:=rL (C' 1) (C' 2) cv dv [z,ra]) rfl fun r hr => by
  have:r = 0 \/ r = 1 \/ r = 2 \/ r = 3 \/ r = 4 \/ r = 5:=by omega
  rcases this with rfl | rfl | rfl | rfl | rfl | rfl
  ·exact h0
  ·exact h1
  ·exact h2
  ·exact h3
  ·exact h4
  ·exact hp
 exact H _ _ R' ρ' (hM.congr fun u hu => by
  simp only [List.mem_cons,List.not_mem_nil,or_false] at hu
  rcases hu with rfl | rfl
  ·exact ⟨rfl,rfl,rfl,fun j => rfl⟩
  ·exact ⟨rfl,rfl,rfl,fun j => rfl⟩) hρ
theorem RI.focC (h:RI 5 n C D cv dv (z :: R) M N ρ) (henv:(rowsL (env.map (·.2))).all (fun r => Nat.blt r 5) = true) {b:Nat} {rb:Row} (hb:M[b]? = some (some rb))
  (H:∀ C' D' R' ρ',RI 5 n C' D' cv dv (z :: rb :: R') M N ρ' -> ρ' 1 b = 5 -> Wp M1 (.run fi k env (rL C' D' cv dv (z :: rb :: R'))) (ZaM d)):Wp M1 (.run fi k env (rL C D cv dv (z :: R))) (ZaM d):=by
 obtain ⟨e1,e2,e3⟩:=Mx.hit h 1 (by simp) b rb hb
 have hl:=(List.getElem?_eq_some_iff.1 e2).1
 refine ZdC h henv (u:=1) (a:=b) (p:=5) (by simp) hb (Nat.le_refl 5) (by omega) fun L' C' ρ' hM hlen hp hρ _ hfix => ?_
 have h1:=(hM.out 1 (by simp)).1
 have h2:=(hM.out 2 (by simp)).1
 have h0:=hfix 0 (by omega) (by simp)
 have h3:=hfix 3 (by omega) (by simp)
 have h4:=hfix 4 (by omega) (by simp)
 obtain ⟨R',rfl⟩:=Zdr (k:=6) (L:=L') (P:=rL (C' 1) (C' 2) cv dv [z,rb]) rfl fun r hr => by
  have:r = 0 \/ r = 1 \/ r = 2 \/ r = 3 \/ r = 4 \/ r = 5:=by omega
  rcases this with rfl | rfl | rfl | rfl | rfl | rfl
  ·exact h0
  ·exact h1
  ·exact h2
  ·exact h3
  ·exact h4
  ·exact hp
 exact H _ _ R' ρ' (hM.congr fun u hu => by
  simp only [List.mem_cons,List.not_mem_nil,or_false] at hu
  rcases hu with rfl | rfl
  ·exact ⟨rfl,rfl,rfl,fun j => rfl⟩
  ·exact ⟨rfl,rfl,rfl,fun j => rfl⟩) hρ
theorem RI.focDC (h:RI 5 n C D cv dv (z :: R) M N ρ) (henv:(rowsL (env.map (·.2))).all (fun r => Nat.blt r 5) = true) {a b:Nat} {ra rb:Row} (ha:N[a]? = some (some ra)) (hb:M[b]? = some (some rb))
  (H:∀ C' D' R' ρ',RI 5 n C' D' cv dv (z :: ra :: rb :: R') M N ρ' -> ρ' 2 a = 5 -> ρ' 1 b = 6 -> Wp M1 (.run fi k env (rL C' D' cv dv (z :: ra :: rb :: R'))) (ZaM d)):Wp M1 (.run fi k env (rL C D cv dv (z :: R))) (ZaM d):=by
 refine h.focD henv ha fun C1 D1 R1 ρ1 h1 h1a => ?_
 obtain ⟨e1,e2,e3⟩:=Mx.hit h1 1 (by simp) b rb hb
 have hl:=(List.getElem?_eq_some_iff.1 e2).1
 have hne:ρ1 1 b ≠ 5:=fun e => by
  have:=(Mx.inj h1 1 (by simp) 2 (by simp) b a rb ra hb ha (by rw [h1a,e])).1
  omega
 refine ZdC h1 henv (u:=1) (a:=b) (p:=6) (by simp) hb (by omega) (by omega) fun L' C' ρ' hM hlen hp hρ ho hfix => ?_
 have hra:ρ' 2 a = 5:=by
  have:=ho 2 (by simp) a ra ha (by rw [h1a];omega) (by rw [h1a];exact fun e => hne e.symm)
  rw [this];exact h1a
 have hr5:=(hM.hit 2 (by simp) a ra ha).2.1
 rw [hra] at hr5
 have h1':=(hM.out 1 (by simp)).1
 have h2:=(hM.out 2 (by simp)).1
 have h0:=hfix 0 (by omega) (by simp)
 have h3:=hfix 3 (by omega) (by simp)
 have h4:=hfix 4 (by omega) (by simp)
 obtain ⟨R',rfl⟩:=Zdr (k:=7) (L:=L') (P:=rL (C' 1) (C' 2) cv dv [z,ra,rb]) rfl fun r hr => by
  have:r = 0 \/ r = 1 \/ r = 2 \/ r = 3 \/ r = 4 \/ r = 5 \/ r = 6:=by omega
  rcases this with rfl | rfl | rfl | rfl | rfl | rfl | rfl
  ·exact h0
  ·exact h1'
  ·exact h2
  ·exact h3
  ·exact h4
  ·exact hr5
  ·exact hp
 exact H _ _ R' ρ' (hM.congr fun u hu => by
  simp only [List.mem_cons,List.not_mem_nil,or_false] at hu
  rcases hu with rfl | rfl
  ·exact ⟨rfl,rfl,rfl,fun j => rfl⟩
  ·exact ⟨rfl,rfl,rfl,fun j => rfl⟩) hra hρ
theorem RI.lenC {U:Nat} (h:RI U n C D cv dv R M N ρ):C.length=M.length:=(Mx.out h 1 (by simp)).2
theorem RI.lenD {U:Nat} (h:RI U n C D cv dv R M N ρ):D.length=N.length:=(Mx.out h 2 (by simp)).2
theorem RI.nilC {U:Nat} (h:RI U n C D cv dv R M N ρ) {b:Nat} (hb:M[b]? = some none):C[b]? = some AV.vnil:=Mx.nil h 1 (by simp) b hb
theorem RI.nilD {U:Nat} (h:RI U n C D cv dv R M N ρ) {a:Nat} (ha:N[a]? = some none):D[a]? = some AV.vnil:=Mx.nil h 2 (by simp) a ha
theorem RI.hitC {U:Nat} (h:RI U n C D cv dv R M N ρ) {b:Nat} {rb:Row} (hb:M[b]? = some (some rb)):C[b]? = some (.row (ρ 1 b) rb.ver):=(Mx.hit h 1 (by simp) b rb hb).1
theorem RI.hitD {U:Nat} (h:RI U n C D cv dv R M N ρ) {a:Nat} {ra:Row} (ha:N[a]? = some (some ra)):D[a]? = some (.row (ρ 2 a) ra.ver):=(Mx.hit h 2 (by simp) a ra ha).1
end
def RJ (n:Nat) (qs:List Pr) (C D:List AV) (cv dv:Nat) (R:Heap):Prop:=∃ M N ρ,RI 4 n C D cv dv R M N ρ/\Cels n (Sp.bfl qs) M/\Cels n (Sp.bhl qs) N
section
variable {n:Nat} {C D:List AV} {cv dv:Nat} {R:Heap} {M N:List (Option Row)} {ρ:Nat->Nat->Nat} {p:Pr} {qs ps:List Pr} {m i:Int} {d:AV} {f:Bool}
theorem RI.nn (h:RI 5 n C D cv dv (rPB p :: R) M N ρ) (hM:Cels n (Sp.bfl qs) M) (hN:Cels n (Sp.bhl qs) N) (ha:N[p.a.toNat]? = some none) (hb:M[p.b.toNat]? = some none) (hp:(0 <= p.a /\ p.a < n) /\ 0 <= p.b /\ p.b < n) (ea:Sp.bhl qs p.a = []) (eb:Sp.bfl qs p.b = []) :
  RJ n (qs ++ [p]) (C.set p.b.toNat (.row ((R ++ [nR [p.b] 0]).length + 5) 0)) (D.set p.a.toNat (.row (R.length + 5) 0)) cv dv (rPB p :: ((R ++ [nR [p.b] 0]) ++ [nR [p.a] 0])):=by
 obtain ⟨ρ1,h1⟩:=h.cellD (a:=p.a.toNat) (rb:=nR [p.b] 0) (by rw [hN.1];omega) rfl rfl
 obtain ⟨ρ2,h2⟩:=h1.cellC (a:=p.b.toNat) (rb:=nR [p.a] 0) (by rw [hM.1];omega) rfl rfl
 have cM:=cels_bf (v:=0) hM hp.2
 have cN:=cels_bh (v:=0) hN hp.1
 rw [eb,List.nil_append] at cM
 rw [ea,List.nil_append] at cN
 exact ⟨_,_,_,h2.dn,cM,cN⟩
theorem es3:((fun _=>Try.prog) ():Program).types[3].size=1:=by kernel_rfl
theorem bfl_len (qs:List Pr) (b:Int):(Sp.bfl qs b).length<=qs.length:=by unfold Sp.bfl;rw [List.length_map];exact List.length_filter_le ..
theorem bhl_len (qs:List Pr) (b:Int):(Sp.bhl qs b).length<=qs.length:=by unfold Sp.bhl;rw [List.length_map];exact List.length_filter_le ..
theorem rd_body (h:RI 5 n C D cv dv (rPB p :: R) M N ρ) (hM:Cels n (Sp.bfl qs) M) (hN:Cels n (Sp.bhl qs) N) (hp:(0 <= p.a /\ p.a < n) /\ 0 <= p.b /\ p.b < n) (hq:qs.length <= 1000000) (hi:0 <= i /\ i <= 1000000)
  (H:∀ C D R,RJ n (qs ++ [p]) C D cv dv R -> Zf3 f ps false C D cv dv R m (i + 1) (ZaM d)):Zgg f ps C D cv dv R m i p (ZaM d):=by
 have l1:=bfl_len qs p.b
 have l2:=bhl_len qs p.a
 obtain ⟨x,hx,cx⟩:=hN.2 p.a.toNat (by omega)
 obtain ⟨y,hy,cy⟩:=hM.2 p.b.toNat (by omega)
 rw [show ((p.a.toNat:Nat):Int) = p.a by omega] at cx
 rw [show ((p.b.toNat:Nat):Int) = p.b by omega] at cy
 rcases cx with ⟨ea,rfl⟩ | ⟨_,v,rfl⟩ <;> rcases cy with ⟨eb,rfl⟩ | ⟨_,w,rfl⟩
 ·have hn:=H _ _ _ (h.nn hM hN hx hy hp ea eb)
  refine rnn _ _ _ _ _ _ _ _ _ _ _ ⟨hp.1.1,by rw [h.lenD,hN.1];omega,h.nilD hx,hp.2.1,by rw [h.lenC,hM.1];omega,h.nilC hy,by omega,?_⟩
  rw [es3];exact hn
 ·unfold Zgg
  refine h.focC rfl hy fun C' D' R' ρ' h' h1 => ?_
  have hC:=h'.hitC hy
  rw [h1] at hC
  have h2:=h'.appC (rb:=nR (Sp.bfl qs p.b ++ [p.a]) (w + 1)) hy h1 rfl (R':=rPB p :: nR (Sp.bfl qs p.b ++ [p.a]) (w + 1) :: R') rfl
  obtain ⟨ρ3,h3⟩:=h2.cellD (a:=p.a.toNat) (rb:=nR [p.b] 0) (by rw [hN.1];omega) rfl rfl
  have cN:=cels_bh (v:=0) hN hp.1
  rw [ea,List.nil_append] at cN
  have hn:=H _ _ _ ⟨_,_,_,h3.dn,cels_bf hM hp.2,cN⟩
  refine rnr f ps C' D' cv dv R' m i p (Sp.bfl qs p.b) w (ZaM d) ⟨hp.1.1,by rw [h'.lenD,hN.1];omega,h'.nilD hx,hp.2.1,by rw [h'.lenC,hM.1];omega,by omega,hC,by omega,?_⟩
  rw [es3];exact hn
 ·unfold Zgg
  refine h.focD rfl hx fun C' D' R' ρ' h' h1 => ?_
  have hD:=h'.hitD hx
  rw [h1] at hD
  have h2:=h'.appD (x:=rF0) (rb:=nR (Sp.bhl qs p.a ++ [p.b]) (v + 1)) hx h1 rfl (R':=rPB p :: nR (Sp.bhl qs p.a ++ [p.b]) (v + 1) :: R') rfl
  obtain ⟨ρ3,h3⟩:=h2.cellC (a:=p.b.toNat) (rb:=nR [p.a] 0) (by rw [hM.1];omega) rfl rfl
  have cM:=cels_bf (v:=0) hM hp.2
  rw [eb,List.nil_append] at cM
  have hn:=H _ _ _ ⟨_,_,_,h3.dn,cM,cels_bh hN hp.1⟩
  refine rrn f ps C' D' cv dv R' m i p (Sp.bhl qs p.a) v (ZaM d) ⟨hp.1.1,by rw [h'.lenD,hN.1];omega,by omega,hD,hp.2.1,by rw [h'.lenC,hM.1];omega,h'.nilC hy,by omega,?_⟩
  rw [es3];exact hn
 ·unfold Zgg
  refine h.focDC rfl hx hy fun C' D' R' ρ' h' h1 h1b => ?_
  have hD:=h'.hitD hx
  rw [h1] at hD
  have hC:=h'.hitC hy
  rw [h1b] at hC
  have h2:=h'.appD (x:=rF0) (rb:=nR (Sp.bhl qs p.a ++ [p.b]) (v + 1)) hx h1 rfl (R':=rPB p :: nR (Sp.bhl qs p.a ++ [p.b]) (v + 1) :: nR (Sp.bfl qs p.b) w :: R') rfl
  have h3:=h2.appC (rb:=nR (Sp.bfl qs p.b ++ [p.a]) (w + 1)) hy h1b rfl (R':=rPB p :: nR (Sp.bhl qs p.a ++ [p.b]) (v + 1) :: nR (Sp.bfl qs p.b ++ [p.a]) (w + 1) :: R') rfl
  have hn:=H _ _ _ ⟨_,_,_,h3.dn,cels_bf hM hp.2,cels_bh hN hp.1⟩
  exact rrr f ps C' D' cv dv R' m i p (Sp.bhl qs p.a) v (Sp.bfl qs p.b) w (ZaM d) ⟨hp.1.1,by rw [h'.lenD,hN.1];omega,by omega,hD,hp.2.1,by rw [h'.lenC,hM.1];omega,by omega,hC,by omega,hn⟩
end
end Go.Av

namespace Go.Av
open Go.Proofs
structure Iw where
 l:List Int
 deriving Inhabited
def Iw.a (x:Iw):AV:=.vec false 1 (x.l.map (.int .i64))
namespace Sp
def befW (n:Nat) (ps:List Pr):List Iw:=(List.range n).map fun (j:Nat)=>⟨bfl ps j⟩
def behW (n:Nat) (ps:List Pr):List Iw:=(List.range n).map fun (j:Nat)=>⟨bhl ps j⟩
end Sp
def rdV (n:Nat) (ps:List Pr):AV:=.agg [.vec false 1 ((Sp.befW n ps).map Iw.a),.vec false 1 ((Sp.behW n ps).map Iw.a)]
theorem cel_weak {l:List Int} {m:Option Row} (h:Cel l m):Weak (Zc6 m) (Iw.a ⟨l⟩):=by
 rcases h with ⟨rfl,rfl⟩ | ⟨_,v,rfl⟩
 ·exact .vnil 1
 ·exact .refl _
theorem iw_plain (l:List Int):(Iw.a ⟨l⟩).cells=[Iw.a ⟨l⟩]/\(Iw.a ⟨l⟩).plain=true:=⟨rfl,rfl⟩
theorem Zd5 {n:Nat} {g:Int -> List Int} {M:List (Option Row)} (h:Cels n g M):Weak (.vec false 1 (M.map Zc6)) (.vec false 1 (((List.range n).map fun (j:Nat) => (⟨g j⟩:Iw)).map Iw.a)):=by
 refine .cells false 1 _ _ (by simp [h.1]) (fun i x y hx hy => ?_) (fun y hy => ?_) (fun x hx => ?_)
 ·have hi:i < n:=by have:=(List.getElem?_eq_some_iff.1 hx).1;rw [List.length_map,h.1] at this;exact this
  obtain ⟨m,hm,hc⟩:=h.2 i hi
  rw [List.getElem?_map,hm] at hx
  rw [List.getElem?_map,List.getElem?_map,List.getElem?_range hi] at hy
  rw [<- Option.some.inj hx,<- Option.some.inj hy]
  exact cel_weak hc
 ·obtain ⟨w,_,rfl⟩:=List.mem_map.1 hy
  exact iw_plain w.l
 ·obtain ⟨m,_,rfl⟩:=List.mem_map.1 hx
  cases m <;> rfl
theorem rd_end {n:Nat} {C D:List AV} {cv dv:Nat} {R:Heap} {ps:List Pr} (h:RJ n ps C D cv dv R):ZaM (rdV n ps) (.agg [.row 1 cv,.row 2 dv]) (rBX cv dv :: ⟨C,1,cv,false,false⟩ :: ⟨D,1,dv,false,false⟩ :: rBX cv dv :: R):=by
 obtain ⟨M,N,ρ,hx,hM,hN⟩:=h
 have h':=Mx.fixd hx (r:=0) (z:=rBX cv dv) (by omega) (by simp) (by intro s hs;simp [Zag,rowsL,rowsA] at hs;omega)
 obtain ⟨a1,a2⟩:=h'.deep (u:=1) (by simp)
 obtain ⟨b1,b2⟩:=h'.deep (u:=2) (by simp)
 have e:(rL C D cv dv R).set 0 (rBX cv dv) = rBX cv dv :: ⟨C,1,cv,false,false⟩ :: ⟨D,1,dv,false,false⟩ :: rBX cv dv :: R:=rfl
 rw [e] at a1 a2 b1 b2
 have a1:deepA _ (AV.row 1 cv) = some (.vec false 1 (M.map Zc6)):=a1
 have b1:deepA _ (AV.row 2 dv) = some (.vec false 1 (N.map Zc6)):=b1
 refine ⟨.agg [.vec false 1 (M.map Zc6),.vec false 1 (N.map Zc6)],?_,?_,?_⟩
 ·have hl:∀ L:Heap,deepA L (.row 1 cv) = some (.vec false 1 (M.map Zc6)) -> deepA L (.row 2 dv) = some (.vec false 1 (N.map Zc6)) -> deepL L [.row 1 cv,.row 2 dv] = some [.vec false 1 (M.map Zc6),.vec false 1 (N.map Zc6)]:=fun L e1 e2 => by
   rw [deepL,e1,deepL,e2];rfl
  have hA:∀ (L:Heap) cs ds,deepL L cs = some ds -> deepA L (.agg cs) = some (.agg ds):=fun L cs ds e => by rw [deepA,e]
  exact hA _ _ _ (hl _ a1 b1)
 ·rw [Zbu] at a2 b2 ⊢
  intro b hb
  have hb:b ∈ deepV _ (AV.row 1 cv) ++ (deepV _ (AV.row 2 dv) ++ []):=hb
  rw [List.append_nil,List.mem_append] at hb
  rcases hb with hb | hb
  ·exact a2 b hb
  ·exact b2 b hb
 ·refine .agg _ _ rfl fun i x y hx hy => ?_
  match i with
  | 0 => rw [<- Option.some.inj hx,<- Option.some.inj hy];exact Zd5 hM
  | 1 => rw [<- Option.some.inj hx,<- Option.some.inj hy];exact Zd5 hN
  | i + 2 => cases hx
theorem rdQ_eq {ps:List Pr} {i:Nat} (h:i < ps.length):(ps.map Pr.v)[((i:Nat):Int).toNat]? = some (rdP (ps[i]).a (ps[i]).b):=by
 rw [Int.toNat_natCast,List.getElem?_map,List.getElem?_eq_getElem h];rfl
theorem ZdF {α:Type} {l:List α} {i:Nat} (h:i < l.length):l.take (i + 1) = l.take i ++ [l[i]]:=by
 rw [List.take_add_one,List.getElem?_eq_getElem h];rfl
theorem rd_loop {n:Nat} {ps:List Pr} {f:Bool} (hv:Sp.okV n ps) (hpl:ps.length <= 1000000):∀ (c i:Nat) (C D:List AV) (cv dv:Nat) (R:Heap),i + c = ps.length -> RJ n (ps.take i) C D cv dv R -> Zf3 f ps false C D cv dv R (ps.length:Int) (i:Int) (ZaM (rdV n ps)):=by
 intro c
 induction c with
 | zero =>
  intro i C D cv dv R hi h
  rw [List.take_of_length_le (by omega)] at h
  exact rH _ _ _ _ _ _ _ _ _ _ _ ⟨fun z => absurd z (by omega),fun _ => rd_end h⟩
 | succ c ih =>
  intro i C D cv dv R hi h
  have hil:i < ps.length:=by omega
  have hp:=hv ps[i] (List.getElem_mem hil)
  refine rH _ _ _ _ _ _ _ _ _ _ _ ⟨fun _ => ?_,fun z => absurd (by omega) z⟩
  refine rd4 (f:=f) (b:=decide ((i:Int) < ps.length)) (ps:=ps.map Pr.v) (m:=ps.length) (i:=i) (by omega) (by rw [List.length_map];omega) (rdQ_eq hil) ?_
  obtain ⟨M,N,ρ,hx,hM,hN⟩:=h
  have s0:swp 4 (rL C D cv dv R).length 0 = 0:=Zb2 (by omega) (by simp)
  have s3:swp 4 (rL C D cv dv R).length 3 = 3:=Zb2 (by omega) (by simp)
  have sL:swp 4 (rL C D cv dv R).length (rL C D cv dv R).length = 4:=swp_q ..
  refine wp_box hx (z:=rPB ps[i]) (by simp [Zag,rowsL,rowsA]) (by intro r hr;simp [rowsL,rowsA] at hr;simp;omega) (env':=[(4,AV.ptr 0 0 0 0),(5,AV.ptr 3 0 0 0),(13,.vec f 2 (ps.map Pr.v)),(14,.int .i64 ps.length),(15,.int .i64 i),(7,.ptr 4 0 0 0)]) ?_ fun L' C' ρ' h' hU hfix => ?_
  ·unfold renV
   simp only [List.map_cons,List.map_nil,renA,s0,s3,sL]
  ·have h1:=(h'.out 1 (by simp)).1
   have h2:=(h'.out 2 (by simp)).1
   have h0:=hfix 0 (by omega) (by simp)
   have h3:=hfix 3 (by omega) (by simp)
   obtain ⟨R',rfl⟩:=Zdr (k:=5) (L:=L') (P:=rL (C' 1) (C' 2) cv dv [rPB ps[i]]) rfl fun r hr => by
    have:r = 0 \/ r = 1 \/ r = 2 \/ r = 3 \/ r = 4:=by omega
    rcases this with rfl | rfl | rfl | rfl | rfl
    ·exact h0
    ·exact h1
    ·exact h2
    ·exact h3
    ·exact hU
   have hR:RI 5 n (C' 1) (C' 2) cv dv (rPB ps[i] :: R') M N ρ':=h'.congr fun u hu => by
    simp only [List.mem_cons,List.not_mem_nil,or_false] at hu
    rcases hu with rfl | rfl
    ·exact ⟨rfl,rfl,rfl,fun j => rfl⟩
    ·exact ⟨rfl,rfl,rfl,fun j => rfl⟩
   refine rd_body hR hM hN ⟨by omega,by omega⟩ (by rw [List.length_take];omega) (by omega) fun C D R hj => ?_
   rw [<- ZdF hil] at hj
   exact ih (i + 1) C D cv dv R (by omega) hj
theorem ri_base (n:Nat):RI 4 n (List.replicate n .vnil) (List.replicate n .vnil) 0 0 [] (List.replicate n none) (List.replicate n none) (fun _ _ => 0):=by
 have no:∀ (j:Nat) (row:Row),(List.replicate n (none:Option Row))[j]? = some (some row) -> False:=fun j row h => by
  rw [List.getElem?_replicate] at h
  split at h
  ·cases h
  ·cases h
 have no':∀ u,∀ (j:Nat) (row:Row),(CC (List.replicate n (none:Option Row)) (List.replicate n none) u)[j]? = some (some row) -> False:=fun u j row h => by
  unfold CC at h
  split at h <;> exact no j row h
 refine ⟨by simp,by simp,fun u hu => ?_,fun r row hr hno hrow => rL_fix r row hr hno hrow,fun r row hr hrow => ?_,fun u _ j row h => (no' u j row h).elim,fun u _ j h => ?_,fun u _ w _ i j r s h => (no' u i r h).elim,fun u _ j row h => (no' u j row h).elim⟩
 ·simp only [List.mem_cons,List.not_mem_nil,or_false] at hu
  rcases hu with rfl | rfl
  ·exact ⟨rfl,by simp [CC]⟩
  ·exact ⟨rfl,by simp [CC]⟩
 ·have:=(List.getElem?_eq_some_iff.1 hrow).1
  simp at this;omega
 ·have e:∀ (α:Type) (x:α),CC x x u = x:=fun α x => by unfold CC;split <;> rfl
  rw [e] at h ⊢
  rw [List.getElem?_replicate] at h ⊢
  split at h
  ·rename_i hj;rw [if_pos hj]
  ·cases h
theorem Zd6 (n:Nat) (g:Int->List Int) (hg:∀ j,g j=[]):Cels n g (List.replicate n none):=⟨by simp,fun j hj=>⟨none,by rw [List.getElem?_replicate,if_pos hj],.inl ⟨hg _,rfl⟩⟩⟩
theorem rd_start {n:Nat} {ps:List Pr} {f:Bool} (hv:Sp.okV n ps) (hpl:ps.length <= 1000000):rB_at f ps true (List.replicate n .vnil) (List.replicate n .vnil) 0 0 [] (ZaM (rdV n ps)):=by
 refine rB _ _ _ _ _ _ _ _ _ (rH _ _ _ _ _ _ _ _ _ _ _ ⟨fun hm => ?_,fun hm => ?_⟩)
 ·have hil:0 < ps.length:=by omega
  have hp:=hv ps[0] (List.getElem_mem hil)
  refine rd4 (f:=f) (b:=decide ((0:Int) < ps.length)) (ps:=ps.map Pr.v) (m:=ps.length) (i:=0) (by omega) (by rw [List.length_map];exact hil) (rdQ_eq hil) ?_
  have h5:RI 5 n (List.replicate n .vnil) (List.replicate n .vnil) 0 0 [rPB ps[0]] (List.replicate n none) (List.replicate n none) (fun _ _ => 0):=by
   refine Mx.up (U:=4) ((ri_base n).push (z:=rPB ps[0]) (by simp [Zag,rowsL,rowsA])) (by simp) fun u _ j row h => ?_
   unfold CC at h
   split at h <;> rw [List.getElem?_replicate] at h <;> split at h <;> cases h
  have hj:=h5.nn (qs:=[]) (Zd6 n _ fun _ => rfl) (Zd6 n _ fun _ => rfl) (by rw [List.getElem?_replicate,if_pos (by omega)]) (by rw [List.getElem?_replicate,if_pos (by omega)]) ⟨by omega,by omega⟩ rfl rfl
  have hn:=rd_loop (f:=f) hv hpl (ps.length - 1) 1 _ _ _ _ _ (by omega) (by rw [ZdF hil];exact hj)
  have nl:∀ k:Nat,k < n -> (List.replicate n AV.vnil)[k]? = some .vnil:=fun k hk => by rw [List.getElem?_replicate,if_pos hk]
  refine r00 f ps _ _ 0 0 [] ps.length 0 ps[0] _ ⟨by omega,by rw [List.length_replicate];omega,nl _ (by omega),by omega,by rw [List.length_replicate];omega,nl _ (by omega),by omega,?_⟩
  rw [es3];exact hn
 ·have hps:ps = []:=List.length_eq_zero_iff.1 (by omega)
  subst hps
  refine ⟨.agg [.vec false 1 ((List.replicate n none).map Zc6),.vec false 1 ((List.replicate n none).map Zc6)],?_,?_,?_⟩
  ·have e:(List.replicate n (none:Option Row)).map Zc6 = List.replicate n .vnil:=by rw [List.map_replicate];rfl
   rw [e];rfl
  ·exact Zaf (by simp [Zbd]) (Zaf (by simp [Zbd]) Zak)
  ·refine .agg _ _ rfl fun i x y hx hy => ?_
   match i with
   | 0 => rw [<- Option.some.inj hx,<- Option.some.inj hy];exact Zd5 (Zd6 n _ fun _ => rfl)
   | 1 => rw [<- Option.some.inj hx,<- Option.some.inj hy];exact Zd5 (Zd6 n _ fun _ => rfl)
   | i + 2 => cases hx
theorem rd_ev (n:Nat) (f:Bool) (ps:List Pr) (h:Sp.okV n ps /\ n <= 1000 /\ ps.length <= 1000000):Ev M1 (.pure 34 [.int .i64 n,.vec f 2 (ps.map Pr.v)]) (.agg [.vec false 1 ((Sp.befW n ps).map Iw.a),.vec false 1 ((Sp.behW n ps).map Iw.a)]) []:=by
 obtain ⟨hv,hn,hpl⟩:=h
 exact ZfR hm1 Try.f34 fi34 (by kernel_rfl) (by kernel_rfl) (by kernel_rfl) (by kernel_rfl) (rd0 (rd1 (by omega) (rd_start hv hpl)))
theorem ev34 (n:Int) (f:Bool) (ps:List Pr) (h:Sp.vd n ps = 0):Ev M1 (.pure 34 [.int .i64 n,.vec f 2 (ps.map Pr.v)]) (.agg [.vec false 1 ((Sp.befW n.toNat ps).map Iw.a),.vec false 1 ((Sp.behW n.toNat ps).map Iw.a)]) []:=by
 obtain ⟨m,rfl,hm⟩:=Ze3 h
 rw [Int.toNat_natCast]
 exact rd_ev m f ps hm
end Go.Av

namespace Go.Av
open Go.Proofs
namespace Sp
def cycB (n:Nat) (ps:List Pr):Bool:=(ord n ps).isNone
def ordL (n:Int) (ps:List Pr):List Int:=if vd n ps=0 then (ord n.toNat ps).getD [] else []
def ZeJ (n:Int) (ps:List Pr):Int:=if vd n ps=0 then (if cycB n.toNat ps=true then 12 else 0) else vd n ps
def ix (x:Int):List Int -> Int -> Int
 | [],_ => -1
 | a :: l,i => if x = a then i else ix x l (i + 1)
end Sp
theorem Zd4 {n:Nat} {ps:List Pr} (hv:Sp.okV n ps):Sp.cycB n ps = true ↔ Sp.cyc n ps:=by
 unfold Sp.cycB
 rw [<- ord_cyc hv,Option.isNone_iff_eq_none]
theorem tabW_dep {n:Nat} {ps:List Pr} {a b:Nat} (ha:a < n) (hb:b < n):((Sp.tabW n ps).getD a default).l.getD b default = true ↔ Sp.dep ps a b:=by
 rw [tabW_get ha];exact tab_get ha hb
theorem tabW_row {n:Nat} {ps:List Pr} {a:Nat} (ha:a < n):((Sp.tabW n ps).getD a default).l.length = n:=by
 rw [tabW_get ha];exact (tab_dim n ps).2 a ha
theorem pCyL_loop {n:Nat} {ps:List Pr} {fm:Bool} (hv:Sp.okV n ps) (hn:n <= 1000):∀ (c i:Nat),i + c = n -> (∀ j:Nat,j < i -> ¬Sp.dep ps j j) -> Zfr (n:Int) fm (Sp.tabW n ps) (i:Int) (Zat (.bool (Sp.cycB n ps))):=by
 intro c
 induction c with
 | zero =>
  intro i hi h
  refine pCyL _ _ _ _ _ ⟨fun z => absurd z (by omega),fun _ => ?_⟩
  have:Sp.cycB n ps = false:=Bool.eq_false_iff.2 fun e => by
   obtain ⟨k,hk,hd⟩:=(Zd4 hv).1 e
   have:=h k.toNat (by omega)
   rw [show ((k.toNat:Nat):Int) = k by omega] at this
   exact this hd
  rw [this]
 | succ c ih =>
  intro i hi h
  have hin:i < n:=by omega
  have e:((i:Nat):Int).toNat = i:=Int.toNat_natCast i
  refine pCyL _ _ _ _ _ ⟨fun _ => ⟨by omega,by rw [e,tabW_len];exact hin,by rw [e,tabW_row hin];exact hin,fun h1 => ?_,fun h1 => ⟨by omega,?_⟩⟩,fun z => absurd (by omega) z⟩
  ·rw [e,tabW_dep hin hin] at h1
   rw [(Zd4 hv).2 ⟨i,by omega,h1⟩]
  ·rw [e,tabW_dep hin hin] at h1
   refine ih (i + 1) (by omega) fun j hj => ?_
   by_cases ej:j = i
   ·rw [ej];exact h1
   ·exact h j (by omega)
theorem ev18 (n:Int) (f:Bool) (ps:List Pr) (h:Sp.vd n ps = 0):Ev M1 (.pure 18 [.int .i64 n,.vec f 2 (ps.map Pr.v)]) (.bool (Sp.cycB n.toNat ps)) []:=by
 refine call18 (pCy _ _ _ _ ⟨h,?_⟩)
 obtain ⟨m,rfl,hv,hm,_⟩:=Ze3 h
 rw [Int.toNat_natCast]
 exact pCyL_loop hv hm m 0 (by omega) fun j hj => by omega
end Go.Av

namespace Go.Av
open Go.Proofs
set_option maxRecDepth 100000
def fi39:Fi:=⟨19,[.tmp 4]⟩
def kp39:List (Nat × List Nat):=[(0,[0,1]),(1,[0,1,7,8]),(2,[0,1,7,8,9]),(3,[0,1,5,7,8]),(4,[0,1,5,7,8,16]),(5,[4]),(6,[0,1,7,8]),(7,[4])]
def pIi_at (A:List Int) (x:Int) (v:Nat) (Q:AV->Heap->Prop):Prop:=Wp M1 (.run fi39 (atC (cd Try.f39) []) [(0,.row 0 v),(1,.int .i64 x)] [⟨A.map (.int .i64),1,v,false,true⟩]) Q
def Zfq (A:List Int) (x:Int) (v:Nat) (m i:Int) (Q:AV->Heap->Prop):Prop:=Wp M1 (.run fi39 (atC (cd Try.f39) [1,0,1,0,0]) [(0,.row 0 v),(1,.int .i64 x),(7,.int .i64 m),(8,.int .i64 i)] [⟨A.map (.int .i64),1,v,false,true⟩]) Q
theorem owncall39 {args:List AV} {L:Heap} {Q:AV -> Heap -> Prop} (h:Wp M1 (.run fi39 [.code (cd Try.f39)] (Zbg 0 args) L) Q):Wp M1 (.own 39 args L) Q:=
 Zgl Try.f39 fi39 (by kernel_rfl) (by kernel_rfl) (by kernel_rfl) (by kernel_rfl) h
theorem pIi (A:List Int) (x:Int) (v:Nat)  (Q:AV -> Heap -> Prop) (H :
  Zfq (A) (x) (v) ((↑A.length:Int)) (0) Q) :
 pIi_at A x v Q:=by
 unfold pIi_at
 have w1:(List.map (vi) A).length = A.length:=List.length_map ..
 exact Zab (G:=Zae kp39 [] []) 1000 [] ⟨(atC (cd Try.f39) [1,0,1,0,0]),[(0,AV.row 0 v),(1,vi x),(7,vi (↑(List.map (vi) A).length:Int)),(8,vi 0)],[⟨List.map (vi) A,1,v,false,true⟩],[v == v],[],_⟩ (by kernel_rfl) (bc (beq_self_eq_true _) b0) q0 c0 (by (try rw [w1]);all_goals exact H)
theorem pIiL (A:List Int) (x:Int) (v:Nat) (m i:Int)  (Q:AV -> Heap -> Prop) (H :
  ((i < m) -> (0 <= i) /\
   (i.toNat < A.length) /\
   ((x = A.getD i.toNat default) -> Q (vi i) [{ elems:=List.map (vi) A,es:=1,ver:=v,frozen:=false,clean:=true }]) /\
   (¬(x = A.getD i.toNat default) -> (-9223372036854775808 <= i + 1 /\ i + 1 <= 9223372036854775807) /\
    Zfq (A) (x) (v) (m) (i + 1) Q)) /\
  (¬(i < m) -> Q (vi (-1)) [{ elems:=List.map (vi) A,es:=1,ver:=v,frozen:=false,clean:=true }])) :
 Zfq A x v m i Q:=by
 unfold Zfq
 rcases xq H with ⟨d2,H⟩|⟨d2,H⟩
 ·obtain ⟨k4,H⟩:=H
  have w5:(List.map (vi) A).length = A.length:=List.length_map ..
  have i6:(decide (i.toNat < (List.map (vi) A).length)) = true ↔ (i.toNat < A.length):=(by (try rw [w5]);all_goals exact Zaa)
  obtain ⟨k7,H⟩:=H
  refine Zab (G:=Zae kp39 [(4,4,.elem (vi (A.getD i.toNat default)))] []) 11 [true] ⟨(atC (cd Try.f39) [1,0,1,0,0,1,1,0,0,1,1]),[(0,AV.row 0 v),(1,vi x),(5,vi i),(7,vi m),(8,vi i),(16,vb (x == A.getD i.toNat default))],[⟨List.map (vi) A,1,v,false,true⟩],[(decide (i < m)) == true,v == v,decide (0 <= i),decide (i.toNat < (List.map (vi) A).length),v == v],[((List.map (vi) A).get?Internal i.toNat = some (vi (A.getD i.toNat default)))],_⟩ (by kernel_rfl) (bc (Zas (Zaa.2 d2)) (bc (beq_self_eq_true _) (bc (Zaa.2 k4) (bc (i6.2 k7) (bc (beq_self_eq_true _) b0))))) (qc (Zaq k7) q0) c0 ?_
  rcases xq H with ⟨d9,H⟩|⟨d9,H⟩
  ·exact ZaG (G:=Zae kp39 [] []) 1000 [true] (k:=((atC (cd Try.f39) [1,0,1,0,0,1,1,0,0,1,1,0,1])).tail) (env':=[(4,vi i)]) (L':=[⟨List.map (vi) A,1,v,false,true⟩]) (asm:=[(x == A.getD i.toNat default) == true]) (eqs:=[]) (calls:=[]) (vi i) (by kernel_rfl) (by kernel_rfl) (Zaf (Zas (i_eq.2 d9)) Zak) Zal ZaJ H
  ·obtain ⟨k10,H⟩:=H
   have w11:wi (i + 1) = i + 1:=wI64 k10
   exact Zab (G:=Zae kp39 [] []) 1000 [false] ⟨(atC (cd Try.f39) [1,0,1,0,0]),[(0,AV.row 0 v),(1,vi x),(7,vi m),(8,vi (wi (i + 1)))],[⟨List.map (vi) A,1,v,false,true⟩],_,[],_⟩ (by kernel_rfl) (bc (Zap (fun h => d9 (i_eq.1 h))) b0) q0 c0 (by (try rw [w11]);all_goals exact H)
 ·exact ZaG (G:=Zae kp39 [] []) 1000 [false] (k:=((atC (cd Try.f39) [1,1,1])).tail) (env':=[(4,vi (-1))]) (L':=[⟨List.map (vi) A,1,v,false,true⟩]) (asm:=[(decide (i < m)) == false]) (eqs:=[]) (calls:=[]) (vi (-1)) (by kernel_rfl) (by kernel_rfl) (Zaf (Zap (fun h => d2 (Zaa.1 h))) Zak) Zal ZaJ H
end Go.Av

namespace Go.Av
open Go.Proofs
theorem pIiL_loop {A:List Int} {x:Int} {v:Nat} (hb:A.length <= 4000000000):∀ (c i:Nat),i + c = A.length -> Zfq A x v (A.length:Int) (i:Int) (isR (.int .i64 (Sp.ix x (A.drop i) i)) [⟨A.map (.int .i64),1,v,false,true⟩]):=by
 intro c
 induction c with
 | zero =>
  intro i hi
  refine pIiL _ _ _ _ _ _ ⟨fun z => absurd z (by omega),fun _ => ?_⟩
  rw [List.drop_of_length_le (by omega)]
  exact ⟨rfl,rfl⟩
 | succ c ih =>
  intro i hi
  have hil:i < A.length:=by omega
  have e:((i:Nat):Int).toNat = i:=Int.toNat_natCast i
  have g1:A.getD i default = A[i]:=by rw [List.getD_eq_getElem?_getD,List.getElem?_eq_getElem hil];rfl
  refine pIiL _ _ _ _ _ _ ⟨fun _ => ⟨by omega,by omega,fun h1 => ?_,fun h1 => ⟨by omega,?_⟩⟩,fun z => absurd (by omega) z⟩
  ·rw [e,g1] at h1
   rw [List.drop_eq_getElem_cons hil,Sp.ix,if_pos h1]
   exact ⟨rfl,rfl⟩
  ·rw [e,g1] at h1
   rw [List.drop_eq_getElem_cons hil,Sp.ix,if_neg h1]
   exact ih (i + 1) (by omega)
theorem evo39 (A:List Int) (x:Int) (v:Nat) (h:Sp.few A.length 4000000000):Ev M1 (.own 39 [.row 0 v,.int .i64 x] [⟨A.map (.int .i64),1,v,false,true⟩]) (.int .i64 (Sp.ix x A 0)) [⟨A.map (.int .i64),1,v,false,true⟩]:=
 owncall39 (pIi _ _ _ _ (pIiL_loop h A.length 0 (by omega)))
end Go.Av

namespace Go.Av
open Go.Proofs
set_option maxRecDepth 100000
def fi20:Fi:=⟨73,[.tmp 4,.tmp 5]⟩
def kp20:List (Nat × List Nat):=[(0,[0,1]),(1,[0,1,6]),(2,[0,1,6,19]),(3,[4,5]),(4,[0,7]),(5,[0,7,8]),(6,[0,7,8,27,28,29]),(7,[0,7,8,27,28,29,30]),(8,[0,7,8,9,10,27,28,29]),(9,[0,7,8,27,28,29]),(10,[0,7,8,27,28,29]),(11,[0,7,8,11]),(12,[0,7,8,11,43]),(13,[0,7,8,11,12]),(14,[0,7,8,11,12,47]),(15,[4,5]),(16,[0,7,8,11,12]),(17,[0,7,8,11,12,55,56,57]),(18,[0,7,8,11,12,55,56,57,58]),(19,[0,7,8,11,12,14,55,56,57]),(20,[0,7,8,11,12,55,56,57]),(21,[0,7,8,11,12,55,56,57]),(22,[0,7,8,11]),(23,[4,5])]
def pOr_at (n:Int) (f:Bool) (ps:List Pr) (Q:AV->Heap->Prop):Prop:=Wp M1 (.run fi20 (atC (cd Try.f20) []) [(0,.int .i64 n),(1,.vec f 2 (ps.map Pr.v))] []) Q
def Zfo (n:Int) (fb ft:Bool) (B T:List Iw) (A:List Int) (fm:Bool) (W:List Iw) (m i:Int) (Q:AV->Heap->Prop):Prop:=Wp M1 (.run fi20 (atC (cd Try.f20) [1,1,1,1,0,1,0,0]) [(0,.int .i64 n),(7,.ptr 0 0 0 0),(8,.row 1 0),(27,.vec fm 1 (W.map Iw.a)),(28,.int .i64 m),(29,.int .i64 i)] [⟨[.agg [.vec fb 1 (B.map Iw.a),.vec ft 1 (T.map Iw.a)]],2,0,false,false⟩,⟨A.map (.int .i64),1,0,false,true⟩]) Q
def pOrN_at (n:Int) (fb ft:Bool) (B T:List Iw) (A:List Int) (Q:AV->Heap->Prop):Prop:=Wp M1 (.run fi20 (atC (cd Try.f20) [1,1,1,1,1,1,0,0,0]) [(0,.int .i64 n),(7,.ptr 0 0 0 0),(8,.row 1 0),(11,.vnil)] [⟨[.agg [.vec fb 1 (B.map Iw.a),.vec ft 1 (T.map Iw.a)]],2,0,false,false⟩,⟨A.map (.int .i64),1,0,false,true⟩]) Q
def Zfn (n:Int) (fb ft:Bool) (B T:List Iw) (A:List Int) (O:List Int) (v:Nat) (Q:AV->Heap->Prop):Prop:=Wp M1 (.run fi20 (atC (cd Try.f20) [1,1,1,1,1,1,0,0,0]) [(0,.int .i64 n),(7,.ptr 0 0 0 0),(8,.row 1 0),(11,.row 2 v)] [⟨[.agg [.vec fb 1 (B.map Iw.a),.vec ft 1 (T.map Iw.a)]],2,0,false,false⟩,⟨A.map (.int .i64),1,0,false,true⟩,⟨O.map (.int .i64),1,v,false,true⟩]) Q
def ZdS (n:Int) (fb ft:Bool) (B T:List Iw) (A:List Int) (k:Int) (g:Bool) (l:List Int) (m i:Int) (Q:AV->Heap->Prop):Prop:=Wp M1 (.run fi20 (atC (cd Try.f20) [1,1,1,1,1,1,0,0,0,1,0,1,1,1,0,1,0,0]) [(0,.int .i64 n),(7,.ptr 0 0 0 0),(8,.row 1 0),(11,.vnil),(12,.int .i64 k),(55,.vec g 1 (l.map (.int .i64))),(56,.int .i64 m),(57,.int .i64 i)] [⟨[.agg [.vec fb 1 (B.map Iw.a),.vec ft 1 (T.map Iw.a)]],2,0,false,false⟩,⟨A.map (.int .i64),1,0,false,true⟩]) Q
def ZdR (n:Int) (fb ft:Bool) (B T:List Iw) (A:List Int) (O:List Int) (v:Nat) (k:Int) (g:Bool) (l:List Int) (m i:Int) (Q:AV->Heap->Prop):Prop:=Wp M1 (.run fi20 (atC (cd Try.f20) [1,1,1,1,1,1,0,0,0,1,0,1,1,1,0,1,0,0]) [(0,.int .i64 n),(7,.ptr 0 0 0 0),(8,.row 1 0),(11,.row 2 v),(12,.int .i64 k),(55,.vec g 1 (l.map (.int .i64))),(56,.int .i64 m),(57,.int .i64 i)] [⟨[.agg [.vec fb 1 (B.map Iw.a),.vec ft 1 (T.map Iw.a)]],2,0,false,false⟩,⟨A.map (.int .i64),1,0,false,true⟩,⟨O.map (.int .i64),1,v,false,true⟩]) Q
theorem call20 {args:List AV} {d:AV} (h:wc M1 fi20 Try.f20 args d):Ev M1 (.pure 20 args) d []:=pcl _ _ (by kernel_rfl) h
theorem pOr (n:Int) (f:Bool) (ps:List Pr)  (dq:AV) (H :
  ((¬Sp.vd n ps = 0) -> Weak (tu [AV.vnil,vi (Sp.vd n ps)]) dq) /\
  (¬(¬Sp.vd n ps = 0) -> (Sp.vd n ps = 0) /\
   (0 <= n) /\
   (n * 8 <= 1099511627776) /\
   (n <= 1099511627776) /\
   Zfo (n) (false) (false) (Sp.befW n.toNat ps) (Sp.behW n.toNat ps) (List.replicate n.toNat (0:Int)) (false) (Sp.befW n.toNat ps) ((↑(Sp.befW n.toNat ps).length:Int)) (0) (Zat dq))) :
 pOr_at n f ps (Zat dq):=by
 unfold pOr_at
 refine Zab (G:=Zae kp20 [(1,2,.call (vi (Sp.vd n ps)) none)] []) 7 [] ⟨(atC (cd Try.f20) [1,0,1,1]),[(0,vi n),(1,AV.vec f 2 (List.map Pr.v ps)),(6,vi (Sp.vd n ps)),(19,vb (Sp.vd n ps != 0))],[],_,[],_⟩ (by kernel_rfl) b0 q0 (ce (@ev14 (n) (f) (ps)) c0) ?_
 rcases xq H with ⟨d2,H⟩|⟨d2,H⟩
 ·exact Zef (G:=Zae kp20 [] []) 1000 [true] (tu [AV.vnil,vi (Sp.vd n ps)]) (by kernel_rfl) (bc (Zas (i_ne.2 d2)) b0) q0 c0 H
 ·obtain ⟨k3,k5,k8,k10,H⟩:=H
  have w11:List.replicate n.toNat (vi 0) = List.map (vi) (List.replicate n.toNat (0:Int)):=(lm_rep rfl)
  have w12:(List.map Iw.a (Sp.befW n.toNat ps)).length = (Sp.befW n.toNat ps).length:=List.length_map ..
  exact Zab (G:=Zae kp20 [(4,2,.call (ag [vf (List.map Iw.a (Sp.befW n.toNat ps)),vf (List.map Iw.a (Sp.behW n.toNat ps))]) none)] []) 1000 [false] ⟨(atC (cd Try.f20) [1,1,1,1,0,1,0,0]),[(0,vi n),(7,AV.ptr 0 0 0 0),(8,AV.row 1 0),(27,vf (List.map Iw.a (Sp.befW n.toNat ps))),(28,vi (↑(List.map Iw.a (Sp.befW n.toNat ps)).length:Int)),(29,vi 0)],[⟨[ag [vf (List.map Iw.a (Sp.befW n.toNat ps)),vf (List.map Iw.a (Sp.behW n.toNat ps))]],2,0,false,false⟩,⟨List.replicate n.toNat (vi 0),1,0,false,true⟩],[(Sp.vd n ps != 0) == false,true,decide (0 <= n),decide (n <= n),decide (n * 8 <= 1099511627776),decide (n <= 1099511627776),true],[],_⟩ (by kernel_rfl) (bc (Zap (fun h => d2 (i_ne.1 h))) (bc rfl (bc (Zaa.2 k5) (bc (Zaa.2 (by omega)) (bc (Zaa.2 k8) (bc (Zaa.2 k10) (bc rfl b0))))))) q0 (ce (@ev34 (n) (f) (ps) k3) c0) (by (try rw [w11]);(try rw [w12]);all_goals exact H)
theorem pOrA (n:Int) (fb ft:Bool) (B T:List Iw) (A:List Int) (fm:Bool) (W:List Iw) (m i:Int)  (dq:AV) (H :
  ((i < m) -> (0 <= i) /\
   (i.toNat < W.length) /\
   (i.toNat < A.length) /\
   (-9223372036854775808 <= i + 1 /\ i + 1 <= 9223372036854775807) /\
   Zfo (n) (fb) (ft) (B) (T) (A.set i.toNat (↑(W.getD i.toNat default).1.length:Int)) (fm) (W) (m) (i + 1) (Zat dq)) /\
  (¬(i < m) -> pOrN_at (n) (fb) (ft) (B) (T) (A) (Zat dq))) :
 Zfo n fb ft B T A fm W m i (Zat dq):=by
 unfold Zfo
 rcases xq H with ⟨d2,H⟩|⟨d2,H⟩
 ·obtain ⟨k4,H⟩:=H
  have w5:(List.map Iw.a W).length = W.length:=List.length_map ..
  have i6:(decide (i.toNat < (List.map Iw.a W).length)) = true ↔ (i.toNat < W.length):=(by (try rw [w5]);all_goals exact Zaa)
  obtain ⟨k7,H⟩:=H
  have w9:(List.map (vi) A).length = A.length:=List.length_map ..
  have i10:(decide (i.toNat < (List.map (vi) A).length)) = true ↔ (i.toNat < A.length):=(by (try rw [w9]);all_goals exact Zaa)
  obtain ⟨k11,H⟩:=H
  have w12:(List.map (vi) (W.getD i.toNat default).1).length = (W.getD i.toNat default).1.length:=List.length_map ..
  have w13:(List.map (vi) A).set i.toNat (vi (↑(W.getD i.toNat default).1.length:Int)) = List.map (vi) (A.set i.toNat (↑(W.getD i.toNat default).1.length:Int)):=(Zdk rfl rfl)
  obtain ⟨k14,H⟩:=H
  have w15:wi (i + 1) = i + 1:=wI64 k14
  exact Zab (G:=Zae kp20 [(8,2,.elem (vf (List.map (vi) (W.getD i.toNat default).1))),(9,5,.elem (vi (A.getD i.toNat default)))] []) 1000 [true] ⟨(atC (cd Try.f20) [1,1,1,1,0,1,0,0]),[(0,vi n),(7,AV.ptr 0 0 0 0),(8,AV.row 1 0),(27,AV.vec fm 1 (List.map Iw.a W)),(28,vi m),(29,vi (wi (i + 1)))],[⟨[ag [AV.vec fb 1 (List.map Iw.a B),AV.vec ft 1 (List.map Iw.a T)]],2,0,false,false⟩,⟨(List.map (vi) A).set i.toNat (vi (↑(List.map (vi) (W.getD i.toNat default).1).length:Int)),1,0,false,true⟩],_,[((List.map Iw.a W).get?Internal i.toNat = some (vf (List.map (vi) (W.getD i.toNat default).1))),((List.map (vi) A).get?Internal i.toNat = some (vi (A.getD i.toNat default)))],_⟩ (by kernel_rfl) (bc (Zas (Zaa.2 d2)) (bc (Zaa.2 k4) (bc (i6.2 k7) (bc rfl (bc (Zaa.2 k4) (bc (i10.2 k11) (bc rfl b0))))))) (qc (Zaq k7) (qc (Zaq k11) q0)) c0 (by (try rw [w12]);(try rw [w13]);(try rw [w15]);all_goals exact H)
 ·exact Zab (G:=Zae kp20 [] []) 1000 [false] ⟨(atC (cd Try.f20) [1,1,1,1,1,1,0,0,0]),[(0,vi n),(7,AV.ptr 0 0 0 0),(8,AV.row 1 0),(11,AV.vnil)],[⟨[ag [AV.vec fb 1 (List.map Iw.a B),AV.vec ft 1 (List.map Iw.a T)]],2,0,false,false⟩,⟨List.map (vi) A,1,0,false,true⟩],_,[],_⟩ (by kernel_rfl) (bc (Zap (fun h => d2 (Zaa.1 h))) b0) q0 c0 (H)
theorem pOrN (n:Int) (fb ft:Bool) (B T:List Iw) (A:List Int)  (dq:AV) (H :
  ((0 < n) -> (Sp.few A.length 4000000000) /\
   ((Sp.ix 0 A 0 < 0) -> Weak (tu [AV.vnil,vi 12]) dq) /\
   (¬(Sp.ix 0 A 0 < 0) -> (0 <= Sp.ix 0 A 0) /\
    ((Sp.ix 0 A 0).toNat < A.length) /\
    ((Sp.ix 0 A 0).toNat < T.length) /\
    ZdS (n) (fb) (ft) (B) (T) (A.set (Sp.ix 0 A 0).toNat (-1)) (Sp.ix 0 A 0) (false) ((T.getD (Sp.ix 0 A 0).toNat default).1) ((↑(T.getD (Sp.ix 0 A 0).toNat default).1.length:Int)) (0) (Zat dq))) /\
  (¬(0 < n) -> Weak (tu [AV.vnil,vi 0]) dq)) :
 pOrN_at n fb ft B T A (Zat dq):=by
 unfold pOrN_at
 rcases xq H with ⟨d2,H⟩|⟨d2,H⟩
 ·obtain ⟨k3,H⟩:=H
  refine Zab (G:=Zae kp20 [(13,1,.call (vi (Sp.ix 0 A 0)) none)] []) 11 [true] ⟨(atC (cd Try.f20) [1,1,1,1,1,1,0,0,0,1,0,1,0,1]),[(0,vi n),(7,AV.ptr 0 0 0 0),(8,AV.row 1 0),(11,AV.vnil),(12,vi (Sp.ix 0 A 0)),(47,vb (decide (Sp.ix 0 A 0 < 0)))],[⟨[ag [AV.vec fb 1 (List.map Iw.a B),AV.vec ft 1 (List.map Iw.a T)]],2,0,false,false⟩,⟨List.map (vi) A,1,0,false,true⟩],_,[],[⟨true,true,39,[AV.row 0 0,vi 0],[⟨List.map (vi) A,1,0,false,true⟩],vi (Sp.ix 0 A 0),[⟨List.map (vi) A,1,0,false,true⟩]⟩]⟩ (by kernel_rfl) (bc (Zas (Zaa.2 d2)) b0) q0 (cc (fun _ => (@evo39 (A) (0) (0) k3)) c0) ?_
  rcases xq H with ⟨d5,H⟩|⟨d5,H⟩
  ·exact Zef (G:=Zae kp20 [] []) 1000 [true] (tu [AV.vnil,vi 12]) (by kernel_rfl) (bc (Zas (Zaa.2 d5)) b0) q0 c0 H
  ·obtain ⟨k7,H⟩:=H
   have w8:(List.map (vi) A).length = A.length:=List.length_map ..
   have i9:(decide ((Sp.ix 0 A 0).toNat < (List.map (vi) A).length)) = true ↔ ((Sp.ix 0 A 0).toNat < A.length):=(by (try rw [w8]);all_goals exact Zaa)
   obtain ⟨k10,H⟩:=H
   have w11:(List.map (vi) A).set (Sp.ix 0 A 0).toNat (vi (-1)) = List.map (vi) (A.set (Sp.ix 0 A 0).toNat (-1)):=(Zdk rfl rfl)
   have w13:(List.map Iw.a T).length = T.length:=List.length_map ..
   have i14:(decide ((Sp.ix 0 A 0).toNat < (List.map Iw.a T).length)) = true ↔ ((Sp.ix 0 A 0).toNat < T.length):=(by (try rw [w13]);all_goals exact Zaa)
   obtain ⟨k15,H⟩:=H
   have w16:(List.map (vi) (T.getD (Sp.ix 0 A 0).toNat default).1).length = (T.getD (Sp.ix 0 A 0).toNat default).1.length:=List.length_map ..
   exact Zab (G:=Zae kp20 [(16,3,.elem (vi (A.getD (Sp.ix 0 A 0).toNat default))),(17,4,.elem (vf (List.map (vi) (T.getD (Sp.ix 0 A 0).toNat default).1)))] []) 1000 [false] ⟨(atC (cd Try.f20) [1,1,1,1,1,1,0,0,0,1,0,1,1,1,0,1,0,0]),[(0,vi n),(7,AV.ptr 0 0 0 0),(8,AV.row 1 0),(11,AV.vnil),(12,vi (Sp.ix 0 A 0)),(55,vf (List.map (vi) (T.getD (Sp.ix 0 A 0).toNat default).1)),(56,vi (↑(List.map (vi) (T.getD (Sp.ix 0 A 0).toNat default).1).length:Int)),(57,vi 0)],[⟨[ag [AV.vec fb 1 (List.map Iw.a B),AV.vec ft 1 (List.map Iw.a T)]],2,0,false,false⟩,⟨(List.map (vi) A).set (Sp.ix 0 A 0).toNat (vi (-1)),1,0,false,true⟩],_,[((List.map (vi) A).get?Internal (Sp.ix 0 A 0).toNat = some (vi (A.getD (Sp.ix 0 A 0).toNat default))),((List.map Iw.a T).get?Internal (Sp.ix 0 A 0).toNat = some (vf (List.map (vi) (T.getD (Sp.ix 0 A 0).toNat default).1)))],_⟩ (by kernel_rfl) (bc (Zap (fun h => d5 (Zaa.1 h))) (bc rfl (bc (Zaa.2 k7) (bc (i9.2 k10) (bc rfl (bc rfl (bc (Zaa.2 k7) (bc (i14.2 k15) b0)))))))) (qc (Zaq k10) (qc (Zaq k15) q0)) c0 (by (try rw [w11]);(try rw [w16]);all_goals exact H)
 ·exact Zef (G:=Zae kp20 [] []) 1000 [false] (tu [AV.vnil,vi 0]) (by kernel_rfl) (bc (Zap (fun h => d2 (Zaa.1 h))) b0) q0 c0 H
theorem pOrO (n:Int) (fb ft:Bool) (B T:List Iw) (A:List Int) (O:List Int) (v:Nat)  (dq:AV) (H :
  (((↑O.length:Int) < n) -> (Sp.few A.length 4000000000) /\
   ((Sp.ix 0 A 0 < 0) -> Weak (tu [AV.vnil,vi 12]) dq) /\
   (¬(Sp.ix 0 A 0 < 0) -> (0 <= Sp.ix 0 A 0) /\
    ((Sp.ix 0 A 0).toNat < A.length) /\
    ((Sp.ix 0 A 0).toNat < T.length) /\
    ZdR (n) (fb) (ft) (B) (T) (A.set (Sp.ix 0 A 0).toNat (-1)) (O) (v) (Sp.ix 0 A 0) (false) ((T.getD (Sp.ix 0 A 0).toNat default).1) ((↑(T.getD (Sp.ix 0 A 0).toNat default).1.length:Int)) (0) (Zat dq))) /\
  (¬((↑O.length:Int) < n) -> Weak (tu [vf (List.map (vi) O),vi 0]) dq)) :
 Zfn n fb ft B T A O v (Zat dq):=by
 unfold Zfn
 have w1:(List.map (vi) O).length = O.length:=List.length_map ..
 have i2:(decide ((↑(List.map (vi) O).length:Int) < n)) = true ↔ ((↑O.length:Int) < n):=(by (try rw [w1]);all_goals exact Zaa)
 rcases xq H with ⟨d3,H⟩|⟨d3,H⟩
 ·obtain ⟨k4,H⟩:=H
  refine Zab (G:=Zae kp20 [(13,1,.call (vi (Sp.ix 0 A 0)) none)] []) 11 [true] ⟨(atC (cd Try.f20) [1,1,1,1,1,1,0,0,0,1,0,1,0,1]),[(0,vi n),(7,AV.ptr 0 0 0 0),(8,AV.row 1 0),(11,AV.row 2 v),(12,vi (Sp.ix 0 A 0)),(47,vb (decide (Sp.ix 0 A 0 < 0)))],[⟨[ag [AV.vec fb 1 (List.map Iw.a B),AV.vec ft 1 (List.map Iw.a T)]],2,0,false,false⟩,⟨List.map (vi) A,1,0,false,true⟩,⟨List.map (vi) O,1,v,false,true⟩],[v == v,(decide ((↑(List.map (vi) O).length:Int) < n)) == true],[],[⟨true,true,39,[AV.row 0 0,vi 0],[⟨List.map (vi) A,1,0,false,true⟩],vi (Sp.ix 0 A 0),[⟨List.map (vi) A,1,0,false,true⟩]⟩]⟩ (by kernel_rfl) (bc (beq_self_eq_true _) (bc (Zas (i2.2 d3)) b0)) q0 (cc (fun _ => (@evo39 (A) (0) (0) k4)) c0) ?_
  rcases xq H with ⟨d6,H⟩|⟨d6,H⟩
  ·exact Zef (G:=Zae kp20 [] []) 1000 [true] (tu [AV.vnil,vi 12]) (by kernel_rfl) (bc (Zas (Zaa.2 d6)) b0) q0 c0 H
  ·obtain ⟨k8,H⟩:=H
   have w9:(List.map (vi) A).length = A.length:=List.length_map ..
   have i10:(decide ((Sp.ix 0 A 0).toNat < (List.map (vi) A).length)) = true ↔ ((Sp.ix 0 A 0).toNat < A.length):=(by (try rw [w9]);all_goals exact Zaa)
   obtain ⟨k11,H⟩:=H
   have w12:(List.map (vi) A).set (Sp.ix 0 A 0).toNat (vi (-1)) = List.map (vi) (A.set (Sp.ix 0 A 0).toNat (-1)):=(Zdk rfl rfl)
   have w14:(List.map Iw.a T).length = T.length:=List.length_map ..
   have i15:(decide ((Sp.ix 0 A 0).toNat < (List.map Iw.a T).length)) = true ↔ ((Sp.ix 0 A 0).toNat < T.length):=(by (try rw [w14]);all_goals exact Zaa)
   obtain ⟨k16,H⟩:=H
   have w17:(List.map (vi) (T.getD (Sp.ix 0 A 0).toNat default).1).length = (T.getD (Sp.ix 0 A 0).toNat default).1.length:=List.length_map ..
   exact Zab (G:=Zae kp20 [(16,3,.elem (vi (A.getD (Sp.ix 0 A 0).toNat default))),(17,4,.elem (vf (List.map (vi) (T.getD (Sp.ix 0 A 0).toNat default).1)))] []) 1000 [false] ⟨(atC (cd Try.f20) [1,1,1,1,1,1,0,0,0,1,0,1,1,1,0,1,0,0]),[(0,vi n),(7,AV.ptr 0 0 0 0),(8,AV.row 1 0),(11,AV.row 2 v),(12,vi (Sp.ix 0 A 0)),(55,vf (List.map (vi) (T.getD (Sp.ix 0 A 0).toNat default).1)),(56,vi (↑(List.map (vi) (T.getD (Sp.ix 0 A 0).toNat default).1).length:Int)),(57,vi 0)],[⟨[ag [AV.vec fb 1 (List.map Iw.a B),AV.vec ft 1 (List.map Iw.a T)]],2,0,false,false⟩,⟨(List.map (vi) A).set (Sp.ix 0 A 0).toNat (vi (-1)),1,0,false,true⟩,⟨List.map (vi) O,1,v,false,true⟩],_,[((List.map (vi) A).get?Internal (Sp.ix 0 A 0).toNat = some (vi (A.getD (Sp.ix 0 A 0).toNat default))),((List.map Iw.a T).get?Internal (Sp.ix 0 A 0).toNat = some (vf (List.map (vi) (T.getD (Sp.ix 0 A 0).toNat default).1)))],_⟩ (by kernel_rfl) (bc (Zap (fun h => d6 (Zaa.1 h))) (bc rfl (bc (Zaa.2 k8) (bc (i10.2 k11) (bc rfl (bc rfl (bc (Zaa.2 k8) (bc (i15.2 k16) b0)))))))) (qc (Zaq k11) (qc (Zaq k16) q0)) c0 (by (try rw [w12]);(try rw [w17]);all_goals exact H)
 ·exact ZaG (G:=Zae kp20 [] []) 1000 [false] (k:=((atC (cd Try.f20) [1,1,1,1,1,1,1,1])).tail) (env':=[(4,AV.row 2 v),(5,vi 0)]) (L':=[⟨[ag [AV.vec fb 1 (List.map Iw.a B),AV.vec ft 1 (List.map Iw.a T)]],2,0,false,false⟩,⟨List.map (vi) A,1,0,false,true⟩,⟨List.map (vi) O,1,v,false,true⟩]) (asm:=[v == v,(decide ((↑(List.map (vi) O).length:Int) < n)) == false]) (eqs:=[]) (calls:=[]) (tu [AV.row 2 v,vi 0]) (by kernel_rfl) (by kernel_rfl) (Zaf (beq_self_eq_true _) (Zaf (Zap (fun h => d3 (i2.1 h))) Zak)) Zal ZaJ (pq_weak (d:=(tu [vf (List.map (vi) O),vi 0])) (bs:=[v == v]) (by kernel_rfl) (by kernel_rfl) (Zaf (beq_self_eq_true _) Zak) (by kernel_rfl) H)
noncomputable abbrev zPxL1 (A:List Int) (l:List Int) (i:Int):=vi (A.getD (l.getD i.toNat default).toNat default)
theorem pOrNi (n:Int) (fb ft:Bool) (B T:List Iw) (A:List Int) (k:Int) (g:Bool) (l:List Int) (m i:Int)  (dq:AV) (H :
  ((i < m) -> (0 <= i) /\
   (i.toNat < l.length) /\
   (0 <= l.getD i.toNat default) /\
   ((l.getD i.toNat default).toNat < A.length) /\
   (-9223372036854775808 <= A.getD (l.getD i.toNat default).toNat default - 1 /\ A.getD (l.getD i.toNat default).toNat default - 1 <= 9223372036854775807) /\
   (-9223372036854775808 <= i + 1 /\ i + 1 <= 9223372036854775807) /\
   ZdS (n) (fb) (ft) (B) (T) (A.set (l.getD i.toNat default).toNat (A.getD (l.getD i.toNat default).toNat default - 1)) (k) (g) (l) (m) (i + 1) (Zat dq)) /\
  (¬(i < m) -> Zfn (n) (fb) (ft) (B) (T) (A) ([k]) (0) (Zat dq))) :
 ZdS n fb ft B T A k g l m i (Zat dq):=by
 unfold ZdS
 rcases xq H with ⟨d2,H⟩|⟨d2,H⟩
 ·obtain ⟨k4,H⟩:=H
  have w5:(List.map (vi) l).length = l.length:=List.length_map ..
  have i6:(decide (i.toNat < (List.map (vi) l).length)) = true ↔ (i.toNat < l.length):=(by (try rw [w5]);all_goals exact Zaa)
  obtain ⟨k7,k9,H⟩:=H
  have w10:(List.map (vi) A).length = A.length:=List.length_map ..
  have i11:(decide ((l.getD i.toNat default).toNat < (List.map (vi) A).length)) = true ↔ ((l.getD i.toNat default).toNat < A.length):=(by (try rw [w10]);all_goals exact Zaa)
  obtain ⟨k12,H⟩:=H
  have i14:(decide ((l.getD i.toNat default).toNat < (List.map (vi) A).length)) = true ↔ ((l.getD i.toNat default).toNat < A.length):=(by (try rw [w10]);all_goals exact Zaa)
  obtain ⟨k15,H⟩:=H
  have w16:wi (A.getD (l.getD i.toNat default).toNat default - 1) = A.getD (l.getD i.toNat default).toNat default - 1:=wI64 k15
  have w17:(List.map (vi) A).set (l.getD i.toNat default).toNat (vi (A.getD (l.getD i.toNat default).toNat default - 1)) = List.map (vi) (A.set (l.getD i.toNat default).toNat (A.getD (l.getD i.toNat default).toNat default - 1)):=(Zdk rfl rfl)
  obtain ⟨k18,H⟩:=H
  have w19:wi (i + 1) = i + 1:=wI64 k18
  exact Zab (G:=Zae kp20 [(19,1,.elem (vi (l.getD i.toNat default))),(20,3,.elem (zPxL1 A l i)),(20,6,.elem (zPxL1 A l i))] []) 1000 [true] ⟨(atC (cd Try.f20) [1,1,1,1,1,1,0,0,0,1,0,1,1,1,0,1,0,0]),[(0,vi n),(7,AV.ptr 0 0 0 0),(8,AV.row 1 0),(11,AV.vnil),(12,vi k),(55,AV.vec g 1 (List.map (vi) l)),(56,vi m),(57,vi (wi (i + 1)))],[⟨[ag [AV.vec fb 1 (List.map Iw.a B),AV.vec ft 1 (List.map Iw.a T)]],2,0,false,false⟩,⟨(List.map (vi) A).set (l.getD i.toNat default).toNat (vi (wi (A.getD (l.getD i.toNat default).toNat default - 1))),1,0,false,true⟩],_,[((List.map (vi) l).get?Internal i.toNat = some (vi (l.getD i.toNat default))),((List.map (vi) A).get?Internal (l.getD i.toNat default).toNat = some (zPxL1 A l i)),((List.map (vi) A).get?Internal (l.getD i.toNat default).toNat = some (zPxL1 A l i))],_⟩ (by kernel_rfl) (bc (Zas (Zaa.2 d2)) (bc (Zaa.2 k4) (bc (i6.2 k7) (bc rfl (bc (Zaa.2 k9) (bc (i11.2 k12) (bc rfl (bc rfl (bc (Zaa.2 k9) (bc (i14.2 k12) (bc rfl b0))))))))))) (qc (Zaq k7) (qc (Zaq k12) (qc (Zaq k12) q0))) c0 (by (try rw [w16]);(try rw [w17]);(try rw [w19]);all_goals exact H)
 ·have w20:[vi k] = List.map (vi) [k]:=rfl
  exact Zab (G:=Zae kp20 [] []) 1000 [false] ⟨(atC (cd Try.f20) [1,1,1,1,1,1,0,0,0]),[(0,vi n),(7,AV.ptr 0 0 0 0),(8,AV.row 1 0),(11,AV.row 2 0)],[⟨[ag [AV.vec fb 1 (List.map Iw.a B),AV.vec ft 1 (List.map Iw.a T)]],2,0,false,false⟩,⟨List.map (vi) A,1,0,false,true⟩,⟨[vi k],1,0,false,true⟩],_,[],_⟩ (by kernel_rfl) (bc (Zap (fun h => d2 (Zaa.1 h))) (bc rfl b0)) q0 c0 (by (try rw [w20]);all_goals exact H)
noncomputable abbrev zPxL2 (A:List Int) (l:List Int) (i:Int):=vi (A.getD (l.getD i.toNat default).toNat default)
theorem pOrOi (n:Int) (fb ft:Bool) (B T:List Iw) (A:List Int) (O:List Int) (v:Nat) (k:Int) (g:Bool) (l:List Int) (m i:Int)  (dq:AV) (H :
  ((i < m) -> (0 <= i) /\
   (i.toNat < l.length) /\
   (0 <= l.getD i.toNat default) /\
   ((l.getD i.toNat default).toNat < A.length) /\
   (-9223372036854775808 <= A.getD (l.getD i.toNat default).toNat default - 1 /\ A.getD (l.getD i.toNat default).toNat default - 1 <= 9223372036854775807) /\
   (-9223372036854775808 <= i + 1 /\ i + 1 <= 9223372036854775807) /\
   ZdR (n) (fb) (ft) (B) (T) (A.set (l.getD i.toNat default).toNat (A.getD (l.getD i.toNat default).toNat default - 1)) (O) (v) (k) (g) (l) (m) (i + 1) (Zat dq)) /\
  (¬(i < m) -> ((O.length + 1) * 8 <= 1099511627776) /\
   Zfn (n) (fb) (ft) (B) (T) (A) (O ++ [k]) (v + 1) (Zat dq))) :
 ZdR n fb ft B T A O v k g l m i (Zat dq):=by
 unfold ZdR
 rcases xq H with ⟨d2,H⟩|⟨d2,H⟩
 ·obtain ⟨k4,H⟩:=H
  have w5:(List.map (vi) l).length = l.length:=List.length_map ..
  have i6:(decide (i.toNat < (List.map (vi) l).length)) = true ↔ (i.toNat < l.length):=(by (try rw [w5]);all_goals exact Zaa)
  obtain ⟨k7,k9,H⟩:=H
  have w10:(List.map (vi) A).length = A.length:=List.length_map ..
  have i11:(decide ((l.getD i.toNat default).toNat < (List.map (vi) A).length)) = true ↔ ((l.getD i.toNat default).toNat < A.length):=(by (try rw [w10]);all_goals exact Zaa)
  obtain ⟨k12,H⟩:=H
  have i14:(decide ((l.getD i.toNat default).toNat < (List.map (vi) A).length)) = true ↔ ((l.getD i.toNat default).toNat < A.length):=(by (try rw [w10]);all_goals exact Zaa)
  obtain ⟨k15,H⟩:=H
  have w16:wi (A.getD (l.getD i.toNat default).toNat default - 1) = A.getD (l.getD i.toNat default).toNat default - 1:=wI64 k15
  have w17:(List.map (vi) A).set (l.getD i.toNat default).toNat (vi (A.getD (l.getD i.toNat default).toNat default - 1)) = List.map (vi) (A.set (l.getD i.toNat default).toNat (A.getD (l.getD i.toNat default).toNat default - 1)):=(Zdk rfl rfl)
  obtain ⟨k18,H⟩:=H
  have w19:wi (i + 1) = i + 1:=wI64 k18
  exact Zab (G:=Zae kp20 [(19,1,.elem (vi (l.getD i.toNat default))),(20,3,.elem (zPxL2 A l i)),(20,6,.elem (zPxL2 A l i))] []) 1000 [true] ⟨(atC (cd Try.f20) [1,1,1,1,1,1,0,0,0,1,0,1,1,1,0,1,0,0]),[(0,vi n),(7,AV.ptr 0 0 0 0),(8,AV.row 1 0),(11,AV.row 2 v),(12,vi k),(55,AV.vec g 1 (List.map (vi) l)),(56,vi m),(57,vi (wi (i + 1)))],[⟨[ag [AV.vec fb 1 (List.map Iw.a B),AV.vec ft 1 (List.map Iw.a T)]],2,0,false,false⟩,⟨(List.map (vi) A).set (l.getD i.toNat default).toNat (vi (wi (A.getD (l.getD i.toNat default).toNat default - 1))),1,0,false,true⟩,⟨List.map (vi) O,1,v,false,true⟩],_,[((List.map (vi) l).get?Internal i.toNat = some (vi (l.getD i.toNat default))),((List.map (vi) A).get?Internal (l.getD i.toNat default).toNat = some (zPxL2 A l i)),((List.map (vi) A).get?Internal (l.getD i.toNat default).toNat = some (zPxL2 A l i))],_⟩ (by kernel_rfl) (bc (Zas (Zaa.2 d2)) (bc (Zaa.2 k4) (bc (i6.2 k7) (bc rfl (bc (Zaa.2 k9) (bc (i11.2 k12) (bc rfl (bc rfl (bc (Zaa.2 k9) (bc (i14.2 k12) (bc rfl b0))))))))))) (qc (Zaq k7) (qc (Zaq k12) (qc (Zaq k12) q0))) c0 (by (try rw [w16]);(try rw [w17]);(try rw [w19]);all_goals exact H)
 ·have w20:(List.map (vi) O).length = O.length:=List.length_map ..
  have i21:(decide (((List.map (vi) O).length + 1) * 8 <= 1099511627776)) = true ↔ ((O.length + 1) * 8 <= 1099511627776):=(by (try rw [w20]);all_goals exact Zaa)
  obtain ⟨k22,H⟩:=H
  have w23:List.map (vi) O ++ [vi k] = List.map (vi) (O ++ [k]):=(Zfy rfl rfl)
  exact Zab (G:=Zae kp20 [] []) 1000 [false] ⟨(atC (cd Try.f20) [1,1,1,1,1,1,0,0,0]),[(0,vi n),(7,AV.ptr 0 0 0 0),(8,AV.row 1 0),(11,AV.row 2 (v + 1))],[⟨[ag [AV.vec fb 1 (List.map Iw.a B),AV.vec ft 1 (List.map Iw.a T)]],2,0,false,false⟩,⟨List.map (vi) A,1,0,false,true⟩,⟨List.map (vi) O ++ [vi k],1,v + 1,false,true⟩],[(decide (i < m)) == false,v == v,decide (((List.map (vi) O).length + 1) * 8 <= 1099511627776)],[],_⟩ (by kernel_rfl) (bc (Zap (fun h => d2 (Zaa.1 h))) (bc (beq_self_eq_true _) (bc (i21.2 k22) b0))) q0 c0 (by (try rw [w23]);all_goals exact H)
end Go.Av

namespace Go.Av
open Go.Proofs
namespace Sp
def cnt (ps:List Pr) (O:List Int) (k:Int):Nat:=ps.countP fun p=>p.b==k && !mem O p.a
def msF (ps:List Pr) (O:List Int) (a:Nat):Int:=if mem O a=true then -1 else (cnt ps O a:Int)
def msg (n:Nat) (ps:List Pr) (O:List Int):List Int:=(List.range' 0 n).map (msF ps O)
def dec1 (A:List Int) (k:Int):List Int:=A.set k.toNat (A.getD k.toNat default-1)
def clo (ps:List Pr) (O:List Int):Prop:=∀ k ∈ O,rdy ps O k=true
def ordA:Option (List Int) -> AV
 | some l => .tup [.vec false 1 (l.map (.int .i64)),.int .i64 0]
 | none => .tup [.vec false 1 [],.int .i64 12]
end Sp
theorem cnt_zero {ps:List Pr} {O:List Int} {k:Int}:Sp.cnt ps O k = 0 ↔ Sp.rdy ps O k = true:=by
 unfold Sp.cnt Sp.rdy
 rw [List.countP_eq_zero,List.all_eq_true]
 constructor
 ·intro h p hp
  have:=h p hp
  cases h1:(p.b == k) <;> cases h2:Sp.mem O p.a <;> simp_all
 ·intro h p hp
  have:=h p hp
  cases h1:(p.b == k) <;> cases h2:Sp.mem O p.a <;> simp_all
theorem ix_nx {ps:List Pr} {O:List Int}:∀ (c k:Nat),Sp.ix 0 ((List.range' k c).map (Sp.msF ps O)) k = match Sp.nx ps O c k with
  | some j => j
  | none => -1
 | 0,k => rfl
 | c + 1,k => by
  rw [List.range'_succ,List.map_cons,Sp.ix,Sp.nx]
  have e:(0 = Sp.msF ps O k) ↔ (!Sp.mem O k && Sp.rdy ps O k) = true:=by
   unfold Sp.msF
   cases hm:Sp.mem O (k:Int) with
   | true => rw [if_pos rfl];simp
   | false =>
    rw [if_neg (by simp)]
    simp only [Bool.not_false,Bool.true_and]
    rw [<- cnt_zero];omega
  by_cases h:(!Sp.mem O k && Sp.rdy ps O k) = true
  ·rw [if_pos (e.2 h),if_pos h]
  ·rw [if_neg (fun x => h (e.1 x)),if_neg h]
   have:=ix_nx (ps:=ps) (O:=O) c (k + 1)
   rw [show ((k + 1:Nat):Int) = (k:Int) + 1 by omega] at this
   exact this
theorem ZbO (n:Nat) (ps:List Pr) (O:List Int):(Sp.msg n ps O).length=n:=by unfold Sp.msg;simp
theorem msg_get {n:Nat} {ps:List Pr} {O:List Int} {j:Nat} (h:j < n):(Sp.msg n ps O).getD j default = Sp.msF ps O j:=by
 unfold Sp.msg
 rw [List.getD_eq_getElem?_getD,List.getElem?_map,List.getElem?_range' (by omega)]
 simp
theorem dec1_len (A:List Int) (k:Int):(Sp.dec1 A k).length=A.length:=by unfold Sp.dec1;rw [List.length_set]
theorem dec1_get {A:List Int} {k:Int} (hk:0 <= k /\ k < A.length) (j:Nat):(Sp.dec1 A k).getD j default = if (j:Int) = k then A.getD j default - 1 else A.getD j default:=by
 unfold Sp.dec1
 rw [List.getD_eq_getElem?_getD,List.getElem?_set]
 by_cases e:k.toNat = j
 ·rw [if_pos e,if_pos (by omega),if_pos (by omega),Option.getD_some,e]
 ·rw [if_neg e,if_neg (by omega),<- List.getD_eq_getElem?_getD]
theorem fold_len:∀ (l A:List Int),(l.foldl Sp.dec1 A).length = A.length
 | [],A => rfl
 | x :: l,A => by rw [List.foldl_cons,fold_len l,dec1_len]
theorem fold_get:∀ (l A:List Int),(∀ x ∈ l,0 <= x /\ x < (A.length:Int)) -> ∀ j:Nat,(l.foldl Sp.dec1 A).getD j default = A.getD j default - (l.count (j:Int):Int)
 | [],A,_,j => by simp
 | x :: l,A,h,j => by
  rw [List.foldl_cons,fold_get l _ (fun y hy => by rw [dec1_len];exact h y (List.mem_cons_of_mem _ hy)),dec1_get (h x (by simp)),List.count_cons]
  by_cases e:(j:Int) = x
  ·rw [if_pos e,if_pos (by simpa using e.symm)];omega
  ·rw [if_neg e,if_neg (by simpa using fun y:x = j => e y.symm)];omega
theorem mem_snoc {O:List Int} {i a:Int}:Sp.mem (O ++ [i]) a = (Sp.mem O a || (i == a)):=by
 unfold Sp.mem;rw [List.any_append];simp
theorem cnt_split {O:List Int} {i j:Int} (hi:Sp.mem O i = false):∀ (ps:List Pr),Sp.cnt ps O j = Sp.cnt ps (O ++ [i]) j + (Sp.bhl ps i).count j
 | [] => rfl
 | p :: ps => by
  have ih:=cnt_split hi (j:=j) ps
  unfold Sp.cnt Sp.bhl at ih ⊢
  rw [List.countP_cons,List.countP_cons,ih,mem_snoc]
  by_cases e:p.a = i
  ·rw [List.filter_cons_of_pos (by simpa using e),List.map_cons,List.count_cons,e,hi]
   by_cases eb:p.b = j
   ·simp [eb];omega
   ·simp [eb]
  ·rw [List.filter_cons_of_neg (by simpa using e)]
   have:(i == p.a) = false:=by simpa using fun x:i = p.a => e x.symm
   rw [this,Bool.or_false];omega
theorem bhl_mem {ps:List Pr} {i j:Int}:j ∈ Sp.bhl ps i ↔ Sp.edge ps i j:=by
 unfold Sp.bhl Sp.edge
 rw [List.mem_map]
 constructor
 ·rintro ⟨p,hp,rfl⟩
  rw [List.mem_filter] at hp
  exact ⟨p,hp.1,by simpa using hp.2,rfl⟩
 ·rintro ⟨p,hp,h1,rfl⟩
  exact ⟨p,List.mem_filter.2 ⟨hp,by simpa using h1⟩,rfl⟩
theorem cnt_nil (ps:List Pr) (k:Int):Sp.cnt ps [] k = (Sp.bfl ps k).length:=by
 unfold Sp.cnt Sp.bfl
 rw [List.length_map,List.countP_eq_length_filter]
 congr 1
 exact List.filter_congr fun p _ => by simp [Sp.mem]
theorem ZdX {n:Nat} {A B:List Int} (hA:A.length = n) (hB:B.length = n) (h:∀ j,j < n -> A.getD j default = B.getD j default):A = B:=by
 apply List.ext_getElem (by omega)
 intro j h1 h2
 have:=h j (by omega)
 rw [List.getD_eq_getElem?_getD,List.getElem?_eq_getElem h1,List.getD_eq_getElem?_getD,List.getElem?_eq_getElem h2] at this
 exact this
theorem msg_step {n:Nat} {ps:List Pr} {O:List Int} {i:Int} (hv:Sp.okV n ps) (hc:Sp.clo ps O) (hi:0 <= i /\ i < n) (hm:Sp.mem O i = false) (hr:Sp.rdy ps O i = true):(Sp.bhl ps i).foldl Sp.dec1 ((Sp.msg n ps O).set i.toNat (-1)) = Sp.msg n ps (O ++ [i]):=by
 have hin:i ∉ O:=fun h => by rw [Zbk.2 h] at hm;cases hm
 have hb:∀ x ∈ Sp.bhl ps i,0 <= x /\ x < (((Sp.msg n ps O).set i.toNat (-1)).length:Int):=fun x hx => by
  obtain ⟨p,hp,_,rfl⟩:=bhl_mem.1 hx
  have:=hv p hp
  rw [List.length_set,ZbO];omega
 refine ZdX (n:=n) (by rw [fold_len,List.length_set,ZbO]) (ZbO ..) fun j hj => ?_
 rw [fold_get _ _ hb,msg_get hj,List.getD_eq_getElem?_getD,List.getElem?_set]
 unfold Sp.msF
 rw [mem_snoc]
 by_cases e:i.toNat = j
 ·have ei:i = (j:Int):=by omega
  rw [if_pos e,if_pos (by rw [ZbO];omega),Option.getD_some,if_pos (by rw [show (i == (j:Int)) = true by simpa using ei,Bool.or_true])]
  have:(Sp.bhl ps i).count (j:Int) = 0:=List.count_eq_zero.2 fun h => by
   rw [<- ei] at h
   exact hin (ZcB.1 hr _ (bhl_mem.1 h))
  rw [this];rfl
 ·have ei:(i == (j:Int)) = false:=by simpa using fun x:i = (j:Int) => e (by omega)
  rw [if_neg e,<- List.getD_eq_getElem?_getD,msg_get hj,ei,Bool.or_false]
  unfold Sp.msF
  by_cases hmj:Sp.mem O (j:Int) = true
  ·rw [if_pos hmj,if_pos hmj]
   have:(Sp.bhl ps i).count (j:Int) = 0:=List.count_eq_zero.2 fun h => hin (ZcB.1 (hc _ (Zbk.1 hmj)) _ (bhl_mem.1 h))
   rw [this];rfl
  ·rw [if_neg hmj,if_neg hmj]
   have:=cnt_split (j:=(j:Int)) hm ps
   omega
theorem rdy_mono {ps:List Pr} {O:List Int} {i k:Int} (h:Sp.rdy ps O k = true):Sp.rdy ps (O ++ [i]) k = true:=
 ZcB.2 fun a ha => List.mem_append_left _ (ZcB.1 h a ha)
theorem clo_step {ps:List Pr} {O:List Int} {i:Int} (hc:Sp.clo ps O) (hr:Sp.rdy ps O i = true):Sp.clo ps (O ++ [i]):=fun k hk => by
 rcases List.mem_append.1 hk with h | h
 ·exact rdy_mono (hc k h)
 ·rw [List.mem_singleton] at h
  rw [h];exact rdy_mono hr
theorem dec_loop {P:List Int -> Int -> Prop} {n:Nat} {l A0:List Int} (hl:∀ x ∈ l,0 <= x /\ x < n) (hA:A0.length = n) (hb:∀ j,j < n -> -1 <= A0.getD j default /\ A0.getD j default <= 1000000) (hll:l.length <= 1000000)
  (step:∀ (A:List Int) (i:Nat),i < l.length -> A.length = n -> (0 <= l.getD i default /\ (l.getD i default).toNat < n) -> (-9223372036854775808 <= A.getD (l.getD i default).toNat default - 1 /\ A.getD (l.getD i default).toNat default - 1 <= 9223372036854775807) -> P (Sp.dec1 A (l.getD i default)) ((i:Int) + 1) -> P A i)
  (fin:P (l.foldl Sp.dec1 A0) l.length):P A0 0:=by
 have main:∀ (c i:Nat),i + c = l.length -> P ((l.take i).foldl Sp.dec1 A0) i:=by
  intro c
  induction c with
  | zero => intro i hi;rw [List.take_of_length_le (by omega),show i = l.length by omega];exact fin
  | succ c ih =>
   intro i hi
   have hil:i < l.length:=by omega
   have g:l.getD i default = l[i]:=by rw [List.getD_eq_getElem?_getD,List.getElem?_eq_getElem hil];rfl
   have hx:=hl l[i] (List.getElem_mem hil)
   have hn:=ih (i + 1) (by omega)
   rw [ZdF hil,List.foldl_append,List.foldl_cons,List.foldl_nil,<- g] at hn
   refine step _ i hil (by rw [fold_len,hA]) (by rw [g];omega) ?_ (by rw [show ((i:Int) + 1) = ((i + 1:Nat):Int) by omega];exact hn)
   rw [g,fold_get _ _ (fun x hx => by rw [hA];exact hl x (List.mem_of_mem_take hx))]
   have:=hb l[i].toNat (by omega)
   have h2:(l.take i).count ((l[i].toNat:Nat):Int) <= (l.take i).length:=List.count_le_length
   rw [List.length_take] at h2
   omega
 exact main l.length 0 (by omega)
end Go.Av

namespace Go.Av
open Go.RowKit
end Go.Av

namespace Go.Av
open Go.Proofs
theorem weak_tup2 {a b a' b':AV} (h1:Weak a a') (h2:Weak b b'):Weak (.tup [a,b]) (.tup [a',b']):=by
 refine .tup _ _ rfl fun i x y hx hy => ?_
 match i with
 | 0 => rw [<- Option.some.inj hx,<- Option.some.inj hy];exact h1
 | 1 => rw [<- Option.some.inj hx,<- Option.some.inj hy];exact h2
 | i + 2 => cases hx
theorem ZdD (b:AV):Weak (.tup [.vnil,b]) (.tup [.vec false 1 [],b]):=weak_tup2 (.vnil 1) (.refl _)
theorem behW_get {n:Nat} {ps:List Pr} {j:Nat} (h:j < n):((Sp.behW n ps).getD j default).l = Sp.bhl ps j:=by
 unfold Sp.behW
 rw [List.getD_eq_getElem?_getD,List.getElem?_map,List.getElem?_range h];rfl
theorem befW_get {n:Nat} {ps:List Pr} {j:Nat} (h:j < n):((Sp.befW n ps).getD j default).l = Sp.bfl ps j:=by
 unfold Sp.befW
 rw [List.getD_eq_getElem?_getD,List.getElem?_map,List.getElem?_range h];rfl
theorem behW_len (n:Nat) (ps:List Pr):(Sp.behW n ps).length=n:=by unfold Sp.behW;simp
theorem befW_len (n:Nat) (ps:List Pr):(Sp.befW n ps).length=n:=by unfold Sp.befW;simp
theorem msg_bd {n:Nat} {ps:List Pr} {O:List Int} (hpl:ps.length <= 1000000) (i j:Nat) (hj:j < n):-1 <= ((Sp.msg n ps O).set i (-1)).getD j default /\ ((Sp.msg n ps O).set i (-1)).getD j default <= 1000000:=by
 rw [List.getD_eq_getElem?_getD,List.getElem?_set]
 by_cases e:i = j
 ·rw [if_pos e,if_pos (by rw [ZbO];omega),Option.getD_some];omega
 ·rw [if_neg e,<- List.getD_eq_getElem?_getD,msg_get hj]
  unfold Sp.msF
  have:Sp.cnt ps O j <= ps.length:=List.countP_le_length
  split <;> omega
theorem bhl_in {n:Nat} {ps:List Pr} (hv:Sp.okV n ps) (i:Int):∀ x ∈ Sp.bhl ps i,0 <= x /\ x < n:=fun x hx => by
 obtain ⟨p,hp,_,rfl⟩:=bhl_mem.1 hx
 have:=hv p hp
 omega
section
variable {n:Nat} {ps:List Pr} {fb ft:Bool} {B:List Iw}
theorem pOrO_loop (hv:Sp.okV n ps) (hn:n <= 1000) (hpl:ps.length <= 1000000):∀ (c:Nat) (O:List Int) (v:Nat),O.length + c = n -> Sp.clo ps O -> Zfn (n:Int) fb ft B (Sp.behW n ps) (Sp.msg n ps O) O v (Zat (Sp.ordA (Sp.kahn n ps c O))):=by
 intro c
 induction c with
 | zero =>
  intro O v hl hc
  exact pOrO _ _ _ _ _ _ _ _ _ ⟨fun z => absurd z (by omega),fun _ => .refl _⟩
 | succ c ih =>
  intro O v hl hc
  have hx:=ix_nx (ps:=ps) (O:=O) n 0
  have hx:Sp.ix 0 (Sp.msg n ps O) 0 = _:=hx
  refine pOrO _ _ _ _ _ _ _ _ _ ⟨fun _ => ⟨by unfold Sp.few;rw [ZbO];omega,fun h => ?_,fun h => ?_⟩,fun z => absurd (by omega) z⟩
  ·rw [hx] at h
   rw [Sp.kahn]
   cases hnx:Sp.nx ps O n 0 with
   | none => exact ZdD _
   | some i =>
    rw [show ((0:Nat):Int) = 0 from rfl,hnx] at h
    have:=(Zdo hnx).1
    simp only at h;omega
  ·cases hnx:Sp.nx ps O n 0 with
   | none =>
    rw [hx,show ((0:Nat):Int) = 0 from rfl,hnx] at h
    simp only at h;omega
   | some i =>
    rw [show ((0:Nat):Int) = 0 from rfl,hnx] at hx
    simp only at hx
    obtain ⟨h1,h2,h3,_⟩:=Zdo hnx
    rw [hx]
    have hi:i.toNat < n:=by omega
    have hik:((i.toNat:Nat):Int) = i:=by omega
    refine ⟨by omega,by rw [ZbO];exact hi,by rw [behW_len];exact hi,?_⟩
    rw [behW_get hi,hik]
    have hbl:=bhl_len ps i
    refine dec_loop (P:=fun A j => ZdR (n:Int) fb ft B (Sp.behW n ps) A O v i false (Sp.bhl ps i) ((Sp.bhl ps i).length:Int) j (Zat (Sp.ordA (Sp.kahn n ps (c + 1) O)))) (n:=n) (bhl_in hv i) (by rw [List.length_set,ZbO]) (fun j hj => msg_bd hpl _ j hj) (by omega) (fun A j hj hA hg hr hp => ?_) ?_
    ·have e:((j:Nat):Int).toNat = j:=Int.toNat_natCast j
     refine pOrOi _ _ _ _ _ _ _ _ _ _ _ _ _ _ ⟨fun _ => ?_,fun z => absurd (by omega) z⟩
     rw [e]
     exact ⟨by omega,hj,hg.1,by rw [hA];exact hg.2,hr,by omega,hp⟩
    ·refine pOrOi _ _ _ _ _ _ _ _ _ _ _ _ _ _ ⟨fun z => absurd z (by omega),fun _ => ⟨by omega,?_⟩⟩
     rw [msg_step hv hc ⟨by omega,by omega⟩ h2 h3,Sp.kahn,hnx]
     exact ih _ _ (by rw [List.length_append,List.length_singleton];omega) (clo_step hc h3)
theorem pOrN_loop (hv:Sp.okV n ps) (hn:n <= 1000) (hpl:ps.length <= 1000000):pOrN_at (n:Int) fb ft B (Sp.behW n ps) (Sp.msg n ps []) (Zat (Sp.ordA (Sp.ord n ps))):=by
 unfold Sp.ord
 have hc:Sp.clo ps []:=fun k hk => by cases hk
 cases n with
 | zero => exact pOrN _ _ _ _ _ _ _ ⟨fun z => absurd z (by omega),fun _ => ZdD _⟩
 | succ c =>
  have hx:=ix_nx (ps:=ps) (O:=[]) (c + 1) 0
  have hx:Sp.ix 0 (Sp.msg (c + 1) ps []) 0 = _:=hx
  refine pOrN _ _ _ _ _ _ _ ⟨fun _ => ⟨by unfold Sp.few;rw [ZbO];omega,fun h => ?_,fun h => ?_⟩,fun z => absurd (by omega) z⟩
  ·rw [hx] at h
   rw [Sp.kahn]
   cases hnx:Sp.nx ps [] (c + 1) 0 with
   | none => exact ZdD _
   | some i =>
    rw [show ((0:Nat):Int) = 0 from rfl,hnx] at h
    have:=(Zdo hnx).1
    simp only at h;omega
  ·cases hnx:Sp.nx ps [] (c + 1) 0 with
   | none =>
    rw [hx,show ((0:Nat):Int) = 0 from rfl,hnx] at h
    simp only at h;omega
   | some i =>
    rw [show ((0:Nat):Int) = 0 from rfl,hnx] at hx
    simp only at hx
    obtain ⟨h1,h2,h3,_⟩:=Zdo hnx
    rw [hx]
    have hi:i.toNat < c + 1:=by omega
    have hik:((i.toNat:Nat):Int) = i:=by omega
    refine ⟨by omega,by rw [ZbO];exact hi,by rw [behW_len];exact hi,?_⟩
    rw [behW_get hi,hik]
    have hbl:=bhl_len ps i
    refine dec_loop (P:=fun A j => ZdS ((c + 1:Nat):Int) fb ft B (Sp.behW (c + 1) ps) A i false (Sp.bhl ps i) ((Sp.bhl ps i).length:Int) j (Zat (Sp.ordA (Sp.kahn (c + 1) ps (c + 1) [])))) (n:=c + 1) (bhl_in hv i) (by rw [List.length_set,ZbO]) (fun j hj => msg_bd hpl _ j hj) (by omega) (fun A j hj hA hg hr hp => ?_) ?_
    ·have e:((j:Nat):Int).toNat = j:=Int.toNat_natCast j
     refine pOrNi _ _ _ _ _ _ _ _ _ _ _ _ ⟨fun _ => ?_,fun z => absurd (by omega) z⟩
     rw [e]
     exact ⟨by omega,hj,hg.1,by rw [hA];exact hg.2,hr,by omega,hp⟩
    ·refine pOrNi _ _ _ _ _ _ _ _ _ _ _ _ ⟨fun z => absurd z (by omega),fun _ => ?_⟩
     rw [msg_step hv hc ⟨by omega,by omega⟩ h2 h3,Sp.kahn,hnx]
     exact pOrO_loop hv hn hpl c [i] 0 (by simp;omega) (clo_step hc h3)
theorem pOrA_loop {fm:Bool} (hv:Sp.okV n ps) (hn:n <= 1000) (hpl:ps.length <= 1000000):∀ (c i:Nat) (A:List Int),i + c = n -> A.length = n -> (∀ j,j < i -> A.getD j default = ((Sp.bfl ps j).length:Int)) -> Zfo (n:Int) fb ft B (Sp.behW n ps) A fm (Sp.befW n ps) (n:Int) (i:Int) (Zat (Sp.ordA (Sp.ord n ps))):=by
 intro c
 induction c with
 | zero =>
  intro i A hi hA h
  refine pOrA _ _ _ _ _ _ _ _ _ _ _ ⟨fun z => absurd z (by omega),fun _ => ?_⟩
  have:A = Sp.msg n ps []:=ZdX hA (ZbO ..) fun j hj => by
   rw [h j (by omega),msg_get hj]
   unfold Sp.msF
   rw [if_neg (by simp [Sp.mem]),cnt_nil]
  rw [this]
  exact pOrN_loop hv hn hpl
 | succ c ih =>
  intro i A hi hA h
  have e:((i:Nat):Int).toNat = i:=Int.toNat_natCast i
  refine pOrA _ _ _ _ _ _ _ _ _ _ _ ⟨fun _ => ?_,fun z => absurd (by omega) z⟩
  rw [e]
  refine ⟨by omega,by rw [befW_len];omega,by omega,by omega,ih (i + 1) _ (by omega) (by rw [List.length_set];exact hA) fun j hj => ?_⟩
  rw [List.getD_eq_getElem?_getD,List.getElem?_set]
  by_cases ej:i = j
  ·rw [if_pos ej,if_pos (by omega),Option.getD_some,befW_get (by omega),ej]
  ·rw [if_neg ej,<- List.getD_eq_getElem?_getD];exact h j (by omega)
end
theorem ordA_eq {m:Nat} {ps:List Pr} (h:Sp.vd m ps = 0):Sp.ordA (Sp.ord m ps) = .tup [.vec false 1 ((Sp.ordL m ps).map (.int .i64)),.int .i64 (Sp.ZeJ m ps)]:=by
 unfold Sp.ordL Sp.ZeJ Sp.cycB
 rw [if_pos h,if_pos h,Int.toNat_natCast]
 cases Sp.ord m ps with
 | none => rfl
 | some l => rfl
theorem ev20 (n:Int) (f:Bool) (ps:List Pr):Ev M1 (.pure 20 [.int .i64 n,.vec f 2 (ps.map Pr.v)]) (.tup [.vec false 1 ((Sp.ordL n ps).map (.int .i64)),.int .i64 (Sp.ZeJ n ps)]) []:=by
 refine call20 (pOr _ _ _ _ ⟨fun h => ?_,fun h => ?_⟩)
 ·unfold Sp.ordL Sp.ZeJ
  rw [if_neg h,if_neg h]
  exact ZdD _
 ·have h:=Classical.byContradiction h
  obtain ⟨m,rfl,hv,hm,hpl⟩:=Ze3 h
  refine ⟨h,by omega,by omega,by omega,?_⟩
  rw [Int.toNat_natCast,befW_len,<- ordA_eq h]
  exact pOrA_loop hv hm hpl m 0 _ (by omega) (by simp) fun j hj => by omega
section
variable {n:Nat} {ps:List Pr} {f:Bool}
end
end Go.Av

namespace Go.Av
open Go.Proofs
set_option maxRecDepth 100000
end Go.Av

namespace Go.Av
open Go.Proofs
theorem Zfz {n:Nat} {ps:List Pr}:∀ (l pre:List Int),Sp.Zbi n ps (pre ++ l) -> Sp.linF n ps pre l = true
 | [],_,_ => rfl
 | x :: l,pre,h => by
  have h0:=h pre.length (by simp)
  have g:(pre ++ x :: l).getD pre.length default = x:=by rw [List.getD_eq_getElem?_getD,List.getElem?_append_right (by omega),Nat.sub_self];rfl
  rw [g,List.take_left' rfl] at h0
  unfold Sp.linF
  rw [decide_eq_true h0.1,h0.2.1,h0.2.2,Zfz l (pre ++ [x]) (by rw [List.append_assoc];exact h)];rfl
end Go.Av

namespace Go.Av
open Go.Proofs
set_option maxRecDepth 100000
end Go.Av

namespace Go.Av
open Go.Proofs
namespace Sp
inductive fin (ps:List Pr):Int -> Prop
 | mk {a:Int}:(∀ b,edge ps a b -> fin ps b) -> fin ps a
structure VI (n:Nat) (ps:List Pr) (D:List Bool) (A P:List Int):Prop where
 dl:D.length = n
 al:A.length = n
 rng:∀ x ∈ P,0 <= x /\ x < n
 nd:P.Nodup
 at1:∀ (j:Nat) x,P[j]? = some x -> A.getD x.toNat default = (j:Int) + 1
 at0:∀ k:Nat,k < n -> (k:Int) ∉ P -> A.getD k default = 0
 ch:∀ (j:Nat) x y,P[j]? = some x -> P[j + 1]? = some y -> edge ps x y
 fn:∀ k:Nat,k < n -> D.getD k default = true -> fin ps k
end Sp
theorem Sp.VI.push {n:Nat} {ps:List Pr} {D:List Bool} {A P:List Int} (h:Sp.VI n ps D A P) {i:Int} (hi:0 <= i /\ i < n) (hn:i ∉ P) (he:∀ x,P.getLast? = some x -> Sp.edge ps x i):Sp.VI n ps D (A.set i.toNat ((P.length:Int) + 1)) (P ++ [i]):=by
 refine ⟨h.dl,by rw [List.length_set];exact h.al,fun x hx => ?_,?_,fun j x hx => ?_,fun k hk hkP => ?_,fun j x y hx hy => ?_,h.fn⟩
 ·rcases List.mem_append.1 hx with hx | hx
  ·exact h.rng x hx
  ·rw [List.mem_singleton] at hx;rw [hx];exact hi
 ·rw [List.nodup_append]
  exact ⟨h.nd,by simp,fun a ha b hb => by simp at hb;subst hb;exact fun e => hn (e ▸ ha)⟩
 ·by_cases hj:j < P.length
  ·rw [List.getElem?_append_left hj] at hx
   have hx0:=h.rng x (List.mem_of_getElem? hx)
   have hne:x ≠ i:=fun e => hn (e ▸ List.mem_of_getElem? hx)
   rw [List.getD_eq_getElem?_getD,List.getElem?_set,if_neg (by omega),<- List.getD_eq_getElem?_getD]
   exact h.at1 j x hx
  ·have hj2:=(List.getElem?_eq_some_iff.1 hx).1
   rw [List.length_append,List.length_singleton] at hj2
   have:j = P.length:=by omega
   subst this
   rw [List.getElem?_append_right (by omega),Nat.sub_self] at hx
   have e:x = i:=(Option.some.inj hx).symm
   subst e
   rw [List.getD_eq_getElem?_getD,List.getElem?_set,if_pos rfl,if_pos (by rw [h.al];omega)];rfl
 ·have hne:(k:Int) ≠ i:=fun e => hkP (by rw [e];simp)
  rw [List.getD_eq_getElem?_getD,List.getElem?_set,if_neg (by omega),<- List.getD_eq_getElem?_getD]
  exact h.at0 k hk fun hm => hkP (List.mem_append_left _ hm)
 ·have hj2:=(List.getElem?_eq_some_iff.1 hy).1
  rw [List.length_append,List.length_singleton] at hj2
  by_cases hj:j + 1 < P.length
  ·rw [List.getElem?_append_left (by omega)] at hx
   rw [List.getElem?_append_left hj] at hy
   exact h.ch j x y hx hy
  ·have:j + 1 = P.length:=by omega
   rw [List.getElem?_append_left (by omega)] at hx
   rw [this,List.getElem?_append_right (by omega),Nat.sub_self] at hy
   rw [<- Option.some.inj hy]
   refine he x ?_
   rw [List.getLast?_eq_getElem?,show P.length - 1 = j by omega];exact hx
theorem Sp.VI.base (n:Nat) (ps:List Pr):Sp.VI n ps (List.replicate n false) (List.replicate n 0) []:=
 ⟨by simp,by simp,fun x hx => (by cases hx),List.nodup_nil,fun j x hx => (by simp at hx),fun k hk _ => (by rw [List.getD_eq_getElem?_getD,List.getElem?_replicate,if_pos hk];rfl),fun j x y hx hy => (by simp at hx),fun k hk hD => (by rw [List.getD_eq_getElem?_getD,List.getElem?_replicate,if_pos hk] at hD;cases hD)⟩
def Sp.one (l:List Int):Prop:=l ≠ []/\l.length<=1000000
end Go.Av

namespace Go.Av
open Go.Proofs
set_option maxRecDepth 100000
end Go.Av

namespace Go.Av
open Go.Proofs
section
variable {n:Nat} {ps:List Pr} {fm:Bool}
end
end Go.Av

namespace Go.Av
open Go.Proofs
set_option maxRecDepth 100000
end Go.Av

namespace Go.Av
open Go.RowKit
theorem backAt_sw {n p q:Nat} (hp:p < n) (hq:q < n):Zb9 n ((List.range n).map (swp p q)) = swp p q:=by
 funext i
 unfold Zb9
 by_cases h:i < n
 ·have hb:Nat.blt i ((List.range n).map (swp p q)).length = true:=Nat.blt_eq.mpr (by simpa using h)
  rw [hb,cond_true,List.getD_eq_getElem?_getD,List.getElem?_map,List.getElem?_range h];rfl
 ·have hb:Nat.blt i ((List.range n).map (swp p q)).length = false:=by
   cases hb:Nat.blt i ((List.range n).map (swp p q)).length with
   | false => rfl
   | true => exact absurd (by simpa using Nat.blt_eq.mp hb) h
  rw [hb,cond_false,List.length_map,List.length_range,Zb2 (by omega) (by omega)];omega
theorem backAll_sw {L L1:Heap} {p q:Nat} (hp:p < L.length) (hq:q < L.length) (hl:L.length <= L1.length):ZcH L ((List.range L.length).map (swp p q)) L1 = swH p q L1:=by
 have hmem:∀ r ∈ (List.range L.length).map (swp p q),r < L.length:=by
  intro r hr
  obtain ⟨a,ha,rfl⟩:=List.mem_map.1 hr
  exact ZcI hp hq (List.mem_range.1 ha)
 have hnd:((List.range L.length).map (swp p q)).Nodup:=by
  refine List.pairwise_map.2 (List.Pairwise.imp_of_mem ?_ List.nodup_range)
  intro a b _ _ hab e;exact hab (Zeb e)
 have hlen:(ZcH L ((List.range L.length).map (swp p q)) L1).length = L1.length:=by
  unfold ZcH
  rw [List.length_append,Zax,List.length_map,List.length_drop,List.length_map,List.length_range];omega
 have hp1:p < L1.length:=by omega
 have hq1:q < L1.length:=by omega
 apply List.ext_getElem?
 intro t
 by_cases ht:t < L1.length
 ·have hs:=ZcI hp1 hq1 ht
  have e1:=back_at (L:=L) (L1:=L1) (Zde _ hmem) hnd (swp p q t) _ (List.getElem?_eq_getElem hs)
  rw [backAt_sw hp hq,ZbJ] at e1
  have e2:=ZcO hp1 hq1 (List.getElem?_eq_getElem hs)
  rw [ZbJ] at e2
  rw [e1,e2]
 ·rw [List.getElem?_eq_none (by rw [hlen];omega),List.getElem?_eq_none (by rw [ZcN];omega)]
theorem wp_swapQ {M:Mach} {fi:Fi} {k:List Item} {env:Vars} {L:Heap} {Q:AV -> Heap -> Prop} {p q:Nat} (hp:p < L.length) (hq:q < L.length) (henv:∀ r ∈ rowsL (env.map (·.2)),r < L.length) (href:∀ row ∈ L,∀ r ∈ Zag row,r < L.length)
  (h:Wp M (.run fi k (renV (swp p q) env) (swH p q L)) (fun v L1 => L.length <= L1.length /\ Q (renA (swp p q) v) (swH p q L1))):Wp M (.run fi k env L) Q:=by
 have hmem:∀ r,r ∈ (List.range L.length).map (swp p q) ↔ r < L.length:=by
  intro r
  rw [List.mem_map]
  constructor
  ·rintro ⟨a,ha,rfl⟩;exact ZcI hp hq (List.mem_range.1 ha)
  ·intro hr;exact ⟨swp p q r,List.mem_range.2 (ZcI hp hq hr),ZbJ p q r⟩
 have hnd:((List.range L.length).map (swp p q)).Nodup:=by
  refine List.pairwise_map.2 (List.Pairwise.imp_of_mem ?_ List.nodup_range)
  intro a b _ _ hab e;exact hab (Zeb e)
 refine .narrow ((List.range L.length).map (swp p q)) (renV (swp p q) env) (swH p q L) ?_ (.mono h fun v L1 ⟨h1,h2⟩ => by rw [backAt_sw hp hq,backAll_sw hp hq h1];exact h2)
 unfold Za4
 rw [Zde _ fun r hr => (hmem r).1 hr]
 have hpos:∀ r,r < L.length -> Zah ((List.range L.length).map (swp p q)) r = swp p q r:=fun r hr =>
  ZbV hnd (by rw [List.getElem?_map,List.getElem?_range (ZcI hp hq hr)];simp [ZbJ])
 have hrow:∀ r,r < L.length -> ∀ s ∈ Zag (L.getD r ⟨[],0,0,false,true⟩),s < L.length:=fun r hr s hs =>
  href _ (by rw [List.getD_eq_getElem?_getD,List.getElem?_eq_getElem hr];exact List.getElem_mem hr) s hs
 simp only
 rw [if_pos]
 ·congr 1
  refine Prod.ext ?_ ?_
  ·show renV _ env = renV _ env
   unfold renV
   refine List.map_congr_left fun e he => ?_
   have:∀ r ∈ rowsA e.2,Zah ((List.range L.length).map (swp p q)) r = swp p q r:=fun r hr => hpos r (henv r (by
    have hm:e.2 ∈ env.map (·.2):=List.mem_map_of_mem he
    obtain ⟨i,hi⟩:=List.getElem?_of_mem hm
    exact ZaT hi hr))
   rw [renA_ext e.2 this]
  ·show List.map _ _ = swH p q L
   unfold swH
   rw [List.map_map,List.map_map]
   refine List.map_congr_left fun j hj => ?_
   have hj:=List.mem_range.1 hj
   exact Zda fun s hs => hpos s (hrow _ (ZcI hp hq hj) s hs)
 ·simp only [Bool.and_eq_true,List.all_eq_true,List.contains_iff_mem]
  refine ⟨(ZaU _).2 hnd,fun r hr => (hmem r).2 (henv r hr),fun row hr s hs => ?_⟩
  obtain ⟨r,hr1,rfl⟩:=List.mem_map.1 hr
  exact (hmem s).2 (hrow r ((hmem r).1 hr1) s hs)
end Go.Av

namespace Go.Av
open Go.Proofs
section
variable {n:Nat} {ps:List Pr} {fm:Bool}
end
end Go.Av

namespace Go.Av
open Go.Proofs
end Go.Av

namespace Go.Av
open Go.Proofs
set_option maxRecDepth 100000
end Go.Av

namespace Go.Av
open Go.Proofs
end Go.Av

namespace Go.Av
open Go.Proofs
set_option maxRecDepth 100000
end Go.Av

namespace Go.Av
open Go.Proofs
namespace Sp
end Sp
end Go.Av

namespace Go.Av
theorem Mx.renV {N:Mach} {env:Vars} {L:Heap} {U:Nat} {p q:Nat} (hp:U <= p) (hq:U <= q) (henv:(rowsL (env.map (·.2))).all (fun r => Nat.blt r U) = true):Go.Av.renV (swp p q) env = env:=by
 have hE:∀ r ∈ rowsL (env.map (·.2)),r < U:=fun r hr => Nat.blt_eq.mp (List.all_eq_true.1 henv r hr)
 unfold Go.Av.renV
 have:env.map (fun e => (e.1,renA (swp p q) e.2)) = env.map id:=List.map_congr_left fun e he => by
  have:∀ r ∈ rowsA e.2,swp p q r = (fun r => r) r:=fun r hr => ZcM hp hq (hE r (by
   have hm:e.2 ∈ env.map (·.2):=List.mem_map_of_mem he
   obtain ⟨i,hi⟩:=List.getElem?_of_mem hm
   exact ZaT hi hr))
  rw [renA_ext e.2 this,renA_id];rfl
 rw [this,List.map_id]
end Go.Av

namespace Go.Av
open Go.Proofs
set_option maxRecDepth 100000
end Go.Av

namespace Go.Av
open Go.Proofs
abbrev bR (m:List Bool):Row:=⟨m.map .bool,1,0,false,true⟩
section
variable {n:Nat} {ps:List Pr} {l:List Int}
end
end Go.Av

namespace Go.Av
open Go.Proofs
theorem Zc8 {n:Nat} {ps:List Pr} {l:List Int} (h:Sp.Zbi n ps l):l.Nodup:=by
 rw [List.nodup_iff_pairwise_ne,List.pairwise_iff_getElem]
 intro i j hi hj hij e
 have:=(h j hj).2.1
 have gd:∀ k (hk:k < l.length),l.getD k default = l[k]:=fun k hk => by rw [List.getD_eq_getElem?_getD,List.getElem?_eq_getElem hk];rfl
 rw [gd j hj] at this
 refine Bool.eq_false_iff.1 this (Zbk.2 ?_)
 rw [<- e,List.mem_take_iff_getElem]
 exact ⟨i,by omega,rfl⟩
theorem Zb8 {n:Nat} {ps:List Pr} {l:List Int} (h:Sp.Zbi n ps l):∀ x ∈ l,0 <= x /\ x < n:=fun x hx => by
 obtain ⟨i,hi⟩:=List.getElem?_of_mem hx
 have hil:=(List.getElem?_eq_some_iff.1 hi).1
 have:=(h i hil).1
 rw [List.getD_eq_getElem?_getD,hi,Option.getD_some] at this
 exact this
theorem begins_all {n:Nat} {ps:List Pr} {l:List Int} (h:Sp.Zbi n ps l) (hl:l.length = n) {x:Int} (hx:0 <= x /\ x < n):x ∈ l:=Classical.byContradiction fun hno => by
 have:=pigeon n (x :: l) (List.nodup_cons.2 ⟨hno,Zc8 h⟩) fun y hy => by
  rcases List.mem_cons.1 hy with rfl | hy
  ·exact hx
  ·exact Zb8 h y hy
 simp only [List.length_cons] at this
 omega
namespace Sp
end Sp
end Go.Av

namespace Go.Av
open Go.Proofs
namespace Sp
def cg1 (tl:List Int) (t:Option Int) (k:Int):Nat:=match t with
 | none => 0
 | some y => if tl.getD y.toNat default = tl.getD k.toNat default then 0 else 1
def cg (tl:List Int):Option Int -> List Int -> Nat
 | _,[] => 0
 | t,x :: l => cg1 tl t x + cg tl (some x) l
def opM (ps:List Pr) (s:Nat) (k:Nat):Bool:=!s.testBit k&&ps.all fun p => !(p.b==(k:Int))||s.testBit p.a.toNat
def rv (n:Nat) (ps:List Pr) (tl:List Int):Nat -> Nat -> Option Int -> Nat
 | 0,_,_ => 0
 | c + 1,s,t => (List.range n).foldl (fun b (k:Nat) => if opM ps s k = true then min b (rv n ps tl c (s ||| 2 ^ k) (some k) + cg1 tl t k) else b) n
def pick {α:Type} (b:Option (α × Nat)) (x:α) (v:Nat):Option (α × Nat):=match b with
 | none => some (x,v)
 | some (y,w) => if v < w then some (x,v) else some (y,w)
def nxt (n:Nat) (ps:List Pr) (tl:List Int) (c s:Nat) (t:Option Int):Option (Nat × Nat):=
 (List.range n).foldl (fun b (k:Nat) => if opM ps s k = true then pick b k (rv n ps tl c (s ||| 2 ^ k) (some k) + cg1 tl t k) else b) none
def gr (n:Nat) (ps:List Pr) (tl:List Int):Nat -> Nat -> Option Int -> List Int
 | 0,_,_ => []
 | c + 1,s,t => match nxt n ps tl c s t with
  | some (k,_) => (k:Int) :: gr n ps tl c (s ||| 2 ^ k) (some k)
  | none => []
def msk (O:List Int):Nat:=O.foldl (fun s k=>s ||| 2 ^ k.toNat) 0
end Sp
theorem tb_or (s k i:Nat):(s ||| 2 ^ k).testBit i = (s.testBit i || decide (k = i)):=by
 rw [Nat.testBit_or,Nat.testBit_two_pow]
theorem ZdU (O:List Int) (k:Int):Sp.msk (O ++ [k]) = Sp.msk O ||| 2 ^ k.toNat:=by
 unfold Sp.msk
 rw [List.foldl_append];rfl
theorem msk_fold {i:Nat}:∀ (O:List Int) (s:Nat),(O.foldl (fun s k => s ||| 2 ^ k.toNat) s).testBit i = true ↔ s.testBit i = true \/ ∃ k ∈ O,k.toNat = i
 | [],s => by simp
 | x :: O,s => by
  rw [List.foldl_cons,msk_fold O,tb_or,Bool.or_eq_true,decide_eq_true_eq]
  constructor
  ·rintro ((h | h) | ⟨k,h1,h2⟩)
   ·exact .inl h
   ·exact .inr ⟨x,List.mem_cons_self ..,h⟩
   ·exact .inr ⟨k,List.mem_cons_of_mem _ h1,h2⟩
  ·rintro (h | ⟨k,h1,h2⟩)
   ·exact .inl (.inl h)
   ·rcases List.mem_cons.1 h1 with rfl | h1
    ·exact .inl (.inr h2)
    ·exact .inr ⟨k,h1,h2⟩
theorem msk_bit {O:List Int} {i:Nat}:(Sp.msk O).testBit i = true ↔ ∃ k ∈ O,k.toNat = i:=by
 unfold Sp.msk
 rw [msk_fold];simp
theorem msk_mem {O:List Int} (hO:∀ x ∈ O,0 <= x) (k:Nat):(Sp.msk O).testBit k = Sp.mem O (k:Int):=by
 rw [Bool.eq_iff_iff,msk_bit,Zbk]
 constructor
 ·rintro ⟨x,hx,rfl⟩
  rw [show ((x.toNat:Nat):Int) = x by have:=hO x hx;omega];exact hx
 ·exact fun h => ⟨_,h,Int.toNat_natCast k⟩
theorem opM_eq {ps:List Pr} {O:List Int} (hp:∀ p ∈ ps,0 <= p.a) (hO:∀ x ∈ O,0 <= x) (k:Nat):Sp.opM ps (Sp.msk O) k = (!Sp.mem O (k:Int) && Sp.rdy ps O (k:Int)):=by
 unfold Sp.opM Sp.rdy
 rw [msk_mem hO]
 congr 1
 rw [Bool.eq_iff_iff,List.all_eq_true,List.all_eq_true]
 have e:∀ p ∈ ps,(Sp.msk O).testBit p.a.toNat = Sp.mem O p.a:=fun p h => by
  rw [msk_mem hO,show ((p.a.toNat:Nat):Int) = p.a by have:=hp p h;omega]
 exact ⟨fun h p hm => by rw [<- e p hm];exact h p hm,fun h p hm => by rw [e p hm];exact h p hm⟩
theorem msk_lt {n:Nat} {O:List Int} (hO:∀ x ∈ O,0 <= x /\ x < n):Sp.msk O < 2 ^ n:=by
 refine Nat.lt_pow_two_of_testBit _ fun i hi => ?_
 rw [Bool.eq_false_iff]
 intro h
 obtain ⟨k,h1,h2⟩:=msk_bit.1 h
 have:=hO k h1
 omega
theorem Zd0 {F:Nat -> Bool} {g:Nat -> Nat}:∀ (l:List Nat) (b:Nat),l.foldl (fun b k => if F k = true then min b (g k) else b) b <= b /\ (∀ k ∈ l,F k = true -> l.foldl (fun b k => if F k = true then min b (g k) else b) b <= g k) /\ (l.foldl (fun b k => if F k = true then min b (g k) else b) b = b \/ ∃ k ∈ l,F k = true /\ l.foldl (fun b k => if F k = true then min b (g k) else b) b = g k)
 | [],b => ⟨Nat.le_refl _,fun k h => (nomatch h),.inl rfl⟩
 | x :: l,b => by
  rw [List.foldl_cons]
  by_cases hF:F x = true
  ·rw [if_pos hF]
   obtain ⟨h1,h2,h3⟩:=Zd0 (F:=F) (g:=g) l (min b (g x))
   refine ⟨by omega,fun k hk hFk => ?_,?_⟩
   ·rcases List.mem_cons.1 hk with rfl | hk
    ·omega
    ·exact h2 k hk hFk
   ·rcases h3 with h3 | ⟨k,hk,h3⟩
    ·by_cases hb:b <= g x
     ·exact .inl (by rw [h3];omega)
     ·exact .inr ⟨x,List.mem_cons_self ..,hF,by rw [h3];omega⟩
    ·exact .inr ⟨k,List.mem_cons_of_mem _ hk,h3⟩
  ·rw [if_neg hF]
   obtain ⟨h1,h2,h3⟩:=Zd0 (F:=F) (g:=g) l b
   refine ⟨h1,fun k hk hFk => ?_,?_⟩
   ·rcases List.mem_cons.1 hk with rfl | hk
    ·exact absurd hFk hF
    ·exact h2 k hk hFk
   ·rcases h3 with h3 | ⟨k,hk,h3⟩
    ·exact .inl h3
    ·exact .inr ⟨k,List.mem_cons_of_mem _ hk,h3⟩
theorem ZfK {F:Nat -> Bool} {g:Nat -> Nat}:∀ (l:List Nat) (b:Option (Nat × Nat)),(∀ y w,b = some (y,w) -> w = g y) ->
  match l.foldl (fun b k => if F k = true then Sp.pick b k (g k) else b) b with
  | none => b = none /\ ∀ k ∈ l,¬F k = true
  | some (k,v) => v = g k /\ (∀ j ∈ l,F j = true -> v <= g j) /\ (∀ y w,b = some (y,w) -> v <= w) /\ ((k ∈ l /\ F k = true) \/ b = some (k,v))
 | [],b,hb => by
  cases b with
  | none => exact ⟨rfl,fun k h => (nomatch h)⟩
  | some p =>
   obtain ⟨y,w⟩:=p
   refine ⟨hb y w rfl,fun j h => (nomatch h),fun y' w' e => ?_,.inr rfl⟩
   cases e;exact Nat.le_refl _
 | x :: l,b,hb => by
  rw [List.foldl_cons]
  by_cases hF:F x = true
  ·rw [if_pos hF]
   have hb':∀ y w,Sp.pick b x (g x) = some (y,w) -> w = g y:=fun y w e => by
    unfold Sp.pick at e
    split at e
    ·cases e;rfl
    ·split at e
     ·cases e;rfl
     ·cases e;exact hb _ _ rfl
   have hle:∃ y w,Sp.pick b x (g x) = some (y,w) /\ w <= g x /\ (∀ y' w',b = some (y',w') -> w <= w') /\ ((y,w) = (x,g x) \/ b = some (y,w)):=by
    unfold Sp.pick
    split
    ·exact ⟨x,g x,rfl,Nat.le_refl _,fun _ _ e => (nomatch e),.inl rfl⟩
    ·rename_i y w
     by_cases h:g x < w
     ·rw [if_pos h]
      exact ⟨x,g x,rfl,Nat.le_refl _,fun _ _ e => by cases e;omega,.inl rfl⟩
     ·rw [if_neg h]
      exact ⟨y,w,rfl,by omega,fun _ _ e => by cases e;exact Nat.le_refl _,.inr rfl⟩
   obtain ⟨y,w,e,h1,h2,h3⟩:=hle
   have ih:=ZfK (F:=F) (g:=g) l (Sp.pick b x (g x)) hb'
   split at ih
   ·rw [ih.1] at e;cases e
   ·rename_i k v hk
    obtain ⟨i1,i2,i3,i4⟩:=ih
    have hvw:=i3 y w e
    refine ⟨i1,fun j hj hFj => ?_,fun y' w' e' => by have:=h2 y' w' e';omega,?_⟩
    ·rcases List.mem_cons.1 hj with rfl | hj
     ·omega
     ·exact i2 j hj hFj
    ·rcases i4 with ⟨i4,i5⟩ | i4
     ·exact .inl ⟨List.mem_cons_of_mem _ i4,i5⟩
     ·rw [e] at i4
      cases i4
      rcases h3 with h3 | h3
      ·cases h3
       exact .inl ⟨List.mem_cons_self ..,hF⟩
      ·exact .inr h3
  ·rw [if_neg hF]
   have ih:=ZfK (F:=F) (g:=g) l b hb
   split at ih
   ·exact ⟨ih.1,fun k hk => by
     rcases List.mem_cons.1 hk with rfl | hk
     ·exact hF
     ·exact ih.2 k hk⟩
   ·rename_i k v hk
    obtain ⟨i1,i2,i3,i4⟩:=ih
    refine ⟨i1,fun j hj hFj => ?_,i3,?_⟩
    ·rcases List.mem_cons.1 hj with rfl | hj
     ·exact absurd hFj hF
     ·exact i2 j hj hFj
    ·rcases i4 with ⟨i4,i5⟩ | i4
     ·exact .inl ⟨List.mem_cons_of_mem _ i4,i5⟩
     ·exact .inr i4
def Sp.ZeM (n:Nat) (ps:List Pr) (c s:Nat):Prop:=∃ O,Sp.Zbi n ps O/\O.length+c=n/\Sp.msk O=s
section
variable {n:Nat} {ps:List Pr} {tl:List Int}
theorem Zcu {O:List Int} (h:Sp.Zbi n ps O):∀ x ∈ O,0<=x:=fun x hx=>(Zb8 h x hx).1
theorem okV_pos (hv:Sp.okV n ps):∀ p ∈ ps,0<=p.a:=fun p hp=>(hv p hp).1
theorem ZcG {O:List Int} (hv:Sp.okV n ps) (h:Sp.Zbi n ps O) {k:Nat} (hk:k < n) (ho:Sp.opM ps (Sp.msk O) k = true):Sp.Zbi n ps (O ++ [(k:Int)]):=by
 rw [opM_eq (okV_pos hv) (Zcu h),Bool.and_eq_true,Bool.not_eq_true'] at ho
 exact Zdz h ⟨by omega,by omega⟩ ho.1 ho.2
theorem Zcq {c s k:Nat} (hv:Sp.okV n ps) (h:Sp.ZeM n ps (c + 1) s) (hk:k < n) (ho:Sp.opM ps s k = true):Sp.ZeM n ps c (s ||| 2 ^ k):=by
 obtain ⟨O,h1,h2,rfl⟩:=h
 exact ⟨O ++ [(k:Int)],ZcG hv h1 hk ho,by simp;omega,by rw [ZdU,Int.toNat_natCast]⟩
theorem ZfG {c s:Nat} (hv:Sp.okV n ps) (hc:¬Sp.cyc n ps) (h:Sp.ZeM n ps (c + 1) s):∃ k,k < n /\ Sp.opM ps s k = true:=by
 obtain ⟨O,h1,h2,rfl⟩:=h
 cases hn:Sp.nx ps O n 0 with
 | none => exact absurd (stuck hv (by omega) hn) hc
 | some j =>
  obtain ⟨a1,a2,a3,_⟩:=Zdo hn
  refine ⟨j.toNat,by omega,?_⟩
  rw [opM_eq (okV_pos hv) (Zcu h1),show ((j.toNat:Nat):Int) = j by omega,a2,a3];rfl
theorem good_c {c c' s:Nat} (h:Sp.ZeM n ps c s) (h':Sp.ZeM n ps c' s):c = c':=by
 obtain ⟨O,h1,h2,h3⟩:=h
 obtain ⟨O',h1',h2',h3'⟩:=h'
 have key:∀ {O O':List Int},Sp.Zbi n ps O -> Sp.Zbi n ps O' -> Sp.msk O = Sp.msk O' -> O ⊆ O':=fun {O O'} hO hO' e x hx => by
  have h0:=Zcu hO x hx
  have:(Sp.msk O).testBit x.toNat = true:=msk_bit.2 ⟨x,hx,rfl⟩
  rw [e,msk_mem (Zcu hO'),Zbk,show ((x.toNat:Nat):Int) = x by omega] at this
  exact this
 have a:=Ze6 (Zc8 h1) (key h1 h1' (h3.trans h3'.symm))
 have b:=Ze6 (Zc8 h1') (key h1' h1 (h3'.trans h3.symm))
 omega
theorem good_full {s:Nat} (h:Sp.ZeM n ps 0 s):s = 2 ^ n - 1:=by
 obtain ⟨O,h1,h2,rfl⟩:=h
 apply Nat.eq_of_testBit_eq
 intro i
 rw [Nat.testBit_two_pow_sub_one,msk_mem (Zcu h1)]
 by_cases hi:i < n
 ·rw [decide_eq_true hi,Zbk.2 (begins_all h1 (by omega) ⟨by omega,by omega⟩)]
 ·rw [decide_eq_false hi,Bool.eq_false_iff]
  intro h
  have:=Zb8 h1 _ (Zbk.1 h)
  omega
theorem Zc2 {c s:Nat} (hv:Sp.okV n ps) (hc:¬Sp.cyc n ps) (h:Sp.ZeM n ps (c + 1) s):s ≠ 2 ^ n - 1:=fun e => by
 obtain ⟨k,hk,ho⟩:=ZfG hv hc h
 unfold Sp.opM at ho
 rw [e,Nat.testBit_two_pow_sub_one,decide_eq_true hk] at ho
 cases ho
theorem Zci {c s:Nat} (h:Sp.ZeM n ps c s):s < 2 ^ n:=by
 obtain ⟨O,h1,h2,rfl⟩:=h
 exact msk_lt (Zb8 h1)
theorem ZfF:Sp.ZeM n ps n 0:=⟨[],fun j hj=>by simp at hj,by simp,rfl⟩
theorem cg1_le (t:Option Int) (k:Int):Sp.cg1 tl t k <= 1:=by
 unfold Sp.cg1
 split
 ·omega
 ·split <;> omega
theorem Zc9 (hv:Sp.okV n ps) (hc:¬Sp.cyc n ps):∀ (c s:Nat) (t:Option Int),Sp.ZeM n ps c s -> Sp.rv n ps tl c s t <= c
 | 0,_,_,_ => Nat.le_refl _
 | c + 1,s,t,h => by
  obtain ⟨k,hk,ho⟩:=ZfG hv hc h
  have ih:=Zc9 hv hc c (s ||| 2 ^ k) (some (k:Int)) (Zcq hv h hk ho)
  have h2:=(Zd0 (F:=Sp.opM ps s) (g:=fun k => Sp.rv n ps tl c (s ||| 2 ^ k) (some k) + Sp.cg1 tl t k) (List.range n) n).2.1 k (List.mem_range.2 hk) ho
  have:=cg1_le (tl:=tl) t (k:Int)
  unfold Sp.rv
  omega
theorem ZeU {c s:Nat} {t:Option Int} (hv:Sp.okV n ps) (hc:¬Sp.cyc n ps) (h:Sp.ZeM n ps (c + 1) s):∃ k v,Sp.nxt n ps tl c s t = some (k,v) /\ k < n /\ Sp.opM ps s k = true /\ v = Sp.rv n ps tl c (s ||| 2 ^ k) (some (k:Int)) + Sp.cg1 tl t k /\ v = Sp.rv n ps tl (c + 1) s t:=by
 obtain ⟨q,hq,hqo⟩:=ZfG hv hc h
 have hp:=ZfK (F:=Sp.opM ps s) (g:=fun k => Sp.rv n ps tl c (s ||| 2 ^ k) (some k) + Sp.cg1 tl t k) (List.range n) none (fun _ _ e => nomatch e)
 have hb:=Zc9 (tl:=tl) hv hc (c + 1) s t h
 unfold Sp.nxt
 split at hp
 ·exact absurd hqo (hp.2 q (List.mem_range.2 hq))
 ·rename_i k v hk
  obtain ⟨h1,h2,_,h4⟩:=hp
  rcases h4 with ⟨h4,h5⟩ | h4
  ·have hkn:=List.mem_range.1 h4
   refine ⟨k,v,hk,hkn,h5,h1,?_⟩
   obtain ⟨m1,m2,m3⟩:=Zd0 (F:=Sp.opM ps s) (g:=fun k => Sp.rv n ps tl c (s ||| 2 ^ k) (some k) + Sp.cg1 tl t k) (List.range n) n
   have m2k:=m2 k h4 h5
   unfold Sp.rv at hb ⊢
   rcases m3 with m3 | ⟨j,hj,hjo,m3⟩
   ·have hcn:c + 1 <= n:=by obtain ⟨O,_,e,_⟩:=h;omega
    have ih:=Zc9 (tl:=tl) hv hc c (s ||| 2 ^ k) (some (k:Int)) (Zcq hv h hkn h5)
    have:=cg1_le (tl:=tl) t (k:Int)
    omega
   ·have:=h2 j hj hjo
    omega
  ·cases h4
theorem gr_len (hv:Sp.okV n ps) (hc:¬Sp.cyc n ps):∀ (c s:Nat) (t:Option Int),Sp.ZeM n ps c s -> (Sp.gr n ps tl c s t).length = c
 | 0,_,_,_ => rfl
 | c + 1,s,t,h => by
  obtain ⟨k,v,e,hk,ho,_⟩:=ZeU (tl:=tl) (t:=t) hv hc h
  unfold Sp.gr
  rw [e]
  simp only [List.length_cons]
  rw [gr_len hv hc c _ _ (Zcq hv h hk ho)]
theorem gr_cost (hv:Sp.okV n ps) (hc:¬Sp.cyc n ps):∀ (c s:Nat) (t:Option Int),Sp.ZeM n ps c s -> Sp.cg tl t (Sp.gr n ps tl c s t) = Sp.rv n ps tl c s t
 | 0,_,_,_ => rfl
 | c + 1,s,t,h => by
  obtain ⟨k,v,e,hk,ho,h1,h2⟩:=ZeU (tl:=tl) (t:=t) hv hc h
  rw [<- h2,h1]
  unfold Sp.gr
  rw [e]
  simp only [Sp.cg]
  rw [gr_cost hv hc c _ _ (Zcq hv h hk ho)]
  omega
end
end Go.Av

namespace Go.Av
open Go.Proofs
theorem Zgx (s:Nat):BitVec.ofInt 64 (s:Int)=BitVec.ofNat 64 s:=BitVec.ofInt_natCast ..
theorem bv_or {a b:Nat} (ha:a < 2 ^ 62) (hb:b < 2 ^ 62):(BitVec.ofInt 64 (a:Int) ||| BitVec.ofInt 64 (b:Int)).toNat = a ||| b:=by
 rw [Zgx,Zgx,BitVec.toNat_or,BitVec.toNat_ofNat,BitVec.toNat_ofNat,Nat.mod_eq_of_lt (by omega),Nat.mod_eq_of_lt (by omega)]
theorem bv_and1 {a:Nat} (ha:a < 2 ^ 62):(BitVec.ofInt 64 (a:Int) &&& BitVec.ofInt 64 1).toNat = a % 2:=by
 rw [Zgx,BitVec.toNat_and,BitVec.toNat_ofNat,Nat.mod_eq_of_lt (by omega)]
 exact Nat.and_one_is_mod a
theorem bv_andnot {a b:Nat} (ha:a < 2 ^ 62) (hb:b < 2 ^ 62):(BitVec.ofInt 64 (a:Int) &&& ~~~BitVec.ofInt 64 (b:Int)).toNat = 0 ↔ ∀ i,a.testBit i = true -> b.testBit i = true:=by
 rw [Zgx,Zgx,BitVec.toNat_and,BitVec.toNat_not,BitVec.toNat_ofNat,BitVec.toNat_ofNat,Nat.mod_eq_of_lt (show a < 2 ^ 64 by omega),Nat.mod_eq_of_lt (show b < 2 ^ 64 by omega)]
 have key:∀ i,(a &&& (2 ^ 64 - 1 - b)).testBit i = (a.testBit i && !b.testBit i):=fun i => by
  rw [Nat.testBit_and,show 2 ^ 64 - 1 - b = 2 ^ 64 - (b + 1) by omega,Nat.testBit_two_pow_sub_succ (show b < 2 ^ 64 by omega)]
  by_cases hi:i < 64
  ·rw [decide_eq_true hi,Bool.true_and]
  ·have:a.testBit i = false:=Nat.testBit_lt_two_pow (Nat.lt_of_lt_of_le ha (Nat.pow_le_pow_right (by omega) (by omega)))
   rw [this];simp
 constructor
 ·intro h i hi
  have:=key i
  rw [h,hi] at this
  cases hb:b.testBit i with
  | true => rfl
  | false => rw [hb] at this;simp at this
 ·intro h
  apply Nat.eq_of_testBit_eq
  intro i
  rw [key,Nat.zero_testBit]
  cases ha:a.testBit i with
  | false => rfl
  | true => rw [h i ha];rfl
theorem bv_le {a b:Nat} (ha:a < 2 ^ 62):(BitVec.ofInt 64 (a:Int) &&& ~~~BitVec.ofInt 64 (b:Int)).toNat <= a:=by
 rw [Zgx,BitVec.toNat_and,BitVec.toNat_ofNat,Nat.mod_eq_of_lt (show a < 2 ^ 64 by omega)]
 exact Nat.and_le_left
theorem fdiv_shr (s k:Nat):((s:Int)).fdiv (2 ^ k) = ((s / 2 ^ k:Nat):Int):=by
 have:((2:Int) ^ k) = ((2 ^ k:Nat):Int):=by simp
 rw [this,Int.ofNat_fdiv]
theorem shr_bit (s k:Nat):(s / 2 ^ k) % 2 = if s.testBit k = true then 1 else 0:=by
 rw [Nat.testBit_eq_decide_div_mod_eq]
 have:=Nat.mod_lt (s / 2 ^ k) (show 2 > 0 by omega)
 by_cases h:s / 2 ^ k % 2 = 1
 ·rw [if_pos (by simp [h]),h]
 ·rw [if_neg (by simpa using h)];omega
theorem Zea {k n:Nat} (h:k < n) (hn:n <= 16):2 ^ k <= 65536:=by
 have:=Nat.pow_le_pow_right (show 2 > 0 by omega) (show k <= 16 by omega)
 omega
namespace Sp
def nds (ps:List Pr) (k:Int):Nat:=ps.foldl (fun s p=>if p.b=k then s ||| 2 ^ p.a.toNat else s) 0
def ndL (n:Nat) (ps:List Pr):List Int:=(List.range n).map fun (k:Nat)=>((nds ps k:Nat):Int)
end Sp
theorem nds_fold {k:Int} {i:Nat}:∀ (ps:List Pr) (s:Nat),(ps.foldl (fun s p => if p.b = k then s ||| 2 ^ p.a.toNat else s) s).testBit i = true ↔ s.testBit i = true \/ ∃ p ∈ ps,p.b = k /\ p.a.toNat = i
 | [],s => by simp
 | p :: ps,s => by
  rw [List.foldl_cons,nds_fold ps]
  by_cases h:p.b = k
  ·rw [if_pos h,tb_or,Bool.or_eq_true,decide_eq_true_eq]
   constructor
   ·rintro ((h1 | h1) | ⟨q,h1,h2⟩)
    ·exact .inl h1
    ·exact .inr ⟨p,List.mem_cons_self ..,h,h1⟩
    ·exact .inr ⟨q,List.mem_cons_of_mem _ h1,h2⟩
   ·rintro (h1 | ⟨q,h1,h2,h3⟩)
    ·exact .inl (.inl h1)
    ·rcases List.mem_cons.1 h1 with rfl | h1
     ·exact .inl (.inr h3)
     ·exact .inr ⟨q,h1,h2,h3⟩
  ·rw [if_neg h]
   constructor
   ·rintro (h1 | ⟨q,h1,h2⟩)
    ·exact .inl h1
    ·exact .inr ⟨q,List.mem_cons_of_mem _ h1,h2⟩
   ·rintro (h1 | ⟨q,h1,h2,h3⟩)
    ·exact .inl h1
    ·rcases List.mem_cons.1 h1 with rfl | h1
     ·exact absurd h2 h
     ·exact .inr ⟨q,h1,h2,h3⟩
theorem nds_bit {ps:List Pr} {k:Int} {i:Nat}:(Sp.nds ps k).testBit i = true ↔ ∃ p ∈ ps,p.b = k /\ p.a.toNat = i:=by
 unfold Sp.nds
 rw [nds_fold];simp
theorem nds_lt {n:Nat} {ps:List Pr} (hv:Sp.okV n ps) (k:Int):Sp.nds ps k < 2 ^ n:=by
 refine Nat.lt_pow_two_of_testBit _ fun i hi => ?_
 rw [Bool.eq_false_iff]
 intro h
 obtain ⟨p,h1,_,h2⟩:=nds_bit.1 h
 have:=hv p h1
 omega
theorem opM_bits {ps:List Pr} {s k:Nat}:Sp.opM ps s k = true ↔ s.testBit k = false /\ ∀ i,(Sp.nds ps k).testBit i = true -> s.testBit i = true:=by
 unfold Sp.opM
 rw [Bool.and_eq_true,Bool.not_eq_true',List.all_eq_true]
 refine and_congr_right fun _ => ?_
 constructor
 ·intro h i hi
  obtain ⟨p,hp,h1,h2⟩:=nds_bit.1 hi
  have:=h p hp
  rw [h1] at this
  simpa [h2] using this
 ·intro h p hp
  by_cases e:p.b = (k:Int)
  ·rw [Bool.or_eq_true]
   exact .inr (h _ (nds_bit.2 ⟨p,hp,e,rfl⟩))
  ·rw [show (p.b == (k:Int)) = false by simpa using e];rfl
end Go.Av

namespace Go.Av
open Go.Proofs
set_option maxRecDepth 100000
end Go.Av

namespace Go.Av
open Go.RowKit
theorem Ze4 {M:Mach} {n:Nat} {ops:Array Oper} {ans:Nat -> Option Ans} {hot:Nat -> Nat} {call:Zao} {Q:Exit -> Act -> World -> Prop} {rest:List Nat}:∀ (l:List Nat) {s sf:RS} {S:St} {a:Act},Zaj M.P M.inl call n ops ans hot l s = some sf ->
  (∀ b ∈ sf.asm,b = true) -> (∀ q ∈ sf.eqs,q) -> (∀ c ∈ sf.calls,c.cond = true -> ZbD M c) ->
  HeapOk S -> S.L = s.L -> TRel S s.env a.tmps -> n <= a.tmps.size ->
  (∀ S' a',HeapOk S' -> Ext S S' -> S'.L = sf.L -> TRel S' sf.env a'.tmps -> a'.tmps.size = a.tmps.size -> a'.defers = a.defers -> wpOps (M.P ()) ops Q rest a' S'.w) ->
  wpOps (M.P ()) ops Q (l ++ rest) a S.w
 | [],s,sf,S,a,h,_,_,_,hS,hL,hT,_,hK => by
  simp only [Zaj,Option.some.injEq] at h;subst h
  exact hK S a hS (Ext.refl S) hL hT rfl rfl
 | i :: l,s,sf,S,a,h,hA,hQ,hC,hS,hL,hT,hn,hK => by
  rw [List.cons_append,wpOps_cons]
  simp only [Zaj] at h
  cases ho:ops[i]? with
  | none =>
   rw [ho] at h
   unfold wpOp
   simp only [ho]
   exact Ze4 l h hA hQ hC hS hL hT hn hK
  | some o =>
   rw [ho] at h
   simp only at h
   cases h1:Za6 M.P M.inl call n ops (ans i) (hot i) o s with
   | none => rw [h1] at h;simp at h
   | some s1 =>
    rw [h1] at h
    simp only at h
    obtain ⟨env,L,x,y,z,rfl,_⟩:=ZaP _ h
    refine Zcd hS hL hT hn ho h1 (fun b hb => hA b (by simp [hb])) (fun b hb => hQ b (by simp [hb])) (fun b hb => hC b (by simp [hb])) fun S' a' k1 k2 k3 k4 k5 k6 => ?_
    exact Ze4 l h hA hQ hC k1 k3 k4 (by rw [k5];exact hn) fun S'' a'' m1 m2 m3 m4 m5 m6 => hK S'' a'' m1 (k2.trans m2) m3 m4 (m5.trans k5) (m6.trans k6)
def ZeF (ops:Array Oper) (i:Nat) (env:Vars):Option (Nat × FuncId × List AV):=
 match ops[i]? with
 | some o => match o.guard,o.dst,o.op with
  | none,some d,.call c => match c.callee with
   | .value f => match evV env f with
    | .func (.func g) first captured => some (d,g,first ++ c.args.toList.map (evV env) ++ captured)
    | _ => none
   | _ => none
  | _,_,_ => none
 | none => none
theorem call_then {M:Mach} {ops:Array Oper} {i d:Nat} {g:FuncId} {args:List AV} {env:Vars} {S:St} {a:Act} {Q:Exit -> Act -> World -> Prop} {rest:List Nat} {Qc:AV -> Heap -> Prop} (hc:ZeF ops i env = some (d,g,args)) (hS:HeapOk S) (hV:VRel S env a.tmps) (hd:d < a.tmps.size)
  (hO:OwnQ M g args S.L Qc) (hK:∀ v L2 β' w' a',Qc v L2 -> HeapOk ⟨S.base,S.acc,L2,β',w'⟩ -> Ext S ⟨S.base,S.acc,L2,β',w'⟩ -> VRel ⟨S.base,S.acc,L2,β',w'⟩ ((d,v) :: env) a'.tmps -> a'.tmps.size = a.tmps.size -> a'.defers = a.defers -> wpOps (M.P ()) ops Q rest a' w') :
  wpOps (M.P ()) ops Q (i :: rest) a S.w:=by
 unfold ZeF at hc
 split at hc
 ·rename_i o ho
  split at hc
  ·rename_i d' c hg hdst hop
   split at hc
   ·rename_i f hcal
    split at hc
    ·rename_i g' first captured hf
     simp only [Option.some.injEq,Prod.mk.injEq] at hc
     obtain ⟨rfl,rfl,rfl⟩:=hc
     have hr:=ZeO (a:=a) hV f
     rw [hf] at hr
     obtain ⟨va,vb,e1,l1,l2,r1,r2⟩:=ZbU hr
     have hrel:RelL S (first ++ c.args.toList.map (evV env) ++ captured) (va ++ c.args.toList.map a.eval ++ vb):=
      RelL.append (RelL.append ⟨l1,r1⟩ (RelL.map fun x => ZeO (a:=a) hV x)) ⟨l2,r2⟩
     obtain ⟨m1,m2⟩:=hO S _ hS rfl hrel
     have hrun:(execOp a.eval o).run (M.P ()) S.w = (callFunc g' ⟨va ++ c.args.toList.map a.eval ++ vb⟩).run (M.P ()) S.w:=by
      have e2:(⟨va⟩:Array Value) ++ c.args.map a.eval ++ ⟨vb⟩ = ⟨va ++ c.args.toList.map a.eval ++ vb⟩:=by
       apply Array.ext';simp
      simp only [execOp,hop,resolve,hcal,e1,Deferred.ofValue,Sem.run_bind,Sem.run_pure,Result.andThen_ok,invoke,e2]
     rw [wpOps_cons]
     unfold wpOp
     have hw:Region.wanted o (yielded ops a.tmps) = true:=by simp [Region.wanted,hg]
     simp only [ho,hw,if_true]
     left
     unfold Oper.wp
     rw [hrun,m1,Oper.upon_enter]
     refine Calls.mono m2 fun e w' he => ?_
     cases e with
     | returned cv =>
      obtain ⟨v,L2,β',q1,q2,q3,q4⟩:=he
      refine hK v L2 β' w' _ q1 q2 q3 ?_ (ZbS _ _ _) (by rw [hdst];rfl)
      rw [hdst]
      exact ZeN (fun t => (hV t).mono q3) hd q4
     | panicked c => exact he.elim
     | outgrown => exact he.elim
    ·simp at hc
   ·simp at hc
  ·simp at hc
 ·simp at hc
theorem Zgf {M:Mach} {n:Nat} {ops:Array Oper} {ans:Nat -> Option Ans} {l keep:List Nat} {env env':Vars} {L L':Heap} {asm:List Bool} {eqs:List Prop} (h:runV M n ops ans l keep env L = some (env',L',asm,eqs)) :
  ∃ s,Zaj M.P M.inl (fun _ _ _ => none) n ops ans (fun _ => 2) l ⟨lift env,L,[],[],[]⟩ = some s /\ s.calls = [] /\ Zbc keep s.env = env' /\ s.L = L' /\ s.asm = asm /\ s.eqs = eqs:=by
 unfold runV at h
 split at h
 ·rename_i s hs
  split at h
  ·rename_i hc
   simp only [Option.some.injEq,Prod.mk.injEq] at h
   obtain ⟨rfl,rfl,rfl,rfl⟩:=h
   exact ⟨s,hs,hc,rfl,rfl,rfl,rfl⟩
  ·simp at h
 ·simp at h
theorem Zcv {M:Mach} (hm:(M.P ()).follows .mixedOrders = true) {fi:Fi} {id:Nat} {ops:Array Oper} {k:List Item} {env env1:Vars} {L L1:Heap} {Q Qc:AV -> Heap -> Prop} {ans:Nat -> Option Ans} {asm:List Bool} {eqs:List Prop} {d:Nat} {g:FuncId} {args:List AV} (l1 l2 keep1 keep2:List Nat) (i:Nat)
  (hl:List.range ops.size = l1 ++ i :: l2) (h1:runV M fi.n ops ans l1 keep1 env L = some (env1,L1,asm,eqs)) (hA:allB asm) (hQ:allP eqs) (hc:ZeF ops i env1 = some (d,g,args)) (hd:d < fi.n) (hO:Wp M (.own g args L1) Qc)
  (hk:∀ v L2,Qc v L2 -> ∃ env3 L3 asm eqs,runV M fi.n ops (fun _ => none) l2 keep2 ((d,v) :: env1) L2 = some (env3,L3,asm,eqs) /\ allB asm /\ allP eqs /\ Wp M (.run fi k env3 L3) Q):Wp M (.run fi (.code (.region id ops false) :: k) env L) Q:=by
 refine .sem (ZaK.after fun S a h5 h6 h7 h8 => ZdM ?_)
 obtain ⟨s,e1,e2,rfl,rfl,rfl,rfl⟩:=Zgf h1
 rw [hl]
 refine Ze4 l1 e1 ((Zbu _).1 hA) ((ZeZ _).1 hQ) (by rw [e2];simp) h5 h6 (ZbX h7) h8 fun S' a' k1 k2 k3 k4 k5 k6 => ?_
 refine call_then (M:=M) hc k1 (Za2 k4 keep1) (by rw [k5];exact Nat.lt_of_lt_of_le hd h8) (Qc:=Qc) (by rw [k3];exact Zbo hm (c:=.own g args s.L) hO) fun v L2 β' w' a2 m1 m2 m3 m4 m5 m6 => ?_
 obtain ⟨env3,L3,asm3,eqs3,q1,q2,q3,q4⟩:=hk v L2 m1
 obtain ⟨s3,f1,f2,rfl,rfl,rfl,rfl⟩:=Zgf q1
 have:=Zbw (M:=M) (Q:=onlyN fun a' w' => ∃ (S':St) (env':Vars),S'.w = w' /\ HeapOk S' /\ Ext S S' /\ ZaK M fi k env' S'.L Q /\ VRel S' env' a'.tmps /\ a'.tmps.size = a.tmps.size /\ a'.defers = a.defers) l2 f1 ((Zbu _).1 q2) ((ZeZ _).1 q3) (by rw [f2];simp) m2 rfl (ZbX m4) (by rw [m5,k5];exact h8)
  (fun S4 a4 n1 n2 n3 n4 n5 n6 => ⟨S4,_,rfl,n1,(k2.trans m3).trans n2,by rw [n3];exact Zbo hm (c:=.run fi k _ s3.L) q4,Za2 n4 keep2,by rw [n5,m5,k5],by rw [n6,m6,k6]⟩)
 exact this
end Go.Av

namespace Go.Av
open Go.Proofs
set_option maxRecDepth 100000
def fi42:Fi:=⟨24,[.tmp 6]⟩
def kp42:List (Nat × List Nat):=[(0,[0,1,2]),(1,[6])]
def fi43:Fi:=⟨39,[.tmp 8]⟩
def kp43:List (Nat × List Nat):=[(0,[0,1,2,3]),(1,[0,2,3,9]),(2,[9,35]),(3,[9]),(4,[8])]
def fi52:Fi:=⟨67,[.tmp 6]⟩
def kp52:List (Nat × List Nat):=[(0,[0,1,2]),(1,[0,1,2,15]),(2,[6]),(3,[0,1,2,7]),(4,[0,1,2,7,27]),(5,[6]),(6,[0,1,2,8]),(7,[0,1,2,8,39,40]),(8,[0,1,2,8,39,40,41]),(9,[0,1,2,8,9,39,40]),(10,[0,1,2,8,9,39,40,46]),(11,[0,1,2,8,39,40]),(12,[0,1,2,8,39,40]),(13,[8]),(14,[6])]
def sOp_at (f:Bool) (tl nd:List Int) (w:Int) (C:List AV) (R:Heap) (s k:Int) (Q:AV->Heap->Prop):Prop:=Wp M1 (.run fi42 (atC (cd Try.f42) []) [(0,.ptr 0 0 0 0),(1,.int .i64 s),(2,.int .i64 k)] (⟨[.agg [.row 1 0,.vec f 1 (tl.map (.int .i64)),.int .i64 w,.row 2 0]],4,0,false,false⟩::⟨nd.map (.int .i64),1,0,false,true⟩::⟨C,1,0,false,false⟩::R)) Q
def sS0_at (f:Bool) (tl nd:List Int) (w:Int) (C:List AV) (R:Heap) (s t k:Int) (Q:AV->Heap->Prop):Prop:=Wp M1 (.run fi43 (atC (cd Try.f43) []) [(0,.ptr 0 0 0 0),(1,.int .i64 s),(2,.int .i64 t),(3,.int .i64 k)] (⟨[.agg [.row 1 0,.vec f 1 (tl.map (.int .i64)),.int .i64 w,.row 2 0]],4,0,false,false⟩::⟨nd.map (.int .i64),1,0,false,true⟩::⟨C,1,0,false,false⟩::R)) Q
def sS1_at (f:Bool) (tl nd:List Int) (w:Int) (C:List AV) (R:Heap) (t k o:Int) (Q:AV->Heap->Prop):Prop:=Wp M1 (.run fi43 (atC (cd Try.f43) [1,1]) [(0,.ptr 0 0 0 0),(2,.int .i64 t),(3,.int .i64 k),(9,.int .i64 o)] (⟨[.agg [.row 1 0,.vec f 1 (tl.map (.int .i64)),.int .i64 w,.row 2 0]],4,0,false,false⟩::⟨nd.map (.int .i64),1,0,false,true⟩::⟨C,1,0,false,false⟩::R)) Q
def sR0_at (f:Bool) (tl nd:List Int) (w:Int) (C:List AV) (R:Heap) (s t:Int) (Q:AV->Heap->Prop):Prop:=Wp M1 (.run fi52 (atC (cd Try.f52) []) [(0,.ptr 0 0 0 0),(1,.int .i64 s),(2,.int .i64 t)] (⟨[.agg [.row 1 0,.vec f 1 (tl.map (.int .i64)),.int .i64 w,.row 2 0]],4,0,false,false⟩::⟨nd.map (.int .i64),1,0,false,true⟩::⟨C,1,0,false,false⟩::R)) Q
def sR3_at (f:Bool) (tl nd:List Int) (w:Int) (C:List AV) (R:Heap) (s t:Int) (r:List Int) (Q:AV->Heap->Prop):Prop:=Wp M1 (.run fi52 (atC (cd Try.f52) [1,1,0,0]) [(0,.ptr 0 0 0 0),(1,.int .i64 s),(2,.int .i64 t)] (⟨[.agg [.row 1 0,.vec f 1 (tl.map (.int .i64)),.int .i64 w,.row 2 0]],4,0,false,false⟩::⟨nd.map (.int .i64),1,0,false,true⟩::⟨C,1,0,false,false⟩::⟨r.map (.int .i64),1,0,false,true⟩::R)) Q
def Zge (f:Bool) (tl nd:List Int) (w:Int) (C:List AV) (R:Heap) (s t b m i:Int) (Q:AV->Heap->Prop):Prop:=Wp M1 (.run fi52 (atC (cd Try.f52) [1,1,1,1,0,1,0,0]) [(0,.ptr 0 0 0 0),(1,.int .i64 s),(2,.int .i64 t),(8,.int .i64 b),(39,.int .i64 m),(40,.int .i64 i)] (⟨[.agg [.row 1 0,.vec f 1 (tl.map (.int .i64)),.int .i64 w,.row 2 0]],4,0,false,false⟩::⟨nd.map (.int .i64),1,0,false,true⟩::⟨C,1,0,false,false⟩::R)) Q
def sRC_at (f:Bool) (tl nd:List Int) (w:Int) (C:List AV) (R:Heap) (s t b m i k:Int) (o:Bool) (Q:AV->Heap->Prop):Prop:=Wp M1 (.run fi52 (atC (cd Try.f52) [1,1,1,1,0,1,0,0,1,1,0,0,1,1]) [(0,.ptr 0 0 0 0),(1,.int .i64 s),(2,.int .i64 t),(8,.int .i64 b),(9,.int .i64 k),(39,.int .i64 m),(40,.int .i64 i),(46,.bool o)] (⟨[.agg [.row 1 0,.vec f 1 (tl.map (.int .i64)),.int .i64 w,.row 2 0]],4,0,false,false⟩::⟨nd.map (.int .i64),1,0,false,true⟩::⟨C,1,0,false,false⟩::R)) Q
def sRN_at (f:Bool) (tl nd:List Int) (w:Int) (C:List AV) (R:Heap) (s t b m i:Int) (Q:AV->Heap->Prop):Prop:=Wp M1 (.run fi52 (atC (cd Try.f52) [1,1,1,1,0,1,0,0,1,1,1]) [(0,.ptr 0 0 0 0),(1,.int .i64 s),(2,.int .i64 t),(8,.int .i64 b),(39,.int .i64 m),(40,.int .i64 i)] (⟨[.agg [.row 1 0,.vec f 1 (tl.map (.int .i64)),.int .i64 w,.row 2 0]],4,0,false,false⟩::⟨nd.map (.int .i64),1,0,false,true⟩::⟨C,1,0,false,false⟩::R)) Q
def sRE_at (f:Bool) (tl nd:List Int) (w:Int) (C:List AV) (R:Heap) (s t b:Int) (r:List Int) (Q:AV->Heap->Prop):Prop:=Wp M1 (.run fi52 (atC (cd Try.f52) [1,1,1,1,1,0]) [(0,.ptr 0 0 0 0),(1,.int .i64 s),(2,.int .i64 t),(8,.int .i64 b)] (⟨[.agg [.row 1 0,.vec f 1 (tl.map (.int .i64)),.int .i64 w,.row 2 0]],4,0,false,false⟩::⟨nd.map (.int .i64),1,0,false,true⟩::⟨C,1,0,false,false⟩::⟨r.map (.int .i64),1,0,false,true⟩::R)) Q
theorem owncall42 {args:List AV} {L:Heap} {Q:AV -> Heap -> Prop} (h:Wp M1 (.run fi42 [.code (cd Try.f42)] (Zbg 0 args) L) Q):Wp M1 (.own 42 args L) Q:=
 Zgl Try.f42 fi42 (by kernel_rfl) (by kernel_rfl) (by kernel_rfl) (by kernel_rfl) h
theorem owncall43 {args:List AV} {L:Heap} {Q:AV -> Heap -> Prop} (h:Wp M1 (.run fi43 [.code (cd Try.f43)] (Zbg 0 args) L) Q):Wp M1 (.own 43 args L) Q:=
 Zgl Try.f43 fi43 (by kernel_rfl) (by kernel_rfl) (by kernel_rfl) (by kernel_rfl) h
theorem owncall52 {args:List AV} {L:Heap} {Q:AV -> Heap -> Prop} (h:Wp M1 (.run fi52 [.code (cd Try.f52)] (Zbg 0 args) L) Q):Wp M1 (.own 52 args L) Q:=
 Zgl Try.f52 fi52 (by kernel_rfl) (by kernel_rfl) (by kernel_rfl) (by kernel_rfl) h
theorem sOp (f:Bool) (tl nd:List Int) (w:Int) (C:List AV) (R:Heap) (s k:Int)  (Q:AV -> Heap -> Prop) (H :
  (0 <= k) /\
  (-9223372036854775808 <= (↑(BitVec.ofInt IntKind.i64.bits (s.fdiv (2 ^ min k.toNat IntKind.i64.bits)) &&& BitVec.ofInt IntKind.i64.bits 1).toNat:Int) /\ (↑(BitVec.ofInt IntKind.i64.bits (s.fdiv (2 ^ min k.toNat IntKind.i64.bits)) &&& BitVec.ofInt IntKind.i64.bits 1).toNat:Int) <= 9223372036854775807) /\
  (((↑(BitVec.ofInt IntKind.i64.bits (s.fdiv (2 ^ min k.toNat IntKind.i64.bits)) &&& BitVec.ofInt IntKind.i64.bits 1).toNat:Int) = 0) -> (k.toNat < nd.length)) /\
  Q (vb (bif (↑(BitVec.ofInt IntKind.i64.bits (s.fdiv (2 ^ min k.toNat IntKind.i64.bits)) &&& BitVec.ofInt IntKind.i64.bits 1).toNat:Int) == 0 then IntKind.i64.wrap (↑(BitVec.ofInt IntKind.i64.bits (nd.getD k.toNat default) &&& ~~~BitVec.ofInt IntKind.i64.bits s).toNat:Int) == 0 else false)) ({ elems:=[ag [AV.row 1 0,AV.vec f 1 (List.map (vi) tl),vi w,AV.row 2 0]],es:=4,ver:=0,frozen:=false,clean:=false } :: { elems:=List.map (vi) nd,es:=1,ver:=0,frozen:=false,clean:=true } :: { elems:=C,es:=1,ver:=0,frozen:=false,clean:=false } :: R)) :
 sOp_at f tl nd w C R s k Q:=by
 unfold sOp_at
 obtain ⟨k2,k3,H⟩:=H
 have w4:wi (↑(BitVec.ofInt IntKind.i64.bits (s.fdiv (2 ^ min k.toNat IntKind.i64.bits)) &&& BitVec.ofInt IntKind.i64.bits 1).toNat:Int) = (↑(BitVec.ofInt IntKind.i64.bits (s.fdiv (2 ^ min k.toNat IntKind.i64.bits)) &&& BitVec.ofInt IntKind.i64.bits 1).toNat:Int):=wI64 k3
 have i5:(!((wi (↑(BitVec.ofInt IntKind.i64.bits (s.fdiv (2 ^ min k.toNat IntKind.i64.bits)) &&& BitVec.ofInt IntKind.i64.bits 1).toNat:Int) == 0) == true && true) || decide (0 <= k)) = true ↔ (((↑(BitVec.ofInt IntKind.i64.bits (s.fdiv (2 ^ min k.toNat IntKind.i64.bits)) &&& BitVec.ofInt IntKind.i64.bits 1).toNat:Int) = 0) -> (0 <= k)):=(by (try rw [w4]);all_goals exact (ZaE (i_at (i_bt i_eq)) Zaa))
 have w6:(List.map (vi) nd).length = nd.length:=List.length_map ..
 have i7:(!((wi (↑(BitVec.ofInt IntKind.i64.bits (s.fdiv (2 ^ min k.toNat IntKind.i64.bits)) &&& BitVec.ofInt IntKind.i64.bits 1).toNat:Int) == 0) == true && true) || decide (k.toNat < (List.map (vi) nd).length)) = true ↔ (((↑(BitVec.ofInt IntKind.i64.bits (s.fdiv (2 ^ min k.toNat IntKind.i64.bits)) &&& BitVec.ofInt IntKind.i64.bits 1).toNat:Int) = 0) -> (k.toNat < nd.length)):=(by (try rw [w4]);(try rw [w6]);all_goals exact (ZaE (i_at (i_bt i_eq)) Zaa))
 obtain ⟨k8,H⟩:=H
 exact ZaG (G:=Zae kp42 [(1,12,.elem (vi (nd.getD k.toNat default)))] []) 1000 [] (k:=((atC (cd Try.f42) [1,1])).tail) (env':=[(6,vb (bif wi (↑(BitVec.ofInt IntKind.i64.bits (s.fdiv (2 ^ min k.toNat IntKind.i64.bits)) &&& BitVec.ofInt IntKind.i64.bits 1).toNat:Int) == 0 then wi (↑(BitVec.ofInt IntKind.i64.bits (nd.getD k.toNat default) &&& ~~~BitVec.ofInt IntKind.i64.bits s).toNat:Int) == 0 else false))]) (L':=⟨[ag [AV.row 1 0,AV.vec f 1 (List.map (vi) tl),vi w,AV.row 2 0]],4,0,false,false⟩ :: ⟨List.map (vi) nd,1,0,false,true⟩ :: ⟨C,1,0,false,false⟩ :: R) (asm:=[decide (0 <= k),!((wi (↑(BitVec.ofInt IntKind.i64.bits (s.fdiv (2 ^ min k.toNat IntKind.i64.bits)) &&& BitVec.ofInt IntKind.i64.bits 1).toNat:Int) == 0) == true && true) || true,!((wi (↑(BitVec.ofInt IntKind.i64.bits (s.fdiv (2 ^ min k.toNat IntKind.i64.bits)) &&& BitVec.ofInt IntKind.i64.bits 1).toNat:Int) == 0) == true && true) || true,!((wi (↑(BitVec.ofInt IntKind.i64.bits (s.fdiv (2 ^ min k.toNat IntKind.i64.bits)) &&& BitVec.ofInt IntKind.i64.bits 1).toNat:Int) == 0) == true && true) || decide (0 <= k),!((wi (↑(BitVec.ofInt IntKind.i64.bits (s.fdiv (2 ^ min k.toNat IntKind.i64.bits)) &&& BitVec.ofInt IntKind.i64.bits 1).toNat:Int) == 0) == true && true) || decide (k.toNat < (List.map (vi) nd).length),!((wi (↑(BitVec.ofInt IntKind.i64.bits (s.fdiv (2 ^ min k.toNat IntKind.i64.bits)) &&& BitVec.ofInt IntKind.i64.bits 1).toNat:Int) == 0) == true && true) || true]) (eqs:=[(((wi (↑(BitVec.ofInt IntKind.i64.bits (s.fdiv (2 ^ min k.toNat IntKind.i64.bits)) &&& BitVec.ofInt IntKind.i64.bits 1).toNat:Int) == 0) == true && true) = true -> (List.map (vi) nd).get?Internal k.toNat = some (vi (nd.getD k.toNat default)))]) (calls:=[]) (vb (bif wi (↑(BitVec.ofInt IntKind.i64.bits (s.fdiv (2 ^ min k.toNat IntKind.i64.bits)) &&& BitVec.ofInt IntKind.i64.bits 1).toNat:Int) == 0 then wi (↑(BitVec.ofInt IntKind.i64.bits (nd.getD k.toNat default) &&& ~~~BitVec.ofInt IntKind.i64.bits s).toNat:Int) == 0 else false)) (by kernel_rfl) (by kernel_rfl) (Zaf (Zaa.2 k2) (Zaf (Bool.or_true _) (Zaf (Bool.or_true _) (Zaf (i5.2 (fun _ => k2)) (Zaf (i7.2 k8) (Zaf (Bool.or_true _) Zak)))))) (Zd9 (by (try rw [w4]);all_goals exact (fun h => Zaq (k8 ((i_at (i_bt i_eq)).1 h)))) Zal) ZaJ (by (try rw [w4]);all_goals exact H)
theorem sS0 (f:Bool) (tl nd:List Int) (w:Int) (C:List AV) (R:Heap) (s t k:Int)  (Q:AV -> Heap -> Prop) (H :
  Wp M1 (.run fi43 (atC (cd Try.f43) [1,0]) [(0,AV.ptr 0 0 0 0),(1,vi s),(2,vi t),(3,vi k)] ({ elems:=[ag [AV.row 1 0,AV.vec f 1 (List.map (vi) tl),vi w,AV.row 2 0]],es:=4,ver:=0,frozen:=false,clean:=false } :: { elems:=List.map (vi) nd,es:=1,ver:=0,frozen:=false,clean:=true } :: { elems:=C,es:=1,ver:=0,frozen:=false,clean:=false } :: R)) Q) :
 sS0_at f tl nd w C R s t k Q:=by
 unfold sS0_at
 exact Zab (G:=Zae kp43 [] []) 3 [] ⟨(atC (cd Try.f43) [1,0]),[(0,AV.ptr 0 0 0 0),(1,vi s),(2,vi t),(3,vi k)],⟨[ag [AV.row 1 0,AV.vec f 1 (List.map (vi) tl),vi w,AV.row 2 0]],4,0,false,false⟩ :: ⟨List.map (vi) nd,1,0,false,true⟩ :: ⟨C,1,0,false,false⟩ :: R,_,[],_⟩ (by kernel_rfl) b0 q0 c0 (H)
noncomputable abbrev zPyA1 (f:Bool) (tl:List Int) (w:Int):=ag [AV.row 1 0,AV.vec f 1 (List.map vi tl),vi w,AV.row 2 0]
noncomputable abbrev zPyA2 (t:Int) (tl:List Int) (k:Int):=bif decide (t>=0) then tl.getD t.toNat default != tl.getD k.toNat default else false
theorem sS1 (f:Bool) (tl nd:List Int) (w:Int) (C:List AV) (R:Heap) (t k o:Int)  (Q:AV -> Heap -> Prop) (H :
  ((t >= 0) -> (0 <= t)) /\
  ((t >= 0) -> (t.toNat < tl.length)) /\
  ((t >= 0) -> (0 <= k)) /\
  ((t >= 0) -> (k.toNat < tl.length)) /\
  (((t >= 0) /\ (¬tl.getD t.toNat default = tl.getD k.toNat default)) -> (-9223372036854775808 <= o + 1 /\ o + 1 <= 9223372036854775807) /\
   Q (vi (o + 1)) ({ elems:=[ag [AV.row 1 0,AV.vec f 1 (List.map (vi) tl),vi w,AV.row 2 0]],es:=4,ver:=0,frozen:=false,clean:=false } :: { elems:=List.map (vi) nd,es:=1,ver:=0,frozen:=false,clean:=true } :: { elems:=C,es:=1,ver:=0,frozen:=false,clean:=false } :: R)) /\
  (¬((t >= 0) /\ (¬tl.getD t.toNat default = tl.getD k.toNat default)) -> Q (vi o) ({ elems:=[ag [AV.row 1 0,AV.vec f 1 (List.map (vi) tl),vi w,AV.row 2 0]],es:=4,ver:=0,frozen:=false,clean:=false } :: { elems:=List.map (vi) nd,es:=1,ver:=0,frozen:=false,clean:=true } :: { elems:=C,es:=1,ver:=0,frozen:=false,clean:=false } :: R))) :
 sS1_at f tl nd w C R t k o Q:=by
 unfold sS1_at
 obtain ⟨k2,H⟩:=H
 have w3:(List.map (vi) tl).length = tl.length:=List.length_map ..
 have i4:(!(decide (t >= 0) == true && true) || decide (t.toNat < (List.map (vi) tl).length)) = true ↔ ((t >= 0) -> (t.toNat < tl.length)):=(by (try rw [w3]);all_goals exact (ZaE (i_at (i_bt Zaa)) Zaa))
 obtain ⟨k5,k7,H⟩:=H
 have i8:(!(decide (t >= 0) == true && true) || decide (k.toNat < (List.map (vi) tl).length)) = true ↔ ((t >= 0) -> (k.toNat < tl.length)):=(by (try rw [w3]);all_goals exact (ZaE (i_at (i_bt Zaa)) Zaa))
 obtain ⟨k9,H⟩:=H
 refine Zab (G:=Zae kp43 [(2,9,.elem (vi (tl.getD t.toNat default))),(2,16,.elem (vi (tl.getD k.toNat default)))] []) 3 [] ⟨(atC (cd Try.f43) [1,1,0,1]),[(9,vi o),(35,vb (zPyA2 t tl k))],⟨[(zPyA1 f tl w)],4,0,false,false⟩ :: ⟨List.map (vi) nd,1,0,false,true⟩ :: ⟨C,1,0,false,false⟩ :: R,[!(decide (t >= 0) == true && true) || true,!(decide (t >= 0) == true && true) || decide (0 <= t),!(decide (t >= 0) == true && true) || decide (t.toNat < (List.map (vi) tl).length),!(decide (t >= 0) == true && true) || true,!(decide (t >= 0) == true && true) || decide (0 <= k),!(decide (t >= 0) == true && true) || decide (k.toNat < (List.map (vi) tl).length)],[((decide (t >= 0) == true && true) = true -> (List.map (vi) tl).get?Internal t.toNat = some (vi (tl.getD t.toNat default))),((decide (t >= 0) == true && true) = true -> (List.map (vi) tl).get?Internal k.toNat = some (vi (tl.getD k.toNat default)))],_⟩ (by kernel_rfl) (bc (Bool.or_true _) (bc ((ZaE (i_at (i_bt Zaa)) Zaa).2 k2) (bc (i4.2 k5) (bc (Bool.or_true _) (bc ((ZaE (i_at (i_bt Zaa)) Zaa).2 k7) (bc (i8.2 k9) b0)))))) (qc (fun h => Zaq (k5 ((i_at (i_bt Zaa)).1 h))) (qc (fun h => Zaq (k9 ((i_at (i_bt Zaa)).1 h))) q0)) c0 ?_
 rcases xq H with ⟨d13,H⟩|⟨d13,H⟩
 ·obtain ⟨k14,H⟩:=H
  have w15:wi (o + 1) = o + 1:=wI64 k14
  exact ZaG (G:=Zae kp43 [] []) 1000 [true] (k:=((atC (cd Try.f43) [1,1,1,1])).tail) (env':=[(8,vi (wi (o + 1)))]) (L':=⟨[(zPyA1 f tl w)],4,0,false,false⟩ :: ⟨List.map (vi) nd,1,0,false,true⟩ :: ⟨C,1,0,false,false⟩ :: R) (asm:=[(zPyA2 t tl k) == true]) (eqs:=[]) (calls:=[]) (vi (wi (o + 1))) (by kernel_rfl) (by kernel_rfl) (Zaf (Zas ((Zgr Zaa i_ne).2 d13)) Zak) Zal ZaJ (by (try rw [w15]);all_goals exact H)
 ·exact ZaG (G:=Zae kp43 [] []) 1000 [false] (k:=((atC (cd Try.f43) [1,1,1,1])).tail) (env':=[(8,vi o)]) (L':=⟨[(zPyA1 f tl w)],4,0,false,false⟩ :: ⟨List.map (vi) nd,1,0,false,true⟩ :: ⟨C,1,0,false,false⟩ :: R) (asm:=[(zPyA2 t tl k) == false]) (eqs:=[]) (calls:=[]) (vi o) (by kernel_rfl) (by kernel_rfl) (Zaf (Zap (fun h => d13 ((Zgr Zaa i_ne).1 h))) Zak) Zal ZaJ H
theorem sR0 (f:Bool) (tl nd:List Int) (w:Int) (C:List AV) (R:Heap) (s t:Int)  (Q:AV -> Heap -> Prop) (H :
  ((s = w) -> Q (vi 0) ({ elems:=[ag [AV.row 1 0,AV.vec f 1 (List.map (vi) tl),vi w,AV.row 2 0]],es:=4,ver:=0,frozen:=false,clean:=false } :: { elems:=List.map (vi) nd,es:=1,ver:=0,frozen:=false,clean:=true } :: { elems:=C,es:=1,ver:=0,frozen:=false,clean:=false } :: R)) /\
  (¬(s = w) -> Wp M1 (.run fi52 (atC (cd Try.f52) [1,1,0,0]) [(0,AV.ptr 0 0 0 0),(1,vi s),(2,vi t)] ({ elems:=[ag [AV.row 1 0,AV.vec f 1 (List.map (vi) tl),vi w,AV.row 2 0]],es:=4,ver:=0,frozen:=false,clean:=false } :: { elems:=List.map (vi) nd,es:=1,ver:=0,frozen:=false,clean:=true } :: { elems:=C,es:=1,ver:=0,frozen:=false,clean:=false } :: R)) Q)) :
 sR0_at f tl nd w C R s t Q:=by
 unfold sR0_at
 rcases xq H with ⟨d2,H⟩|⟨d2,H⟩
 ·exact ZaG (G:=Zae kp52 [] []) 1000 [true] (k:=((atC (cd Try.f52) [1,0,1,0,1])).tail) (env':=[(6,vi 0)]) (L':=⟨[ag [AV.row 1 0,AV.vec f 1 (List.map (vi) tl),vi w,AV.row 2 0]],4,0,false,false⟩ :: ⟨List.map (vi) nd,1,0,false,true⟩ :: ⟨C,1,0,false,false⟩ :: R) (asm:=[true,(s == w) == true]) (eqs:=[]) (calls:=[]) (vi 0) (by kernel_rfl) (by kernel_rfl) (Zaf rfl (Zaf (Zas (i_eq.2 d2)) Zak)) Zal ZaJ H
 ·exact Zab (G:=Zae kp52 [] []) 9 [false] ⟨(atC (cd Try.f52) [1,1,0,0]),[(0,AV.ptr 0 0 0 0),(1,vi s),(2,vi t),(15,vb (s == w))],⟨[ag [AV.row 1 0,AV.vec f 1 (List.map (vi) tl),vi w,AV.row 2 0]],4,0,false,false⟩ :: ⟨List.map (vi) nd,1,0,false,true⟩ :: ⟨C,1,0,false,false⟩ :: R,_,[],_⟩ (by kernel_rfl) (bc rfl (bc (Zap (fun h => d2 (i_eq.1 h))) b0)) q0 c0 (Wp.less [0,1,2] (H))
noncomputable abbrev zPyA3 (f:Bool) (tl:List Int) (w:Int):=ag [AV.row 1 0,AV.vec f 1 (List.map vi tl),vi w,AV.row 2 0]
theorem sR3 (f:Bool) (tl nd:List Int) (w:Int) (C:List AV) (R:Heap) (s t:Int) (r:List Int)  (Q:AV -> Heap -> Prop) (H :
  (0 <= t) /\
  (t.toNat < C.length) /\
  (0 <= s) /\
  (s.toNat < r.length) /\
  (C.get?Internal t.toNat = some (AV.row 3 0)) /\
  ((r.getD s.toNat default > 0) -> (-9223372036854775808 <= r.getD s.toNat default - 1 /\ r.getD s.toNat default - 1 <= 9223372036854775807) /\
   Q (vi (r.getD s.toNat default - 1)) ({ elems:=[ag [AV.row 1 0,AV.vec f 1 (List.map (vi) tl),vi w,AV.row 2 0]],es:=4,ver:=0,frozen:=false,clean:=false } :: { elems:=List.map (vi) nd,es:=1,ver:=0,frozen:=false,clean:=true } :: { elems:=C,es:=1,ver:=0,frozen:=false,clean:=false } :: { elems:=List.map (vi) r,es:=1,ver:=0,frozen:=false,clean:=true } :: R)) /\
  (¬(r.getD s.toNat default > 0) -> Zge (f) (tl) (nd) (w) (C) ({ elems:=List.map (vi) r,es:=1,ver:=0,frozen:=false,clean:=true } :: R) (s) (t) ((↑tl.length:Int)) ((↑tl.length:Int)) (0) Q)) :
 sR3_at f tl nd w C R s t r Q:=by
 unfold sR3_at
 obtain ⟨k2,k4,k6,H⟩:=H
 have w7:(List.map (vi) r).length = r.length:=List.length_map ..
 have i8:(decide (s.toNat < (List.map (vi) r).length)) = true ↔ (s.toNat < r.length):=(by (try rw [w7]);all_goals exact Zaa)
 obtain ⟨k9,k10,H⟩:=H
 refine Zab (G:=Zae kp52 [(3,6,(.elem (.row 3 0):Ans)),(3,9,.elem (vi (r.getD s.toNat default)))] []) 3 [] ⟨(atC (cd Try.f52) [1,1,0,1,1]),[(0,AV.ptr 0 0 0 0),(1,vi s),(2,vi t),(7,vi (r.getD s.toNat default)),(27,vb (decide (r.getD s.toNat default > 0)))],⟨[(zPyA3 f tl w)],4,0,false,false⟩ :: ⟨List.map (vi) nd,1,0,false,true⟩ :: ⟨C,1,0,false,false⟩ :: ⟨List.map (vi) r,1,0,false,true⟩ :: R,_,[(C.get?Internal t.toNat = some (AV.row 3 0)),((List.map (vi) r).get?Internal s.toNat = some (vi (r.getD s.toNat default)))],_⟩ (by kernel_rfl) (bc rfl (bc rfl (bc (Zaa.2 k2) (bc (Zaa.2 k4) (bc rfl (bc rfl (bc (Zaa.2 k6) (bc (i8.2 k9) (bc rfl b0))))))))) (qc k10 (qc (Zaq k9) q0)) c0 ?_
 rcases xq H with ⟨d12,H⟩|⟨d12,H⟩
 ·obtain ⟨k13,H⟩:=H
  have w14:wi (r.getD s.toNat default - 1) = r.getD s.toNat default - 1:=wI64 k13
  exact ZaG (G:=Zae kp52 [] []) 1000 [true] (k:=((atC (cd Try.f52) [1,1,0,1,1,0,1])).tail) (env':=[(6,vi (wi (r.getD s.toNat default - 1)))]) (L':=⟨[(zPyA3 f tl w)],4,0,false,false⟩ :: ⟨List.map (vi) nd,1,0,false,true⟩ :: ⟨C,1,0,false,false⟩ :: ⟨List.map (vi) r,1,0,false,true⟩ :: R) (asm:=[(decide (r.getD s.toNat default > 0)) == true]) (eqs:=[]) (calls:=[]) (vi (wi (r.getD s.toNat default - 1))) (by kernel_rfl) (by kernel_rfl) (Zaf (Zas (Zaa.2 d12)) Zak) Zal ZaJ (by (try rw [w14]);all_goals exact H)
 ·have w15:(List.map (vi) tl).length = tl.length:=List.length_map ..
  exact Zab (G:=Zae kp52 [] []) 1000 [false] ⟨(atC (cd Try.f52) [1,1,1,1,0,1,0,0]),[(0,AV.ptr 0 0 0 0),(1,vi s),(2,vi t),(8,vi (↑(List.map (vi) tl).length:Int)),(39,vi (↑(List.map (vi) tl).length:Int)),(40,vi 0)],⟨[(zPyA3 f tl w)],4,0,false,false⟩ :: ⟨List.map (vi) nd,1,0,false,true⟩ :: ⟨C,1,0,false,false⟩ :: ⟨List.map (vi) r,1,0,false,true⟩ :: R,_,[],_⟩ (by kernel_rfl) (bc (Zap (fun h => d12 (Zaa.1 h))) (bc rfl (bc rfl b0))) q0 c0 (by (try rw [w15]);all_goals exact H)
theorem sRL (f:Bool) (tl nd:List Int) (w:Int) (C:List AV) (R:Heap) (s t b m i:Int)  (Q:AV -> Heap -> Prop) (H :
  ((i < m) -> Wp M1 (.run fi52 (atC (cd Try.f52) [1,1,1,1,0,1,0,0,1,1,0,0,1,0]) [(0,AV.ptr 0 0 0 0),(1,vi s),(2,vi t),(8,vi b),(9,vi i),(39,vi m),(40,vi i)] ({ elems:=[ag [AV.row 1 0,AV.vec f 1 (List.map (vi) tl),vi w,AV.row 2 0]],es:=4,ver:=0,frozen:=false,clean:=false } :: { elems:=List.map (vi) nd,es:=1,ver:=0,frozen:=false,clean:=true } :: { elems:=C,es:=1,ver:=0,frozen:=false,clean:=false } :: R)) Q) /\
  (¬(i < m) -> Wp M1 (.run fi52 (atC (cd Try.f52) [1,1,1,1,1,0]) [(0,AV.ptr 0 0 0 0),(1,vi s),(2,vi t),(8,vi b)] ({ elems:=[ag [AV.row 1 0,AV.vec f 1 (List.map (vi) tl),vi w,AV.row 2 0]],es:=4,ver:=0,frozen:=false,clean:=false } :: { elems:=List.map (vi) nd,es:=1,ver:=0,frozen:=false,clean:=true } :: { elems:=C,es:=1,ver:=0,frozen:=false,clean:=false } :: R)) Q)) :
 Zge f tl nd w C R s t b m i Q:=by
 unfold Zge
 rcases xq H with ⟨d2,H⟩|⟨d2,H⟩
 ·exact Zab (G:=Zae kp52 [] []) 10 [true] ⟨(atC (cd Try.f52) [1,1,1,1,0,1,0,0,1,1,0,0,1,0]),[(0,AV.ptr 0 0 0 0),(1,vi s),(2,vi t),(8,vi b),(9,vi i),(39,vi m),(40,vi i)],⟨[ag [AV.row 1 0,AV.vec f 1 (List.map (vi) tl),vi w,AV.row 2 0]],4,0,false,false⟩ :: ⟨List.map (vi) nd,1,0,false,true⟩ :: ⟨C,1,0,false,false⟩ :: R,_,[],_⟩ (by kernel_rfl) (bc (Zas (Zaa.2 d2)) b0) q0 c0 (H)
 ·exact Zab (G:=Zae kp52 [] []) 6 [false] ⟨(atC (cd Try.f52) [1,1,1,1,1,0]),[(0,AV.ptr 0 0 0 0),(1,vi s),(2,vi t),(8,vi b),(39,vi m),(40,vi i),(41,vb (decide (i < m)))],⟨[ag [AV.row 1 0,AV.vec f 1 (List.map (vi) tl),vi w,AV.row 2 0]],4,0,false,false⟩ :: ⟨List.map (vi) nd,1,0,false,true⟩ :: ⟨C,1,0,false,false⟩ :: R,_,[],_⟩ (by kernel_rfl) (bc (Zap (fun h => d2 (Zaa.1 h))) b0) q0 c0 (Wp.less [0,1,2,8] (H))
theorem sRC (f:Bool) (tl nd:List Int) (w:Int) (C:List AV) (R:Heap) (s t b m i k:Int) (o:Bool)  (Q:AV -> Heap -> Prop) (H :
  ((o = true) -> Wp M1 (.run fi52 (atC (cd Try.f52) [1,1,1,1,0,1,0,0,1,1,0,0,1,1,0]) [(0,AV.ptr 0 0 0 0),(1,vi s),(2,vi t),(8,vi b),(9,vi k),(39,vi m),(40,vi i),(46,vb o)] ({ elems:=[ag [AV.row 1 0,AV.vec f 1 (List.map (vi) tl),vi w,AV.row 2 0]],es:=4,ver:=0,frozen:=false,clean:=false } :: { elems:=List.map (vi) nd,es:=1,ver:=0,frozen:=false,clean:=true } :: { elems:=C,es:=1,ver:=0,frozen:=false,clean:=false } :: R)) Q) /\
  (¬(o = true) -> (-9223372036854775808 <= i + 1 /\ i + 1 <= 9223372036854775807) /\
   Zge (f) (tl) (nd) (w) (C) (R) (s) (t) (b) (m) (i + 1) Q)) :
 sRC_at f tl nd w C R s t b m i k o Q:=by
 unfold sRC_at
 rcases xq H with ⟨d2,H⟩|⟨d2,H⟩
 ·exact Zab (G:=Zae kp52 [] []) 1 [true] ⟨(atC (cd Try.f52) [1,1,1,1,0,1,0,0,1,1,0,0,1,1,0]),[(0,AV.ptr 0 0 0 0),(1,vi s),(2,vi t),(8,vi b),(9,vi k),(39,vi m),(40,vi i),(46,vb o)],⟨[ag [AV.row 1 0,AV.vec f 1 (List.map (vi) tl),vi w,AV.row 2 0]],4,0,false,false⟩ :: ⟨List.map (vi) nd,1,0,false,true⟩ :: ⟨C,1,0,false,false⟩ :: R,[(o) == true],[],_⟩ (by kernel_rfl) (bc (Zas ((Zar _).2 d2)) b0) q0 c0 (H)
 ·obtain ⟨k3,H⟩:=H
  have w4:wi (i + 1) = i + 1:=wI64 k3
  exact Zab (G:=Zae kp52 [] []) 1000 [false] ⟨(atC (cd Try.f52) [1,1,1,1,0,1,0,0]),[(0,AV.ptr 0 0 0 0),(1,vi s),(2,vi t),(8,vi b),(39,vi m),(40,vi (wi (i + 1)))],⟨[ag [AV.row 1 0,AV.vec f 1 (List.map (vi) tl),vi w,AV.row 2 0]],4,0,false,false⟩ :: ⟨List.map (vi) nd,1,0,false,true⟩ :: ⟨C,1,0,false,false⟩ :: R,[(o) == false],[],_⟩ (by kernel_rfl) (bc (Zap (fun h => d2 ((Zar _).1 h))) b0) q0 c0 (by (try rw [w4]);all_goals exact H)
theorem sRN (f:Bool) (tl nd:List Int) (w:Int) (C:List AV) (R:Heap) (s t b m i:Int)  (Q:AV -> Heap -> Prop) (H :
  (-9223372036854775808 <= i + 1 /\ i + 1 <= 9223372036854775807) /\
  Zge (f) (tl) (nd) (w) (C) (R) (s) (t) (b) (m) (i + 1) Q) :
 sRN_at f tl nd w C R s t b m i Q:=by
 unfold sRN_at
 obtain ⟨k1,H⟩:=H
 have w2:wi (i + 1) = i + 1:=wI64 k1
 exact Zab (G:=Zae kp52 [] []) 1000 [] ⟨(atC (cd Try.f52) [1,1,1,1,0,1,0,0]),[(0,AV.ptr 0 0 0 0),(1,vi s),(2,vi t),(8,vi b),(39,vi m),(40,vi (wi (i + 1)))],⟨[ag [AV.row 1 0,AV.vec f 1 (List.map (vi) tl),vi w,AV.row 2 0]],4,0,false,false⟩ :: ⟨List.map (vi) nd,1,0,false,true⟩ :: ⟨C,1,0,false,false⟩ :: R,_,[],_⟩ (by kernel_rfl) b0 q0 c0 (by (try rw [w2]);all_goals exact H)
theorem sRE (f:Bool) (tl nd:List Int) (w:Int) (C:List AV) (R:Heap) (s t b:Int) (r:List Int)  (Q:AV -> Heap -> Prop) (H :
  (0 <= t) /\
  (t.toNat < C.length) /\
  (0 <= s) /\
  (s.toNat < r.length) /\
  (C.get?Internal t.toNat = some (AV.row 3 0)) /\
  (-9223372036854775808 <= b + 1 /\ b + 1 <= 9223372036854775807) /\
  Q (vi b) ({ elems:=[ag [AV.row 1 0,AV.vec f 1 (List.map (vi) tl),vi w,AV.row 2 0]],es:=4,ver:=0,frozen:=false,clean:=false } :: { elems:=List.map (vi) nd,es:=1,ver:=0,frozen:=false,clean:=true } :: { elems:=C,es:=1,ver:=0,frozen:=false,clean:=false } :: { elems:=List.map (vi) (r.set s.toNat (b + 1)),es:=1,ver:=0,frozen:=false,clean:=true } :: R)) :
 sRE_at f tl nd w C R s t b r Q:=by
 unfold sRE_at
 obtain ⟨k2,k4,k6,H⟩:=H
 have w7:(List.map (vi) r).length = r.length:=List.length_map ..
 have i8:(decide (s.toNat < (List.map (vi) r).length)) = true ↔ (s.toNat < r.length):=(by (try rw [w7]);all_goals exact Zaa)
 obtain ⟨k9,k10,k11,H⟩:=H
 have w12:wi (b + 1) = b + 1:=wI64 k11
 have w13:(List.map (vi) r).set s.toNat (vi (b + 1)) = List.map (vi) (r.set s.toNat (b + 1)):=(Zdk rfl rfl)
 exact ZaG (G:=Zae kp52 [(13,6,(.elem (.row 3 0):Ans)),(13,11,.elem (vi (r.getD s.toNat default)))] []) 1000 [] (k:=((atC (cd Try.f52) [1,1,1,1,1,1,1])).tail) (env':=[(6,vi b)]) (L':=⟨[ag [AV.row 1 0,AV.vec f 1 (List.map (vi) tl),vi w,AV.row 2 0]],4,0,false,false⟩ :: ⟨List.map (vi) nd,1,0,false,true⟩ :: ⟨C,1,0,false,false⟩ :: ⟨(List.map (vi) r).set s.toNat (vi (wi (b + 1))),1,0,false,true⟩ :: R) (asm:=[true,true,decide (0 <= t),decide (t.toNat < C.length),true,true,decide (0 <= s),decide (s.toNat < (List.map (vi) r).length),true]) (eqs:=[(C.get?Internal t.toNat = some (AV.row 3 0)),((List.map (vi) r).get?Internal s.toNat = some (vi (r.getD s.toNat default)))]) (calls:=[]) (vi b) (by kernel_rfl) (by kernel_rfl) (Zaf rfl (Zaf rfl (Zaf (Zaa.2 k2) (Zaf (Zaa.2 k4) (Zaf rfl (Zaf rfl (Zaf (Zaa.2 k6) (Zaf (i8.2 k9) (Zaf rfl Zak))))))))) (Zd9 k10 (Zd9 (Zaq k9) Zal)) ZaJ (by (try rw [w12]);(try rw [w13]);all_goals exact H)
end Go.Av

namespace Go.Av
open Go.Proofs
def Zdn (L:Heap):List Nat:=match L[2]? with
 | some row => Zag row
 | none => []
def BW (W:Heap->Prop) (L L1:Heap):Prop:=L1.length=L.length/\(∀ r,r ∉ Zdn L->L1[r]? = L[r]?)/\W L1
abbrev MX3 (L:Heap) (C:List AV) (M:List (Option Row)) (ρ:Nat->Nat):Prop:=Mx 3 [2] L (fun _=>C) (fun _=>0) (fun _=>M) (fun _=>ρ)
theorem Zdp {L:Heap} {C:Nat -> List AV} {M:Nat -> List (Option Row)} {ρ:Nat -> Nat -> Nat} (h:Mx 3 [2] L C (fun _ => 0) M ρ):MX3 L (C 2) (M 2) (ρ 2):=
 h.congr fun u hu => by
  rw [List.mem_singleton] at hu;subst hu
  exact ⟨rfl,rfl,rfl,fun _ => rfl⟩
theorem refs2_ge {L:Heap} {C:List AV} {M:List (Option Row)} {ρ:Nat -> Nat} (h:MX3 L C M ρ):∀ r ∈ Zdn L,3 <= r:=fun r hr => by
 obtain ⟨o1,o2⟩:=h.out 2 (by simp)
 unfold Zdn at hr
 rw [o1] at hr
 have hr:r ∈ rowsL C:=hr
 obtain ⟨j,c,hc,hrc⟩:=Zcb hr
 have hj:j < M.length:=by rw [<- o2];exact (List.getElem?_eq_some_iff.1 hc).1
 cases hm:M[j] with
 | none =>
  rw [h.nil 2 (by simp) j (by show M[j]? = some none;rw [List.getElem?_eq_getElem hj,hm])] at hc
  rw [<- Option.some.inj hc] at hrc;cases hrc
 | some row =>
  obtain ⟨d1,d2,d3⟩:=h.hit 2 (by simp) j row (by show M[j]? = some (some row);rw [List.getElem?_eq_getElem hj,hm])
  rw [d1] at hc
  rw [<- Option.some.inj hc] at hrc
  have:r = ρ j:=by simpa [rowsA] using hrc
  rw [this];exact d3
theorem refs2_hit {L:Heap} {C:List AV} {M:List (Option Row)} {ρ:Nat -> Nat} (h:MX3 L C M ρ) {j:Nat} {row:Row} (hm:M[j]? = some (some row)):ρ j ∈ Zdn L:=by
 obtain ⟨o1,_⟩:=h.out 2 (by simp)
 obtain ⟨d1,_⟩:=h.hit 2 (by simp) j row hm
 unfold Zdn
 rw [o1]
 show ρ j ∈ rowsL C
 exact ZaT d1 (by simp [rowsA])
theorem refs2_swap {L:Heap} {p q r:Nat} (hp:3 <= p) (hq:3 <= q) (hpl:p < L.length) (hql:q < L.length) (h:r ∉ Zdn L):swp p q r ∉ Zdn (swH p q L):=by
 have h2:2 < L.length:=by omega
 have e:=ZcO hpl hql (List.getElem?_eq_getElem h2)
 rw [ZcM hp hq (by omega)] at e
 unfold Zdn at h ⊢
 rw [List.getElem?_eq_getElem h2] at h
 rw [e]
 simp only at h ⊢
 rw [refs_ren]
 intro hm
 obtain ⟨s,hs,e⟩:=List.mem_map.1 hm
 rw [Zeb e] at hs
 exact h hs
theorem BW.refl {W:Heap->Prop} {L:Heap} (h:W L):BW W L L:=⟨rfl,fun _ _=>rfl,h⟩
theorem BW.refs {W:Heap -> Prop} {L L1:Heap} {C:List AV} {M:List (Option Row)} {ρ:Nat -> Nat} (hx:MX3 L C M ρ) (h:BW W L L1):Zdn L1 = Zdn L:=by
 have:=h.2.1 2 fun h2 => by have:=refs2_ge hx 2 h2;omega
 unfold Zdn
 rw [this]
theorem BW.trans {W W':Heap -> Prop} {L L1 L2:Heap} {C:List AV} {M:List (Option Row)} {ρ:Nat -> Nat} (hx:MX3 L C M ρ) (h:BW W L L1) (h':BW W' L1 L2):BW W' L L2:=by
 have e:=h.refs hx
 exact ⟨h'.1.trans h.1,fun r hr => (h'.2.1 r (by rw [e];exact hr)).trans (h.2.1 r hr),h'.2.2⟩
theorem wp_focB {N:Mach} {fi:Fi} {k:List Item} {env:Vars} {L:Heap} {C:List AV} {M:List (Option Row)} {ρ:Nat -> Nat} {W:Heap -> Prop} {v:AV} (hW:∀ p q L1,3 <= p -> 3 <= q -> p < L1.length -> q < L1.length -> W L1 -> W (swH p q L1))
  (h:MX3 L C M ρ) (henv:(rowsL (env.map (·.2))).all (fun r => Nat.blt r 3) = true) {a:Nat} {ra:Row} (ha:M[a]? = some (some ra)) (hv:v.clean = true)
  (H:∀ L' C' ρ',MX3 L' C' M ρ' -> L'[3]? = some ra -> ρ' a = 3 -> (∀ r,r < 3 -> r ∉ [2] -> L'[r]? = L[r]?) -> Wp N (.run fi k env L') (fun x L3 => x = v /\ BW W L' L3)):Wp N (.run fi k env L) (fun x L3 => x = v /\ BW W L L3):=by
 obtain ⟨e1,e2,e3⟩:=h.hit 2 (by simp) a ra ha
 have hql:=(List.getElem?_eq_some_iff.1 e2).1
 have hpl:3 < L.length:=by omega
 have hE:∀ r ∈ rowsL (env.map (·.2)),r < 3:=fun r hr => Nat.blt_eq.mp (List.all_eq_true.1 henv r hr)
 refine wp_swapQ (p:=3) (q:=ρ a) hpl hql (fun r hr => by have:=hE r hr;omega) h.refs ?_
 rw [Mx.renV (N:=N) (L:=L) (Nat.le_refl 3) e3 henv]
 have hs:=Zdp (h.swap (Nat.le_refl 3) e3 hpl hql)
 refine .mono (H _ _ _ hs ?_ (swp_q ..) fun r hr hno => ?_) fun x L3 ⟨hx,h1,h2,h3⟩ => ?_
 ·have:=(hs.hit 2 (by simp) a ra ha).2.1
  rw [swp_q] at this;exact this
 ·have hrl:r < L.length:=by omega
  have:=ZcO hpl hql (List.getElem?_eq_getElem hrl)
  rw [ZcM (Nat.le_refl 3) e3 hr,ren_fix (Nat.le_refl 3) e3 (h.fix r _ hr hno (List.getElem?_eq_getElem hrl))] at this
  rw [this,List.getElem?_eq_getElem hrl]
 ·rw [ZcN] at h1
  refine ⟨by omega,by rw [hx];exact clean_ren _ _ hv,by rw [ZcN];exact h1,fun r hr => ?_,hW 3 (ρ a) L3 (Nat.le_refl 3) e3 (by omega) (by omega) h3⟩
  by_cases hrl:r < L.length
  ·have e:=h2 (swp 3 (ρ a) r) (refs2_swap (Nat.le_refl 3) e3 hpl hql hr)
   rw [ZcO hpl hql (List.getElem?_eq_getElem hrl)] at e
   have:=ZcO (p:=3) (q:=ρ a) (L:=L3) (by omega) (by omega) e
   rw [ZbJ,Zfe fun s _ => ZbJ 3 (ρ a) s] at this
   rw [this,List.getElem?_eq_getElem hrl]
  ·rw [List.getElem?_eq_none (by rw [ZcN];omega),List.getElem?_eq_none (by omega)]
abbrev iR (v:List Int):Row:=⟨v.map (.int .i64),1,0,false,true⟩
abbrev sF (f:Bool) (tl:List Int) (w:Int):Row:=⟨[.agg [.row 1 0,.vec f 1 (tl.map (.int .i64)),.int .i64 w,.row 2 0]],4,0,false,false⟩
abbrev sH (f:Bool) (tl nd:List Int) (w:Int) (C:List AV) (R:Heap):Heap:=sF f tl w::iR nd::⟨C,1,0,false,false⟩::R
def MemoV (n:Nat) (ps:List Pr) (tl:List Int) (t:Nat) (v:List Int):Prop:=v.length=2 ^ n /\ ∀ c s,Sp.ZeM n ps c s->v.getD s default=0\/v.getD s default=(Sp.rv n ps tl c s (some (t:Int)):Int)+1
def MemoM (n:Nat) (ps:List Pr) (tl:List Int) (M:List (Option Row)):Prop:=M.length=n /\ ∀ t,t<n -> ∃ v,M[t]? = some (some (iR v))/\MemoV n ps tl t v
def Memo (n:Nat) (ps:List Pr) (tl:List Int) (L:Heap):Prop:=∃ C M ρ,MX3 L C M ρ/\MemoM n ps tl M
section
variable {n:Nat} {ps:List Pr} {tl:List Int} {f:Bool} {nd:List Int} {w:Int}
theorem memo_swap (p q:Nat) (L:Heap) (hp:3 <= p) (hq:3 <= q) (hpl:p < L.length) (hql:q < L.length) (h:Memo n ps tl L):Memo n ps tl (swH p q L):=by
 obtain ⟨C,M,ρ,hx,hM⟩:=h
 exact ⟨_,M,_,Zdp (hx.swap hp hq hpl hql),hM⟩
theorem sH_shape {C C':List AV} {R L':Heap} {M:List (Option Row)} {ρ:Nat -> Nat} (h:MX3 L' C' M ρ) (hf:∀ r,r < 3 -> r ∉ [2] -> L'[r]? = (sH f tl nd w C R)[r]?):∃ R',L' = sH f tl nd w C' R':=by
 have h2:=(h.out 2 (by simp)).1
 have h0:=hf 0 (by omega) (by simp)
 have h1:=hf 1 (by omega) (by simp)
 obtain ⟨R',e⟩:=Zdr (k:=3) (L:=L') (P:=sH f tl nd w C' []) rfl fun r hr => by
  have:r = 0 \/ r = 1 \/ r = 2:=by omega
  rcases this with rfl | rfl | rfl
  ·exact h0
  ·exact h1
  ·exact h2
 exact ⟨R',e⟩
theorem BW.shape {W:Heap -> Prop} {C:List AV} {R L1:Heap} {M:List (Option Row)} {ρ:Nat -> Nat} (hx:MX3 (sH f tl nd w C R) C M ρ) (h:BW W (sH f tl nd w C R) L1):∃ R',L1 = sH f tl nd w C R':=by
 have hf:∀ r,r < 3 -> L1[r]? = (sH f tl nd w C R)[r]?:=fun r hr => h.2.1 r fun hm => by have:=refs2_ge hx r hm;omega
 obtain ⟨R',e⟩:=Zdr (k:=3) (L:=L1) (P:=sH f tl nd w C []) rfl fun r hr => by
  rw [hf r hr]
  have:r = 0 \/ r = 1 \/ r = 2:=by omega
  rcases this with rfl | rfl | rfl <;> rfl
 exact ⟨R',e⟩
theorem mx_out {L:Heap} {C C':List AV} {R:Heap} {M:List (Option Row)} {ρ:Nat -> Nat} (hx:MX3 L C' M ρ) (e:L = sH f tl nd w C R):C' = C:=by
 have:=(hx.out 2 (by simp)).1
 rw [e] at this
 have h2:(some (⟨C,1,0,false,false⟩:Row)) = some ⟨C',1,0,false,false⟩:=this
 exact (Row.mk.inj (Option.some.inj h2)).1.symm
end
end Go.Av
