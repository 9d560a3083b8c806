/- PART 2 of the texts of a claim, joined by a program: what each part shows stands at its head. -/
import Derived.Test.YtojapcnhajomcaaPart8d2dc15e74
import Derived.Orders

namespace Go.Av
open Go.RowKit
section
variable {P:Unit->Program}
theorem Ze2 {S:St} {r:Nat} {v:Value} (h:Rel S (.mapr r) v):∃ row info,S.L[r]? = some row/\S.β[r]? = some info/\info.mp=true/\v = .map (some info.blk):=by
 cases h with
 | data _ _ h=>cases h
 | mapr _ row info _ h0 h1 h2 h3=>exact ⟨row,info,h2,h3,h1,h0⟩
theorem makeMap_made {S:St} (hS:HeapOk S) {T:TypeId} {r:SR} (h:Zei P S.L T=some r):r.calls=[] /\ ∃ L',r.L'=some L'/\Made S r.v L' ((Instr.makeMap T none).run (P ()) S.w):=by
 unfold Zei at h
 split at h
 ·simp only [Option.some.injEq] at h;subst h
  obtain ⟨g1,g2⟩:=new_map hS
  refine ⟨rfl,_,rfl,_,_,.map (some S.w.heap.size),g1,g2,?_,rfl⟩
  refine .mapr S.L.length ⟨[],2,0,false,true⟩ ⟨S.w.heap.size,0,2,0,true⟩ _ rfl rfl (by simp) ?_
  show (S.β++_)[S.L.length]? = _
  rw [hS.len];simp
 ·simp at h
theorem Zdr {T:TypeId} {k:IntKind} (hK:(P ()).underlying T=some (.int k)) (b:Bool) (kk:IntKind) (n:Int) (w:World):(Instr.checkKey b 10000 T (.int kk n)).run (P ()) w = .ok () w:=by
 have e:Instr.checkKey b 10000 T (.int kk n)=Instr.checkKey b (9999+1) T (.int kk n):=rfl
 rw [e,Instr.checkKey]
 simp [run_underlying hK]
theorem mp_tup2 {S:St} {a b:AV} {u v:Value} (h:Rel S a u) (k:Rel S b v):Rel S (.tup [a,b]) (.tuple #[u,v]):=by
 refine .tup _ [u,v] rfl fun i c w hc hw => ?_
 match i with
 | 0=>simp at hc hw;subst hc;subst hw;exact h
 | 1=>simp at hc hw;subst hc;subst hw;exact k
 | i+2=>simp at hc
theorem ZbD {w:World} {b:Nat} {es:Array MapEntry} {c:Nat} (h:w.heap[b]? = some (.map es c)):(getObj b).run (P ()) w = .ok (.map es c) w:=by
 simp [getObj,Sem.run,h]
theorem Zcv {w:World} {b:Nat} {es:Array MapEntry} {c:Nat} (o:Obj) (h:w.heap[b]? = some (.map es c)):(setObj b o).run (P ()) w = .ok () { w with heap:=w.heap.setIfInBounds b o }:=by
 simp [setObj,Sem.run,h]
theorem Zeu {T:TypeId} {k:IntKind} (hK:(P ()).underlying T=some (.int k)) {kk:IntKind} {n:Int} {es:List MapEntry} {o:Option (Nat × Value)} (h:Instr.findNow (.int k) (.int kk n) es 0=some o) (w:World) :
  (Instr.findKey T (.int kk n) es).run (P ()) w = .ok o w:=by
 simp [Instr.findKey,run_underlying hK,h]
theorem mp_ents {S:St} {row:Row} {es:Array MapEntry} (h:∀ (i:Nat) e x,es[i]? = some e->row.elems[i]? = some x->EntOk S row.clean i e x) (i:Nat) (e:MapEntry) (x:AV) (he:es.toList[i]? = some e) (hx:row.elems[i]? = some x) :
  ∃ k m v,x = .agg [.int k m,v]/\e.key = .int k m/\(v.plain=true/\Rel S v e.val/\(row.clean=true->DRel S v e.val)):=by
 obtain ⟨_,k,n,v,h1,h2,h3,h4,h5⟩:=h i e x (by simpa using he) hx
 exact ⟨k,n,v,h1,h2,h3,h4,h5⟩
theorem lookup_sound {S:St} (hS:HeapOk S) {el:Option AV} {T:TypeId} {m k:AV} {mv kv:Value} {ok:Bool} {r:SR} (hm:Rel S m mv) (hk:Rel S k kv) (h:ZfG P el S.L T m k ok=some r) (hA:∀ b ∈ r.asm,b=true) (hQ:∀ q ∈ r.eqs,q) :
  r.calls=[]/\r.L'=none /\ ∃ vv,(Instr.lookup T mv kv ok).run (P ()) S.w = .ok vv S.w/\Rel S r.v vv:=by
 unfold ZfG at h
 split at h
 ·rename_i K E q kk n hu
  split at h
  ·rename_i row kd z hrow hK hz
   split at h
   ·simp only [Option.some.injEq] at h;subst h
    simp only at hA hQ
    refine ⟨rfl,rfl,?_⟩
    obtain ⟨row',info,a1,a2,a3,rfl⟩:=Ze2 hm
    rw [hrow] at a1
    simp only [Option.some.injEq] at a1;subst a1
    rw [ZaH hk]
    obtain ⟨es,b1,b2,b3,b4⟩:=hS.maps q row info hrow a2 a3
    have hkeys:ZcK kk row.elems=true:=hA _ (by simp)
    have hg:=ZfF (el:=el) (z:=z) (n:=n) (xs:=row.elems) (fun b hb=>hA b (by simp [hb])) hQ
    obtain ⟨zv,z1,z2⟩:=ZdY (P:=P) S hz
    rcases Zel (R:=fun v u=>v.plain=true/\Rel S v u/\(row.clean=true->DRel S v u)) (kd:=kd) (n:=n) z row.elems es.toList 0 (by simpa using b2) (mp_ents b4) hkeys with ⟨e,c1,c2,c3,c4,c5,c6,_⟩ | ⟨c1,c2,c3,c4,_⟩
    ·have hf:=Zeu (P:=P) hK c3 S.w
     refine ⟨if ok then .tuple #[e.val,.bool true] else e.val,?_,?_⟩
     ·simp [Instr.lookup,run_underlying hu,ZbD (P:=P) b1,Zdr (P:=P) hK,hf]
     ·rw [hg,c4]
      cases ok with
      | true=>exact mp_tup2 c5.2.1 (.data _ _ (.bool true))
      | false=>exact c5.2.1
    ·have hf:=Zeu (P:=P) hK c1 S.w
     refine ⟨if ok then .tuple #[zv,.bool false] else zv,?_,?_⟩
     ·simp [Instr.lookup,run_underlying hu,ZbD (P:=P) b1,Zdr (P:=P) hK,hf,z1]
     ·rw [hg,c2,c3]
      cases ok with
      | true=>exact mp_tup2 z2 (.data _ _ (.bool false))
      | false=>exact z2
   ·simp at h
  ·simp at h
 ·simp at h
theorem mp_okE {v:AV} (hv:v.plain=true) {kk:IntKind} {n:Int}:∀ {xs:List AV},Za5 2 xs->Za5 2 (xs++[.agg [.int kk n,v]]):=by
 intro xs h i x hx
 by_cases hl:i<xs.length
 ·rw [List.getElem?_append_left hl] at hx;exact h i x hx
 ·rw [List.getElem?_append_right (by omega)] at hx
  have:i-xs.length=0:=by have:=Zah hx;simp at this;omega
  rw [this] at hx
  simp only [List.getElem?_cons_zero,Option.some.injEq] at hx
  subst hx
  exact ⟨rfl,by show (true&&(v.plain&&true))=true;rw [hv];rfl⟩
theorem Zfp {S:St} (hS:HeapOk S) {r i:Nat} {row:Row} {info:BI} {es:Array MapEntry} {e:MapEntry} {v:AV} {vv:Value} (hr:S.L[r]? = some row) (hi:S.β[r]? = some info) (hmp:info.mp=true)
  (hsz:es.size=row.elems.length) (hes:row.es=2) (hent:∀ (i:Nat) e x,es[i]? = some e->row.elems[i]? = some x->EntOk S row.clean i e x) (he:es[i]? = some e) (hp:v.plain=true) (hv:Rel S v vv) (hc:row.clean=true->DRel S v vv) :
  HeapOk ⟨S.base,S.acc,S.L.set r { row with elems:=ZbX v i row.elems },S.β,ZbP S.w info.blk (es.setIfInBounds i { e with val:=vv })⟩ /\
  Ext S ⟨S.base,S.acc,S.L.set r { row with elems:=ZbX v i row.elems },S.β,ZbP S.w info.blk (es.setIfInBounds i { e with val:=vv })⟩:=by
 have hlt:i<es.size:=(Array.getElem?_eq_some_iff.1 he).1
 refine set_map (row':={ row with elems:=ZbX v i row.elems }) hS hr hi hmp rfl rfl hes (Nat.le_of_eq (Zeq v i _).symm) (fun q x hx => ?_) (by simp [Zeq,hsz]) (fun q e' x he' hx => ?_)
 ·show x.cells.length=row.es/\_
  rcases Zer v i _ q x hx with ⟨_,h2⟩ | ⟨rfl,x0,h2,h3⟩
  ·exact hS.elems r row hr q x h2
  ·obtain ⟨_,k,n,u,rfl,_,_,_,_⟩:=hent q e x0 he h2
   rw [h3 _ _ rfl,hes]
   exact ⟨rfl,by show (true&&(v.plain&&true))=true;rw [hp];rfl⟩
 ·rcases Zer v i _ q x hx with ⟨h1,h2⟩ | ⟨rfl,x0,h2,h3⟩
  ·rw [Array.getElem?_setIfInBounds_ne (fun e=>h1 e.symm)] at he'
   exact hent q e' x he' h2
  ·rw [Array.getElem?_setIfInBounds_self_of_lt hlt] at he'
   simp only [Option.some.injEq] at he';subst he'
   obtain ⟨g1,k,n,u,rfl,g3,g4,g5,g6⟩:=hent q e x0 he h2
   exact ⟨g1,k,n,v,h3 _ _ rfl,g3,hp,hv,hc⟩
theorem add_entry {S:St} (hS:HeapOk S) {r:Nat} {row:Row} {info:BI} {es:Array MapEntry} {kk:IntKind} {n:Int} {v:AV} {vv:Value} (hr:S.L[r]? = some row) (hi:S.β[r]? = some info) (hmp:info.mp=true)
  (hsz:es.size=row.elems.length) (hes:row.es=2) (hent:∀ (i:Nat) e x,es[i]? = some e->row.elems[i]? = some x->EntOk S row.clean i e x) (hp:v.plain=true) (hv:Rel S v vv) (hc:row.clean=true->DRel S v vv) :
  HeapOk ⟨S.base,S.acc,S.L.set r { row with elems:=row.elems++[.agg [.int kk n,v]] },S.β,ZbP S.w info.blk (es.push ⟨.int kk n,vv,es.size⟩)⟩ /\
  Ext S ⟨S.base,S.acc,S.L.set r { row with elems:=row.elems++[.agg [.int kk n,v]] },S.β,ZbP S.w info.blk (es.push ⟨.int kk n,vv,es.size⟩)⟩:=by
 refine set_map (row':={ row with elems:=row.elems++[.agg [.int kk n,v]] }) hS hr hi hmp rfl rfl hes (by simp) ?_ (by simp [hsz]) (fun q e' x he' hx => ?_)
 ·have:=hS.elems r row hr
  rw [hes] at this
  show Za5 row.es _
  rw [hes]
  exact mp_okE hp this
 ·rw [Array.getElem?_push] at he'
  by_cases hl:q<row.elems.length
  ·rw [if_neg (by omega)] at he'
   have hx:(row.elems++[AV.agg [.int kk n,v]])[q]? = some x:=hx
   rw [List.getElem?_append_left hl] at hx
   exact hent q e' x he' hx
  ·have hx:(row.elems++[AV.agg [.int kk n,v]])[q]? = some x:=hx
   rw [List.getElem?_append_right (by omega)] at hx
   have:q-row.elems.length=0:=by have:=Zah hx;simp at this;omega
   rw [this] at hx
   simp only [List.getElem?_cons_zero,Option.some.injEq] at hx
   subst hx
   have hq:q=es.size:=by omega
   subst hq
   rw [if_pos rfl] at he'
   simp only [Option.some.injEq] at he';subst he'
   exact ⟨rfl,kk,n,v,rfl,rfl,hp,hv,hc⟩
theorem mp_stays {k:IntKind} {n:Int} (w:World):(Instr.keyThatStays (.int k n) (.int k n)).run (P ()) w = .ok (.int k n) w:=by
 simp [Instr.keyThatStays,Instr.sameBits]
theorem modify_val {es:Array MapEntry} {i:Nat} {e:MapEntry} {kv vv:Value} (he:es[i]? = some e) (hk:e.key=kv):es.modify i (fun e => { e with key:=kv,val:=vv })=es.setIfInBounds i { e with val:=vv }:=by
 apply Array.ext
 ·simp
 ·intro j h1 h2
  rw [Array.getElem_modify,Array.getElem_setIfInBounds]
  have hlt:=(Array.getElem?_eq_some_iff.1 he)
  split
  ·rename_i e0;subst e0
   rw [hlt.2];subst hk;rfl
  ·rfl
theorem modify_key {es:Array MapEntry} {i:Nat} {e:MapEntry} {kv:Value} (he:es[i]? = some e) (hk:e.key=kv):es.modify i (fun e => { e with key:=kv })=es:=by
 apply Array.ext
 ·simp
 ·intro j h1 h2
  rw [Array.getElem_modify]
  split
  ·rename_i e0;subst e0
   have hlt:=(Array.getElem?_eq_some_iff.1 he)
   rw [hlt.2];subst hk;rfl
  ·rfl
theorem Zf9 {S:St} (hS:HeapOk S) {T:TypeId} {m k v:AV} {mv kv vv:Value} {r:SR} (hm:Rel S m mv) (hk:Rel S k kv) (hv:Rel S v vv) (h:Zcz P S.L T m k v=some r) (hA:∀ b ∈ r.asm,b=true) :
  r.calls=[]/\r.v = .tup [] /\ ∃ L' β' w',r.L'=some L'/\HeapOk ⟨S.base,S.acc,L',β',w'⟩/\Ext S ⟨S.base,S.acc,L',β',w'⟩/\(Instr.mapUpdate T mv kv vv).run (P ()) S.w = .ok () w':=by
 unfold Zcz at h
 split at h
 ·rename_i K E q kk n hu
  split at h
  ·rename_i row kd hrow hK
   split at h
   ·rename_i hc
    simp only [Option.some.injEq] at h;subst h
    simp only at hA
    refine ⟨rfl,rfl,?_⟩
    obtain ⟨row',info,a1,a2,a3,rfl⟩:=Ze2 hm
    rw [hrow] at a1
    simp only [Option.some.injEq] at a1;subst a1
    rw [ZaH hk]
    obtain ⟨es,b1,b2,b3,b4⟩:=hS.maps q row info hrow a2 a3
    have hkeys:ZcK kk row.elems=true:=hA _ (by simp)
    have hcl:row.clean=true->DRel S v vv:=fun e=>ZaJ hv (hc.2 e)
    rcases Zel (R:=fun v u=>v.plain=true/\Rel S v u/\(row.clean=true->DRel S v u)) (kd:=kd) (n:=n) .any row.elems es.toList 0 (by simpa using b2) (mp_ents b4) hkeys with ⟨e,c1,c2,c3,c4,c5,c6,c7⟩ | ⟨c1,c2,c3,c4,c5⟩
    ·have hf:=Zeu (P:=P) hK c3 S.w
     have he:es[Zbh n row.elems]? = some e:=by simpa using c1
     obtain ⟨g1,g2⟩:=Zfp hS hrow a2 a3 b2 b3 b4 he hc.1 hv hcl
     refine ⟨_,S.β,_,rfl,by rw [c7 v];exact g1,by rw [c7 v];exact g2,?_⟩
     have hm:=modify_val (vv:=vv) he c2
     simp [Instr.mapUpdate,run_underlying hu,ZbD (P:=P) b1,Zdr (P:=P) hK,hf,he,c2,mp_stays,Zcv (P:=P) _ b1,hm,ZbP]
    ·have hf:=Zeu (P:=P) hK c1 S.w
     obtain ⟨g1,g2⟩:=add_entry (kk:=kk) (n:=n) hS hrow a2 a3 b2 b3 b4 hc.1 hv hcl
     refine ⟨_,S.β,_,rfl,by rw [c5 v];exact g1,by rw [c5 v];exact g2,?_⟩
     simp [Instr.mapUpdate,run_underlying hu,ZbD (P:=P) b1,Zdr (P:=P) hK,hf,Zcv (P:=P) _ b1,ZbP]
   ·simp at h
  ·simp at h
 ·simp at h
theorem mapEntry_made {S:St} (hS:HeapOk S) {el:Option AV} {T:TypeId} {m k:AV} {mv kv:Value} {r:SR} (hm:Rel S m mv) (hk:Rel S k kv) (h:Zdc P el S.L T m k=some r) (hA:∀ b ∈ r.asm,b=true) (hQ:∀ q ∈ r.eqs,q) :
  r.calls=[] /\ ∃ L',r.L'=some L'/\Made S r.v L' ((Instr.mapEntry T mv kv).run (P ()) S.w):=by
 unfold Zdc at h
 split at h
 ·rename_i K E q kk n hu
  split at h
  ·rename_i row kd z hrow hK hz
   split at h
   ·rename_i hc
    simp only [Option.some.injEq] at h;subst h
    simp only at hA hQ
    refine ⟨rfl,_,rfl,?_⟩
    obtain ⟨row',info,a1,a2,a3,rfl⟩:=Ze2 hm
    rw [hrow] at a1
    simp only [Option.some.injEq] at a1;subst a1
    rw [ZaH hk]
    obtain ⟨es,b1,b2,b3,b4⟩:=hS.maps q row info hrow a2 a3
    have hkeys:ZcK kk row.elems=true:=hA _ (by simp)
    have hg:=ZfF (el:=el) (z:=z) (n:=n) (xs:=row.elems) (fun b hb=>hA b (by simp [hb])) hQ
    obtain ⟨zv,z1,z2⟩:=ZdY (P:=P) S hz
    rcases Zel (R:=fun v u=>v.plain=true/\Rel S v u/\(row.clean=true->DRel S v u)) (kd:=kd) (n:=n) z row.elems es.toList 0 (by simpa using b2) (mp_ents b4) hkeys with ⟨e,c1,c2,c3,c4,c5,c6,c7⟩ | ⟨c1,c2,c3,c4,c5⟩
    ·have hf:=Zeu (P:=P) hK c3 S.w
     have he:es[Zbh n row.elems]? = some e:=by simpa using c1
     obtain ⟨g1,g2⟩:=Zfp hS hrow a2 a3 b2 b3 b4 he c5.1 c5.2.1 c5.2.2
     have hb:e.born=Zbh n row.elems:=(b4 _ e _ he (List.getElem?_eq_getElem c6)).1
     have hs:es.setIfInBounds (Zbh n row.elems) { e with val:=e.val } = es:=by
      apply Array.ext
      ·simp
      ·intro j h1 h2
       rw [Array.getElem_setIfInBounds]
       split
       ·rename_i e0;subst e0;rw [(Array.getElem?_eq_some_iff.1 he).2]
       ·rfl
     rw [hs] at g1 g2
     refine ⟨S.β,_,.tuple #[e.val,goInt (Zbh n row.elems)],by rw [c7];exact g1,by rw [c7];exact g2,?_,?_⟩
     ·rw [hg,c7]
      exact mp_tup2 (c5.2.1.mono g2) (.data _ _ (.int .i64 _))
     ·have hm:=modify_key he c2
      simp [Instr.mapEntry,run_underlying hu,ZbD (P:=P) b1,Zdr (P:=P) hK,hf,he,c2,mp_stays,Zcv (P:=P) _ b1,hm,ZbP,hb]
    ·have hf:=Zeu (P:=P) hK c1 S.w
     obtain ⟨g1,g2⟩:=add_entry (kk:=kk) (n:=n) hS hrow a2 a3 b2 b3 b4 hc.1 z2 (fun _=>ZaJ z2 hc.2)
     rw [c3] at hg
     refine ⟨S.β,_,.tuple #[zv,goInt es.size],by rw [c3,c5 z];exact g1,by rw [c3,c5 z];exact g2,?_,?_⟩
     ·rw [hg,c4,<- b2]
      rw [c3,c5]
      exact mp_tup2 (z2.mono g2) (.data _ _ (.int .i64 _))
     ·simp [Instr.mapEntry,run_underlying hu,ZbD (P:=P) b1,Zdr (P:=P) hK,hf,z1,Zcv (P:=P) _ b1,ZbP]
   ·simp at h
  ·simp at h
 ·simp at h
theorem ZfT {S:St} (hS:HeapOk S) {T:TypeId} {m i v:AV} {mv iv vv:Value} {r:SR} (hm:Rel S m mv) (hi:Rel S i iv) (hv:Rel S v vv) (h:Zcf S.L m i v=some r) (hA:∀ b ∈ r.asm,b=true) :
  r.calls=[]/\r.v = .tup [] /\ ∃ L' β' w',r.L'=some L'/\HeapOk ⟨S.base,S.acc,L',β',w'⟩/\Ext S ⟨S.base,S.acc,L',β',w'⟩/\(Instr.entryStore T mv iv vv).run (P ()) S.w = .ok () w':=by
 unfold Zcf at h
 split at h
 ·rename_i q kk n
  split at h
  ·rename_i row hrow
   split at h
   ·rename_i hc
    simp only [Option.some.injEq] at h;subst h
    simp only at hA
    refine ⟨rfl,rfl,?_⟩
    obtain ⟨row',info,a1,a2,a3,rfl⟩:=Ze2 hm
    rw [hrow] at a1
    simp only [Option.some.injEq] at a1;subst a1
    rw [ZaH hi]
    obtain ⟨es,b1,b2,b3,b4⟩:=hS.maps q row info hrow a2 a3
    have h0:0<=n:=alld hA (p:=0<=n) (by simp)
    have h1:n.toNat<row.elems.length:=alld hA (p:=n.toNat<row.elems.length) (by simp)
    have hcl:row.clean=true->DRel S v vv:=fun e=>ZaJ hv (hc.2 e)
    have hlt:n.toNat<es.size:=by omega
    have he:es[n.toNat]? = some es[n.toNat]:=Array.getElem?_eq_getElem hlt
    obtain ⟨g1,g2⟩:=Zfp hS hrow a2 a3 b2 b3 b4 he hc.1 hv hcl
    refine ⟨_,S.β,_,rfl,g1,g2,?_⟩
    have hborn:∀ (j:Nat) (hj:j<es.size),es[j].born=j:=fun j hj=>(b4 j es[j] _ (Array.getElem?_eq_getElem hj) (List.getElem?_eq_getElem (by omega))).1
    have hidx:es.findIdx? (fun e=>(e.born:Int)==n)=some n.toNat:=by
     rw [Array.findIdx?_eq_some_iff_getElem]
     refine ⟨hlt,?_,fun j hj => ?_⟩
     ·rw [hborn _ hlt];simp;omega
     ·rw [hborn j (by omega)];simp;omega
    have hmod:es.modify n.toNat (fun e => { e with val:=vv })=es.setIfInBounds n.toNat { es[n.toNat] with val:=vv }:=by
     apply Array.ext
     ·simp
     ·intro j h1 h2
      rw [Array.getElem_modify,Array.getElem_setIfInBounds]
      split
      ·rename_i e0;subst e0;rfl
      ·rfl
    simp [Instr.entryStore,ZbD (P:=P) b1,asInt,asIntOf,hidx,hmod,Zcv (P:=P) _ b1,ZbP]
   ·simp at h
  ·simp at h
 ·simp at h
end
end Go.Av

namespace Go.Av
theorem w64 (n:Int) (h:-9223372036854775808<=n/\n<=9223372036854775807):IntKind.i64.wrap n=n:=by
 have e1:(2:Int) ^ IntKind.i64.bits=18446744073709551616:=rfl
 have e2:(2:Int) ^ (IntKind.i64.bits-1)=9223372036854775808:=rfl
 have e3:IntKind.i64.signed=true:=rfl
 simp only [IntKind.wrap,e1,e2,e3,Bool.true_and,decide_eq_true_eq]
 split <;> omega
theorem Zam {c:Bool} (h:c=true):(c==true)=true:=by simp [h]
theorem Zal {c:Bool} (h:¬c=true):(c==false)=true:=by simp at h;simp [h]
theorem Zas (c:Bool):c=true ↔ c=true:=Iff.rfl
theorem Zad {p:Prop} [Decidable p]:decide p=true ↔ p:=decide_eq_true_iff
theorem Zay {c:Bool} {C:Prop} (h:c=true ↔ C):(!c)=true ↔ ¬C:=by rw [<- h];cases c <;> simp
theorem Zau {c d:Bool} {C D:Prop} (h:c=true ↔ C) (g:d=true ↔ D):(c&&d)=true ↔ (C/\D):=by rw [<- h,<- g];simp
theorem ZaD {c d:Bool} {C D:Prop} (h:c=true ↔ C) (g:d=true ↔ D):(bif c then true else d)=true ↔ (C\/D):=by rw [<- h,<- g];cases c <;> simp
theorem Za9 {c d:Bool} {C D:Prop} (h:c=true ↔ C) (g:d=true ↔ D):(bif c then d else false)=true ↔ (C/\D):=by rw [<- h,<- g];cases c <;> simp
theorem Zdf {c d:Bool} {C D:Prop} (h:c=true ↔ C) (g:d=true ↔ D):(!c||d)=true ↔ (C->D):=by rw [<- h,<- g];cases c <;> simp
theorem i_eq {α:Type} [BEq α] [LawfulBEq α] {a b:α}:(a==b)=true ↔ a=b:=beq_iff_eq
theorem i_ne {α:Type} [BEq α] [LawfulBEq α] {a b:α}:(a != b)=true ↔ ¬a=b:=by simp
theorem ZeU {α:Type} [BEq α] [LawfulBEq α] {a b:α}:(!(a==b))=true ↔ ¬a=b:=by simp
theorem i_bt {c:Bool} {C:Prop} (h:c=true ↔ C):(c==true)=true ↔ C:=by rw [<- h];simp
theorem i_bf {c:Bool} {C:Prop} (h:c=true ↔ C):(c==false)=true ↔ ¬C:=by rw [<- h];simp
theorem i_at {c:Bool} {C:Prop} (h:c=true ↔ C):(c&&true)=true ↔ C:=by rw [<- h];simp
theorem Zaz {α:Type} [Inhabited α] {g:α->AV} {X:List α} {i:Nat} (h:i<X.length):(X.map g)[i]? = some (g (X.getD i default)):=by
 simp [h]
theorem Zdd {α:Type} {g:α->AV} {A B:List AV} {X Y:List α} (h:A=X.map g) (k:B=Y.map g):A++B=(X++Y).map g:=by rw [h,k,List.map_append]
theorem ZdL {α:Type} {g:α->AV} {A:List AV} {X:List α} {n:Nat} (h:A=X.map g):A.take n=(X.take n).map g:=by rw [h,List.map_take]
theorem ZdM {α:Type} {g:α->AV} {A:List AV} {X:List α} {n:Nat} (h:A=X.map g):A.drop n=(X.drop n).map g:=by rw [h,List.map_drop]
theorem wI64 {n:Int} (h:-9223372036854775808<=n/\n<=9223372036854775807):IntKind.i64.wrap n=n:=w64 n h
theorem wU8 {n:Int} (h:0<=n/\n<=255):IntKind.u8.wrap n=n:=by
 have e1:(2:Int) ^ IntKind.u8.bits=256:=rfl
 have e3:IntKind.u8.signed=false:=rfl
 simp only [IntKind.wrap,e1,e3,Bool.false_and,Bool.false_eq_true,if_false]
 omega
theorem Zet {M:Mach} {f:FuncId} {args:List AV} {L:Heap} {v:AV} {L':Heap} (h:Wp M (.own f args L) fun x K=>x=v/\K=L'):Ev M (.own f args L) v L':=h
end Go.Av

namespace Go.Av
open Go.RowKit
section
variable {P:Unit->Program}
theorem ZdS {e:TypeId} {size:Nat} {cs:List AV}:∀ {n j:Nat} {xs:List AV},ZeD P e size cs j n=some xs->xs.length=n /\ ∀ (q:Nat) x,xs[q]? = some x->ZdC P e cs (j+q*size)=some x
 | 0,j,xs,h=>by simp only [ZeD,Option.some.injEq] at h;subst h;exact ⟨rfl,by simp⟩
 | n+1,j,xs,h=>by
  simp only [ZeD] at h
  split at h
  ·rename_i v l hv hl
   simp only [Option.some.injEq] at h;subst h
   obtain ⟨h1,h2⟩:=ZdS hl
   refine ⟨by simp [h1],fun q x hx => ?_⟩
   cases q with
   | zero=>simp only [List.getElem?_cons_zero,Option.some.injEq] at hx;subst hx;simpa using hv
   | succ q =>
    have:=h2 q x (by simpa using hx)
    rwa [show j+size+q*size=j+(q+1)*size by rw [Nat.add_mul];omega] at this
  ·simp at h
theorem ZgC {T:TypeId} {cs:List AV} {j k:Nat} {x c:AV} (hp:cs.all AV.plain=true) (h:ZdC P T cs j=some x) (hk:x.cells[k]? = some c):cs[j+k]? = some c:=by
 unfold ZdC at h
 split at h
 ·simp at h
 ·rename_i i hi
  have agg:(if j+i.size<=cs.length then some (AV.agg ((cs.drop j).take i.size)) else none)=some x->cs[j+k]? = some c:=by
   intro h
   split at h
   ·simp only [Option.some.injEq] at h;subst h
    simp only [AV.cells] at hk
    rw [List.getElem?_take] at hk
    split at hk
    ·rwa [List.getElem?_drop] at hk
    ·simp at hk
   ·simp at h
  split at h
  ·exact agg h
  ·exact agg h
  ·have hx:=List.all_eq_true.1 hp x (List.mem_of_getElem? h)
   have:x.cells=[x]:=by
    cases x with
    | agg cs=>simp [AV.plain] at hx
    | _=>rfl
   rw [this] at hk
   cases k with
   | zero=>simp only [List.getElem?_cons_zero,Option.some.injEq] at hk;subst hk;exact h
   | succ k=>simp at hk
  ·simp at h
theorem Zfr {T e:TypeId} {n:Nat} {q:TypeInfo} {a:Addr} (hu:(P ()).underlying T=some (.array n e)) (hq:(P ()).info? e=some q) (w:World) :
  (Instr.sliceAt T (.pointer (some a)) none none none).run (P ()) w = .ok (.slice (some a) n n) w:=by
 have ea:a.add 0=a:=by unfold Addr.add;rw [if_pos rfl]
 simp [Instr.sliceAt,run_underlying hu,Instr.sureAddr,Instr.sliceBounds,ZaA hq,ea]
theorem mp_okC {size:Nat} {xs:List AV} (h:(xs.all fun x=>Nat.beq x.cells.length size)=true) (i:Nat) (x:AV) (hx:xs[i]? = some x):x.cells.length=size:=by
 simpa [Nat.beq_eq] using List.all_eq_true.1 h x (List.mem_of_getElem? hx)
theorem cleanL_at {l:List AV} (h:cleanL l=true) {x:AV} (hx:x ∈ l):x.clean=true:=by
 induction l with
 | nil=>cases hx
 | cons c l ih =>
  simp only [cleanL,Bool.and_eq_true] at h
  rcases List.mem_cons.1 hx with rfl | hx
  ·exact h.1
  ·exact ih h.2 hx
theorem sliceArr_made {S:St} (hS:HeapOk S) {T e:TypeId} {n:Nat} {x:AV} {xv:Value} {r:SR} (hu:(P ()).underlying T=some (.array n e)) (hx:Rel S x xv) (h:Zbw P S.L n e x=some r) (hA:∀ b ∈ r.asm,b=true) :
  r.calls=[]/\Made S r.v (r.L'.getD S.L) ((Instr.sliceAt T xv none none none).run (P ()) S.w):=by
 unfold Zbw at h
 split at h
 ·rename_i r0 ver i j
  split at h
  ·rename_i row q hrow hq
   split at h
   ·rename_i y hy
    split at h
    ·rename_i xs hxs
     split at h
     ·rename_i hc
      obtain ⟨c1,c2,c3⟩:=hc
      simp only [Option.some.injEq] at h;subst h
      simp only at hA
      refine ⟨rfl,?_⟩
      have hver:row.ver=ver:=by simpa using hA (row.ver==ver) (by simp)
      obtain ⟨row',info,a1,a2,a3,hmp⟩:=rel_ptr hx
      rw [hrow] at a1
      simp only [Option.some.injEq] at a1;subst a1
      rw [a3 hver]
      obtain ⟨L',hL',k1,k2,⟨rf,hrf,hfz,hlen⟩⟩:∃ L',((match row.frozen with | true=>none | false=>some (ZaT [r0] S.L):Option Heap).getD S.L)=L'/\HeapOk ⟨S.base,S.acc,L',S.β,S.w⟩/\Ext S ⟨S.base,S.acc,L',S.β,S.w⟩ /\
        ∃ rf,L'[r0]? = some rf/\rf.frozen=true/\rf.elems.length=row.elems.length:=by
       cases hf:row.frozen with
       | true=>exact ⟨_,rfl,hS,Ext.refl S,row,hrow,hf,rfl⟩
       | false =>
        obtain ⟨k1,k2⟩:=Zcd [r0] hS
        obtain ⟨f,g1,_,g3⟩:=ZcB [r0] S.L r0 row hrow
        exact ⟨_,rfl,k1,k2,{ row with frozen:=f },g1,g3 (by simp),rfl⟩
      show Made S (.vec true q.size xs) ((match row.frozen with | true=>none | false=>some (ZaT [r0] S.L):Option Heap).getD S.L) _
      rw [hL']
      obtain ⟨l1,l2⟩:=ZdS hxs
      obtain ⟨o1,o2⟩:=hS.elems r0 row hrow i y hy
      have hes:=(hS.cells r0 row info hrow a2 hmp).1
      have hat:∀ (p:Nat) z (k:Nat) c,xs[p]? = some z->z.cells[k]? = some c->y.cells[j+p*q.size+k]? = some c:=fun p z k c hz hk=>ZgC o2 (l2 p z hz) hk
      refine ⟨S.β,S.w,_,k1,k2,.data _ _ ?_,Zfr hu hq S.w⟩
      have eaddr:∀ p k:Nat,info.off+i*info.es+j+p*q.size+k=info.off+i*info.es+(j+p*q.size+k):=fun p k=>by omega
      have hv:=DRel.vec (S:=⟨S.base,S.acc,L',S.β,S.w⟩) true q.size xs info.blk (info.off+i*info.es+j) n
       (fun p z hz=>⟨mp_okC c3 p z hz,List.all_eq_true.2 fun c hc=>by
        obtain ⟨k,hk⟩:=List.getElem?_of_mem hc
        exact List.all_eq_true.1 o2 c (List.mem_of_getElem? (hat p z k c hz hk))⟩) (fun _=>l1.symm) (Nat.le_of_eq l1)
       (fun p z k c hz hk=>by
        have hp:=hat p z k c hz hk
        have hlt:j+p*q.size+k<info.es:=by rw [hes,<- o1];exact Zah hp
        obtain ⟨cv,h1⟩:=Zd9 hS hrow a2 hmp hy hlt
        rw [eaddr]
        refine ⟨⟨cv,h1⟩,hS.acq r0 info _ a2,fun r' info' hi' he' => ?_⟩
        have:=hS.inj r' r0 info' info hi' a2 he'
        subst this
        have hi':S.β[r']? = some info':=hi'
        rw [a2] at hi'
        simp only [Option.some.injEq] at hi';subst hi'
        refine ⟨rf,hrf,hfz,by omega,?_⟩
        rw [hlen]
        have:=ZbY (Zah hy) (Nat.le_refl row.elems.length) hlt
        omega)
       (fun p z k c cv hz hk hcv=>by
        have hp:=hat p z k c hz hk
        rw [eaddr] at hcv
        have hr:=hS.rel r0 row info i y _ c cv hrow a2 hy hp hcv
        have hcl:c.clean=true:=ZdR (cleanL_at c1 (List.mem_of_getElem? hz)) k c hk
        exact (ZaJ hr hcl).mono k2)
      rwa [l1] at hv
     ·simp at h
    ·simp at h
   ·simp at h
  ·simp at h
 ·rename_i es ys i j
  split at h
  ·rename_i q hq
   split at h
   ·rename_i y hy
    split at h
    ·rename_i xs hxs
     split at h
     ·rename_i hc
      obtain ⟨c1,c2,c3⟩:=hc
      simp only [Option.some.injEq] at h;subst h
      refine ⟨rfl,?_⟩
      have hd:=Zdo hx
      generalize hpv:xv=pv at *
      cases hd with
      | eptr _ _ _ _ b off h1 h2 h3 =>
       obtain ⟨l1,l2⟩:=ZdS hxs
       obtain ⟨o1,o2⟩:=h1 i y hy
       have hat:∀ (p:Nat) z (k:Nat) c,xs[p]? = some z->z.cells[k]? = some c->y.cells[j+p*q.size+k]? = some c:=fun p z k c hz hk=>ZgC o2 (l2 p z hz) hk
       refine ⟨S.β,S.w,_,hS,Ext.refl S,.data _ _ ?_,Zfr hu hq S.w⟩
       have eaddr:∀ p k:Nat,off+i*es+j+p*q.size+k=off+i*es+(j+p*q.size+k):=fun p k=>by omega
       have hv:=DRel.vec (S:=S) true q.size xs b (off+i*es+j) n
        (fun p z hz=>⟨mp_okC c3 p z hz,List.all_eq_true.2 fun c hc=>by
         obtain ⟨k,hk⟩:=List.getElem?_of_mem hc
         exact List.all_eq_true.1 o2 c (List.mem_of_getElem? (hat p z k c hz hk))⟩) (fun _=>l1.symm) (Nat.le_of_eq l1)
        (fun p z k c hz hk=>by rw [eaddr];exact h2 i y _ c hy (hat p z k c hz hk))
        (fun p z k c cv hz hk hcv=>by rw [eaddr] at hcv;exact h3 i y _ c cv hy (hat p z k c hz hk) hcv)
       rwa [l1] at hv
     ·simp at h
    ·simp at h
   ·simp at h
  ·simp at h
 ·simp at h
theorem app_zero {t X ty e:TypeId} {i:TypeInfo} {z:Value} {kX k:IntKind} {l:Int} {w:World} (ht:(P ()).underlying t=some (.slice e)) (hX:(P ()).underlying X=some (.int kX)) (hi:(P ()).info? e=some i) (hz:i.zero=some z)
  (h0:0<l) (hs:0<i.size) (hb:0<i.bytes) (hsz:l.toNat*i.bytes<=1099511627776) :
  (Builtin.append_ #[t,X] ty #[.slice none 0 0,.int k l]).run (P ()) w = .ok (.slice (some ⟨w.heap.size,0,none⟩) l.toNat (grownCap w l.toNat 0 e))
   (w.drew.alloc (.cells (Builtin.zeroCells z.cells l.toNat++Builtin.zeroCells z.cells (grownCap w l.toNat 0 e-l.toNat)) e)):=by
 obtain ⟨m,rfl⟩:∃ m:Nat,l=(m:Int):=⟨l.toNat,by omega⟩
 simp only [Int.toNat_natCast] at hsz ⊢
 have hm:0<m:=by omega
 have hle:m<=m*i.bytes:=Nat.le_mul_of_pos_right _ hb
 have hw:IntKind.i64.wrap (m:Int)=m:=w64 _ (by omega)
 have h1:¬ ((m:Int)<0):=by omega
 have h2:¬ ((281474976710656:Int)<(m:Int)*(i.bytes:Int)):=by
  have:((m*i.bytes:Nat):Int)=(m:Int)*(i.bytes:Int):=by simp
  omega
 have h63:¬ ((9223372036854775807:Int)<(m:Int)):=by omega
 have hne:¬ (m=0):=by omega
 have hms:¬ (m*i.size=0):=by
  have:=Nat.mul_pos hm hs;omega
 have h48:=growslice_fits (need:=m) (old:=0) (bytes:=i.bytes) (by omega) (by omega)
 have h48':¬ (281474976710656<Builtin.nextslicecap m 0*i.bytes):=by omega
 simp [Builtin.append_,run_underlying ht,run_underlying hX,ZaA hi,ZcD hi,zeroValue,hz,asInt,asIntOf,hw,h1,h2,hne,hms,h63,h48',Question.forced,Builtin.firstCells,newRow,grownCap]
theorem appendZ_made {S:St} (hS:HeapOk S) {T X ty:TypeId} {kX:IntKind} {s x:AV} {sv xv:Value} {r:SR} (hs:Rel S s sv) (hx:Rel S x xv) (hX:(P ()).underlying X=some (.int kX)) (h:ZdX P S.L T s x=some r) (hA:∀ b ∈ r.asm,b=true) :
  r.calls=[]/\Made S r.v (r.L'.getD S.L) ((Builtin.append_ #[T,X] ty #[sv,xv]).run (P ()) S.w):=by
 unfold ZdX at h
 split at h
 ·rename_i e k l hu
  split at h
  ·rename_i i hi
   split at h
   ·rename_i z0 hz
    split at h
    ·rename_i hc
     obtain ⟨c1,c2,c3,c4,c5,c6⟩:=hc
     simp only [Option.some.injEq] at h;subst h
     simp only at hA
     refine ⟨rfl,?_⟩
     have h0:0<l:=alld hA (p:=0<l) (by simp)
     have hsz:l.toNat*i.bytes<=1099511627776:=alld hA (by simp)
     rw [ZaM hs,ZaH hx]
     rw [app_zero hu hX hi hz h0 c1 c2 hsz]
     have hf:=Ze8 (S:=S) (n:=l.toNat) c4 c3 c5 c6
     have:=ZeI (e:=e) hS hz (by rw [hz];simpa using c3) hf l.toNat 0 (by simp)
     simpa using this
    ·simp at h
   ·simp at h
  ·simp at h
 ·simp at h
end
end Go.Av

namespace Go.Av
open Go.RowKit
section
variable {P:Unit->Program}
theorem ZaV {S:St} {v:AV} {L':Heap} {s:Sem Value} (h:Made S v L' (s.run (P ()) S.w)):Done S v L' ((do pure (Next.value (<- s)):Sem Next).run (P ()) S.w):=by
 obtain ⟨β',w',cv,h1,h2,h3,h4⟩:=h
 exact ⟨β',w',cv,h1,h2,h3,.inl (by simp [h4])⟩
theorem ZaS {S:St} (hS:HeapOk S) {v:AV} {s:Sem Value} (h:∃ vv,s.run (P ()) S.w = .ok vv S.w/\Rel S v vv):Done S v S.L ((do pure (Next.value (<- s)):Sem Next).run (P ()) S.w):=by
 obtain ⟨vv,h1,h2⟩:=h
 exact Zbr hS h2 (by simp [h1])
def ChainTrue (ρc:Operand->Value) (ex:Za4):Prop:=∀ x ∈ ex,ρc (.tmp x.1) = .bool x.2
structure CallLeft (P:Unit->Program) (inl:FuncId->Bool) (S:St) (r:SR) (ρc:Operand->Value) (o:Oper) (g:FuncId) (args:List AV) (cargs:List Value):Prop where
 run:(execOp ρc o).run (P ()) S.w=(callFunc g ⟨cargs⟩).run (P ()) S.w
 rel:RelL S args cargs
 call:∃ call,ZeF inl call S.L g args=some r
theorem Za2 {α:Type} {a:Array α} {l:List α} (h:a.toList=l):a=⟨l⟩:=by
 subst h;rfl
theorem bopt {S:St} {ρ:Operand->AV} {ρc:Operand->Value} (hρ:∀ x,Rel S (ρ x) (ρc x)) (x:Option Operand):BRel S (x.map ρ) (x.map ρc):=by
 cases x with
 | none=>exact .none
 | some x=>exact .some _ _ (hρ x)
theorem builtin_step {S:St} (hS:HeapOk S) {inl:FuncId->Bool} {call:Zax} {ρ:Operand->AV} {ρc:Operand->Value} {o:Oper} {c:Call} {b:Builtin} {r:SR} (hρ:∀ x,Rel S (ρ x) (ρc x))
  (ho:o.op = .call c) (hb:c.callee = .builtin b) (h:Zbu P inl call ρ S.L c=some r) (hA:∀ b ∈ r.asm,b=true) :
  r.calls=[]/\Done S r.v (r.L'.getD S.L) ((execOp ρc o).run (P ()) S.w):=by
 have hrun:(execOp ρc o).run (P ()) S.w=(builtin b c.argTypes o.type (c.args.map fun | .const _=>true | _=>false) (c.args.map ρc)).run (P ()) S.w:=by
  simp [execOp,ho,resolve,hb,invoke]
  rfl
 rw [hrun]
 unfold Zbu at h
 rw [hb] at h
 simp only at h
 split at h
 ·rename_i s x T X h1 h2
  have e1:=Za2 h1
  have e2:=Za2 h2
  rw [e1,e2]
  have fin:((∃ e',(P ()).underlying X=some (.slice e'))\/(P ()).underlying X=some .string)->Zcr P S.L T (ρ s) (ρ x)=some r->r.calls=[]/\Done S r.v (r.L'.getD S.L) ((builtin .append ⟨[T,X]⟩ o.type ((⟨[s,x]⟩:Array Operand).map fun | .const _=>true | _=>false) ((⟨[s,x]⟩:Array Operand).map ρc)).run (P ()) S.w):=by
   intro hX h
   obtain ⟨_,k2,k3⟩:=append_made (P:=P) (ty:=o.type) hS (hρ s) (hρ x) hX h hA
   refine ⟨k2,?_⟩
   have:=ZaV k3
   simpa [builtin] using this
  split at h
  ·rename_i e' hX;exact fin (.inl ⟨e',hX⟩) h
  ·rename_i hX;exact fin (.inr hX) h
  ·rename_i kX hX
   obtain ⟨k2,k3⟩:=appendZ_made (P:=P) (ty:=o.type) hS (hρ s) (hρ x) hX h hA
   refine ⟨k2,?_⟩
   have:=ZaV k3
   simpa [builtin] using this
  ·simp at h
 ·rename_i d T rest h1 h2
  have e1:=Za2 h1
  have e2:=Za2 h2
  rw [e1,e2]
  obtain ⟨_,k2,k3⟩:=clear_made (P:=P) (ty:=o.type) (ts:=⟨T::rest⟩) hS (by simp) (hρ d) h hA
  refine ⟨k2,?_⟩
  have:=ZaV k3
  simpa [builtin] using this
 ·rename_i x T rest h1 h2
  have e1:=Za2 h1
  have e2:=Za2 h2
  rw [e1,e2]
  obtain ⟨k1,k2,_,k3⟩:=len_sound (P:=P) (ty:=o.type) (ts:=⟨T::rest⟩) (by simp) (hρ x) h hA
  refine ⟨k2,?_⟩
  rw [k1]
  have:=ZaS hS k3
  simpa [builtin] using this
 ·rename_i x T rest h1 h2
  have e1:=Za2 h1
  have e2:=Za2 h2
  rw [e1,e2]
  unfold ZbE at h
  split at h
  ·rename_i v hv
   simp only [Option.some.injEq] at h;subst h
   have:=ZaS hS (cap_sound (P:=P) (ty:=o.type) (ts:=⟨T::rest⟩) (by simp) (hρ x) hv)
   exact ⟨rfl,by simpa [builtin] using this⟩
  ·simp at h
 ·rename_i tl x xs h1
  have e1:=Za2 h1
  rw [e1]
  unfold ZbE at h
  split at h
  ·rename_i v hv
   simp only [Option.some.injEq] at h;subst h
   have:=ZaS hS (min_sound (P:=P) (ty:=o.type) (ts:=c.argTypes) (hρ x) (RelL.map (l:=xs) hρ) hv)
   exact ⟨rfl,by simpa [builtin] using this⟩
  ·simp at h
 ·rename_i tl x xs h1
  have e1:=Za2 h1
  rw [e1]
  unfold ZbE at h
  split at h
  ·rename_i v hv
   simp only [Option.some.injEq] at h;subst h
   have:=ZaS hS (max_sound (P:=P) (ty:=o.type) (ts:=c.argTypes) (hρ x) (RelL.map (l:=xs) hρ) hv)
   exact ⟨rfl,by simpa [builtin] using this⟩
  ·simp at h
 ·simp at h
theorem value_step {S:St} {inl:FuncId->Bool} {call:Zax} {ρ:Operand->AV} {ρc:Operand->Value} {o:Oper} {c:Call} {f:Operand} {r:SR} (hρ:∀ x,Rel S (ρ x) (ρc x))
  (ho:o.op = .call c) (hf:c.callee = .value f) (h:Zbu P inl call ρ S.L c=some r):∃ g args cargs,CallLeft P inl S r ρc o g args cargs:=by
 unfold Zbu at h
 rw [hf] at h
 simp only at h
 split at h
 ·rename_i g a b hfv
  have hr:=hρ f
  rw [hfv] at hr
  obtain ⟨va,vb,e1,l1,l2,r1,r2⟩:=Zck hr
  refine ⟨g,_,va++c.args.toList.map ρc++vb,?_,?_,_,h⟩
  ·have e2:(⟨va⟩:Array Value)++c.args.map ρc++⟨vb⟩=⟨va++c.args.toList.map ρc++vb⟩:=by
    apply Array.ext';simp
   simp only [execOp,ho,resolve,hf,e1,Deferred.ofValue,Sem.run_bind,Sem.run_pure,Result.andThen_ok,invoke,e2]
  ·exact (RelL.append (RelL.append ⟨l1,r1⟩ (RelL.map hρ)) ⟨l2,r2⟩)
 ·simp at h
theorem Zcy {S:St} (hS:HeapOk S) {x:Option AV} {r:SR} {s:Sem Value} (h:ZbE x=some r) (hs:∀ v,x=some v -> ∃ vv,s.run (P ()) S.w = .ok vv S.w/\Rel S v vv) :
  r.calls=[]/\Done S r.v (r.L'.getD S.L) ((do pure (Next.value (<- s)):Sem Next).run (P ()) S.w):=by
 unfold ZbE at h
 split at h
 ·rename_i v
  simp only [Option.some.injEq] at h;subst h
  exact ⟨rfl,ZaS hS (hs v rfl)⟩
 ·simp at h
theorem step_sound {S:St} (hS:HeapOk S) {inl:FuncId->Bool} {call:Zax} {an:Option Ans} {ρ':Za4->Operand->AV} {ρc:Operand->Value} {o:Oper} {r:SR}
  (hρ:∀ ex,ChainTrue ρc ex -> ∀ x,Rel S (ρ' ex x) (ρc x)) (h:ZaY P inl call an ρ' S.L o=some r) (hA:∀ b ∈ r.asm,b=true) (hQ:∀ q ∈ r.eqs,q) :
  (r.calls=[]/\Done S r.v (r.L'.getD S.L) ((execOp ρc o).run (P ()) S.w)) \/ ∃ g args cargs,CallLeft P inl S r ρc o g args cargs:=by
 have hρ0:∀ x,Rel S (ρ' [] x) (ρc x):=hρ [] (by intro x hx;simp at hx)
 unfold ZaY at h
 simp only at h
 split at h
 ·rename_i x ho
  simp only [Option.some.injEq] at h;subst h
  exact .inl ⟨rfl,Zbr hS (hρ0 x) (by simp [execOp,ho])⟩
 ·rename_i x ho
  simp only [Option.some.injEq] at h;subst h
  exact .inl ⟨rfl,Zbr hS (hρ0 x) (by simp [execOp,ho])⟩
 ·rename_i c a b ho
  have hex:∀ t,ρc c = .bool t->(execOp ρc o).run (P ()) S.w = .ok (.value (if t then ρc a else ρc b)) S.w:=by
   intro t ht
   simp [execOp,ho,ht,asBool]
  left
  split at h
  ·rename_i d
   unfold ZbE at h
   split at h
   ·rename_i v hv
    simp only [Option.some.injEq] at h;subst h
    obtain ⟨t,e1,e2⟩:=ZgB (av:=ρc a) (bv:=ρc b) (hρ0 (.tmp d)) (fun e=>hρ [(d,true)] (by intro x hx;simp at hx;subst hx;exact e) a) (fun e=>hρ [(d,false)] (by intro x hx;simp at hx;subst hx;exact e) b) hv
    exact ⟨rfl,Zbr hS e2 (hex t e1)⟩
   ·simp at h
  ·unfold ZbE at h
   split at h
   ·rename_i v hv
    simp only [Option.some.injEq] at h;subst h
    obtain ⟨t,e1,e2⟩:=ZgB (hρ0 c) (fun _=>hρ0 a) (fun _=>hρ0 b) hv
    exact ⟨rfl,Zbr hS e2 (hex t e1)⟩
   ·simp at h
 ·rename_i T ho
  split at h
  ·rename_i z hz
   obtain ⟨zv,e1,e2⟩:=ZdY S hz
   obtain ⟨_,_,k3,L',k4,k5⟩:=box_made (P:=P) (T:=T) hS e2 h
   refine .inl ⟨k3,?_⟩
   rw [k4]
   have:(execOp ρc o).run (P ()) S.w=(do pure (Next.value (<- (newVar T zv >>= fun a=>pure (Value.pointer (some a)):Sem Value))):Sem Next).run (P ()) S.w:=by
    simp [execOp,ho,Instr.alloc,e1]
   rw [this]
   exact ZaV k5
  ·simp at h
 ·rename_i T x ho
  obtain ⟨_,_,k3,L',k4,k5⟩:=box_made (P:=P) (T:=T) hS (hρ0 x) h
  refine .inl ⟨k3,?_⟩
  rw [k4]
  have:(execOp ρc o).run (P ()) S.w=(do pure (Next.value (<- (newVar T (ρc x) >>= fun a=>pure (Value.pointer (some a)):Sem Value))):Sem Next).run (P ()) S.w:=by
   simp [execOp,ho,Instr.box]
  rw [this]
  exact ZaV k5
 ·rename_i T parts ho
  have:=Zcy (P:=P) hS (s:=Instr.build T (parts.map fun (i,x)=>(i,ρc x))) h (fun v hv=>build_sound hρ0 hv)
  exact .inl (by simpa [execOp,ho] using this)
 ·rename_i T len parts ho
  obtain ⟨_,k2,k3⟩:=ZfZ (P:=P) hS hρ0 h hA
  exact .inl ⟨k2,by simpa [execOp,ho] using ZaV k3⟩
 ·rename_i T a ho
  obtain ⟨k1,k2,k3⟩:=ZgF (P:=P) hS (hρ0 a) h hA hQ
  refine .inl ⟨k2,?_⟩
  rw [k1]
  simpa [execOp,ho] using ZaS hS k3
 ·rename_i T a x ho
  obtain ⟨k1,k2,L',β',w',k3,k4,k5,k6⟩:=store_made (P:=P) hS (hρ0 a) (hρ0 x) h hA hQ
  refine .inl ⟨k2,?_⟩
  rw [k1,k3]
  exact ⟨β',w',undef,k4,k5,.tup [] [] rfl (by simp),.inr ⟨by simp [execOp,ho,k6],rfl⟩⟩
 ·rename_i x ho
  have hx:=hρ0 x
  split at h
  ·rename_i r' ver i j hv
   simp only [Option.some.injEq] at h;subst h
   rw [hv] at hx
   obtain ⟨⟨a,e⟩,_⟩:=Ze0 hx
   exact .inl ⟨rfl,Zbr hS hx (by simp [execOp,ho,e])⟩
  ·rename_i es xs i j hv
   simp only [Option.some.injEq] at h;subst h
   rw [hv] at hx
   have hd:=Zdo hx
   generalize hpv:ρc x=pv at *
   cases hd with
   | eptr _ _ _ _ b off h1 h2 h3=>exact .inl ⟨rfl,Zbr hS hx (by simp [execOp,ho,hpv])⟩
  ·simp at h
 ·rename_i op T x y yT ho
  obtain ⟨k1,k2,vv,k3,k4⟩:=bin_sound (P:=P) (xo:=x) (yo:=y) (hρ0 x) (hρ0 y) h hA
  refine .inl ⟨k2,?_⟩
  rw [k1]
  have:=ZaS (P:=P) hS ⟨vv,k3,k4⟩
  simpa [execOp,ho] using this
 ·rename_i op T x ho
  have:=Zcy (P:=P) hS h (fun v hv=>un_sound (hρ0 x) hv)
  exact .inl (by simpa [execOp,ho] using this)
 ·rename_i src dst x ho
  obtain ⟨k1,k2,vv,k3,k4⟩:=convS_sound (P:=P) (hρ0 x) h hA
  refine .inl ⟨k2,?_⟩
  rw [k1]
  have:=ZaS (P:=P) hS ⟨vv,k3,k4⟩
  simpa [execOp,ho] using this
 ·rename_i fn first captured ho
  simp only [Option.some.injEq] at h;subst h
  refine .inl ⟨rfl,Zbr hS (cv:=.func fn ⟨first.toList.map ρc⟩ ⟨captured.toList.map ρc⟩) ?_ ?_⟩
  ·exact .func fn _ _ _ _ (RelL.map hρ0).1 (RelL.map hρ0).1 (RelL.map hρ0).2 (RelL.map hρ0).2
  ·have e1:first.map ρc=⟨first.toList.map ρc⟩:=by apply Array.ext';simp
   have e2:captured.map ρc=⟨captured.toList.map ρc⟩:=by apply Array.ext';simp
   simp [execOp,ho,Instr.makeFunc,e1,e2]
 ·rename_i T l c ho
  obtain ⟨_,k2,L',k3,k4⟩:=make_made (P:=P) hS (hρ0 l) (hρ0 c) h hA
  refine .inl ⟨k2,?_⟩
  rw [k3]
  simpa [execOp,ho] using ZaV k4
 ·rename_i T x lo hi mx ho
  split at h
  ·rename_i n e hu
   split at h
   ·rename_i hn
    simp only [Bool.and_eq_true,Option.isNone_iff_eq_none] at hn
    obtain ⟨rfl,rfl,rfl⟩:=hn
    obtain ⟨k2,k3⟩:=sliceArr_made (P:=P) hS hu (hρ0 x) h hA
    exact .inl ⟨k2,by simpa [execOp,ho] using ZaV k3⟩
   ·simp at h
  ·obtain ⟨k1,k2,_,k3⟩:=slice_sound (P:=P) hS (hρ0 x) (bopt hρ0 lo) (bopt hρ0 hi) (bopt hρ0 mx) h hA
   refine .inl ⟨k2,?_⟩
   rw [k1]
   simpa [execOp,ho] using ZaS hS k3
 ·rename_i T x f ho
  have:=Zcy (P:=P) hS h (fun v hv=>ZfR (hρ0 x) hv)
  exact .inl (by simpa [execOp,ho] using this)
 ·rename_i T x f ho
  have:=Zcy (P:=P) hS h (fun v hv=>field_sound (hρ0 x) hv)
  exact .inl (by simpa [execOp,ho] using this)
 ·rename_i T x i ho
  obtain ⟨k1,k2,_,k3⟩:=ZfJ (P:=P) hS (hρ0 x) (hρ0 i) h hA
  refine .inl ⟨k2,?_⟩
  rw [k1]
  simpa [execOp,ho] using ZaS hS k3
 ·rename_i T x i ho
  obtain ⟨k1,k2,_,k3⟩:=index_sound (P:=P) (hρ0 x) (hρ0 i) h hA
  refine .inl ⟨k2,?_⟩
  rw [k1]
  simpa [execOp,ho] using ZaS hS k3
 ·rename_i T q ho
  split at h
  ·rename_i hq
   simp only [Option.isNone_iff_eq_none] at hq
   subst hq
   obtain ⟨k2,L',k3,k4⟩:=makeMap_made (P:=P) hS h
   refine .inl ⟨k2,?_⟩
   rw [k3]
   simpa [execOp,ho] using ZaV k4
  ·simp at h
 ·rename_i T m k ok ho
  obtain ⟨k1,k2,k3⟩:=lookup_sound (P:=P) hS (hρ0 m) (hρ0 k) h hA hQ
  refine .inl ⟨k1,?_⟩
  rw [k2]
  simpa [execOp,ho] using ZaS hS k3
 ·rename_i T m k x ho
  obtain ⟨k1,k2,L',β',w',k3,k4,k5,k6⟩:=Zf9 (P:=P) hS (hρ0 m) (hρ0 k) (hρ0 x) h hA
  refine .inl ⟨k1,?_⟩
  rw [k2,k3]
  exact ⟨β',w',undef,k4,k5,.tup [] [] rfl (by simp),.inr ⟨by simp [execOp,ho,k6],rfl⟩⟩
 ·rename_i T m k ho
  obtain ⟨k2,L',k3,k4⟩:=mapEntry_made (P:=P) hS (hρ0 m) (hρ0 k) h hA hQ
  refine .inl ⟨k2,?_⟩
  rw [k3]
  simpa [execOp,ho] using ZaV k4
 ·rename_i T m i x ho
  obtain ⟨k1,k2,L',β',w',k3,k4,k5,k6⟩:=ZfT (P:=P) (T:=T) hS (hρ0 m) (hρ0 i) (hρ0 x) h hA
  refine .inl ⟨k1,?_⟩
  rw [k2,k3]
  exact ⟨β',w',undef,k4,k5,.tup [] [] rfl (by simp),.inr ⟨by simp [execOp,ho,k6],rfl⟩⟩
 ·rename_i t i ho
  have ht:=hρ0 t
  split at h
  ·rename_i vs hv
   rw [hv] at ht
   have:=Zcy (P:=P) hS h (fun v hv=>extract_sound ht hv)
   exact .inl (by simpa [execOp,ho] using this)
  ·simp at h
 ·rename_i c ho
  have key:∀ call',Zbu P inl call' (ρ' []) S.L c=some r->(r.calls=[]/\Done S r.v (r.L'.getD S.L) ((execOp ρc o).run (P ()) S.w)) \/ ∃ g args cargs,CallLeft P inl S r ρc o g args cargs:=by
   intro call' h
   cases hc:c.callee with
   | value f=>exact .inr (value_step hρ0 ho hc h)
   | builtin b=>exact .inl (builtin_step hS hρ0 ho hc h hA)
   | invoke x m=>simp [Zbu,hc] at h
  split at h
  ·exact key _ h
  ·exact key _ h
 ·simp at h
end
end Go.Av

namespace Go.Av
open Go.RowKit
theorem Zbf (f:Nat->Nat):∀ l:List AV,renL f l=l.map (renA f)
 | []=>rfl
 | c::l=>by rw [renL,Zbf f l];rfl
theorem Zby {l:List AV} {i:Nat} {c:AV} (h:l[i]? = some c) {r:Nat} (hr:r ∈ rowsA c):r ∈ rowsL l:=by
 induction l generalizing i with
 | nil=>simp at h
 | cons x l ih =>
  simp only [rowsL,List.mem_append]
  cases i with
  | zero=>simp at h;subst h;exact .inl hr
  | succ i=>exact .inr (ih (by simpa using h))
theorem Zcx {f:Nat->Nat} {l:List AV} (h:∀ (i:Nat) c,l[i]? = some c->renA f c=c):renL f l=l:=by
 rw [Zbf]
 apply List.ext_getElem?
 intro i
 rw [List.getElem?_map]
 cases hc:l[i]? with
 | none=>rfl
 | some c=>simp [h i c hc]
theorem dren {S:St} {a:AV} {v:Value} (h:DRel S a v) (f:Nat->Nat):renA f a=a:=by
 induction h with
 | agg cs vs hl _ ih =>
  have:renL f cs=cs:=Zcx fun i c hc=>by
   have hi:i<vs.length:=by rw [<- hl];exact (List.getElem?_eq_some_iff.1 hc).1
   exact ih i c _ hc (List.getElem?_eq_getElem hi)
  rw [renA,this]
 | tup cs vs hl _ ih =>
  have:renL f cs=cs:=Zcx fun i c hc=>by
   have hi:i<vs.length:=by rw [<- hl];exact (List.getElem?_eq_some_iff.1 hc).1
   exact ih i c _ hc (List.getElem?_eq_getElem hi)
  rw [renA,this]
 | func fn a b va vb ha hb _ _ ih1 ih2 =>
  have h1:renL f a=a:=Zcx fun i c hc=>by
   have hi:i<va.length:=by rw [<- ha];exact (List.getElem?_eq_some_iff.1 hc).1
   exact ih1 i c _ hc (List.getElem?_eq_getElem hi)
  have h2:renL f b=b:=Zcx fun i c hc=>by
   have hi:i<vb.length:=by rw [<- hb];exact (List.getElem?_eq_some_iff.1 hc).1
   exact ih2 i c _ hc (List.getElem?_eq_getElem hi)
  rw [renA,h1,h2]
 | _=>rfl
theorem Zfu {S S':St} {f:Nat->Nat} {D:Nat->Prop}
  (hrow:∀ (r:Nat) row info,D r->S.L[r]? = some row->S.β[r]? = some info -> ∃ row',S'.L[f r]? = some row'/\S'.β[f r]? = some info/\row'.ver=row.ver/\row'.elems.length=row.elems.length)
  (hd:∀ a v,DRel S a v->DRel S' a v) {a:AV} {v:Value} (h:Rel S a v):(∀ r ∈ rowsA a,D r)->Rel S' (renA f a) v:=by
 have get:∀ {l:List AV} {i:Nat} {c:AV},(renL f l)[i]? = some c -> ∃ c0,l[i]? = some c0/\c=renA f c0:=by
  intro l i c h
  rw [Zbf,List.getElem?_map] at h
  obtain ⟨c0,h1,h2⟩:=Option.map_eq_some_iff.1 h
  exact ⟨c0,h1,h2.symm⟩
 have len:∀ l:List AV,(renL f l).length=l.length:=fun l=>by rw [Zbf];simp
 induction h with
 | any v=>exact fun _ => .any v
 | data a v h=>intro _;rw [dren h f];exact .data a v (hd a v h)
 | agg cs vs hl _ ih =>
  intro hD
  refine .agg _ vs ((len cs).trans hl) fun i c v hc hv => ?_
  obtain ⟨c0,h1,rfl⟩:=get hc
  exact ih i c0 v h1 hv fun r hr=>hD r (by simp only [rowsA];exact Zby h1 hr)
 | tup cs vs hl _ ih =>
  intro hD
  refine .tup _ vs ((len cs).trans hl) fun i c v hc hv => ?_
  obtain ⟨c0,h1,rfl⟩:=get hc
  exact ih i c0 v h1 hv fun r hr=>hD r (by simp only [rowsA];exact Zby h1 hr)
 | func fn a b va vb ha hb _ _ ih1 ih2 =>
  intro hD
  refine .func fn _ _ va vb ((len a).trans ha) ((len b).trans hb) (fun i c v hc hv => ?_) (fun i c v hc hv => ?_)
  ·obtain ⟨c0,h1,rfl⟩:=get hc
   exact ih1 i c0 v h1 hv fun r hr=>hD r (by simp only [rowsA,List.mem_append];exact .inl (Zby h1 hr))
  ·obtain ⟨c0,h1,rfl⟩:=get hc
   exact ih2 i c0 v h1 hv fun r hr=>hD r (by simp only [rowsA,List.mem_append];exact .inr (Zby h1 hr))
 | mapr r row info v h0 h1 h2 h3 =>
  intro hD
  obtain ⟨row',k1,k2,_,_⟩:=hrow r row info (hD r (by simp [rowsA])) h2 h3
  exact .mapr (f r) row' info v h0 h1 k1 k2
 | ptr r ver i j row info v h0 h1 h2 h3 h4 =>
  intro hD
  obtain ⟨row',k1,k2,k3,_⟩:=hrow r row info (hD r (by simp [rowsA])) h1 h2
  exact .ptr (f r) ver i j row' info v h0 k1 k2 (by rw [k3];exact h3) (by rw [k3];exact h4)
 | row r ver row info v h0 h1 h2 h3 h4 =>
  intro hD
  obtain ⟨row',k1,k2,k3,k4⟩:=hrow r row info (hD r (by simp [rowsA])) h1 h2
  exact .row (f r) ver row' info v h0 k1 k2 (by rw [k3];exact h3) (by rw [k3,k4];exact h4)
 | ref r ver lo len' row info v h0 h1 h2 h3 h4 =>
  intro hD
  obtain ⟨row',k1,k2,k3,k4⟩:=hrow r row info (hD r (by simp [rowsA])) h1 h2
  exact .ref (f r) ver lo len' row' info v h0 k1 k2 (by rw [k3];exact h3) (by rw [k3,k4];exact h4)
end Go.Av

namespace Go.Av
open Go.RowKit
theorem Zbl:∀ rs:List Nat,ZfC rs=true ↔ rs.Nodup
 | []=>by simp [ZfC]
 | r::rs=>by simp [ZfC,Zbl rs]
theorem ZaE {L:Heap}:∀ {rs:List Nat} {rows:List Row},ZaF L rs=some rows->rows.length=rs.length /\ ∀ (j:Nat) r,rs[j]? = some r -> ∃ row,L[r]? = some row/\rows[j]? = some row
 | [],rows,h=>by simp only [ZaF,Option.some.injEq] at h;subst h;simp
 | r::rs,rows,h=>by
  simp only [ZaF] at h
  split at h
  ·rename_i row l h1 h2
   simp only [Option.some.injEq] at h;subst h
   obtain ⟨k1,k2⟩:=ZaE h2
   refine ⟨by simp [k1],fun j q hj => ?_⟩
   cases j with
   | zero=>simp at hj;subst hj;exact ⟨row,h1,rfl⟩
   | succ j=>obtain ⟨row',m1,m2⟩:=k2 j q (by simpa using hj);exact ⟨row',m1,by simpa using m2⟩
  ·simp at h
theorem Zbz:∀ {rs:List Nat} {r:Nat},r ∈ rs->rs[Zar rs r]? = some r
  | x::rs,r,h=>by
    simp only [Zar]
    cases hx:x==r with
    | true => have:x = r:=by simpa using hx
              subst this;rfl
    | false =>
      have hne:x ≠ r:=by simpa using hx
      have:r ∈ rs:=by
        rcases List.mem_cons.1 h with h | h
        · exact absurd h.symm hne
        · exact h
      simpa using Zbz this
theorem ZcJ:∀ {rs:List Nat},rs.Nodup -> ∀ {j r:Nat},rs[j]? = some r->Zar rs r=j
 | [],_,j,r,h=>by simp at h
 | x::rs,hnd,0,r,h=>by
  simp at h;subst h
  simp [Zar]
 | x::rs,hnd,j+1,r,h=>by
  obtain ⟨n1,n2⟩:=List.nodup_cons.1 hnd
  have h':rs[j]? = some r:=by simpa using h
  have hm:r ∈ rs:=List.mem_of_getElem? h'
  have hx:(x==r)=false:=by simpa using fun e:x=r=>n1 (e ▸ hm)
  simp only [Zar,hx,cond_false]
  rw [ZcJ n2 h']
theorem ZaI {α:Type}:∀ (rs:List Nat) (l xs:List α),(ZcS l rs xs).length=l.length
 | [],l,xs=>by cases xs <;> rfl
 | r::rs,l,[]=>rfl
 | r::rs,l,x::xs=>by rw [ZcS,ZaI rs];simp
theorem ZbF {α:Type}:∀ (rs:List Nat) (l xs:List α) (q:Nat),q ∉ rs->(ZcS l rs xs)[q]? = l[q]?
 | [],l,xs,q,_=>by cases xs <;> rfl
 | r::rs,l,[],q,_=>rfl
 | r::rs,l,x::xs,q,h=>by
  rw [ZcS,ZbF rs _ _ q (fun hm=>h (List.mem_cons_of_mem _ hm)),List.getElem?_set]
  have:r ≠ q:=fun e=>h (by rw [e];exact List.mem_cons_self ..)
  simp [this]
theorem Zdq {α:Type}:∀ (rs:List Nat) (l xs:List α),rs.Nodup -> ∀ (j r:Nat) (x:α),rs[j]? = some r->xs[j]? = some x->r<l.length->(ZcS l rs xs)[r]? = some x
 | [],l,xs,_,j,r,x,h,_,_=>by simp at h
 | r0::rs,l,[],_,j,r,x,_,h,_=>by simp at h
 | r0::rs,l,x0::xs,hnd,j,r,x,hj,hx,hr=>by
  obtain ⟨n1,n2⟩:=List.nodup_cons.1 hnd
  cases j with
  | zero =>
   simp at hj hx;subst hj;subst hx
   rw [ZcS,ZbF rs _ _ _ n1,List.getElem?_set]
   simp [hr]
  | succ j =>
   rw [ZcS]
   exact Zdq rs _ xs n2 j r x (by simpa using hj) (by simpa using hx) (by simpa using hr)
theorem ren_cells (f:Nat->Nat) (a:AV):(renA f a).cells=a.cells.map (renA f):=by
 cases a <;> first | rfl | (simp [renA,AV.cells,Zbf])
theorem ren_plain (f:Nat->Nat) (a:AV):(renA f a).plain=a.plain:=by
 cases a <;> rfl
theorem ren_ok {f:Nat->Nat} {es:Nat} {xs:List AV} (h:Za5 es xs):Za5 es (renL f xs):=by
 intro i x hx
 rw [Zbf,List.getElem?_map] at hx
 obtain ⟨x0,h1,rfl⟩:=Option.map_eq_some_iff.1 hx
 obtain ⟨h2,h3⟩:=h i x0 h1
 rw [ren_cells]
 refine ⟨by simpa using h2,?_⟩
 simp only [List.all_map,List.all_eq_true] at h3 ⊢
 intro c hc
 show (renA f c).plain=true
 rw [ren_plain];exact h3 c hc
theorem ZaL (f:Nat->Nat) (row:Row):(Zak f row).es=row.es/\(Zak f row).ver=row.ver/\(Zak f row).frozen=row.frozen/\(Zak f row).clean=row.clean/\(Zak f row).elems.length=row.elems.length:=by
 unfold Zak
 cases hc:row.clean with
 | true=>simp [hc]
 | false=>simp [Zbf]
theorem cell_refs {row:Row} {i k:Nat} {x c:AV} (hc:row.clean=false) (hx:row.elems[i]? = some x) (hk:x.cells[k]? = some c) {r:Nat} (hr:r ∈ rowsA c):r ∈ ZaC row:=by
 unfold ZaC
 rw [hc]
 refine Zby hx ?_
 cases x with
 | agg cs=>simp only [rowsA];exact Zby (by simpa [AV.cells] using hk) hr
 | _=>cases k with
  | zero=>simp [AV.cells] at hk;subst hk;exact hr
  | succ k=>simp [AV.cells] at hk
theorem ZeZ {S S':St} {f:Nat->Nat} {D:Nat->Prop}
  (hrow:∀ (r:Nat) row info,D r->S.L[r]? = some row->S.β[r]? = some info -> ∃ row',S'.L[f r]? = some row'/\S'.β[f r]? = some info/\row'.ver=row.ver/\row'.elems.length=row.elems.length)
  (hd:∀ a v,DRel S a v->DRel S' a v) {row:Row} (href:∀ r ∈ ZaC row,D r) {cellv:Nat->Nat->Option Value}
  (hrel:∀ (i:Nat) x (k:Nat) c cv,row.elems[i]? = some x->x.cells[k]? = some c->cellv i k=some cv->Rel S c cv)
  (hcl:row.clean=true -> ∀ (i:Nat) x (k:Nat) c cv,row.elems[i]? = some x->x.cells[k]? = some c->cellv i k=some cv->DRel S c cv) :
  (∀ (i:Nat) x (k:Nat) c cv,(Zak f row).elems[i]? = some x->x.cells[k]? = some c->cellv i k=some cv->Rel S' c cv) /\
  ((Zak f row).clean=true -> ∀ (i:Nat) x (k:Nat) c cv,(Zak f row).elems[i]? = some x->x.cells[k]? = some c->cellv i k=some cv->DRel S' c cv):=by
 unfold Zak
 cases hc:row.clean with
 | true =>
  simp only [cond_true]
  refine ⟨fun i x k c cv hx hk hcv => .data _ _ (hd _ _ (hcl hc i x k c cv hx hk hcv)),fun _ i x k c cv hx hk hcv=>hd _ _ (hcl hc i x k c cv hx hk hcv)⟩
 | false =>
  simp only [cond_false]
  refine ⟨fun i x k c cv hx hk hcv => ?_,fun h=>by simp at h⟩
  rw [Zbf,List.getElem?_map] at hx
  obtain ⟨x0,h1,rfl⟩:=Option.map_eq_some_iff.1 hx
  rw [ren_cells,List.getElem?_map] at hk
  obtain ⟨c0,h2,rfl⟩:=Option.map_eq_some_iff.1 hk
  exact Zfu hrow hd (hrel i x0 k c0 cv h1 h2 hcv) fun r hr=>href r (cell_refs hc h1 h2 hr)
theorem map_over {S S':St} {f:Nat->Nat} {D:Nat->Prop}
  (hrow:∀ (r:Nat) row info,D r->S.L[r]? = some row->S.β[r]? = some info -> ∃ row',S'.L[f r]? = some row'/\S'.β[f r]? = some info/\row'.ver=row.ver/\row'.elems.length=row.elems.length)
  (hd:∀ a v,DRel S a v->DRel S' a v) {row:Row} {b:Nat} (hw:S'.w.heap[b]? = S.w.heap[b]?) (href:∀ r ∈ ZaC row,D r) (h:MapOk S row b):MapOk S' (Zak f row) b:=by
 obtain ⟨es,h1,h2,h3,h4⟩:=h
 obtain ⟨s1,_,_,s4,s5⟩:=ZaL f row
 refine ⟨es,hw.trans h1,by rw [s5];exact h2,by rw [s1];exact h3,fun i e x he hx => ?_⟩
 rw [s4]
 cases hc:row.clean with
 | true =>
  have e0:Zak f row=row:=by simp [Zak,hc]
  rw [e0] at hx
  obtain ⟨g1,k,n,v,g2,g3,g4,g5,g6⟩:=h4 i e x he hx
  have:=hd _ _ (g6 hc)
  exact ⟨g1,k,n,v,g2,g3,g4,.data _ _ this,fun _=>this⟩
 | false =>
  have e0:(Zak f row).elems=renL f row.elems:=by simp [Zak,hc]
  rw [e0,Zbf,List.getElem?_map] at hx
  obtain ⟨x0,hx0,rfl⟩:=Option.map_eq_some_iff.1 hx
  obtain ⟨g1,k,n,v,rfl,g3,g4,g5,g6⟩:=h4 i e x0 he hx0
  refine ⟨g1,k,n,renA f v,rfl,g3,by rw [ren_plain];exact g4,?_,fun h=>by cases h⟩
  exact Zfu hrow hd g5 fun r hr=>href r (cell_refs (k:=1) hc hx0 rfl hr)
def subβ (β:List BI) (rs:List Nat):List BI:=rs.map fun r=>β.getD r ⟨0,0,0,0,false⟩
def Za7 (S:St) (rs:List Nat) (b off:Nat):Prop:=S.w.heap.size<=b\/(∃ (r:Nat) (info:BI),r ∈ rs/\S.β[r]? = some info/\info.blk=b)\/Imm S b off
theorem Zfn {S:St} (hS:HeapOk S) {rs:List Nat} {rows:List Row} (hrows:ZaF S.L rs=some rows) (hnd:rs.Nodup) (hcl:∀ row ∈ rows,∀ r ∈ ZaC row,r ∈ rs) :
  HeapOk ⟨S.base,Za7 S rs,rows.map (Zak (Zar rs)),subβ S.β rs,S.w⟩ /\
  (∀ b off,Imm S b off->Imm ⟨S.base,Za7 S rs,rows.map (Zak (Zar rs)),subβ S.β rs,S.w⟩ b off) /\
  ∀ a v,Rel S a v->(∀ r ∈ rowsA a,r ∈ rs)->Rel ⟨S.base,Za7 S rs,rows.map (Zak (Zar rs)),subβ S.β rs,S.w⟩ (renA (Zar rs) a) v:=by
 obtain ⟨hl,hg⟩:=ZaE hrows
 have hβ:∀ (j:Nat) info,(subβ S.β rs)[j]? = some info -> ∃ r row,rs[j]? = some r/\S.L[r]? = some row/\S.β[r]? = some info/\rows[j]? = some row:=by
  intro j info h
  unfold subβ at h
  rw [List.getElem?_map] at h
  obtain ⟨r,h1,rfl⟩:=Option.map_eq_some_iff.1 h
  obtain ⟨row,h2,h3⟩:=hg j r h1
  have hlt:r<S.β.length:=by rw [<- hS.len];exact Zah h2
  exact ⟨r,row,h1,h2,by simp [hlt],h3⟩
 have hL:∀ (j:Nat) row',(rows.map (Zak (Zar rs)))[j]? = some row' -> ∃ row,rows[j]? = some row/\row'=Zak (Zar rs) row:=by
  intro j row' h
  rw [List.getElem?_map] at h
  obtain ⟨row,h1,rfl⟩:=Option.map_eq_some_iff.1 h
  exact ⟨row,h1,rfl⟩
 have himm:∀ b off,Imm S b off->Imm ⟨S.base,Za7 S rs,rows.map (Zak (Zar rs)),subβ S.β rs,S.w⟩ b off:=by
  rintro b off ⟨h1,h2⟩
  ·refine ⟨.inr (.inr ⟨h1,h2⟩),fun j info hj he => ?_⟩
   obtain ⟨r,row,k1,k2,k3,k4⟩:=hβ j info hj
   obtain ⟨row0,m1,m2,m3,m4⟩:=h2 r info k3 he
   rw [k2] at m1
   simp only [Option.some.injEq] at m1;subst m1
   obtain ⟨_,_,s3,_,s5⟩:=ZaL (Zar rs) row
   exact ⟨Zak (Zar rs) row,by show (rows.map _)[j]? = _;rw [List.getElem?_map,k4];rfl,by rw [s3];exact m2,m3,by rw [s5];exact m4⟩
 have hd:∀ a v,DRel S a v->DRel ⟨S.base,Za7 S rs,rows.map (Zak (Zar rs)),subβ S.β rs,S.w⟩ a v:=fun a v h=>DRel.shift (S:=S) (S':=⟨S.base,Za7 S rs,rows.map (Zak (Zar rs)),subβ S.β rs,S.w⟩) rfl (fun b off hi _=>himm b off hi) h
 have hrow:∀ (r:Nat) row info,r ∈ rs->S.L[r]? = some row->S.β[r]? = some info ->
   ∃ row',(rows.map (Zak (Zar rs)))[Zar rs r]? = some row'/\(subβ S.β rs)[Zar rs r]? = some info/\row'.ver=row.ver/\row'.elems.length=row.elems.length:=by
  intro r row info hr h1 h2
  have hp:=Zbz hr
  obtain ⟨row0,k1,k2⟩:=hg _ r hp
  rw [h1] at k1
  simp only [Option.some.injEq] at k1;subst k1
  obtain ⟨_,s2,_,_,s5⟩:=ZaL (Zar rs) row
  refine ⟨Zak (Zar rs) row,by rw [List.getElem?_map,k2];rfl,?_,s2,s5⟩
  unfold subβ
  rw [List.getElem?_map,hp]
  have hlt:r<S.β.length:=Zah h2
  have h3:=(List.getElem?_eq_some_iff.1 h2).2
  simp [hlt,h3]
 refine ⟨?_,himm,fun a v h hr=>Zfu hrow hd h hr⟩
 have hover:∀ (j:Nat) row' info,(rows.map (Zak (Zar rs)))[j]? = some row'->(subβ S.β rs)[j]? = some info -> ∃ r row,rs[j]? = some r/\S.L[r]? = some row/\S.β[r]? = some info/\row'=Zak (Zar rs) row /\ ∀ q ∈ ZaC row,q ∈ rs:=by
  intro j row' info h1 h2
  obtain ⟨r,row,k1,k2,k3,k4⟩:=hβ j info h2
  obtain ⟨row0,m1,m2⟩:=hL j row' h1
  rw [k4] at m1
  simp only [Option.some.injEq] at m1;subst m1
  exact ⟨r,row,k1,k2,k3,m2,hcl row (List.mem_of_getElem? k4)⟩
 refine ⟨hS.base,by simp [subβ,hl],fun j info h => ?_,fun j j' info info' h h' he => ?_,fun j row' info h1 h2 hm => ?_,fun j row' info h1 h2 hm => ?_,fun j row' h1 => ?_,fun j row' info i x k c cv h1 h2 hx hk hcv => ?_,fun j row' info i x k c cv h1 h2 hc hx hk hcv => ?_,fun j info off h => ?_,fun b off h => .inl h⟩
 ·obtain ⟨r,row,k1,k2,k3,k4⟩:=hβ j info h
  exact hS.blk r info k3
 ·obtain ⟨r,row,k1,k2,k3,k4⟩:=hβ j info h
  obtain ⟨r',row',k1',k2',k3',k4'⟩:=hβ j' info' h'
  have:=hS.inj r r' info info' k3 k3' he
  subst this
  rw [<- ZcJ hnd k1,<- ZcJ hnd k1']
 ·obtain ⟨r,row,k1,k2,k3,rfl,k5⟩:=hover j row' info h1 h2
  exact map_over (S:=S) (S':=⟨S.base,Za7 S rs,rows.map (Zak (Zar rs)),subβ S.β rs,S.w⟩) hrow hd rfl k5 (hS.maps r row info k2 k3 hm)
 ·obtain ⟨r,row,k1,k2,k3,rfl,_⟩:=hover j row' info h1 h2
  obtain ⟨s1,_,_,_,s5⟩:=ZaL (Zar rs) row
  rw [s1,s5]
  exact hS.cells r row info k2 k3 hm
 ·obtain ⟨row,m1,rfl⟩:=hL j row' h1
  have hj:j<rs.length:=by rw [<- hl];exact Zah m1
  obtain ⟨row0,k2,k4⟩:=hg j rs[j] (List.getElem?_eq_getElem hj)
  rw [m1] at k4
  simp only [Option.some.injEq] at k4;subst k4
  have:=hS.elems _ row k2
  unfold Zak
  cases row.clean with
  | true=>exact this
  | false=>exact ren_ok this
 ·obtain ⟨r,row,k1,k2,k3,rfl,k5⟩:=hover j row' info h1 h2
  exact (ZeZ (S:=S) (S':=⟨S.base,Za7 S rs,rows.map (Zak (Zar rs)),subβ S.β rs,S.w⟩) (cellv:=fun i k=>S.w.cell? ⟨info.blk,info.off+i*info.es+k,none⟩) hrow hd k5 (fun i x k c cv hx hk hcv=>hS.rel r row info i x k c cv k2 k3 hx hk hcv)
   (fun hc i x k c cv hx hk hcv=>hS.clean r row info i x k c cv k2 k3 hc hx hk hcv)).1 i x k c cv hx hk hcv
 ·obtain ⟨r,row,k1,k2,k3,rfl,k5⟩:=hover j row' info h1 h2
  exact (ZeZ (S:=S) (S':=⟨S.base,Za7 S rs,rows.map (Zak (Zar rs)),subβ S.β rs,S.w⟩) (cellv:=fun i k=>S.w.cell? ⟨info.blk,info.off+i*info.es+k,none⟩) hrow hd k5 (fun i x k c cv hx hk hcv=>hS.rel r row info i x k c cv k2 k3 hx hk hcv)
   (fun hc i x k c cv hx hk hcv=>hS.clean r row info i x k c cv k2 k3 hc hx hk hcv)).2 hc i x k c cv hx hk hcv
 ·obtain ⟨r,row,k1,k2,k3,k4⟩:=hβ j info h
  exact .inr (.inl ⟨r,info,List.mem_of_getElem? k1,k3,rfl⟩)
end Go.Av

namespace Go.Av
open Go.RowKit
section
variable {S S1:St} {rs ns:List Nat} {rows old new:List Row}
def ZaP (n:Nat) (rs ns:List Nat) (i:Nat):Nat:=bif Nat.blt i rs.length then rs.getD i 0 else n+Zar ns i
theorem ZeH {n i:Nat} (h:i<rs.length):ZaP n rs ns i=rs[i]:=by
 have:Nat.blt i rs.length=true:=by simpa [Nat.blt_eq] using h
 simp [ZaP,this,h]
theorem back_ge {n i:Nat} (h:rs.length<=i):ZaP n rs ns i=n+Zar ns i:=by
 have:Nat.blt i rs.length=false:=by
  cases hb:Nat.blt i rs.length with
  | false=>rfl
  | true=>have:=Nat.blt_eq.mp hb;omega
 simp [ZaP,this]
def Za3 (L:Heap) (rs ns:List Nat) (old new:List Row):Heap:=ZcS L rs (old.map (Zak (ZaP L.length rs ns)))++new.map (Zak (ZaP L.length rs ns))
def ZbC (β β1:List BI) (rs ns:List Nat):List BI:=ZcS β rs (subβ β1 (List.range rs.length))++subβ β1 ns
theorem sub_at {β:List BI} {l:List Nat} {j i:Nat} {info:BI} (h:l[j]? = some i) (hi:β[i]? = some info):(subβ β l)[j]? = some info:=by
 unfold subβ
 obtain ⟨h1,h2⟩:=List.getElem?_eq_some_iff.1 hi
 rw [List.getElem?_map,h]
 simp [h1,h2]
theorem back_in (hS:HeapOk S) (hlen:∀ r ∈ rs,r<S.L.length) (hnd:rs.Nodup) (ho:ZaF S1.L (List.range rs.length)=some old) (hn:ZaF S1.L ns=some new)
  {i:Nat} {row:Row} {info:BI} (hi:i<rs.length\/i ∈ ns) (h1:S1.L[i]? = some row) (h2:S1.β[i]? = some info) :
  (Za3 S.L rs ns old new)[ZaP S.L.length rs ns i]? = some (Zak (ZaP S.L.length rs ns) row)/\(ZbC S.β S1.β rs ns)[ZaP S.L.length rs ns i]? = some info:=by
 obtain ⟨o1,o2⟩:=ZaE ho
 obtain ⟨n1,n2⟩:=ZaE hn
 by_cases hlt:i<rs.length
 ·have hr:(List.range rs.length)[i]? = some i:=by simp [hlt]
  obtain ⟨row0,k1,k2⟩:=o2 i i hr
  rw [h1] at k1
  simp only [Option.some.injEq] at k1;subst k1
  rw [ZeH hlt]
  have hm:rs[i]<S.L.length:=hlen _ (List.getElem_mem hlt)
  have hm2:rs[i]<S.β.length:=by rw [<- hS.len];exact hm
  unfold Za3 ZbC
  rw [List.getElem?_append_left (by rw [ZaI];exact hm),List.getElem?_append_left (by rw [ZaI];exact hm2)]
  exact ⟨Zdq rs _ _ hnd i _ _ (List.getElem?_eq_getElem hlt) (by rw [List.getElem?_map,k2];rfl) hm,Zdq rs _ _ hnd i _ _ (List.getElem?_eq_getElem hlt) (sub_at hr h2) hm2⟩
 ·have hm:i ∈ ns:=hi.resolve_left hlt
  have hp:=Zbz hm
  obtain ⟨row0,k1,k2⟩:=n2 _ i hp
  rw [h1] at k1
  simp only [Option.some.injEq] at k1;subst k1
  rw [back_ge (by omega)]
  unfold Za3 ZbC
  rw [List.getElem?_append_right (by rw [ZaI];omega),List.getElem?_append_right (by rw [ZaI,hS.len];omega),ZaI,ZaI]
  have e1:S.L.length+Zar ns i-S.L.length=Zar ns i:=by omega
  have e2:S.L.length+Zar ns i-S.β.length=Zar ns i:=by have:=hS.len;omega
  rw [e1,e2]
  exact ⟨by rw [List.getElem?_map,k2];rfl,sub_at hp h2⟩
theorem back_cases (hS:HeapOk S) (hS1:HeapOk S1) (hnd:rs.Nodup) (hns:ns.Nodup) (hge:∀ i ∈ ns,rs.length<=i) (ho:ZaF S1.L (List.range rs.length)=some old) (hn:ZaF S1.L ns=some new) (hlen:∀ r ∈ rs,r<S.L.length) {q:Nat}
  (hq:q<(Za3 S.L rs ns old new).length) :
  (q<S.L.length/\q ∉ rs/\(Za3 S.L rs ns old new)[q]? = S.L[q]? /\ (ZbC S.β S1.β rs ns)[q]? = S.β[q]?) \/
  ∃ i row info,(i<rs.length\/i ∈ ns)/\q=ZaP S.L.length rs ns i/\S1.L[i]? = some row/\S1.β[i]? = some info/\(Za3 S.L rs ns old new)[q]? = some (Zak (ZaP S.L.length rs ns) row)/\(ZbC S.β S1.β rs ns)[q]? = some info:=by
 obtain ⟨o1,o2⟩:=ZaE ho
 obtain ⟨n1,n2⟩:=ZaE hn
 have fin:∀ i row,(i<rs.length\/i ∈ ns)->q=ZaP S.L.length rs ns i->S1.L[i]? = some row -> ∃ i row info,(i<rs.length\/i ∈ ns)/\q=ZaP S.L.length rs ns i/\S1.L[i]? = some row/\S1.β[i]? = some info/\(Za3 S.L rs ns old new)[q]? = some (Zak (ZaP S.L.length rs ns) row)/\(ZbC S.β S1.β rs ns)[q]? = some info:=by
  intro i row hi he h1
  have hlt:i<S1.β.length:=by rw [<- hS1.len];exact Zah h1
  obtain ⟨k1,k2⟩:=back_in hS hlen hnd ho hn hi h1 (List.getElem?_eq_getElem hlt)
  exact ⟨i,row,_,hi,he,h1,List.getElem?_eq_getElem hlt,by rw [he];exact k1,by rw [he];exact k2⟩
 by_cases hlt:q<S.L.length
 ·by_cases hm:q ∈ rs
  ·right
   have hp:=Zbz hm
   obtain ⟨h3,h4⟩:=List.getElem?_eq_some_iff.1 hp
   obtain ⟨row,k1,_⟩:=o2 (Zar rs q) (Zar rs q) (by simp [h3])
   exact fin (Zar rs q) row (.inl h3) (by rw [ZeH h3,h4]) k1
  ·left
   refine ⟨hlt,hm,?_,?_⟩
   ·unfold Za3
    rw [List.getElem?_append_left (by rw [ZaI];exact hlt),ZbF _ _ _ _ hm]
   ·unfold ZbC
    rw [List.getElem?_append_left (by rw [ZaI,<- hS.len];exact hlt),ZbF _ _ _ _ hm]
 ·right
  have hj:q-S.L.length<ns.length:=by
   unfold Za3 at hq
   rw [List.length_append,ZaI,List.length_map,n1] at hq
   omega
  obtain ⟨row,k1,_⟩:=n2 (q-S.L.length) ns[q-S.L.length] (List.getElem?_eq_getElem hj)
  have hmem:ns[q-S.L.length] ∈ ns:=List.getElem_mem hj
  refine fin ns[q-S.L.length] row (.inr hmem) ?_ k1
  rw [back_ge (hge _ hmem),ZcJ hns (List.getElem?_eq_getElem hj)]
  omega
theorem ZeG (hS:HeapOk S) (hrows:ZaF S.L rs=some rows) (hnd:rs.Nodup) (hcl:∀ row ∈ rows,∀ r ∈ ZaC row,r ∈ rs)
  (hS1:HeapOk S1) (hE:Ext ⟨S.base,Za7 S rs,rows.map (Zak (Zar rs)),subβ S.β rs,S.w⟩ S1)
  (hns:ns.Nodup) (hge:∀ i ∈ ns,rs.length<=i) (ho:ZaF S1.L (List.range rs.length)=some old) (hn:ZaF S1.L ns=some new)
  (href:∀ row ∈ old++new,∀ r ∈ ZaC row,r<rs.length\/r ∈ ns) :
  HeapOk ⟨S.base,S.acc,Za3 S.L rs ns old new,ZbC S.β S1.β rs ns,S1.w⟩/\Ext S ⟨S.base,S.acc,Za3 S.L rs ns old new,ZbC S.β S1.β rs ns,S1.w⟩ /\
  ∀ a v,Rel S1 a v->(∀ r ∈ rowsA a,r<rs.length\/r ∈ ns)->Rel ⟨S.base,S.acc,Za3 S.L rs ns old new,ZbC S.β S1.β rs ns,S1.w⟩ (renA (ZaP S.L.length rs ns) a) v:=by
 obtain ⟨hSc,hic,_⟩:=Zfn hS hrows hnd hcl
 obtain ⟨g1,g2⟩:=ZaE hrows
 obtain ⟨o1,o2⟩:=ZaE ho
 obtain ⟨n1,n2⟩:=ZaE hn
 have hlen:∀ r ∈ rs,r<S.L.length:=fun r hr=>by
  obtain ⟨j,hj⟩:=List.getElem?_of_mem hr
  obtain ⟨row,k1,_⟩:=g2 j r hj
  exact Zah k1
 have hbase:S1.base=S.base:=hE.base
 have hacc:S1.acc=Za7 S rs:=hE.acc
 have hsize:S.w.heap.size<=S1.w.heap.size:=hE.below.size
 have hsub:∀ (j:Nat) info,(subβ S.β rs)[j]? = some info -> ∃ r,rs[j]? = some r/\S.β[r]? = some info:=by
  intro j info h
  unfold subβ at h
  rw [List.getElem?_map] at h
  obtain ⟨r,h1,rfl⟩:=Option.map_eq_some_iff.1 h
  have hlt:r<S.β.length:=by rw [<- hS.len];exact hlen r (List.mem_of_getElem? h1)
  exact ⟨r,h1,by simp [hlt]⟩
 have hno:∀ (q:Nat) info,S.β[q]? = some info->q ∉ rs -> ∀ (j:Nat) info',(subβ S.β rs)[j]? = some info'->info'.blk ≠ info.blk:=by
  intro q info h1 h2 j info' h3 he
  obtain ⟨r,k1,k2⟩:=hsub j info' h3
  have:=hS.inj r q info' info k2 h1 he
  subst this
  exact h2 (List.mem_of_getElem? k1)
 have hstay:∀ (q:Nat) info,S.β[q]? = some info->q ∉ rs->S1.w.heap[info.blk]? = S.w.heap[info.blk]?:=by
  intro q info h1 h2
  obtain ⟨b1,b2⟩:=hS.blk q info h1
  exact hE.other info.blk b1 b2 fun j info' h3=>hno q info h1 h2 j info' h3
 have hfresh:∀ (i:Nat) info',S1.β[i]? = some info'->(∃ (r:Nat) (info:BI),r ∈ rs/\S.β[r]? = some info/\info.blk=info'.blk)\/S.w.heap.size<=info'.blk:=by
  intro i info' h
  rcases hE.fresh i info' h with ⟨j,info,h1,h2⟩ | h1
  ·obtain ⟨r,k1,k2⟩:=hsub j info h1
   exact .inl ⟨r,info,List.mem_of_getElem? k1,k2,h2⟩
  ·exact .inr h1
 have hqβ:∀ (q:Nat) info,(ZbC S.β S1.β rs ns)[q]? = some info->q<(Za3 S.L rs ns old new).length:=by
  intro q info h
  have:=Zah h
  unfold ZbC at this
  unfold Za3
  rw [List.length_append,ZaI] at this ⊢
  simp only [subβ,List.length_map] at this ⊢
  rw [n1,hS.len];exact this
 have hcases:∀ (q:Nat),q<(Za3 S.L rs ns old new).length->_:=fun q hq=>back_cases hS hS1 hnd hns hge ho hn hlen hq
 have himm:∀ b off,Imm S b off->b<S.w.heap.size->Imm ⟨S.base,S.acc,Za3 S.L rs ns old new,ZbC S.β S1.β rs ns,S1.w⟩ b off/\S1.w.cell? ⟨b,off,none⟩=S.w.cell? ⟨b,off,none⟩:=by
  intro b off hi hb
  obtain ⟨i1,i2⟩:=hE.imm b off (hic b off hi) hb
  refine ⟨⟨hi.1,fun q info hq he => ?_⟩,i2⟩
  rcases hcases q (hqβ q info hq) with ⟨c1,c2,c3,c4⟩ | ⟨i,row,info',c1,c2,c3,c4,c5,c6⟩
  ·rw [c4] at hq
   obtain ⟨row,r1,r2⟩:=hi.2 q info hq he
   exact ⟨row,c3.trans r1,r2⟩
  ·rw [c6] at hq
   simp only [Option.some.injEq] at hq;subst hq
   obtain ⟨row',r1,r2,r3,r4⟩:=i1.2 i info' c4 he
   rw [c3] at r1
   simp only [Option.some.injEq] at r1;subst r1
   obtain ⟨_,_,s3,_,s5⟩:=ZaL (ZaP S.L.length rs ns) row
   exact ⟨_,c5,by rw [s3];exact r2,r3,by rw [s5];exact r4⟩
 have hd:∀ a v,DRel S1 a v->DRel ⟨S.base,S.acc,Za3 S.L rs ns old new,ZbC S.β S1.β rs ns,S1.w⟩ a v:=by
  intro a v h
  refine DRel.shift (S:=S1) (S':=⟨S.base,S.acc,Za3 S.L rs ns old new,ZbC S.β S1.β rs ns,S1.w⟩) rfl (fun b off hi hb => ?_) h
  obtain ⟨h1,h2⟩:=hi
  rw [hacc] at h1
  refine ⟨?_,fun q info hq he => ?_⟩
  ·rcases h1 with h1 | ⟨r,info,_,h3,rfl⟩ | h1
   ·exact hS.anew b off h1
   ·exact hS.acq r info off h3
   ·exact h1.1
  ·rcases hcases q (hqβ q info hq) with ⟨c1,c2,c3,c4⟩ | ⟨i,row,info',c1,c2,c3,c4,c5,c6⟩
   ·rw [c4] at hq
    rcases h1 with h1 | ⟨r,info',h3,h4,h5⟩ | h1
    ·have:=(hS.blk q info hq).2;omega
    ·have:=hS.inj r q info' info h4 hq (h5.trans he.symm)
     subst this
     exact absurd h3 c2
    ·obtain ⟨row,r1,r2⟩:=h1.2 q info hq he
     exact ⟨row,c3.trans r1,r2⟩
   ·rw [c6] at hq
    simp only [Option.some.injEq] at hq;subst hq
    obtain ⟨row',r1,r2,r3,r4⟩:=h2 i info' c4 he
    rw [c3] at r1
    simp only [Option.some.injEq] at r1;subst r1
    obtain ⟨_,_,s3,_,s5⟩:=ZaL (ZaP S.L.length rs ns) row
    exact ⟨_,c5,by rw [s3];exact r2,r3,by rw [s5];exact r4⟩
 have hrow:∀ (r:Nat) row info,(r<rs.length\/r ∈ ns)->S1.L[r]? = some row->S1.β[r]? = some info ->
   ∃ row',(Za3 S.L rs ns old new)[ZaP S.L.length rs ns r]? = some row'/\(ZbC S.β S1.β rs ns)[ZaP S.L.length rs ns r]? = some info/\row'.ver=row.ver/\row'.elems.length=row.elems.length:=by
  intro r row info hr h1 h2
  obtain ⟨k1,k2⟩:=back_in hS hlen hnd ho hn hr h1 h2
  obtain ⟨_,s2,_,_,s5⟩:=ZaL (ZaP S.L.length rs ns) row
  exact ⟨_,k1,k2,s2,s5⟩
 have hex:Ext S ⟨S.base,S.acc,Za3 S.L rs ns old new,ZbC S.β S1.β rs ns,S1.w⟩:=by
  refine ⟨rfl,rfl,himm,fun r row info h1 h2 => ?_,hE.below,fun q info hq => ?_,fun b hb hlt hnb => ?_⟩
  ·by_cases hm:r ∈ rs
   ·have hp:=Zbz hm
    obtain ⟨p1,p2⟩:=List.getElem?_eq_some_iff.1 hp
    obtain ⟨row0,k1,k2⟩:=g2 _ r hp
    rw [h1] at k1
    simp only [Option.some.injEq] at k1;subst k1
    obtain ⟨_,s2,_,_,s5⟩:=ZaL (Zar rs) row
    obtain ⟨row1,info1,e1,e2,e3,e4,e5,e6⟩:=hE.rows (Zar rs r) (Zak (Zar rs) row) info (by show (rows.map _)[Zar rs r]? = _;rw [List.getElem?_map,k2];rfl) (sub_at hp h2)
    obtain ⟨b1,b2⟩:=back_in hS hlen hnd ho hn (.inl p1) e1 e2
    rw [ZeH p1,p2] at b1 b2
    obtain ⟨_,t2,_,_,t5⟩:=ZaL (ZaP S.L.length rs ns) row1
    exact ⟨_,info1,b1,b2,by rw [t2,<- s2];exact e3,fun e=>by rw [t5,<- s5];exact e4 (by rw [s2,<- t2];exact e),e5,e6⟩
   ·have hq:r<(Za3 S.L rs ns old new).length:=by
     unfold Za3;rw [List.length_append,ZaI];have:=Zah h1;omega
    refine ⟨row,info,?_,?_,Nat.le_refl _,fun _=>⟨rfl,fun _=>rfl⟩,rfl,fun _=>rfl⟩
    ·show (Za3 S.L rs ns old new)[r]? = _
     unfold Za3
     rw [List.getElem?_append_left (by rw [ZaI];exact Zah h1),ZbF _ _ _ _ hm];exact h1
    ·show (ZbC S.β S1.β rs ns)[r]? = _
     unfold ZbC
     rw [List.getElem?_append_left (by rw [ZaI];exact Zah h2),ZbF _ _ _ _ hm];exact h2
  ·rcases hcases q (hqβ q info hq) with ⟨c1,c2,c3,c4⟩ | ⟨i,row,info',c1,c2,c3,c4,c5,c6⟩
   ·have hq':(ZbC S.β S1.β rs ns)[q]? = some info:=hq
    rw [c4] at hq'
    exact .inl ⟨q,info,hq',rfl⟩
   ·have hq':(ZbC S.β S1.β rs ns)[q]? = some info:=hq
    rw [c6] at hq'
    simp only [Option.some.injEq] at hq';subst hq'
    rcases hfresh i info' c4 with ⟨r,inf,_,h3,h4⟩ | h
    ·exact .inl ⟨r,inf,h3,h4⟩
    ·exact .inr h
  ·refine hE.other b hb hlt fun j info h => ?_
   obtain ⟨r,_,h2⟩:=hsub j info h
   exact hnb r info h2
 refine ⟨?_,hex,fun a v h hr=>Zfu hrow hd h hr⟩
 have hboth:∀ (q:Nat) row' info,(Za3 S.L rs ns old new)[q]? = some row'->(ZbC S.β S1.β rs ns)[q]? = some info ->
   (q<S.L.length/\q ∉ rs/\S.L[q]? = some row'/\S.β[q]? = some info) \/
   ∃ i row,(i<rs.length\/i ∈ ns)/\q=ZaP S.L.length rs ns i/\S1.L[i]? = some row/\S1.β[i]? = some info/\row'=Zak (ZaP S.L.length rs ns) row:=by
  intro q row' info h1 h2
  rcases hcases q (Zah h1) with ⟨c1,c2,c3,c4⟩ | ⟨i,row,info',c1,c2,c3,c4,c5,c6⟩
  ·exact .inl ⟨c1,c2,c3.symm.trans h1,c4.symm.trans h2⟩
  ·rw [c5] at h1;rw [c6] at h2
   simp only [Option.some.injEq] at h1 h2;subst h1;subst h2
   exact .inr ⟨i,row,c1,c2,c3,c4,rfl⟩
 have hβc:∀ (q:Nat) info,(ZbC S.β S1.β rs ns)[q]? = some info->(q ∉ rs/\S.β[q]? = some info) \/ ∃ i,(i<rs.length\/i ∈ ns)/\q=ZaP S.L.length rs ns i/\S1.β[i]? = some info:=by
  intro q info h
  rcases hcases q (hqβ q info h) with ⟨c1,c2,c3,c4⟩ | ⟨i,row,info',c1,c2,c3,c4,c5,c6⟩
  ·exact .inl ⟨c2,c4.symm.trans h⟩
  ·rw [c6] at h
   simp only [Option.some.injEq] at h;subst h
   exact .inr ⟨i,c1,c2,c4⟩
 have hrefs:∀ i row,(i<rs.length\/i ∈ ns)->S1.L[i]? = some row -> ∀ r ∈ ZaC row,r<rs.length\/r ∈ ns:=by
  intro i row hi h1
  refine href row ?_
  rcases hi with hi | hi
  ·obtain ⟨row0,k1,k2⟩:=o2 i i (by simp [hi])
   rw [h1] at k1
   simp only [Option.some.injEq] at k1;subst k1
   exact List.mem_append_left _ (List.mem_of_getElem? k2)
  ·obtain ⟨row0,k1,k2⟩:=n2 _ i (Zbz hi)
   rw [h1] at k1
   simp only [Option.some.injEq] at k1;subst k1
   exact List.mem_append_right _ (List.mem_of_getElem? k2)
 have hmixed:∀ (q i:Nat) info info',q ∉ rs->S.β[q]? = some info->S1.β[i]? = some info'->info.blk ≠ info'.blk:=by
  intro q i info info' hq h1 h2 he
  rcases hfresh i info' h2 with ⟨r,inf,k1,k2,k3⟩ | k
  ·have:=hS.inj r q inf info k2 h1 (k3.trans he.symm)
   subst this
   exact hq k1
  ·have:=(hS.blk q info h1).2;omega
 refine ⟨Nat.le_trans hS.base hsize,?_,fun q info h => ?_,fun q q' info info' h h' he => ?_,fun q row' info h1 h2 hm => ?_,fun q row' info h1 h2 hm => ?_,fun q row' h1 => ?_,fun q row' info i x k c cv h1 h2 hx hk hcv => ?_,fun q row' info i x k c cv h1 h2 hc hx hk hcv => ?_,fun q info off h => ?_,fun b off h=>hS.anew b off (Nat.le_trans hsize h)⟩
 ·show (Za3 S.L rs ns old new).length=(ZbC S.β S1.β rs ns).length
  unfold Za3 ZbC subβ
  rw [List.length_append,List.length_append,ZaI,ZaI,List.length_map,List.length_map,n1,hS.len]
 ·rcases hβc q info h with ⟨_,h1⟩ | ⟨i,_,_,h1⟩
  ·exact ⟨(hS.blk q info h1).1,Nat.lt_of_lt_of_le (hS.blk q info h1).2 hsize⟩
  ·have:=hS1.blk i info h1
   rw [hbase] at this;exact this
 ·rcases hβc q info h with ⟨a1,a2⟩ | ⟨i,a1,a2,a3⟩
  ·rcases hβc q' info' h' with ⟨b1,b2⟩ | ⟨i',b1,b2,b3⟩
   ·exact hS.inj q q' info info' a2 b2 he
   ·exact absurd he (hmixed q i' info info' a1 a2 b3)
  ·rcases hβc q' info' h' with ⟨b1,b2⟩ | ⟨i',b1,b2,b3⟩
   ·exact absurd he.symm (hmixed q' i info' info b1 b2 a3)
   ·have:=hS1.inj i i' info info' a3 b3 he
    subst this
    rw [a2,b2]
 ·rcases hboth q row' info h1 h2 with ⟨_,a2,a3,a4⟩ | ⟨i,row,a1,a2,a3,a4,rfl⟩
  ·exact (hS.maps q row' info a3 a4 hm).mono hex (hstay q info a4 a2)
  ·exact map_over (S:=S1) (S':=⟨S.base,S.acc,Za3 S.L rs ns old new,ZbC S.β S1.β rs ns,S1.w⟩) hrow hd rfl (hrefs i row a1 a3) (hS1.maps i row info a3 a4 hm)
 ·rcases hboth q row' info h1 h2 with ⟨_,a2,a3,a4⟩ | ⟨i,row,a1,a2,a3,a4,rfl⟩
  ·obtain ⟨b1,b2,cs,T,b3,b4⟩:=hS.cells q row' info a3 a4 hm
   exact ⟨b1,b2,cs,T,(hstay q info a4 a2).trans b3,b4⟩
  ·obtain ⟨s1,_,_,_,s5⟩:=ZaL (ZaP S.L.length rs ns) row
   rw [s1,s5]
   exact hS1.cells i row info a3 a4 hm
 ·rcases hcases q (Zah h1) with ⟨c1,c2,c3,c4⟩ | ⟨i,row,info',c1,c2,c3,c4,c5,c6⟩
  ·exact hS.elems q row' (c3.symm.trans h1)
  ·have h1':(Za3 S.L rs ns old new)[q]? = some row':=h1
   rw [c5] at h1'
   simp only [Option.some.injEq] at h1';subst h1'
   have:=hS1.elems i row c3
   unfold Zak
   cases row.clean with
   | true=>exact this
   | false=>exact ren_ok this
 ·rcases hboth q row' info h1 h2 with ⟨_,a2,a3,a4⟩ | ⟨j,row,a1,a2,a3,a4,rfl⟩
  ·exact (hS.rel q row' info i x k c cv a3 a4 hx hk (by rw [<- Zaw (hstay q info a4 a2)];exact hcv)).mono hex
  ·exact (ZeZ (S:=S1) (S':=⟨S.base,S.acc,Za3 S.L rs ns old new,ZbC S.β S1.β rs ns,S1.w⟩) (cellv:=fun i k=>S1.w.cell? ⟨info.blk,info.off+i*info.es+k,none⟩) hrow hd (hrefs j row a1 a3)
    (fun i x k c cv hx hk hcv=>hS1.rel j row info i x k c cv a3 a4 hx hk hcv) (fun hc i x k c cv hx hk hcv=>hS1.clean j row info i x k c cv a3 a4 hc hx hk hcv)).1 i x k c cv hx hk hcv
 ·rcases hboth q row' info h1 h2 with ⟨_,a2,a3,a4⟩ | ⟨j,row,a1,a2,a3,a4,rfl⟩
  ·exact (hS.clean q row' info i x k c cv a3 a4 hc hx hk (by rw [<- Zaw (hstay q info a4 a2)];exact hcv)).mono hex
  ·exact (ZeZ (S:=S1) (S':=⟨S.base,S.acc,Za3 S.L rs ns old new,ZbC S.β S1.β rs ns,S1.w⟩) (cellv:=fun i k=>S1.w.cell? ⟨info.blk,info.off+i*info.es+k,none⟩) hrow hd (hrefs j row a1 a3)
    (fun i x k c cv hx hk hcv=>hS1.rel j row info i x k c cv a3 a4 hx hk hcv) (fun hc i x k c cv hx hk hcv=>hS1.clean j row info i x k c cv a3 a4 hc hx hk hcv)).2 hc i x k c cv hx hk hcv
 ·rcases hβc q info h with ⟨_,h1⟩ | ⟨i,_,_,h1⟩
  ·exact hS.acq q info off h1
  ·have:=hS1.acq i info off h1
   rw [hacc] at this
   rcases this with h2 | ⟨r,inf,_,h3,h4⟩ | h2
   ·exact hS.anew _ off h2
   ·rw [<- h4];exact hS.acq r inf off h3
   ·exact h2.1
end
end Go.Av

namespace Go.Av
open Go.RowKit
mutual
theorem renA_ext {f g:Nat->Nat}:∀ (a:AV),(∀ r ∈ rowsA a,f r=g r)->renA f a=renA g a
 | .any,_=>rfl
 | .bool _,_=>rfl
 | .int _ _,_=>rfl
 | .str _,_=>rfl
 | .flt _,_=>rfl
 | .nilp,_=>rfl
 | .nilf,_=>rfl
 | .vnil,_=>rfl
 | .eptr ..,_=>rfl
 | .vec ..,_=>rfl
 | .row r v,h=>by simp only [renA];rw [h r (by simp [rowsA])]
 | .mapr r,h=>by simp only [renA];rw [h r (by simp [rowsA])]
 | .nilm,_=>rfl
 | .ref r v lo n,h=>by simp only [renA];rw [h r (by simp [rowsA])]
 | .ptr r v i j,h=>by simp only [renA];rw [h r (by simp [rowsA])]
 | .agg cs,h=>by simp only [renA];rw [renL_ext cs (by simpa [rowsA] using h)]
 | .tup cs,h=>by simp only [renA];rw [renL_ext cs (by simpa [rowsA] using h)]
 | .func fn a b,h=>by
  simp only [renA]
  rw [renL_ext a (fun r hr=>h r (by simp [rowsA,hr])),renL_ext b (fun r hr=>h r (by simp [rowsA,hr]))]
theorem renL_ext {f g:Nat->Nat}:∀ (l:List AV),(∀ r ∈ rowsL l,f r=g r)->renL f l=renL g l
 | [],_=>rfl
 | c::l,h=>by
  simp only [renL]
  rw [renA_ext c (fun r hr=>h r (by simp [rowsL,hr])),renL_ext l (fun r hr=>h r (by simp [rowsL,hr]))]
end
mutual
theorem renA_id:∀ (a:AV),renA (fun r=>r) a=a
 | .any=>rfl
 | .bool _=>rfl
 | .int _ _=>rfl
 | .str _=>rfl
 | .flt _=>rfl
 | .nilp=>rfl
 | .nilf=>rfl
 | .vnil=>rfl
 | .eptr .. => rfl
 | .vec .. => rfl
 | .row r v=>rfl
 | .mapr r=>rfl
 | .nilm=>rfl
 | .ref r v lo n=>rfl
 | .ptr r v i j=>rfl
 | .agg cs=>by simp only [renA];rw [renL_id cs]
 | .tup cs=>by simp only [renA];rw [renL_id cs]
 | .func fn a b=>by simp only [renA];rw [renL_id a,renL_id b]
theorem renL_id:∀ (l:List AV),renL (fun r=>r) l=l
 | []=>rfl
 | c::l=>by simp only [renL];rw [renA_id c,renL_id l]
end
mutual
theorem renA_renA (f g:Nat->Nat):∀ (a:AV),renA g (renA f a)=renA (fun r=>g (f r)) a
 | .any=>rfl
 | .bool _=>rfl
 | .int _ _=>rfl
 | .str _=>rfl
 | .flt _=>rfl
 | .nilp=>rfl
 | .nilf=>rfl
 | .vnil=>rfl
 | .eptr .. => rfl
 | .vec .. => rfl
 | .row r v=>rfl
 | .mapr r=>rfl
 | .nilm=>rfl
 | .ref r v lo n=>rfl
 | .ptr r v i j=>rfl
 | .agg cs=>by simp only [renA];rw [renL_renL f g cs]
 | .tup cs=>by simp only [renA];rw [renL_renL f g cs]
 | .func fn a b=>by simp only [renA];rw [renL_renL f g a,renL_renL f g b]
theorem renL_renL (f g:Nat->Nat):∀ (l:List AV),renL g (renL f l)=renL (fun r=>g (f r)) l
 | []=>rfl
 | c::l=>by simp only [renL];rw [renA_renA f g c,renL_renL f g l]
end
mutual
theorem rowsA_ren (f:Nat->Nat):∀ (a:AV),rowsA (renA f a)=(rowsA a).map f
 | .any=>rfl
 | .bool _=>rfl
 | .int _ _=>rfl
 | .str _=>rfl
 | .flt _=>rfl
 | .nilp=>rfl
 | .nilf=>rfl
 | .vnil=>rfl
 | .eptr .. => rfl
 | .vec .. => rfl
 | .row r v=>rfl
 | .mapr r=>rfl
 | .nilm=>rfl
 | .ref r v lo n=>rfl
 | .ptr r v i j=>rfl
 | .agg cs=>by simp only [renA,rowsA];exact rowsL_ren f cs
 | .tup cs=>by simp only [renA,rowsA];exact rowsL_ren f cs
 | .func fn a b=>by simp only [renA,rowsA,List.map_append];rw [rowsL_ren f a,rowsL_ren f b]
theorem rowsL_ren (f:Nat->Nat):∀ (l:List AV),rowsL (renL f l)=(rowsL l).map f
 | []=>rfl
 | c::l=>by simp only [renL,rowsL,List.map_append];rw [rowsA_ren f c,rowsL_ren f l]
end
theorem refs_ren (f:Nat->Nat) (row:Row):ZaC (Zak f row)=(ZaC row).map f:=by
 unfold ZaC Zak
 cases hc:row.clean with
 | true=>simp [hc]
 | false=>simp [rowsL_ren]
theorem renRow_back {f g:Nat->Nat} {row:Row} (h:∀ r ∈ ZaC row,g (f r)=r):Zak g (Zak f row)=row:=by
 unfold Zak
 unfold ZaC at h
 cases hc:row.clean with
 | true=>simp [hc]
 | false =>
  rw [hc] at h
  simp only [cond_false] at h ⊢
  rw [renL_renL,renL_ext row.elems (g:=fun r=>r) h,renL_id,<- hc]
theorem ZdN (l:List Row):ZaF l (List.range l.length)=some l:=by
 have:∀ (n k:Nat),n+k=l.length->ZaF l (List.range' k n)=some (l.drop k):=by
  intro n
  induction n with
  | zero=>intro k hk;simp [ZaF];omega
  | succ n ih =>
   intro k hk
   have hlt:k<l.length:=by omega
   rw [List.range'_succ,ZaF,List.getElem?_eq_getElem hlt,ih (k+1) (by omega),List.drop_eq_getElem_cons hlt]
 have h:=this l.length 0 (by omega)
 rw [<- List.range_eq_range'] at h
 simpa using h
theorem put_same {α:Type} {l:List α}:∀ (rs:List Nat) (xs:List α),(∀ (j:Nat) r x,rs[j]? = some r->xs[j]? = some x->l[r]? = some x)->ZcS l rs xs=l
 | [],xs,_=>by cases xs <;> rfl
 | r::rs,[],_=>rfl
 | r::rs,x::xs,h=>by
  have h0:=h 0 r x rfl rfl
  have hs:l.set r x=l:=set_self h0
  rw [ZcS,hs]
  exact put_same rs xs fun j q y hj hy=>h (j+1) q y (by simpa using hj) (by simpa using hy)
theorem own_in {L Lc:Heap} {args args':List AV} {rs:List Nat} (h:ownIn L args=some (rs,args',Lc)) :
  ∃ rows,ZaF L rs=some rows/\rs.Nodup/\(∀ r ∈ rowsL args,r ∈ rs)/\(∀ row ∈ rows,∀ r ∈ ZaC row,r ∈ rs)/\args'=renL (Zar rs) args/\Lc=rows.map (Zak (Zar rs)):=by
 unfold ownIn at h
 simp only at h
 split at h
 ·rename_i rows hr
  split at h
  ·rename_i hc
   simp only [Option.some.injEq,Prod.mk.injEq] at h
   obtain ⟨rfl,rfl,rfl⟩:=h
   simp only [Bool.and_eq_true,List.all_eq_true,List.contains_iff_mem] at hc
   exact ⟨rows,hr,(Zbl _).1 hc.1,hc.2.1,hc.2.2,rfl,rfl⟩
  ·simp at h
 ·simp at h
end Go.Av

namespace Go.Av
open Go.RowKit
inductive ChainOk (env:Env):Za4->Prop
 | nil:ChainOk env []
 | cons (d:Nat) (w:Bool) (b:Bool):(env.get d).2 = .bool b->ChainOk env (env.get d).1->ChainOk env ((d,w)::(env.get d).1)
def noD (d:Nat) (c:Za4):Bool:=!(c.any fun x=>x.1==d)
structure TRel (S:St) (env:Env) (tm:Array Value):Prop where
 chain:∀ t,ChainOk env (env.get t).1
 yes:∀ t,Zao env (env.get t).1=true->Rel S (env.get t).2 (tm.getD t undef)
 no:∀ t,Zao env (env.get t).1=false->tm.getD t undef=undef
theorem TRel.mono {S S':St} (he:Ext S S') {env:Env} {tm:Array Value} (h:TRel S env tm):TRel S' env tm:=
 ⟨h.chain,fun t ht=>(h.yes t ht).mono he,h.no⟩
theorem chain_iff {S:St} {env:Env} {tm:Array Value} (h:TRel S env tm) {c:Za4} (hc:ChainOk env c) :
  Zao env c=true ↔ ∀ x ∈ c,tm.getD x.1 undef = .bool x.2:=by
 induction hc with
 | nil=>simp [Zao]
 | cons d w b hb _ ih =>
  simp only [Zao,hb,Bool.and_eq_true,beq_iff_eq,List.forall_mem_cons]
  rw [<- ih]
  constructor
  ·rintro ⟨e,hch⟩
   have:=h.yes d hch
   rw [hb] at this
   exact ⟨by rw [ZbN this,e],hch⟩
  ·rintro ⟨e,hch⟩
   have:=h.yes d hch
   rw [hb] at this
   have:=ZbN this
   rw [e] at this
   simp only [Value.bool.injEq] at this
   exact ⟨this.symm,hch⟩
theorem ev_rel {S:St} {env:Env} {a:Act} (h:TRel S env a.tmps) {c:Za4} (hc:∀ x ∈ c,a.tmps.getD x.1 undef = .bool x.2) (x:Operand):Rel S (ev env c x) (a.eval x):=by
 cases x with
 | tmp t =>
  simp only [ev,Act.eval]
  cases hs:Za4.sub (env.get t).1 c with
  | false=>exact .any _
  | true =>
   refine h.yes t ((chain_iff h (h.chain t)).2 fun x hx => ?_)
   have:=(List.all_eq_true.1 hs) x hx
   obtain ⟨y,hy,he⟩:=List.any_eq_true.1 this
   simp only [Bool.and_eq_true,beq_iff_eq] at he
   rw [he.1,he.2];exact hc y hy
 | const v=>exact Zfv S v
 | global g=>exact .any _
 | func f=>exact .data _ _ (.func _ [] [] [] [] rfl rfl (by simp) (by simp))
theorem get_any {env:Env} {d:Nat} (h:(env.any fun e=>e.2.1.any fun x=>x.1==d)=false) (t:Nat):noD d (env.get t).1=true:=by
 induction env with
 | nil=>rfl
 | cons e env ih =>
  obtain ⟨k,c,v⟩:=e
  simp only [List.any_cons,Bool.or_eq_false_iff] at h
  simp only [Env.get]
  cases hk:k==t with
  | true=>simpa [noD] using h.1
  | false=>exact ih h.2
theorem ZcM {env:Env} {d:Nat} {c':Za4} {v:AV} {c:Za4} (h:noD d c=true):Zao ((d,c',v)::env) c=Zao env c:=by
 induction c with
 | nil=>rfl
 | cons x c ih =>
  simp only [noD,List.any_cons,Bool.not_or,Bool.and_eq_true,Bool.not_eq_true',beq_eq_false_iff_ne] at h
  have hk:(d==x.1)=false:=by simpa using fun e=>h.1 e.symm
  simp only [Zao,Env.get,hk,cond_false]
  rw [ih (by simpa [noD] using h.2)]
theorem ChainOk.cons_env {env:Env} {d:Nat} {c':Za4} {v:AV} {c:Za4} (hc:ChainOk env c):noD d c=true->ChainOk ((d,c',v)::env) c:=by
 induction hc with
 | nil=>exact fun _ => .nil
 | cons t w b hb _ ih =>
  intro h
  simp only [noD,List.any_cons,Bool.not_or,Bool.and_eq_true,Bool.not_eq_true',beq_eq_false_iff_ne] at h
  have hk:(d==t)=false:=by simpa using fun e=>h.1 e.symm
  have e:Env.get ((d,c',v)::env) t=env.get t:=by simp [Env.get,hk]
  have:=ChainOk.cons (env:=(d,c',v)::env) t w b (by rw [e];exact hb) (by rw [e];exact ih (by simpa [noD] using h.2))
  rwa [e] at this
theorem putE_spec {n:Nat} {d:Nat} {c:Za4} {v:AV} {env env':Env} (h:putE n (some d) c v env=some env') :
  d<n/\env'=(d,c,v)::env/\noD d c=true /\ ∀ t,noD d (env.get t).1=true:=by
 unfold putE at h
 simp only at h
 split at h
 ·rename_i h1
  simp only [Option.some.injEq] at h
  obtain ⟨h2,h3⟩:=h1
  simp only [List.any_cons,Bool.or_eq_false_iff] at h3
  exact ⟨h2,h.symm,by simpa [noD] using h3.1,get_any h3.2⟩
 ·simp at h
theorem ZcC (a:Act) (o:Option Tmp) (v:Value):(a.put o v).tmps.size=a.tmps.size:=by
 cases o <;> simp [Act.put]
theorem Zfy {S:St} {env env':Env} {a:Act} {n:Nat} {d:Option Tmp} {c:Za4} {v:AV} {cv:Value} (h:TRel S env a.tmps) (hn:n<=a.tmps.size) (hc:ChainOk env c)
  (hp:putE n d c v env=some env') (hy:Zao env c=true->Rel S v cv) (hno:Zao env c=false->cv=undef):TRel S env' (a.put d cv).tmps:=by
 cases d with
 | none =>
  simp only [putE,Option.some.injEq] at hp
  subst hp;exact h
 | some d =>
  obtain ⟨h1,rfl,h3,h4⟩:=putE_spec hp
  have hgd:∀ t,(a.put (some d) cv).tmps.getD t undef=if d=t then cv else a.tmps.getD t undef:=by
   intro t
   simp only [Act.put]
   by_cases e:d=t
   ·subst e
    have:d<a.tmps.size:=Nat.lt_of_lt_of_le h1 hn
    simp [this]
   ·simp [e]
  have hget:∀ t,Env.get ((d,c,v)::env) t=if d=t then (c,v) else env.get t:=by
   intro t
   simp only [Env.get]
   by_cases e:d=t
   ·subst e;simp
   ·have:(d==t)=false:=by simpa using e
    simp [this,e]
  have hch:∀ t,noD d (Env.get ((d,c,v)::env) t).1=true:=by
   intro t;rw [hget];split
   ·exact h3
   ·exact h4 t
  refine ⟨fun t => ?_,fun t ht => ?_,fun t ht => ?_⟩
  ·have:=hch t
   rw [hget] at this ⊢
   split
   ·exact hc.cons_env h3
   ·exact (h.chain t).cons_env (h4 t)
  ·rw [ZcM (hch t)] at ht
   rw [hget] at ht ⊢
   rw [hgd]
   split
   ·rename_i e;rw [if_pos e] at ht;exact hy ht
   ·rename_i e;rw [if_neg e] at ht;exact h.yes t ht
  ·rw [ZcM (hch t)] at ht
   rw [hget] at ht
   rw [hgd]
   split
   ·rename_i e;rw [if_pos e] at ht;exact hno ht
   ·rename_i e;rw [if_neg e] at ht;exact h.no t ht
def OwnSnd (M:Mach) (f:FuncId) (args:List AV) (L:Heap) (v:AV) (L':Heap):Prop:=
 ∀ (S:St) (cargs:List Value),HeapOk S->S.L=L->RelL S args cargs ->
  (∀ w,(callFunc f ⟨cargs⟩).run (M.P ()) w = .ok (.enter f ⟨cargs⟩) w) /\
  Calls (M.P ()) f ⟨cargs⟩ S.w fun
   | .returned cv,w' => ∃ β',HeapOk ⟨S.base,S.acc,L',β',w'⟩/\Ext S ⟨S.base,S.acc,L',β',w'⟩/\Rel ⟨S.base,S.acc,L',β',w'⟩ v cv
   | _,_=>False
def Zf3 (M:Mach) (f:FuncId) (args:List AV) (d:AV):Prop:=
 ∀ (base:Nat) (acc:Nat->Nat->Prop) (w:World) (cargs:List Value),base<=w.heap.size->(∀ b off,base<=b->acc b off)->RelL ⟨base,acc,[],[],w⟩ args cargs ->
  (∀ w,(callFunc f ⟨cargs⟩).run (M.P ()) w = .ok (.enter f ⟨cargs⟩) w) /\
  Calls (M.P ()) f ⟨cargs⟩ w fun
   | .returned cv,w'=>Below base w w'/\DRel ⟨base,acc,[],[],w'⟩ d cv
   | _,_=>False
def ZbL (M:Mach) (c:CF):Prop:=
 match c.own with
 | true=>OwnSnd M c.f c.args c.L c.v c.L'
 | false=>Zf3 M c.f c.args c.v
theorem ZdO {a:Array Value} {d:Nat} {v:Value} (h:a[d]? = some v):a.getD d undef=v:=by
 simp [h]
theorem chainOf_no {S:St} {env:Env} {ops:Array Oper} {a:Act} {o:Oper} (hT:TRel S env a.tmps) (h:Za1 ops env o=some none):Region.wanted o (yielded ops a.tmps)=false:=by
 unfold Za1 at h
 unfold Region.wanted
 split at h
 ·simp at h
 ·rename_i j want hg
  simp only [hg]
  split at h
  ·rename_i hd
   simp [yielded,hd]
  ·rename_i d hd
   have hno:a.tmps.getD d undef=undef->(yielded ops a.tmps j==some want)=false:=by
    intro e
    unfold yielded
    rw [hd]
    simp only [Option.bind_some]
    cases hx:a.tmps[d]? with
    | none=>rfl
    | some v =>
     have:=ZdO hx
     rw [e] at this
     subst this
     rfl
   split at h
   ·simp at h
   ·rename_i ch hgt
    cases hcv:Zao env ch with
    | false =>
     have:=hT.no d (by rw [hgt];exact hcv)
     exact hno this
    | true =>
     have:=hT.yes d (by rw [hgt];exact hcv)
     rw [hgt] at this
     obtain ⟨vs,h1,h2,_⟩:=rel_tup this
     have:vs=[]:=List.length_eq_zero_iff.1 h2.symm
     subst this
     exact hno h1
   ·simp at h
theorem ZdT {S:St} {env:Env} {ops:Array Oper} {a:Act} {o:Oper} {c:Za4} (hT:TRel S env a.tmps) (h:Za1 ops env o=some (some c)) :
  ChainOk env c/\Region.wanted o (yielded ops a.tmps)=Zao env c:=by
 unfold Za1 at h
 unfold Region.wanted
 split at h
 ·rename_i hg
  simp only [Option.some.injEq] at h;subst h
  simp only [hg]
  exact ⟨.nil,rfl⟩
 ·rename_i j want hg
  simp only [hg]
  split at h
  ·simp at h
  ·rename_i d hd
   split at h
   ·rename_i ch b hgt
    simp only [Option.some.injEq] at h;subst h
    have hc:ChainOk env ((d,want)::ch):=by
     have:=ChainOk.cons (env:=env) d want b (by rw [hgt]) (hT.chain d)
     rwa [hgt] at this
    refine ⟨hc,?_⟩
    have hch:ChainOk env ch:=by have:=hT.chain d;rwa [hgt] at this
    unfold yielded
    rw [hd]
    simp only [Option.bind_some,Zao,hgt]
    cases hcv:Zao env ch with
    | false =>
     have:=hT.no d (by rw [hgt];exact hcv)
     cases hx:a.tmps[d]? with
     | none=>simp
     | some v =>
      have h2:=ZdO hx
      rw [this] at h2
      subst h2
      simp [undef]
    | true =>
     have:=hT.yes d (by rw [hgt];exact hcv)
     rw [hgt] at this
     have:=ZbN this
     cases hx:a.tmps[d]? with
     | none=>rw [Array.getD_eq_getD_getElem?,hx] at this;simp [undef] at this
     | some v =>
      have h2:=ZdO hx
      rw [this] at h2
      subst h2
      simp
   ·simp at h
   ·simp at h
theorem DRel.scalar {S S':St} {a:AV} {v:Value} (h:DRel S a v):a.scalar=true->DRel S' a v:=by
 have get:∀ {l:List AV},scalarL l=true -> ∀ (i:Nat) c,l[i]? = some c->c.scalar=true:=by
  intro l
  induction l with
  | nil=>intro _ i c hc;simp at hc
  | cons x l ih =>
   intro h i c hc
   simp only [scalarL,Bool.and_eq_true] at h
   cases i with
   | zero=>simp at hc;subst hc;exact h.1
   | succ i=>simp at hc;exact ih h.2 i c hc
 induction h with
 | bool b=>exact fun _ => .bool b
 | int k n=>exact fun _ => .int k n
 | str s=>exact fun _ => .str s
 | flt s=>exact fun _ => .flt s
 | nilp=>exact fun _ => .nilp
 | nilf=>exact fun _ => .nilf
 | nilm=>exact fun _ => .nilm
 | vnil=>exact fun _ => .vnil
 | agg cs vs hl _ ih=>exact fun h => .agg cs vs hl fun i c v hc hv=>ih i c v hc hv (get (by simpa [AV.scalar] using h) i c hc)
 | tup cs vs hl _ ih=>exact fun h => .tup cs vs hl fun i c v hc hv=>ih i c v hc hv (get (by simpa [AV.scalar] using h) i c hc)
 | func fn a b va vb ha hb _ _ ih1 ih2=>intro h;simp [AV.scalar] at h
 | eptr es xs i j b off ho hc _ ih=>intro h;simp [AV.scalar] at h
 | vecE f es a cap hf=>intro h;simp [AV.scalar] at h
 | vec f es xs b off cap ho hf hl hc _ ih=>intro h;simp [AV.scalar] at h
theorem pure_call {M:Mach} {S:St} (hS:HeapOk S) {args ds:List AV} {cargs:List Value} {d:AV} {g:FuncId} {L2:Heap} (hrel:RelL S args cargs) (hds:pureL S.L args=some ds)
  (hv:∀ b ∈ versL S.L args,b=true) (hL2:(d.scalar=true/\L2=S.L)\/L2=ZaT (rowsL args) S.L) (hsnd:Zf3 M g ds d) :
  (∀ w,(callFunc g ⟨cargs⟩).run (M.P ()) w = .ok (.enter g ⟨cargs⟩) w) /\
  Calls (M.P ()) g ⟨cargs⟩ S.w fun
   | .returned cv,w'=>HeapOk ⟨S.base,S.acc,L2,S.β,w'⟩/\Ext S ⟨S.base,S.acc,L2,S.β,w'⟩/\Rel ⟨S.base,S.acc,L2,S.β,w'⟩ d cv
   | _,_=>False:=by
 obtain ⟨z1,z2⟩:HeapOk ⟨S.base,S.acc,L2,S.β,S.w⟩/\Ext S ⟨S.base,S.acc,L2,S.β,S.w⟩:=by
  rcases hL2 with ⟨_,rfl⟩ | rfl
  ·exact ⟨hS,Ext.refl S⟩
  ·exact Zcd _ hS
 let acc':Nat->Nat->Prop:=fun b off=>S.w.heap.size<=b\/d.scalar=true\/Imm ⟨S.base,S.acc,L2,S.β,S.w⟩ b off
 have hpre:RelL ⟨S.w.heap.size,acc',[],[],S.w⟩ ds cargs:=by
  have hi:∀ b off,Imm S b off->b<S.w.heap.size->Imm ⟨S.w.heap.size,acc',[],[],S.w⟩ b off:=
   fun b off h1 h2=>⟨.inr (.inr (z2.imm b off h1 h2).1),by simp⟩
  have hh:ZeJ S ⟨S.w.heap.size,acc',[],[],S.w⟩ (rowsL args):=by
   intro r hr row info h1 h2 off h3 h4
   refine ⟨?_,by simp⟩
   rcases hL2 with ⟨h,_⟩ | rfl
   ·exact .inr (.inl h)
   ·exact .inr (.inr (Zco hS _ r hr row info h1 h2 off h3 h4))
  obtain ⟨h1,h2⟩:=pure_relL (S':=⟨S.w.heap.size,acc',[],[],S.w⟩) hS rfl hi args hrel hds hv hh
  exact ⟨h1,fun i c v hc hv => .data _ _ (h2 i c v hc hv)⟩
 obtain ⟨m1,m2⟩:=hsnd _ acc' S.w cargs (Nat.le_refl _) (fun b off h => .inl h) hpre
 refine ⟨m1,Calls.mono m2 fun e w'' he => ?_⟩
 cases e with
 | returned cv =>
  obtain ⟨n1,n2⟩:=he
  obtain ⟨k1,k2⟩:=Zca z1 (w':=w'') ⟨n1.os,n1.tape,n1.output,n1.size,fun k hk=>n1.block k (Nat.lt_of_lt_of_le hk hS.base)⟩ (fun b hb=>n1.block b hb)
  refine ⟨k1,z2.trans k2,.data _ _ ?_⟩
  rcases hL2 with ⟨h,_⟩ | _
  ·exact n2.scalar h
  ·cases hsc:d.scalar with
   | true=>exact n2.scalar hsc
   | false =>
    refine DRel.shift (S':=⟨S.base,S.acc,L2,S.β,w''⟩) (S:=⟨S.w.heap.size,acc',[],[],w''⟩) rfl (fun b off hi hb => ?_) n2
    rcases hi.1 with h1 | h2 | h2
    ·refine ⟨hS.anew b off h1,fun r info h2 h3 => ?_⟩
     have:=(hS.blk r info h2).2
     omega
    ·rw [hsc] at h2;simp at h2
    ·exact h2
 | panicked c=>exact he.elim
 | outgrown=>exact he.elim
theorem ZbZ {S:St} {a:AV} {v:Value} (h:DRel S a v):freshA a=true->a.scalar=true:=by
 have all:∀ {l:List AV} {vs:List Value},l.length=vs.length->(∀ (i:Nat) c v,l[i]? = some c->vs[i]? = some v->freshA c=true->c.scalar=true)->freshL l=true->scalarL l=true:=by
  intro l
  induction l with
  | nil=>intro _ _ _ _;rfl
  | cons x l ih =>
   intro vs hl h hf
   cases vs with
   | nil=>simp at hl
   | cons u vs =>
    simp only [freshL,Bool.and_eq_true] at hf
    simp only [scalarL,Bool.and_eq_true]
    exact ⟨h 0 x u rfl rfl hf.1,ih (vs:=vs) (by simpa using hl) (fun i c v hc hv=>h (i+1) c v (by simpa using hc) (by simpa using hv)) hf.2⟩
 induction h with
 | agg cs vs hl _ ih=>intro hf;simpa [AV.scalar] using all hl ih (by simpa [freshA] using hf)
 | tup cs vs hl _ ih=>intro hf;simpa [AV.scalar] using all hl ih (by simpa [freshA] using hf)
 | bool b=>intro _;rfl
 | int k m=>intro _;rfl
 | str s=>intro _;rfl
 | flt s=>intro _;rfl
 | nilp=>intro _;rfl
 | nilf=>intro _;rfl
 | nilm=>intro _;rfl
 | vnil=>intro _;rfl
 | func=>intro hf;simp [freshA,AV.scalar] at hf
 | eptr=>intro hf;simp [freshA,AV.scalar] at hf
 | vecE=>intro hf;simp [freshA,AV.scalar] at hf
 | vec=>intro hf;simp [freshA,AV.scalar] at hf
theorem Zgv {S S':St} {a:AV} {v:Value} (h:Rel S a v) (hs:a.scalar=true):Rel S' a v:=by
 have get:∀ {l:List AV},scalarL l=true -> ∀ (i:Nat) c,l[i]? = some c->c.scalar=true:=by
  intro l
  induction l with
  | nil=>intro _ i c hc;simp at hc
  | cons x l ih =>
   intro h i c hc
   simp only [scalarL,Bool.and_eq_true] at h
   cases i with
   | zero=>simp at hc;subst hc;exact h.1
   | succ i=>simp at hc;exact ih h.2 i c hc
 induction h with
 | any v=>simp [AV.scalar] at hs
 | data a v h=>exact .data _ _ (h.scalar hs)
 | agg cs vs hl _ ih=>exact .agg cs vs hl fun i c v hc hv=>ih i c v hc hv (get (by simpa [AV.scalar] using hs) i c hc)
 | tup cs vs hl _ ih=>exact .tup cs vs hl fun i c v hc hv=>ih i c v hc hv (get (by simpa [AV.scalar] using hs) i c hc)
 | func fn a b va vb _ _ _ _ _ _=>simp [AV.scalar] at hs
 | mapr r row info v _ _ _ _=>simp [AV.scalar] at hs
 | ptr r ver i j row info v _ _ _ _ _=>simp [AV.scalar] at hs
 | row r ver row info v _ _ _ _ _=>simp [AV.scalar] at hs
 | ref r ver lo len row info v _ _ _ _ _=>simp [AV.scalar] at hs
theorem scalar_ren (f:Nat->Nat):∀ {a:AV} {S:St} {v:Value},Rel S a v->a.scalar=true->renA f a=a:=by
 intro a S v h hs
 have get:∀ {l:List AV},scalarL l=true -> ∀ (i:Nat) c,l[i]? = some c->c.scalar=true:=by
  intro l
  induction l with
  | nil=>intro _ i c hc;simp at hc
  | cons x l ih =>
   intro h i c hc
   simp only [scalarL,Bool.and_eq_true] at h
   cases i with
   | zero=>simp at hc;subst hc;exact h.1
   | succ i=>simp at hc;exact ih h.2 i c hc
 induction h with
 | any v=>simp [AV.scalar] at hs
 | data a v h=>exact dren h f
 | agg cs vs hl _ ih =>
  simp only [renA]
  rw [Zcx fun i c hc=>ih i c (vs[i]'(by rw [<- hl];exact (List.getElem?_eq_some_iff.1 hc).1)) hc (List.getElem?_eq_getElem _) (get (by simpa [AV.scalar] using hs) i c hc)]
 | tup cs vs hl _ ih =>
  simp only [renA]
  rw [Zcx fun i c hc=>ih i c (vs[i]'(by rw [<- hl];exact (List.getElem?_eq_some_iff.1 hc).1)) hc (List.getElem?_eq_getElem _) (get (by simpa [AV.scalar] using hs) i c hc)]
 | func fn a b va vb _ _ _ _ _ _=>simp [AV.scalar] at hs
 | mapr r row info v _ _ _ _=>simp [AV.scalar] at hs
 | ptr r ver i j row info v _ _ _ _ _=>simp [AV.scalar] at hs
 | row r ver row info v _ _ _ _ _=>simp [AV.scalar] at hs
 | ref r ver lo len row info v _ _ _ _ _=>simp [AV.scalar] at hs
theorem fresh_rel {S1 S':St} {j n:Nat} {row:Row} {info:BI} (h1:S1.L[j]? = some row) (h2:S1.β[j]? = some info) (h3:S'.L[n]? = some row) (h4:S'.β[n]? = some info) {a:AV} {v:Value} (h:Rel S1 a v) :
  freshA a=true->(∀ r ∈ rowsA a,r=j)->Rel S' (renA (fun _=>n) a) v:=by
 have get:∀ {l:List AV},freshL l=true -> ∀ (i:Nat) c,l[i]? = some c->freshA c=true:=by
  intro l
  induction l with
  | nil=>intro _ i c hc;simp at hc
  | cons x l ih =>
   intro h i c hc
   simp only [freshL,Bool.and_eq_true] at h
   cases i with
   | zero=>simp at hc;subst hc;exact h.1
   | succ i=>simp at hc;exact ih h.2 i c hc
 have mem:∀ {l:List AV} {i:Nat} {c:AV},(renL (fun _=>n) l)[i]? = some c -> ∃ c0,l[i]? = some c0/\c=renA (fun _=>n) c0:=by
  intro l i c h
  rw [Zbf,List.getElem?_map] at h
  obtain ⟨c0,h1,h2⟩:=Option.map_eq_some_iff.1 h
  exact ⟨c0,h1,h2.symm⟩
 have len:∀ l:List AV,(renL (fun _=>n) l).length=l.length:=fun l=>by rw [Zbf];simp
 have sc:∀ {a:AV} {v:Value},Rel S1 a v->a.scalar=true->Rel S' (renA (fun _=>n) a) v:=fun hr hs=>by rw [scalar_ren _ hr hs];exact Zgv hr hs
 induction h with
 | any v=>intro hf;simp [freshA,AV.scalar] at hf
 | data a v h =>
  intro hf hm
  cases h with
  | agg cs vs hl hh =>
   refine .agg _ vs ((len cs).trans hl) fun i c v hc hv => ?_
   obtain ⟨c0,k1,rfl⟩:=mem hc
   have hd:=hh i c0 v k1 hv
   rw [dren hd]
   have e:=ZbZ hd (get (by simpa [freshA] using hf) i c0 k1)
   exact .data _ _ (hd.scalar e)
  | tup cs vs hl hh =>
   refine .tup _ vs ((len cs).trans hl) fun i c v hc hv => ?_
   obtain ⟨c0,k1,rfl⟩:=mem hc
   have hd:=hh i c0 v k1 hv
   rw [dren hd]
   have e:=ZbZ hd (get (by simpa [freshA] using hf) i c0 k1)
   exact .data _ _ (hd.scalar e)
  | func=>simp [freshA,AV.scalar] at hf
  | eptr=>simp [freshA,AV.scalar] at hf
  | vecE=>simp [freshA,AV.scalar] at hf
  | vec=>simp [freshA,AV.scalar] at hf
  | bool b=>exact .data _ _ (.bool b)
  | int k m=>exact .data _ _ (.int k m)
  | str s=>exact .data _ _ (.str s)
  | flt s=>exact .data _ _ (.flt s)
  | nilp=>exact .data _ _ .nilp
  | nilf=>exact .data _ _ .nilf
  | nilm=>exact .data _ _ .nilm
  | vnil=>exact .data _ _ .vnil
 | agg cs vs hl _ ih =>
  intro hf hm
  refine .agg _ vs ((len cs).trans hl) fun i c v hc hv => ?_
  obtain ⟨c0,k1,rfl⟩:=mem hc
  exact ih i c0 v k1 hv (get (by simpa [freshA] using hf) i c0 k1) fun r hr=>hm r (by simp only [rowsA];exact Zby k1 hr)
 | tup cs vs hl _ ih =>
  intro hf hm
  refine .tup _ vs ((len cs).trans hl) fun i c v hc hv => ?_
  obtain ⟨c0,k1,rfl⟩:=mem hc
  exact ih i c0 v k1 hv (get (by simpa [freshA] using hf) i c0 k1) fun r hr=>hm r (by simp only [rowsA];exact Zby k1 hr)
 | func fn a b va vb _ _ _ _ _ _=>intro hf;simp [freshA,AV.scalar] at hf
 | mapr r row info v _ _ _ _=>intro hf;simp [freshA,AV.scalar] at hf
 | ptr r ver i j row info v _ _ _ _ _=>intro hf;simp [freshA,AV.scalar] at hf
 | ref r ver lo len row info v _ _ _ _ _=>intro hf;simp [freshA,AV.scalar] at hf
 | row r ver row' info' v g0 g1 g2 g3 g4 =>
  intro hf hm
  have hj:=hm r (by simp [rowsA])
  subst hj
  rw [h1] at g1;rw [h2] at g2
  simp only [Option.some.injEq] at g1 g2
  subst g1;subst g2
  exact .row n ver row info v g0 h3 h4 g3 g4
theorem own_call {M:Mach} {S:St} (hS:HeapOk S) {args args':List AV} {cargs:List Value} {rs:List Nat} {Lc:Heap} {v v':AV} {o L':Option Heap} {g:FuncId} (hin:ownIn S.L args=some (rs,args',Lc)) (hrel:RelL S args cargs)
  (hout:ownOut S.L rs v o=some (v',L')) (hsnd:OwnSnd M g args' Lc v (o.getD Lc)) :
  (∀ w,(callFunc g ⟨cargs⟩).run (M.P ()) w = .ok (.enter g ⟨cargs⟩) w) /\
  Calls (M.P ()) g ⟨cargs⟩ S.w fun
   | .returned cv,w' => ∃ β',HeapOk ⟨S.base,S.acc,L'.getD S.L,β',w'⟩/\Ext S ⟨S.base,S.acc,L'.getD S.L,β',w'⟩/\Rel ⟨S.base,S.acc,L'.getD S.L,β',w'⟩ v' cv
   | _,_=>False:=by
 obtain ⟨rows,hrows,hnd,ha,hcl,rfl,rfl⟩:=own_in hin
 obtain ⟨hl,hg⟩:=ZaE hrows
 obtain ⟨hSc,_,hrelc⟩:=Zfn hS hrows hnd hcl
 have hrel':RelL ⟨S.base,Za7 S rs,rows.map (Zak (Zar rs)),subβ S.β rs,S.w⟩ (renL (Zar rs) args) cargs:=by
  refine ⟨by rw [Zbf];simpa using hrel.1,fun i c cv hc hv => ?_⟩
  rw [Zbf,List.getElem?_map] at hc
  obtain ⟨c0,h1,rfl⟩:=Option.map_eq_some_iff.1 hc
  exact hrelc c0 cv (hrel.2 i c0 cv h1 hv) fun r hr=>ha r (Zby h1 hr)
 obtain ⟨m1,m2⟩:=hsnd _ cargs hSc rfl hrel'
 refine ⟨m1,Calls.mono m2 fun e w' he => ?_⟩
 cases e with
 | panicked c=>exact he.elim
 | outgrown=>exact he.elim
 | returned cv =>
  obtain ⟨β1,n1,n2,n3⟩:=he
  cases o with
  | some L1 =>
   simp only [Option.getD_some] at n1 n2 n3
   unfold ownOut at hout
   simp only at hout
   split at hout
   ·rename_i old new ho hn
    split at hout
    ·rename_i hc
     simp only [Option.some.injEq,Prod.mk.injEq] at hout
     obtain ⟨rfl,rfl⟩:=hout
     simp only [Bool.and_eq_true,List.all_eq_true,Bool.or_eq_true,List.contains_iff_mem] at hc
     obtain ⟨k1,k2,k3⟩:=ZeG (S1:=⟨S.base,Za7 S rs,L1,β1,w'⟩) hS hrows hnd hcl n1 n2 ((Zbl _).1 hc.1) (fun i hi=>by simpa using (List.mem_filter.1 hi).2) ho hn
      (fun row hr r hrr=>by simpa [Nat.blt_eq] using hc.2.2 row hr r hrr)
     exact ⟨_,k1,k2,k3 v cv n3 fun r hr=>by simpa [Nat.blt_eq] using hc.2.1 r hr⟩
    ·simp at hout
   ·simp at hout
  | none =>
   simp only [Option.getD_none] at n1 n2 n3
   unfold ownOut at hout
   simp only at hout
   split at hout
   ·rename_i hc
    simp only [Option.some.injEq,Prod.mk.injEq] at hout
    obtain ⟨rfl,rfl⟩:=hout
    simp only [List.all_eq_true] at hc
    have hk:(rows.map (Zak (Zar rs))).length=rs.length:=by simp [hl]
    have hall:=ZdN (rows.map (Zak (Zar rs)))
    rw [hk] at hall
    have href:∀ row ∈ rows.map (Zak (Zar rs))++[],∀ r ∈ ZaC row,r<rs.length\/r ∈ ([]:List Nat):=by
     intro row hr r hrr
     rw [List.append_nil] at hr
     obtain ⟨row0,q1,rfl⟩:=List.mem_map.1 hr
     rw [refs_ren] at hrr
     obtain ⟨r0,q2,rfl⟩:=List.mem_map.1 hrr
     exact .inl (List.getElem?_eq_some_iff.1 (Zbz (hcl row0 q1 r0 q2))).1
    obtain ⟨k1,k2,k3⟩:=ZeG (S1:=⟨S.base,Za7 S rs,rows.map (Zak (Zar rs)),β1,w'⟩) (ns:=[]) (new:=[]) hS hrows hnd hcl n1 n2 List.nodup_nil (by simp) hall rfl href
    have hL:Za3 S.L rs [] (rows.map (Zak (Zar rs))) []=S.L:=by
     unfold Za3
     rw [List.map_nil,List.append_nil]
     refine put_same rs _ fun j r x hj hx => ?_
     obtain ⟨row,q1,q2⟩:=hg j r hj
     rw [List.map_map,List.getElem?_map,q2] at hx
     simp only [Option.map_some,Option.some.injEq,Function.comp] at hx
     rw [<- hx,renRow_back]
     ·exact q1
     ·intro r0 hr0
      have hp:=Zbz (hcl row (List.mem_of_getElem? q2) r0 hr0)
      obtain ⟨z1,z2⟩:=List.getElem?_eq_some_iff.1 hp
      rw [ZeH z1,z2]
    have hv:renA (ZaP S.L.length rs []) v=renA (fun i=>rs.getD i 0) v:=renA_ext v fun r hr=>by
     have:=hc r hr
     simp [ZaP,this]
    have k3':=k3 v cv n3 fun r hr => .inl (by simpa [Nat.blt_eq] using hc r hr)
    rw [hL] at k1 k2 k3'
    rw [hv] at k3'
    exact ⟨_,k1,k2,k3'⟩
   ·simp at hout
theorem Zfq {xs:List AV} {i k:Nat} {x c:AV} (h:scalarL xs=true) (hx:xs[i]? = some x) (hc:x.cells[k]? = some c):c.scalar=true:=by
 have get:∀ {l:List AV},scalarL l=true -> ∀ (i:Nat) c,l[i]? = some c->c.scalar=true:=by
  intro l
  induction l with
  | nil=>intro _ i c hc;simp at hc
  | cons x l ih =>
   intro h i c hc
   simp only [scalarL,Bool.and_eq_true] at h
   cases i with
   | zero=>simp at hc;subst hc;exact h.1
   | succ i=>simp at hc;exact ih h.2 i c hc
 have h1:=get h i x hx
 cases x with
 | agg cs=>exact get (l:=cs) (by simpa [AV.scalar] using h1) k c hc
 | _ =>
  cases k with
  | zero=>simp only [AV.cells,List.getElem?_cons_zero,Option.some.injEq] at hc;subst hc;exact h1
  | succ k=>simp [AV.cells] at hc
theorem Zd7 {r:Nat}:∀ {l:List AV},r ∈ rowsL l -> ∃ (i:Nat) (c:AV),l[i]? = some c/\r ∈ rowsA c
 | [],h=>by simp [rowsL] at h
 | c::l,h=>by
  simp only [rowsL,List.mem_append] at h
  rcases h with h | h
  ·exact ⟨0,c,rfl,h⟩
  ·obtain ⟨i,x,h1,h2⟩:=Zd7 h
   exact ⟨i+1,x,by simpa using h1,h2⟩
theorem fresh_mp {S:St} {a:AV} {v:Value} (h:Rel S a v):freshA a=true -> ∀ r ∈ rowsA a,∀ info,S.β[r]? = some info->info.mp=false:=by
 have get:∀ {l:List AV},freshL l=true -> ∀ (i:Nat) c,l[i]? = some c->freshA c=true:=by
  intro l
  induction l with
  | nil=>intro _ i c hc;simp at hc
  | cons x l ih =>
   intro h i c hc
   simp only [freshL,Bool.and_eq_true] at h
   cases i with
   | zero=>simp at hc;subst hc;exact h.1
   | succ i=>simp at hc;exact ih h.2 i c hc
 induction h with
 | any v=>intro hf;simp [freshA,AV.scalar] at hf
 | data a v h =>
  intro _ r hr
  have h1:=rowsA_ren (fun _=>0) a
  have h3:=rowsA_ren (fun _=>1) a
  rw [dren h] at h1 h3
  rw [h1] at h3
  cases hra:rowsA a with
  | nil=>rw [hra] at hr;simp at hr
  | cons q l=>rw [hra] at h3;simp at h3
 | agg cs vs hl _ ih =>
  intro hf r hr
  obtain ⟨i,c,h1,h2⟩:=Zd7 (by simpa [rowsA] using hr)
  have hlt:i<vs.length:=by rw [<- hl];exact (List.getElem?_eq_some_iff.1 h1).1
  exact ih i c _ h1 (List.getElem?_eq_getElem hlt) (get (by simpa [freshA] using hf) i c h1) r h2
 | tup cs vs hl _ ih =>
  intro hf r hr
  obtain ⟨i,c,h1,h2⟩:=Zd7 (by simpa [rowsA] using hr)
  have hlt:i<vs.length:=by rw [<- hl];exact (List.getElem?_eq_some_iff.1 h1).1
  exact ih i c _ h1 (List.getElem?_eq_getElem hlt) (get (by simpa [freshA] using hf) i c h1) r h2
 | func fn a b va vb _ _ _ _ _ _=>intro hf;simp [freshA,AV.scalar] at hf
 | mapr r row info v _ _ _ _=>intro hf;simp [freshA,AV.scalar] at hf
 | ptr r ver i j row info v _ _ _ _ _=>intro hf;simp [freshA,AV.scalar] at hf
 | ref r ver lo len row info v _ _ _ _ _=>intro hf;simp [freshA,AV.scalar] at hf
 | row r0 ver row info v g0 g1 g2 g3 g4 =>
  intro _ r hr info' hi
  simp only [rowsA,List.mem_singleton] at hr
  subst hr
  rw [g2] at hi
  simp only [Option.some.injEq] at hi;subst hi
  exact g0.2
theorem fresh_call {M:Mach} {S:St} (hS:HeapOk S) {args ds:List AV} {cargs:List Value} {v:AV} {L1:Heap} {j:Nat} {row:Row} {g:FuncId} (hrel:RelL S args cargs) (hds:pureL S.L args=some ds)
  (hv:∀ b ∈ versL S.L args,b=true) (hj:rowsA v=[j]) (hrow:L1[j]? = some row) (hf:freshA v=true) (hsc:scalarL row.elems=true) (hsnd:OwnSnd M g ds [] v L1) :
  (∀ w,(callFunc g ⟨cargs⟩).run (M.P ()) w = .ok (.enter g ⟨cargs⟩) w) /\
  Calls (M.P ()) g ⟨cargs⟩ S.w fun
   | .returned cv,w' => ∃ β',HeapOk ⟨S.base,S.acc,S.L++[row],β',w'⟩/\Ext S ⟨S.base,S.acc,S.L++[row],β',w'⟩/\Rel ⟨S.base,S.acc,S.L++[row],β',w'⟩ (renA (fun _=>S.L.length) v) cv
   | _,_=>False:=by
 let V:St:=⟨S.w.heap.size,fun _ _=>True,[],[],S.w⟩
 have hV:HeapOk V:=⟨Nat.le_refl _,rfl,by simp [V],by simp [V],by simp [V],by simp [V],by simp [V],by simp [V],by simp [V],by simp [V],fun _ _ _=>trivial⟩
 have hpre:RelL V ds cargs:=by
  have hi:∀ b off,Imm S b off->b<S.w.heap.size->Imm V b off:=fun b off _ _=>⟨trivial,by simp [V]⟩
  have hh:ZeJ S V (rowsL args):=by
   intro r hr row info h1 h2 off h3 h4
   exact ⟨trivial,by simp [V]⟩
  obtain ⟨h1,h2⟩:=pure_relL (S':=V) hS rfl hi args hrel hds hv hh
  exact ⟨h1,fun i c v hc hv => .data _ _ (h2 i c v hc hv)⟩
 obtain ⟨m1,m2⟩:=hsnd V cargs hV rfl hpre
 refine ⟨m1,Calls.mono m2 fun e w' he => ?_⟩
 cases e with
 | returned cv =>
  obtain ⟨β1,n1,n2,n3⟩:=he
  have hlt:j<β1.length:=by rw [<- n1.len];exact (List.getElem?_eq_some_iff.1 hrow).1
  obtain ⟨info,hinfo⟩:∃ info,β1[j]? = some info:=⟨_,List.getElem?_eq_getElem hlt⟩
  obtain ⟨b1,b2⟩:=n1.blk j info hinfo
  simp only [V] at b1
  have hbel:Below S.w.heap.size S.w w':=n2.below
  have hold:∀ b,b<S.w.heap.size->w'.heap[b]? = S.w.heap[b]?:=hbel.block
  have cell:∀ b off,b<S.w.heap.size->w'.cell? ⟨b,off,none⟩=S.w.cell? ⟨b,off,none⟩:=fun b off hb=>by simp only [World.cell?,hold b hb]
  have gL:∀ {r:Nat} {row':Row},(S.L++[row])[r]? = some row'->(S.L[r]? = some row')\/(r=S.L.length/\row'=row):=by
   intro r row' h
   rw [List.getElem?_append] at h
   split at h
   ·exact .inl h
   ·rename_i hge
    have:r-S.L.length=0:=by
     rcases Nat.eq_zero_or_pos (r-S.L.length) with h0 | h0
     ·exact h0
     ·rw [List.getElem?_eq_none (by simp;omega)] at h;simp at h
    rw [this] at h
    simp only [List.getElem?_cons_zero,Option.some.injEq] at h
    exact .inr ⟨by omega,h.symm⟩
  have gβ:∀ {r:Nat} {info':BI},(S.β++[info])[r]? = some info'->(S.β[r]? = some info')\/(r=S.L.length/\info'=info):=by
   intro r info' h
   rw [List.getElem?_append] at h
   split at h
   ·exact .inl h
   ·rename_i hge
    have hl:=hS.len
    have:r-S.β.length=0:=by
     rcases Nat.eq_zero_or_pos (r-S.β.length) with h0 | h0
     ·exact h0
     ·rw [List.getElem?_eq_none (by simp;omega)] at h;simp at h
    rw [this] at h
    simp only [List.getElem?_cons_zero,Option.some.injEq] at h
    exact .inr ⟨by omega,h.symm⟩
  have lt:∀ {r:Nat} {row':Row},S.L[r]? = some row'->r<S.L.length:=fun h=>(List.getElem?_eq_some_iff.1 h).1
  have ltβ:∀ {r:Nat} {i:BI},S.β[r]? = some i->r<S.L.length:=fun h=>by rw [hS.len];exact (List.getElem?_eq_some_iff.1 h).1
  have hE:Ext S ⟨S.base,S.acc,S.L++[row],S.β++[info],w'⟩:=by
   refine ⟨rfl,rfl,fun b off hi hb=>⟨⟨hi.1,fun r info' hr he => ?_⟩,cell b off hb⟩,fun r row' info' h1 h2=>⟨row',info',?_,?_,Nat.le_refl _,fun _=>⟨rfl,fun _=>rfl⟩,rfl,fun _=>rfl⟩,⟨hbel.os,hbel.tape,hbel.output,hbel.size,fun k hk=>hbel.block k (Nat.lt_of_lt_of_le hk hS.base)⟩,fun r info' hr => ?_,fun b h1 h2 _=>hold b h2⟩
   ·rcases gβ hr with h | ⟨_,rfl⟩
    ·obtain ⟨row',k1,k2⟩:=hi.2 r info' h he
     exact ⟨row',by show (S.L++[row])[r]? = _;rw [List.getElem?_append_left (lt k1)];exact k1,k2⟩
    ·omega
   ·show (S.L++[row])[r]? = _;rw [List.getElem?_append_left (lt h1)];exact h1
   ·show (S.β++[info])[r]? = _;rw [List.getElem?_append_left (by rw [<- hS.len];exact lt h1)];exact h2
   ·rcases gβ hr with h | ⟨_,rfl⟩
    ·exact .inl ⟨r,info',h,rfl⟩
    ·exact .inr b1
  refine ⟨S.β++[info],⟨?_,by simp [hS.len],?_,?_,?_,?_,?_,?_,?_,?_,fun b off hb=>hS.anew b off (Nat.le_trans hbel.size hb)⟩,hE,?_⟩
  ·exact Nat.le_trans hS.base hbel.size
  ·intro r info' hr
   rcases gβ hr with h | ⟨_,rfl⟩
   ·obtain ⟨k1,k2⟩:=hS.blk r info' h
    exact ⟨k1,Nat.lt_of_lt_of_le k2 hbel.size⟩
   ·exact ⟨Nat.le_trans hS.base b1,b2⟩
  ·intro r r' i1 i2 h1 h2 he
   rcases gβ h1 with g1 | ⟨e1,e2⟩ <;> rcases gβ h2 with g2 | ⟨e3,e4⟩
   ·exact hS.inj r r' i1 i2 g1 g2 he
   ·have:=(hS.blk r i1 g1).2;rw [e4] at he;omega
   ·have:=(hS.blk r' i2 g2).2;rw [e2] at he;omega
   ·rw [e1,e3]
  ·intro r row' info' h1 h2 hm
   rcases gL h1 with h1 | ⟨rfl,rfl⟩
   ·rcases gβ h2 with h2 | ⟨e,_⟩
    ·exact (hS.maps r row' info' h1 h2 hm).mono hE (hold _ (hS.blk r info' h2).2)
    ·have:=lt h1;omega
   ·rcases gβ h2 with h2 | ⟨_,rfl⟩
    ·have:=ltβ h2;omega
    ·rw [fresh_mp n3 hf j (by rw [hj];simp) _ hinfo] at hm;cases hm
  ·intro r row' info' h1 h2 hm
   rcases gL h1 with h1 | ⟨rfl,rfl⟩
   ·rcases gβ h2 with h2 | ⟨e,_⟩
    ·obtain ⟨k1,k2,cs,T,k3,k4⟩:=hS.cells r row' info' h1 h2 hm
     exact ⟨k1,k2,cs,T,by show w'.heap[_]? = _;rw [hold _ (hS.blk r info' h2).2];exact k3,k4⟩
    ·have:=lt h1;omega
   ·rcases gβ h2 with h2 | ⟨_,rfl⟩
    ·have:=ltβ h2;omega
    ·exact n1.cells j row' info' hrow hinfo hm
  ·intro r row' h1
   rcases gL h1 with h1 | ⟨_,rfl⟩
   ·exact hS.elems r row' h1
   ·exact n1.elems j row' hrow
  ·intro r row' info' i x k c cv' h1 h2 h3 h4 h5
   rcases gL h1 with h1 | ⟨rfl,rfl⟩
   ·rcases gβ h2 with h2 | ⟨e,_⟩
    ·exact (hS.rel r row' info' i x k c cv' h1 h2 h3 h4 (by rw [<- cell _ _ (hS.blk r info' h2).2];exact h5)).mono hE
    ·have:=lt h1;omega
   ·rcases gβ h2 with h2 | ⟨_,rfl⟩
    ·have:=ltβ h2;omega
    ·exact Zgv (n1.rel j row' info' i x k c cv' hrow hinfo h3 h4 h5) (Zfq hsc h3 h4)
  ·intro r row' info' i x k c cv' h1 h2 hcl h3 h4 h5
   rcases gL h1 with h1 | ⟨rfl,rfl⟩
   ·rcases gβ h2 with h2 | ⟨e,_⟩
    ·exact (hS.clean r row' info' i x k c cv' h1 h2 hcl h3 h4 (by rw [<- cell _ _ (hS.blk r info' h2).2];exact h5)).mono hE
    ·have:=lt h1;omega
   ·rcases gβ h2 with h2 | ⟨_,rfl⟩
    ·have:=ltβ h2;omega
    ·exact (n1.clean j row' info' i x k c cv' hrow hinfo hcl h3 h4 h5).scalar (Zfq hsc h3 h4)
  ·intro r info' off hr
   rcases gβ hr with h | ⟨_,rfl⟩
   ·exact hS.acq r info' off h
   ·exact hS.anew _ _ b1
  ·exact fresh_rel (S1:=⟨V.base,V.acc,L1,β1,w'⟩) (j:=j) (n:=S.L.length) hrow hinfo (by show (S.L++[row])[S.L.length]? = _;simp) (by show (S.β++[info])[S.L.length]? = _;rw [hS.len];simp) n3 hf (by rw [hj];simp)
 | panicked c=>exact he.elim
 | outgrown=>exact he.elim
theorem Zcl {M:Mach} {S:St} {s s':RS} {ops:Array Oper} {o:Oper} {i n hot:Nat} {an:Option Ans} {call:Zax} {a:Act} {Q:Exit->Act->World->Prop} {K:Act->World->Prop}
  (hS:HeapOk S) (hL:S.L=s.L) (hT:TRel S s.env a.tmps) (hn:n<=a.tmps.size) (ho:ops[i]? = some o) (h:Zbk M.P M.inl call n ops an hot o s=some s')
  (hA:∀ b ∈ s'.asm,b=true) (hQ:∀ q ∈ s'.eqs,q) (hC:∀ c ∈ s'.calls,c.cond=true->ZbL M c)
  (hK:∀ S' a',HeapOk S'->Ext S S'->S'.L=s'.L->TRel S' s'.env a'.tmps->a'.tmps.size=a.tmps.size->a'.defers=a.defers->K a' S'.w) :
  wpOp (M.P ()) ops Q i K a S.w:=by
 have hdef:∀ v,(a.put o.dst v).defers=a.defers:=fun v=>by cases hd:o.dst <;> simp [Act.put]
 unfold wpOp
 simp only [ho]
 unfold Zbk at h
 split at h
 ·simp at h
 ·rename_i hc
  split at h
  ·rename_i env he
   simp only [Option.some.injEq] at h;subst h
   simp only [chainOf_no hT hc,Bool.false_eq_true,if_false]
   exact hK S _ hS (Ext.refl S) hL (Zfy hT hn .nil he (fun _ => .data _ _ (.tup [] [] rfl (by simp))) (fun h=>by simp [Zao] at h)) (ZcC _ _ _) (hdef _)
  ·simp at h
 ·rename_i c hc
  obtain ⟨hco,hw⟩:=ZdT hT hc
  rw [hw]
  split at h
  ·split at h
   ·simp at h
   ·rename_i hcv
    split at h
    ·rename_i env he
     simp only [Option.some.injEq] at h;subst h
     simp only [hcv,Bool.false_eq_true,if_false]
     exact hK S _ hS (Ext.refl S) hL (Zfy hT hn hco he (fun h=>by simp [hcv] at h) (fun _=>rfl)) (ZcC _ _ _) (hdef _)
    ·simp at h
  ·rename_i r hr
   split at h
   ·simp at h
   ·rename_i env he
    split at h
    ·simp at h
    ·
     have hs:s'.env=env/\s'.L=mergeH (Zao s.env c) s.L r.L'/\(Zao s.env c=true->(∀ b ∈ r.asm,b ∈ s'.asm)/\(∀ q ∈ r.eqs,∃ q' ∈ s'.eqs,q'->q)/\(∀ x ∈ r.calls,∃ x' ∈ s'.calls,x'.cond=x.cond/\(ZbL M x'->ZbL M x))):=by
      split at h
      ·simp only [Option.some.injEq] at h;subst h
       refine ⟨rfl,?_,fun _=>⟨fun b hb=>by simp [hb],fun q hq=>⟨q,by simp [hq],id⟩,fun x hx=>⟨x,by simp [hx],rfl,id⟩⟩⟩
       cases r.L' <;> simp [mergeH,Zao]
      ·simp only [Option.some.injEq] at h;subst h
       refine ⟨rfl,rfl,fun hcv=>⟨fun b hb => ?_,fun q hq => ?_,fun x hx => ?_⟩⟩
       ·simp only [hcv,List.mem_append,List.mem_map]
        exact .inr ⟨b,hb,by simp⟩
       ·refine ⟨_,List.mem_append_right _ (List.mem_map.2 ⟨q,hq,rfl⟩),fun hp=>hp hcv⟩
       ·refine ⟨CF.under (Zao s.env c) x,List.mem_append_right _ (List.mem_map.2 ⟨x,hx,rfl⟩),by simp [CF.under,hcv],?_⟩
        exact id
     obtain ⟨e1,e2,e3⟩:=hs
     cases hcv:Zao s.env c with
     | false =>
      simp only [Bool.false_eq_true,if_false]
      refine hK S _ hS (Ext.refl S) ?_ ?_ (ZcC _ _ _) (hdef _)
      ·rw [e2,hcv,hL];cases r.L' <;> rfl
      ·rw [e1];exact Zfy hT hn hco he (fun h=>by simp [hcv] at h) (fun _=>rfl)
     | true =>
      simp only [if_true]
      obtain ⟨f1,f2,f3⟩:=e3 hcv
      have hL':s'.L=r.L'.getD S.L:=by rw [e2,hcv,hL];cases r.L' <;> rfl
      have hrho:∀ ex,ChainTrue a.eval ex -> ∀ x,Rel S (ev s.env (ex++c) x) (a.eval x):=by
       intro ex hex x
       refine ev_rel hT (fun y hy => ?_) x
       rcases List.mem_append.1 hy with hy | hy
       ·exact hex y hy
       ·exact (chain_iff hT hco).1 hcv y hy
      rw [<- hL] at hr
      have fin:∀ β' w' cv,HeapOk ⟨S.base,S.acc,r.L'.getD S.L,β',w'⟩->Ext S ⟨S.base,S.acc,r.L'.getD S.L,β',w'⟩->Rel ⟨S.base,S.acc,r.L'.getD S.L,β',w'⟩ r.v cv->K (a.put o.dst cv) w':=by
       intro β' w' cv h1 h2 h3
       refine hK ⟨S.base,S.acc,r.L'.getD S.L,β',w'⟩ _ h1 h2 hL'.symm ?_ (ZcC _ _ _) (hdef _)
       rw [e1];exact Zfy (hT.mono h2) hn hco he (fun _=>h3) (fun h=>by simp [hcv] at h)
      rcases step_sound hS hrho hr (fun b hb=>hA b (f1 b hb)) (fun q hq=>by obtain ⟨q',h1,h2⟩:=f2 q hq;exact h2 (hQ q' h1)) with ⟨_,β',w',cv,h1,h2,h3,h4⟩ | ⟨g,args,cargs,hcl⟩
      ·left
       unfold Oper.wp
       rcases h4 with h4 | ⟨h4,h5⟩
       ·rw [h4,Oper.upon_value];exact fin β' w' cv h1 h2 h3
       ·rw [h4,Oper.upon_skip];subst h5;exact fin β' w' undef h1 h2 h3
      ·left
       unfold Oper.wp
       obtain ⟨k1,k2,call',k3⟩:=hcl
       have hsnd:∀ x ∈ r.calls,x.cond=true->ZbL M x:=fun x hx hxc=>by
        obtain ⟨x',h1,h2,h3⟩:=f3 x hx
        exact h3 (hC x' h1 (h2.trans hxc))
       unfold ZeF at k3
       cases hin:M.inl g with
       | true =>
        simp only [hin,cond_true] at k3
        split at k3
        ·rename_i rs args' Lc hoi
         split at k3
         ·rename_i v o hcall
          split at k3
          ·rename_i v' L' hoo
           simp only [Option.some.injEq] at k3;subst k3
           have:=hsnd _ (List.mem_singleton.2 rfl) rfl
           obtain ⟨m1,m2⟩:=own_call (M:=M) hS hoi k2 hoo this
           rw [k1,m1,Oper.upon_enter]
           refine Calls.mono m2 fun e w'' he => ?_
           cases e with
           | returned cv =>
            obtain ⟨β',n1,n2,n3⟩:=he
            exact fin β' w'' cv n1 n2 n3
           | panicked c=>exact he.elim
           | outgrown=>exact he.elim
          ·simp at k3
         ·simp at k3
        ·simp at k3
       | false =>
        simp only [hin,cond_false] at k3
        split at k3
        ·rename_i ds hds
         split at k3
         ·rename_i d hcall
          split at k3
          ·rename_i hdc
           have go:∀ L2:Heap,((d.scalar=true/\L2=S.L)\/L2=ZaT (rowsL args) S.L)->r.L'.getD S.L=L2->r.v=d->r.asm=versL S.L args->r.calls=[⟨true,false,g,ds,[],d,[]⟩] ->
             Oper.upon (M.P ()) o a K Q ((execOp a.eval o).run (M.P ()) S.w):=by
            intro L2 g1 g2 g3 g4 g5
            obtain ⟨m1,m2⟩:=pure_call (M:=M) (g:=g) hS k2 hds (fun b hb=>hA b (f1 b (by rw [g4];exact hb))) g1 (hsnd ⟨true,false,g,ds,[],d,[]⟩ (by rw [g5];simp) rfl)
            rw [k1,m1,Oper.upon_enter]
            refine Calls.mono m2 fun e w'' he => ?_
            cases e with
            | returned cv =>
             obtain ⟨n1,n2,n3⟩:=he
             rw [<- g2] at n1 n2 n3
             rw [<- g3] at n3
             exact fin _ w'' cv n1 n2 n3
            | panicked c=>exact he.elim
            | outgrown=>exact he.elim
           cases hsc:(d.scalar||Za0 S.L (rowsL args)) with
           | true =>
            simp only [hsc,Option.some.injEq] at k3;subst k3
            rcases Bool.or_eq_true_iff.1 hsc with hs1 | hs1
            ·exact go S.L (.inl ⟨hs1,rfl⟩) rfl rfl rfl rfl
            ·exact go S.L (.inr (ZfN _ _ hs1).symm) rfl rfl rfl rfl
           | false =>
            cases hrs:rowsL args with
            | nil=>rw [hrs] at hsc;simp [Za0] at hsc
            | cons q qs =>
             rw [hrs] at hsc
             simp only [hrs,hsc,Option.some.injEq] at k3;subst k3
             exact go (ZaT (q::qs) S.L) (.inr (by rw [hrs])) rfl rfl rfl rfl
          ·simp at k3
         ·rename_i v L1 hcall
          split at k3
          ·rename_i j hj
           split at k3
           ·rename_i row hrow
            split at k3
            ·rename_i hfr
             simp only [Option.some.injEq] at k3;subst k3
             simp only [Bool.and_eq_true] at hfr
             obtain ⟨m1,m2⟩:=fresh_call (M:=M) (g:=g) hS k2 hds (fun b hb=>hA b (f1 b (List.mem_append_left _ hb))) hj hrow hfr.1 (hA _ (f1 _ (List.mem_append_right _ (List.mem_singleton.2 rfl)))) (hsnd _ (List.mem_singleton.2 rfl) rfl)
             rw [k1,m1,Oper.upon_enter]
             refine Calls.mono m2 fun e w'' he => ?_
             cases e with
             | returned cv =>
              obtain ⟨β',n1,n2,n3⟩:=he
              exact fin β' w'' cv n1 n2 n3
             | panicked c=>exact he.elim
             | outgrown=>exact he.elim
            ·simp at k3
           ·simp at k3
          ·simp at k3
         ·simp at k3
        ·simp at k3
end Go.Av

namespace Go.Av
open Go.RowKit
section
variable {P:Unit->Program} {inl:FuncId->Bool} {call:Zax}
theorem Zdb {α β:Type} {f g:α->β} {a:Array α} (h:∀ x ∈ a,f x=g x):a.toList.map f=a.toList.map g:=
 List.map_congr_left fun x hx=>h x (by simpa using hx)
theorem stepA_congr {an:Option Ans} {ρ ρ':Za4->Operand->AV} {L:Heap} {o:Oper} (h:∀ ex,∀ x ∈ o.op.operands,ρ ex x=ρ' ex x) :
  ZaY P inl call an ρ L o=ZaY P inl call an ρ' L o:=by
 obtain ⟨dst,op,type,pos,after,guard⟩:=o
 have pairs:∀ ps:Array (Nat × Operand),(∀ x ∈ ps.map (·.2),ρ [] x=ρ' [] x) ->
   (ps.toList.map fun (i,x)=>(i,ρ [] x))=(ps.toList.map fun (i,x)=>(i,ρ' [] x)):=fun ps hp =>
  List.map_congr_left fun p hm=>by
   obtain ⟨i,x⟩:=p
   simp only [hp x (Array.mem_map.2 ⟨(i,x),by simpa using hm,rfl⟩)]
 have calls:∀ c:Call,(∀ x ∈ c.operands,ρ [] x=ρ' [] x) -> ∀ call' L,Zbu P inl call' (ρ []) L c=Zbu P inl call' (ρ' []) L c:=by
  intro c hc call' L
  have hargs:∀ x ∈ c.args,ρ [] x=ρ' [] x:=fun x hx=>hc x (by simp [Call.operands,hx])
  unfold Zbu
  cases hcal:c.callee with
  | builtin b =>
   simp only
   have mem:∀ {l:List Operand},c.args.toList=l -> ∀ x ∈ l,ρ [] x=ρ' [] x:=fun e x hx=>hargs x (by rw [<- e] at hx;simpa using hx)
   split <;> first
    | (rename_i e _;have:=mem e;simp_all;done)
    | (rename_i e;have hm:=mem e;rw [hm _ (List.mem_cons_self ..),List.map_congr_left (fun y hy=>hm y (List.mem_cons_of_mem _ hy))];done)
    | rfl
  | value f =>
   have hf:ρ [] f=ρ' [] f:=hc f (by simp [Call.operands,hcal])
   simp only [hf,Zdb hargs]
  | invoke r m=>rfl
 cases op <;> simp only [Op.operands] at h <;> simp only [ZaY]
 case build t ps=>rw [pairs ps fun x hx=>h [] x (by simpa using hx)]
 case buildSlice t n ps=>rw [pairs ps fun x hx=>h [] x (by simpa using hx)]
 case makeFunc fn first captured =>
  rw [Zdb (a:=first) fun x hx=>h [] x (by simp [hx]),Zdb (a:=captured) fun x hx=>h [] x (by simp [hx])]
 case call c =>
  split
  ·exact calls c (fun x hx=>h [] x hx) _ _
  ·exact calls c (fun x hx=>h [] x hx) _ _
 case slice t x lo hi mx=>cases lo <;> cases hi <;> cases mx <;> simp_all
 all_goals (first | rfl | (simp_all;done))
theorem fits_congr {ρ ρ':Operand->AV} {L:Heap} {o:Oper} {hot:Nat} {L':Option Heap} {k:List CF} (h:∀ x ∈ o.op.operands,ρ x=ρ' x):fits ρ L o hot L' k=fits ρ' L o hot L' k:=by
 have hcall:∀ c,o.op = .call c->(∀ f,c.callee = .value f->ρ f=ρ' f)/\(∀ x ∈ c.args.toList,ρ x=ρ' x):=by
  intro c hc
  rw [hc] at h
  exact ⟨fun f hf=>h f (by simp [Op.operands,Call.operands,hf]),fun x hx=>h x (by simp only [Op.operands,Call.operands,Array.mem_append];right;exact Array.mem_toList_iff.1 hx)⟩
 have h1:Zfw ρ o=Zfw ρ' o:=by
  unfold Zfw
  split <;> rename_i e
  ·rw [h _ (by rw [e];simp [Op.operands])]
  ·rw [h _ (by rw [e];simp [Op.operands])]
  ·rw [h _ (by rw [e];simp [Op.operands])]
  ·rfl
  ·obtain ⟨g1,g2⟩:=hcall _ e
   split
   ·rename_i h1 h2
    rw [g2 _ (by rw [h2];exact List.mem_cons_self ..)]
   ·rename_i f hf
    rw [g1 f hf,List.map_congr_left g2]
   ·rfl
  ·rfl
 have h2:Zb9 ρ L o=Zb9 ρ' L o:=by
  unfold Zb9
  split <;> rename_i e
  ·rfl
  ·rfl
  ·rfl
  ·rw [h _ (by rw [e];simp [Op.operands])]
  ·obtain ⟨g1,g2⟩:=hcall _ e
   split
   ·rename_i h1 h2
    rw [g2 _ (by rw [h2];exact List.mem_cons_self ..)]
   ·rfl
   ·rfl
  ·rfl
 have h3:Zcn ρ o=Zcn ρ' o:=by
  unfold Zcn
  congr 1
  split
  ·rename_i c e
   obtain ⟨_,g2⟩:=hcall c e
   split
   ·rename_i s x _ ha
    rw [g2 s (by rw [ha];exact List.mem_cons_self ..)]
   ·rfl
  ·rfl
 unfold fits ZcE
 rw [h1,h2,h3]
theorem odd_grow {h:Nat} (hodd:h % 2=1):Nat.beq h 1000000=false:=by
 cases hx:Nat.beq h 1000000 with
 | false=>rfl
 | true=>have h1:=Nat.eq_of_beq_eq_true hx;omega
theorem odd_new {h:Nat} (hodd:h % 2=1):ZbV h=false:=by
 unfold ZbV
 rw [hodd]
 exact Bool.and_false _
theorem ZfO {c:Call} (h:(match c.callee with
  | .builtin .max=>true
  | .builtin .min=>true
  | _=>false)=true):c.callee = .builtin .max\/c.callee = .builtin .min:=by
 split at h
 ·rename_i hc;exact .inl hc
 ·rename_i hc;exact .inr hc
 ·simp at h
theorem fits_free {ρ:Operand->AV} {L L2:Heap} {o:Oper} {hot:Nat} {L':Option Heap} {k:List CF} (h:Zda o=true):fits ρ L o hot L' k=fits ρ L2 o hot L' k:=by
 have h2:Zb9 ρ L o=none/\Zb9 ρ L2 o=none/\Zcc L o L' k=Zcc L2 o L' k:=by
  obtain ⟨dst,op,type,pos,after,guard⟩:=o
  cases op <;> simp only [Zda,Bool.false_eq_true] at h
  case call c=>rcases ZfO h with hc | hc <;> refine ⟨?_,?_,?_⟩ <;> simp only [Zb9,Zcc,hc]
  all_goals exact ⟨rfl,rfl,rfl⟩
 have h4:Zc9 L o=Zc9 L2 o:=by
  obtain ⟨dst,op,type,pos,after,guard⟩:=o
  cases op <;> simp only [Zda,Bool.false_eq_true] at h <;> rfl
 unfold fits ZcE
 rw [h2.1,h2.2.1,h2.2.2,h4]
theorem Zgs {an:Option Ans} {ρ:Za4->Operand->AV} {L L2:Heap} {o:Oper} (h:Zda o=true) :
  ZaY P inl call an ρ L o=ZaY P inl call an ρ L2 o /\ ∀ r,ZaY P inl call an ρ L o=some r->r.L'=none:=by
 have hq:∀ {x:Option AV} {r:SR},ZbE x=some r->r.L'=none:=by
  intro x r hr
  unfold ZbE at hr
  split at hr
  ·simp only [Option.some.injEq] at hr;subst hr;rfl
  ·simp at hr
 obtain ⟨dst,op,type,pos,after,guard⟩:=o
 unfold Zda at h
 have hcall:∀ c call',(c.callee = .builtin .max\/c.callee = .builtin .min)->Zbu P inl call' (ρ []) L c=Zbu P inl call' (ρ []) L2 c /\ ∀ r,Zbu P inl call' (ρ []) L c=some r->r.L'=none:=by
  intro c call' hc
  unfold Zbu
  rcases hc with hc | hc <;> rw [hc] <;> refine ⟨by dsimp only <;> (split <;> first | rfl | contradiction),fun r hr => ?_⟩ <;> dsimp only at hr <;> split at hr <;> first | exact hq hr | contradiction | simp at hr
 refine ⟨?_,fun r hr => ?_⟩
 ·cases op <;> simp only [Bool.false_eq_true] at h
  case call c =>
   simp only [ZaY]
   split <;> exact (hcall c _ (ZfO h)).1
  all_goals rfl
 cases op <;> simp only [Bool.false_eq_true] at h <;> simp only [ZaY] at hr
 case call c =>
  split at hr <;> exact (hcall c _ (ZfO h)).2 r hr
 case nilCheck x =>
  split at hr
  ·simp only [Option.some.injEq] at hr;subst hr;rfl
  ·simp only [Option.some.injEq] at hr;subst hr;rfl
  ·simp at hr
 case binOp op T x y yT =>
  unfold binA at hr
  split at hr <;> first
   | (simp only [Option.some.injEq] at hr;subst hr;rfl)
   | (split at hr <;> first | exact hq hr | simp at hr | (unfold ZgJ at hr;split at hr <;> first | (simp only [Option.some.injEq] at hr;subst hr;rfl) | simp at hr))
   | (unfold Zgq at hr;split at hr <;> first | (simp only [Option.some.injEq] at hr;subst hr;rfl) | simp at hr)
   | simp at hr
 case index T x i =>
  unfold ZgK at hr
  split at hr
  ·split at hr
   ·split at hr
    ·simp only [Option.some.injEq] at hr;subst hr;rfl
    ·simp at hr
   ·simp at hr
  ·simp only [Option.some.injEq] at hr;subst hr;rfl
  ·simp at hr
 case convert src dst x =>
  unfold convS at hr
  repeat' split at hr
  all_goals first | (simp only [Option.some.injEq] at hr;subst hr;rfl) | simp at hr
 all_goals first
  | exact hq hr
  | (simp only [Option.some.injEq] at hr;subst hr;rfl)
  | (split at hr <;> first | exact hq hr | simp at hr)
theorem Zbs {L:Heap} {row0 row:Row} {r:Nat} (h:L[r]? = some row):(L++[row0])[r]? = some row:=by
 rw [List.getElem?_append_left (List.getElem?_eq_some_iff.1 h).1];exact h
theorem ZcX {L:Heap} {row0 row:Row} {r v:Nat} (h:L[r]? = some row):Zb1 (L++[row0]) r v=Zb1 L r v:=by
 unfold Zb1;rw [Zbs h,h]
mutual
theorem pureA_append {L:Heap} (row0:Row):∀ (a:AV) {d:AV},pureA L a=some d->pureA (L++[row0]) a=some d/\versA (L++[row0]) a=versA L a
 | .any,_,h=>by simp [pureA] at h
 | .bool b,_,h=>⟨h,rfl⟩
 | .int k n,_,h=>⟨h,rfl⟩
 | .str s,_,h=>⟨h,rfl⟩
 | .flt s,_,h=>⟨h,rfl⟩
 | .nilp,_,h=>⟨h,rfl⟩
 | .nilf,_,h=>⟨h,rfl⟩
 | .nilm,_,h=>⟨h,rfl⟩
 | .mapr _,_,h=>by simp [pureA] at h
 | .vnil,_,h=>⟨h,rfl⟩
 | .eptr ..,_,h=>⟨h,rfl⟩
 | .vec ..,_,h=>⟨h,rfl⟩
 | .row r v,_,h=>by
  cases hr:L[r]? with
  | none=>simp [pureA,hr] at h
  | some row=>exact ⟨by simpa only [pureA,Zbs hr,hr] using h,by simp only [versA,ZcX hr]⟩
 | .ref r v lo len,_,h=>by
  cases hr:L[r]? with
  | none=>simp [pureA,hr] at h
  | some row=>exact ⟨by simpa only [pureA,Zbs hr,hr] using h,by simp only [versA,ZcX hr]⟩
 | .ptr r v i j,_,h=>by
  cases hr:L[r]? with
  | none=>simp [pureA,hr] at h
  | some row=>exact ⟨by simpa only [pureA,Zbs hr,hr] using h,by simp only [versA,ZcX hr]⟩
 | .agg cs,_,h=>by
  cases hr:pureL L cs with
  | none=>simp [pureA,hr] at h
  | some ds =>
   obtain ⟨h1,h2⟩:=pureL_append row0 cs hr
   exact ⟨by simpa only [pureA,h1,hr] using h,by simp only [versA,h2]⟩
 | .tup cs,_,h=>by
  cases hr:pureL L cs with
  | none=>simp [pureA,hr] at h
  | some ds =>
   obtain ⟨h1,h2⟩:=pureL_append row0 cs hr
   exact ⟨by simpa only [pureA,h1,hr] using h,by simp only [versA,h2]⟩
 | .func fn a b,_,h=>by
  cases hr:pureL L a with
  | none=>simp [pureA,hr] at h
  | some ds =>
   cases hr2:pureL L b with
   | none=>simp [pureA,hr,hr2] at h
   | some ds2 =>
    obtain ⟨h1,h2⟩:=pureL_append row0 a hr
    obtain ⟨h3,h4⟩:=pureL_append row0 b hr2
    exact ⟨by simpa only [pureA,h1,h3,hr,hr2] using h,by simp only [versA,h2,h4]⟩
theorem pureL_append {L:Heap} (row0:Row):∀ (l:List AV) {ds:List AV},pureL L l=some ds->pureL (L++[row0]) l=some ds/\versL (L++[row0]) l=versL L l
 | [],_,h=>⟨h,rfl⟩
 | c::l,_,h=>by
  cases hr:pureA L c with
  | none=>simp [pureL,hr] at h
  | some d =>
   cases hr2:pureL L l with
   | none=>simp [pureL,hr,hr2] at h
   | some ds2 =>
    obtain ⟨h1,h2⟩:=pureA_append row0 c hr
    obtain ⟨h3,h4⟩:=pureL_append row0 l hr2
    exact ⟨by simpa only [pureL,h1,h3,hr,hr2] using h,by simp only [versL,h2,h4]⟩
end
mutual
theorem pureA_same {L L2:Heap}:∀ (a:AV),(∀ q ∈ rowsA a,L2[q]? = L[q]?)->pureA L2 a=pureA L a/\versA L2 a=versA L a
 | .any,_=>⟨rfl,rfl⟩
 | .bool _,_=>⟨rfl,rfl⟩
 | .int _ _,_=>⟨rfl,rfl⟩
 | .str _,_=>⟨rfl,rfl⟩
 | .flt _,_=>⟨rfl,rfl⟩
 | .nilp,_=>⟨rfl,rfl⟩
 | .nilf,_=>⟨rfl,rfl⟩
 | .nilm,_=>⟨rfl,rfl⟩
 | .mapr _,_=>⟨rfl,rfl⟩
 | .vnil,_=>⟨rfl,rfl⟩
 | .eptr ..,_=>⟨rfl,rfl⟩
 | .vec ..,_=>⟨rfl,rfl⟩
 | .row r v,h=>by
  have:=h r (by simp [rowsA])
  exact ⟨by simp only [pureA,this],by simp only [versA,Zb1,this]⟩
 | .ref r v lo n,h=>by
  have:=h r (by simp [rowsA])
  exact ⟨by simp only [pureA,this],by simp only [versA,Zb1,this]⟩
 | .ptr r v i j,h=>by
  have:=h r (by simp [rowsA])
  exact ⟨by simp only [pureA,this],by simp only [versA,Zb1,this]⟩
 | .agg cs,h=>by
  obtain ⟨h1,h2⟩:=pureL_same cs (by simpa only [rowsA] using h)
  exact ⟨by simp only [pureA,h1],by simp only [versA,h2]⟩
 | .tup cs,h=>by
  obtain ⟨h1,h2⟩:=pureL_same cs (by simpa only [rowsA] using h)
  exact ⟨by simp only [pureA,h1],by simp only [versA,h2]⟩
 | .func fn a b,h=>by
  simp only [rowsA,List.mem_append] at h
  obtain ⟨h1,h2⟩:=pureL_same a (fun q hq=>h q (.inl hq))
  obtain ⟨h3,h4⟩:=pureL_same b (fun q hq=>h q (.inr hq))
  exact ⟨by simp only [pureA,h1,h3],by simp only [versA,h2,h4]⟩
theorem pureL_same {L L2:Heap}:∀ (l:List AV),(∀ q ∈ rowsL l,L2[q]? = L[q]?)->pureL L2 l=pureL L l/\versL L2 l=versL L l
 | [],_=>⟨rfl,rfl⟩
 | c::l,h=>by
  simp only [rowsL,List.mem_append] at h
  obtain ⟨h1,h2⟩:=pureA_same c (fun q hq=>h q (.inl hq))
  obtain ⟨h3,h4⟩:=pureL_same l (fun q hq=>h q (.inr hq))
  exact ⟨by simp only [pureL,h1,h3],by simp only [versL,h2,h4]⟩
end
theorem callF_wait {L:Heap} {g:FuncId} {args:List AV} {r:SR} (row0:Row) (h:ZeF inl call L g args=some r) (hf1:r.L'=none) (hf2:∀ x ∈ r.calls,¬x.own=true) :
  ZeF inl call (L++[row0]) g args=some r:=by
 unfold ZeF at h ⊢
 cases hin:inl g with
 | true =>
  simp only [hin,cond_true] at h
  split at h
  ·split at h
   ·split at h
    ·simp only [Option.some.injEq] at h;subst h
     simp at hf2
    ·simp at h
   ·simp at h
  ·simp at h
 | false =>
  simp only [hin,cond_false] at h ⊢
  split at h
  ·rename_i ds hds
   obtain ⟨h1,h2⟩:=pureL_append row0 _ hds
   rw [h1]
   simp only
   split at h
   ·rename_i d hcl
    split at h
    ·rename_i hd
     rw [if_pos hd,h2]
     cases hsc:(d.scalar||Za0 L (rowsL args)) with
     | true =>
      have hsc':(d.scalar||Za0 (L++[row0]) (rowsL args))=true:=by
       rcases Bool.or_eq_true_iff.1 hsc with hs | hs
       ·rw [hs];rfl
       ·rw [Bool.or_eq_true_iff]
        right
        simp only [Za0,List.all_eq_true] at hs ⊢
        intro q hq
        have:=hs q hq
        cases hL:L[q]? with
        | none=>rw [hL] at this;simp at this
        | some row=>rw [Zbs hL];rw [hL] at this;exact this
      simp only [hsc] at h
      simp only [hsc']
      exact h
     | false =>
      cases hrs:rowsL args with
      | nil=>rw [hrs] at hsc;simp [Za0] at hsc
      | cons q qs =>
       rw [hrs] at hsc
       simp only [hrs,hsc,Option.some.injEq] at h;subst h;simp at hf1
    ·simp at h
   ·split at h
    ·split at h
     ·split at h
      ·simp only [Option.some.injEq] at h;subst h;simp at hf1
      ·simp at h
     ·simp at h
    ·simp at h
   ·simp at h
  ·simp at h
theorem callF_same {L L2:Heap} {g:FuncId} {args:List AV} {r:SR} (hrows:∀ q ∈ rowsL args,L2[q]? = L[q]?) (h:ZeF inl call L g args=some r) (hf1:r.L'=none) (hf2:∀ x ∈ r.calls,¬x.own=true) :
  ZeF inl call L2 g args=some r:=by
 obtain ⟨p1,p2⟩:=pureL_same args hrows
 unfold ZeF at h ⊢
 cases hin:inl g with
 | true =>
  simp only [hin,cond_true] at h
  split at h
  ·split at h
   ·split at h
    ·simp only [Option.some.injEq] at h;subst h
     simp at hf2
    ·simp at h
   ·simp at h
  ·simp at h
 | false =>
  simp only [hin,cond_false,p1,p2] at h ⊢
  split at h
  ·rename_i ds hds
   split at h
   ·rename_i d hcl
    split at h
    ·rename_i hd
     rw [if_pos hd]
     simp only [Zf2 hrows]
     cases hsc:(d.scalar||Za0 L (rowsL args)) with
     | true=>simp only [hsc] at h ⊢;exact h
     | false =>
      cases hrs:rowsL args with
      | nil=>rw [hrs] at hsc;simp [Za0] at hsc
      | cons q qs =>
       rw [hrs] at hsc
       simp only [hrs,hsc,Option.some.injEq] at h;subst h;simp at hf1
    ·simp at h
   ·split at h
    ·split at h
     ·split at h
      ·simp only [Option.some.injEq] at h;subst h;simp at hf1
      ·simp at h
     ·simp at h
    ·simp at h
   ·simp at h
  ·simp at h
theorem stepA_wait {an:Option Ans} {ρ:Za4->Operand->AV} {L:Heap} {o:Oper} (row0:Row) (h:ZfX o=true) {r:SR} (hr:ZaY P inl call an ρ L o=some r)
  {ρ2:Operand->AV} {L2:Heap} (hf:fits ρ2 L2 o 0 r.L' r.calls=true):ZaY P inl call an ρ (L++[row0]) o=some r:=by
 simp only [fits,Bool.and_eq_true,Option.isNone_iff_eq_none,Bool.not_eq_true',List.any_eq_false] at hf
 obtain ⟨hf1,hf2⟩:=hf
 have hcall:∀ c call',(∃ f,c.callee = .value f)->Zbu P inl call' (ρ []) L c=some r->Zbu P inl call' (ρ []) (L++[row0]) c=some r:=by
  intro c call' ⟨f,hc⟩ h
  unfold Zbu at h ⊢
  rw [hc] at h ⊢
  dsimp only at h ⊢
  split at h
  ·rename_i g first captured hfv
   exact callF_wait row0 h hf1 hf2
  ·simp at h
 obtain ⟨dst,op,type,pos,after,guard⟩:=o
 cases op <;> simp [ZfX] at h
 case load T a =>
  simp only [ZaY] at hr ⊢
  unfold loadA at hr ⊢
  split at hr
  ·rename_i q ver i j hv
   cases hq:L[q]? with
   | none=>simp [hq] at hr
   | some row=>rw [Zbs hq];rw [hq] at hr;exact hr
  ·exact hr
  ·simp at hr
 case indexAddr T x i =>
  simp only [ZaY] at hr ⊢
  unfold ZbG at hr ⊢
  split at hr
  ·exact hr
  ·rename_i q ver _ _ _ _ _
   cases hq:L[q]? with
   | none=>simp [hq] at hr
   | some row=>rw [Zbs hq];rw [hq] at hr;exact hr
  ·rename_i q ver _ _ _ _ _ _ _
   cases hq:L[q]? with
   | none=>simp [hq] at hr
   | some row=>rw [Zbs hq];rw [hq] at hr;exact hr
  ·exact hr
  ·exact hr
  ·simp at hr
 case call c =>
  have hc:∃ f,c.callee = .value f:=by
   cases hcal:c.callee <;> simp [hcal] at h
   exact ⟨_,rfl⟩
  simp only [ZaY] at hr ⊢
  split at hr
  ·exact hcall c _ hc hr
  ·exact hcall c _ hc hr
structure Eff where
 c:Za4
 v:AV
 L':Option Heap
 a:List Bool
 q:List Prop
 k:List CF
def Zbi (P:Unit->Program) (inl:FuncId->Bool) (call:Zax) (ops:Array Oper) (an:Option Ans) (hot:Nat) (o:Oper) (env:Env) (L:Heap):Option Eff:=
 match Za1 ops env o with
 | none=>none
 | some none=>some ⟨[],.tup [],none,[],[],[]⟩
 | some (some c) =>
  match ZaY P inl call an (fun ex=>ev env (ex++c)) L o with
  | none=>match Zao env c with
   | true=>none
   | false=>some ⟨c,.any,none,[],[],[]⟩
  | some r =>
   match fits (ev env c) L o hot r.L' r.calls with
   | false=>none
   | true =>
    match c with
    | []=>some ⟨c,r.v,r.L',r.asm,r.eqs,r.calls⟩
    | _=>some ⟨c,r.v,bif Zao env c then r.L' else none,r.asm.map (fun a => !(Zao env c)||a),r.eqs.map (fun p=>(Zao env c=true->p)),r.calls.map (CF.under (Zao env c))⟩
theorem Zcw {n:Nat} {ops:Array Oper} {an:Option Ans} {hot:Nat} {o:Oper} {s s':RS} :
  Zbk P inl call n ops an hot o s=some s' ↔ ∃ e env,Zbi P inl call ops an hot o s.env s.L=some e/\putE n o.dst e.c e.v s.env=some env /\
   s'=⟨env,e.L'.getD s.L,s.asm++e.a,s.eqs++e.q,s.calls++e.k⟩:=by
 unfold Zbk Zbi
 cases Za1 ops s.env o with
 | none=>simp
 | some oc =>
  cases oc with
  | none =>
   simp only [Option.some.injEq]
   cases hp:putE n o.dst [] (.tup []) s.env with
   | none=>simp;intro e h;simp [hp] at h
   | some env =>
    simp only [Option.some.injEq]
    constructor
    ·rintro rfl;exact ⟨_,env,rfl,hp,by simp⟩
    ·rintro ⟨e,env',rfl,h2,rfl⟩
     simp only [hp,Option.some.injEq] at h2;subst h2;simp
  | some c =>
   simp only
   cases hs:ZaY P inl call an (fun ex=>ev s.env (ex++c)) s.L o with
   | none =>
    simp only
    cases hcv:Zao s.env c with
    | true=>simp
    | false =>
     simp only [Option.some.injEq]
     cases hp:putE n o.dst c .any s.env with
     | none=>simp;intro e h;simp [hp] at h
     | some env =>
      simp only [Option.some.injEq]
      constructor
      ·rintro rfl;exact ⟨_,env,rfl,hp,by simp⟩
      ·rintro ⟨e,env',rfl,h2,rfl⟩
       simp only [hp,Option.some.injEq] at h2;subst h2;simp
   | some r =>
    simp only
    cases hf:fits (ev s.env c) s.L o hot r.L' r.calls with
    | false=>cases putE n o.dst c r.v s.env <;> simp
    | true =>
     simp only
     cases c with
     | nil =>
      simp only [Option.some.injEq]
      cases hp:putE n o.dst [] r.v s.env with
      | none=>simp;intro e h;simp [hp] at h
      | some env =>
       simp only [Option.some.injEq]
       constructor
       ·rintro rfl;exact ⟨_,env,rfl,hp,rfl⟩
       ·rintro ⟨e,env',rfl,h2,rfl⟩
        simp only [hp,Option.some.injEq] at h2;subst h2;rfl
     | cons x c =>
      simp only [Option.some.injEq]
      have hm:∀ b,mergeH b s.L r.L'=(bif b then r.L' else none).getD s.L:=by intro b;cases b <;> cases r.L' <;> rfl
      cases hp:putE n o.dst (x::c) r.v s.env with
      | none=>simp;intro e h;simp [hp] at h
      | some env =>
       simp only [Option.some.injEq,hm]
       constructor
       ·rintro rfl;exact ⟨_,env,rfl,hp,rfl⟩
       ·rintro ⟨e,env',rfl,h2,rfl⟩
        simp only [hp,Option.some.injEq] at h2;subst h2;rfl
theorem effOp_cons {ops:Array Oper} {an:Option Ans} {hot:Nat} {o:Oper} {env:Env} {L:Heap} {d:Nat} {c0:Za4} {v:AV} (hd:d ∉ o.looksAt ops) (hno:∀ t,noD d (env.get t).1=true) :
  Zbi P inl call ops an hot o ((d,c0,v)::env) L=Zbi P inl call ops an hot o env L /\ ∀ e,Zbi P inl call ops an hot o env L=some e->noD d e.c=true:=by
 have hget:∀ t,t ≠ d->Env.get ((d,c0,v)::env) t=env.get t:=by
  intro t ht
  have:(d==t)=false:=by simpa using fun e=>ht e.symm
  simp [Env.get,this]
 have hch:Za1 ops ((d,c0,v)::env) o=Za1 ops env o /\ ∀ c,Za1 ops env o=some (some c)->noD d c=true:=by
  unfold Za1
  cases hg:o.guard with
  | none=>exact ⟨rfl,fun c h=>by simp only [Option.some.injEq] at h;subst h;rfl⟩
  | some gw =>
   obtain ⟨j,want⟩:=gw
   simp only
   cases hj:(ops[j]?).bind (·.dst) with
   | none=>exact ⟨rfl,fun c h=>by simp at h⟩
   | some t =>
    have ht:t ≠ d:=fun e=>hd (by subst e;simp [Oper.looksAt,hg,hj])
    simp only [hget t ht]
    refine ⟨trivial,fun c h => ?_⟩
    split at h
    ·rename_i ch b hgt
     simp only [Option.some.injEq] at h;subst h
     have:=hno t
     rw [hgt] at this
     simp only [noD,List.any_cons,Bool.not_or,Bool.and_eq_true,Bool.not_eq_true',beq_eq_false_iff_ne]
     exact ⟨ht,by simpa [noD] using this⟩
    ·simp at h
    ·simp at h
 unfold Zbi
 rw [hch.1]
 cases hc:Za1 ops env o with
 | none=>simp
 | some oc =>
  cases oc with
  | none =>
   refine ⟨rfl,fun e h => ?_⟩
   simp only [Option.some.injEq] at h;subst h;rfl
  | some c =>
   have hnd:=hch.2 c hc
   have hst:ZaY P inl call an (fun ex=>ev ((d,c0,v)::env) (ex++c)) L o=ZaY P inl call an (fun ex=>ev env (ex++c)) L o:=by
    refine stepA_congr fun ex x hx => ?_
    cases x with
    | tmp t =>
     have ht:t ≠ d:=fun e=>hd (by subst e;exact List.mem_append_left _ (List.mem_filterMap.2 ⟨.tmp t,by simpa using hx,rfl⟩))
     simp only [ev,hget t ht]
    | _=>rfl
   have hfi:∀ L' k,fits (ev ((d,c0,v)::env) c) L o hot L' k=fits (ev env c) L o hot L' k:=fun L' k=>by
    refine fits_congr fun x hx => ?_
    cases x with
    | tmp t =>
     have ht:t ≠ d:=fun e=>hd (by subst e;exact List.mem_append_left _ (List.mem_filterMap.2 ⟨.tmp t,by simpa using hx,rfl⟩))
     simp only [ev,hget t ht]
    | _=>rfl
   simp only [hst,ZcM hnd,hfi]
   refine ⟨trivial,fun e h => ?_⟩
   split at h
   ·split at h
    ·simp at h
    ·simp only [Option.some.injEq] at h;subst h;exact hnd
   ·split at h
    ·simp at h
    ·split at h
     ·simp only [Option.some.injEq] at h;subst h;exact hnd
     ·simp only [Option.some.injEq] at h;subst h;exact hnd
theorem ZeA {ops:Array Oper} {an:Option Ans} {hot:Nat} {o:Oper} {env:Env} {L:Heap} (hm:Zda o=true) :
  (∀ L2,Zbi P inl call ops an hot o env L=Zbi P inl call ops an hot o env L2) /\ ∀ e,Zbi P inl call ops an hot o env L=some e->e.L'=none:=by
 refine ⟨fun L2 => ?_,fun e h => ?_⟩
 ·unfold Zbi
  split <;> try rfl
  rw [(Zgs (P:=P) (inl:=inl) (call:=call) (L2:=L2) hm).1]
  simp only [fits_free (L:=L) (L2:=L2) hm]
 ·unfold Zbi at h
  split at h
  ·simp at h
  ·simp only [Option.some.injEq] at h;subst h;rfl
  ·split at h
   ·split at h
    ·simp at h
    ·simp only [Option.some.injEq] at h;subst h;rfl
   ·rename_i r hr
    have:=(Zgs (P:=P) (inl:=inl) (call:=call) (L:=L) (L2:=L) hm).2 r hr
    split at h
    ·simp at h
    ·split at h
     ·simp only [Option.some.injEq] at h;subst h;exact this
     ·simp only [Option.some.injEq] at h;subst h;simp [this]
theorem Zdz {ops:Array Oper} {an:Option Ans} {hot:Nat} {o:Oper} {env:Env} {L:Heap} {e:Eff} (hh:cool hot=true) (h:Zbi P inl call ops an hot o env L=some e):e.L'=none:=by
 unfold Zbi at h
 split at h
 ·simp at h
 ·simp only [Option.some.injEq] at h;subst h;rfl
 ·split at h
  ·split at h
   ·simp at h
   ·simp only [Option.some.injEq] at h;subst h;rfl
  ·rename_i r hr
   split at h
   ·simp at h
   ·rename_i hf
    have:r.L'=none:=by
     match hot,hh,hf with
     | 0,_,hf=>simp [fits] at hf;exact hf.1
     | 1,_,hf=>simpa [fits] using hf
     | 2,hh,_=>simp [cool,Nat.blt_eq,Nat.ble_eq] at hh
     | h+3,hh,hf =>
      simp only [cool,Bool.or_eq_true,Nat.blt_eq,Bool.and_eq_true,Nat.ble_eq,Nat.beq_eq] at hh
      have hb:Nat.beq ((h+3) % 2) 1=true:=by
       rcases hh with h1 | h1
       ·omega
       ·simpa [Nat.beq_eq] using h1.2
      have hg:Nat.beq (h+3) 1000000=false:=by
       cases hx:Nat.beq (h+3) 1000000 with
       | false=>rfl
       | true =>
        have h1:=Nat.eq_of_beq_eq_true hx
        have h2:=Nat.eq_of_beq_eq_true hb
        omega
      have hn:ZbV (h+3)=false:=odd_new (Nat.eq_of_beq_eq_true hb)
      simp only [fits,hb,hg,hn,cond_true,cond_false,Bool.and_eq_true,Option.isNone_iff_eq_none] at hf
      exact hf.2.1
    split at h
    ·simp only [Option.some.injEq] at h;subst h;exact this
    ·simp only [Option.some.injEq] at h;subst h;simp [this]
theorem ZfY {L L2:Heap} {keep:Bool} {T:TypeId} {len:Nat} {parts:List (Nat × AV)} {res:SR} (h:Zbd P keep L T len parts=some res) (hn:res.L'=none):Zbd P keep L2 T len parts=some res:=by
 unfold Zbd at h ⊢
 cases hu:(P ()).underlying T with
 | none=>rw [hu] at h;simp at h
 | some td =>
 rw [hu] at h
 cases td <;> simp only at h ⊢ <;> try (simp at h;done)
 rename_i elem
 cases hi:(P ()).info? elem with
 | none=>rw [hi] at h;simp at h
 | some i =>
 rw [hi] at h
 simp only at h ⊢
 by_cases hl:len=0
 ·rw [if_pos hl] at h ⊢;exact h
 ·rw [if_neg hl] at h ⊢
  cases hz:i.zero with
  | none=>rw [hz] at h;simp at h
  | some z0 =>
  rw [hz] at h
  simp only at h ⊢
  split at h
  ·rename_i hc
   rw [if_pos hc]
   split at h
   ·rename_i xs hx
    cases keep with
    | true=>simp only [cond_true,Option.some.injEq] at h;subst h;simp at hn
    | false =>
     simp only [cond_false] at h ⊢
     split at h
     ·rename_i ys hy
      split at h
      ·rename_i hr
       have:=(pureL_same (L:=L) (L2:=L2) xs (by rw [hr];simp)).1
       rw [this,hy]
       exact h
      ·simp only [Option.some.injEq] at h;subst h;simp at hn
     ·simp at h
   ·simp at h
  ·simp at h
theorem sliceArr_same {L L2:Heap} {n:Nat} {e:TypeId} {x:AV} {res:SR} (hw:∀ r ∈ rowsA x,L2[r]? = L[r]?) (h:Zbw P L n e x=some res) (hn:res.L'=none):Zbw P L2 n e x=some res:=by
 cases x with
 | ptr r ver i j =>
  have e0:=hw r (by simp [rowsA])
  unfold Zbw at h
  dsimp only at h
  split at h
  ·rename_i row q hr hq
   split at h
   ·rename_i y hy
    split at h
    ·rename_i xs hx
     split at h
     ·rename_i hc
      cases hf:row.frozen with
      | true =>
       rw [hf] at h
       unfold Zbw
       dsimp only
       rw [e0,hr,hq]
       dsimp only
       rw [hy]
       dsimp only
       rw [hx]
       dsimp only
       rw [if_pos hc,hf]
       exact h
      | false =>
       rw [hf] at h
       simp only [Option.some.injEq] at h;subst h
       simp at hn
     ·simp at h
    ·simp at h
   ·simp at h
  ·simp at h
 | _=>exact h
theorem stepA_reads {an:Option Ans} {ρ:Za4->Operand->AV} {L L2:Heap} {o:Oper} {l:List Nat} {w:Nat} {res:SR} (h:Zfw (ρ []) o=some l) (hl:∀ r ∈ l,r=w) (hw:L2[w]? = L[w]?)
  (hres:ZaY P inl call an ρ L o=some res) (hn:res.L'=none) (ho:∀ x ∈ res.calls,¬x.own=true):ZaY P inl call an ρ L2 o=some res:=by
 have hr:∀ {v:AV} {r:Nat},rowsA v=l->r ∈ rowsA v->L2[r]? = L[r]?:=fun e hm=>by rw [e] at hm;rw [hl _ hm,hw]
 rw [<- hres]
 obtain ⟨dst,op,type,pos,after,guard⟩:=o
 cases op <;> simp only [Zfw,Option.some.injEq,reduceCtorEq] at h
 case load T a =>
  simp only [ZaY]
  unfold loadA
  generalize ρ [] a=v at h
  cases v <;> try rfl
  case ptr r ver i j=>simp only [hr (v:=.ptr r ver i j) (r:=r) h (by simp [rowsA])]
 case indexAddr T x i =>
  simp only [ZaY]
  generalize ρ [] x=v at h
  generalize ρ [] i=n
  unfold ZbG
  cases (P ()).underlying T with
  | none=>rfl
  | some td =>
  cases td <;> cases v <;> cases n <;> try rfl
  case slice.row.int r ver _ _=>simp only [hr (v:=.row r ver) (r:=r) h (by simp [rowsA])]
  case slice.ref.int r ver lo len _ _=>simp only [hr (v:=.ref r ver lo len) (r:=r) h (by simp [rowsA])]
 case slice T x lo hi mx =>
  by_cases harr:∃ n e,(P ()).underlying T=some (.array n e)
  ·obtain ⟨n,e,hu⟩:=harr
   rw [hres]
   simp only [ZaY,hu] at hres ⊢
   split at hres
   ·rename_i hc
    rw [if_pos hc]
    exact sliceArr_same (fun r hr'=>hr h hr') hres hn
   ·simp at hres
  ·simp only [ZaY]
   generalize ρ [] x=v at h
   unfold Zgt
   cases hT:(P ()).underlying T with
   | none=>rfl
   | some td =>
   cases td <;> cases v <;> (first | rfl | skip)
   case slice.row r ver=>simp only [hr (v:=.row r ver) (r:=r) h (by simp [rowsA])]
   case slice.ref r ver low len=>simp only [hr (v:=.ref r ver low len) (r:=r) h (by simp [rowsA])]
   all_goals exact absurd ⟨_,_,hT⟩ harr
 case buildSlice T len parts =>
  rw [hres]
  simp only [ZaY] at hres ⊢
  exact ZfY hres hn
 case call c =>
  have hcalls:∀ call',Zbu P inl call' (ρ []) L c=some res->Zbu P inl call' (ρ []) L2 c=some res:=by
   intro call' hc
   split at h
   ·rename_i hcal hargs
    rename_i x
    simp only [Option.some.injEq] at h
    unfold Zbu at hc ⊢
    simp only [hcal,hargs] at hc ⊢
    cases hT:c.argTypes.toList with
    | nil=>rw [hT] at hc;simp at hc
    | cons T ts =>
     rw [hT] at hc
     simp only at hc ⊢
     rw [<- hc]
     unfold lenA
     generalize ρ [] x=v at h
     cases (P ()).underlying T with
     | none=>rfl
     | some td =>
     cases td <;> cases v <;> try rfl
     case slice.row r ver=>simp only [hr (v:=.row r ver) (r:=r) h (by simp [rowsA])]
     case slice.ref r ver low len=>simp only [hr (v:=.ref r ver low len) (r:=r) h (by simp [rowsA])]
   ·rename_i f hcal
    unfold Zbu at hc ⊢
    rw [hcal] at hc ⊢
    dsimp only at hc ⊢
    split at h
    ·rename_i g first captured hfv
     simp only [Option.some.injEq] at h
     try rw [hfv] at hc
     try simp only at hc
     exact callF_same (fun q hq=>by rw [h] at hq;rw [hl _ hq,hw]) hc hn ho
    ·simp at h
   ·simp at h
  rw [hres]
  simp only [ZaY] at hres ⊢
  split at hres
  ·exact hcalls _ hres
  ·exact hcalls _ hres
theorem callF_lays {L:Heap} {g:FuncId} {args:List AV} {r:SR} (h:ZeF inl call L g args=some r) (hc:(r.calls.all fun c=>c.own&&c.L.isEmpty)=true):∀ L2,r.L'=some L2 -> ∃ news,L2=L++news:=by
 intro L2 hL2
 unfold ZeF at h
 cases hin:inl g with
 | true =>
  simp only [hin,cond_true] at h
  split at h
  ·rename_i rs args' Lc hoi
   split at h
   ·rename_i v o hcall
    split at h
    ·rename_i v' L' hoo
     simp only [Option.some.injEq] at h;subst h
     simp only [List.all_cons,List.all_nil,Bool.and_true,Bool.true_and,List.isEmpty_iff] at hc
     subst hc
     have hrs:rs=[]:=by
      obtain ⟨rows,hrows,_,_,_,_,e⟩:=own_in hoi
      obtain ⟨hlen,_⟩:=ZaE hrows
      have:rows=[]:=by
       cases rows with
       | nil=>rfl
       | cons a l=>simp at e
      subst this
      cases rs with
      | nil=>rfl
      | cons a l=>simp at hlen
     subst hrs
     simp only at hL2
     subst hL2
     unfold ownOut at hoo
     split at hoo
     ·split at hoo
      ·simp at hoo
      ·simp at hoo
     ·dsimp only at hoo
      split at hoo
      ·split at hoo
       ·simp only [Option.some.injEq,Prod.mk.injEq] at hoo
        have e0:∀ xs:List Row,ZcS L [] xs=L:=fun xs=>by cases xs <;> rfl
        rw [e0] at hoo
        exact ⟨_,hoo.2.symm⟩
       ·simp at hoo
      ·simp at hoo
    ·simp at h
   ·simp at h
  ·simp at h
 | false =>
  simp only [hin,cond_false] at h
  split at h
  ·split at h
   ·split at h
    ·split at h
     ·simp only [Option.some.injEq] at h;subst h;simp at hL2
     ·simp only [Option.some.injEq] at h;subst h;simp at hL2
     ·simp only [Option.some.injEq] at h;subst h;simp at hc
    ·simp at h
   ·split at h
    ·split at h
     ·split at h
      ·simp only [Option.some.injEq] at h;subst h
       simp only [Option.some.injEq] at hL2
       exact ⟨_,hL2.symm⟩
      ·simp at h
     ·simp at h
    ·simp at h
   ·simp at h
  ·simp at h
theorem ZeK {an:Option Ans} {ρ:Za4->Operand->AV} {L:Heap} {o:Oper} {l:List Nat} {w:Nat} (h:Zb9 (ρ []) L o=some l) (hl:∀ r ∈ l,r=w) {r:SR} (hs:ZaY P inl call an ρ L o=some r) (hone:Zcc L o r.L' r.calls=true) :
  ∀ q,q ≠ w -> ∀ L2,r.L'=some L2->L2[q]? = L[q]?:=by
 have add:∀ {q:Nat} {row:Row},l=[L.length]->q ≠ w->(L++[row])[q]? = L[q]?:=by
  intro q row e hq
  subst e
  have:=hl _ (List.mem_singleton.2 rfl)
  rw [List.getElem?_append]
  split
  ·rfl
  ·rename_i hlt
   rw [List.getElem?_eq_none (by simp;omega),List.getElem?_eq_none (by omega)]
 have put:∀ {q k:Nat} {row:Row},k ∈ l->q ≠ w->(L.set k row)[q]? = L[q]?:=by
  intro q k row e hq
  have:=hl _ e
  exact List.getElem?_set_ne (by omega)
 intro q hq L2 hL2
 obtain ⟨dst,op,type,pos,after,guard⟩:=o
 have hbox:∀ {v:AV},l=[L.length]->boxA L v=some r->L2[q]? = L[q]?:=by
  intro v e hb
  unfold boxA at hb
  split at hb
  ·simp only [Option.some.injEq] at hb;subst hb
   simp only [Option.some.injEq] at hL2;subst hL2
   exact add e hq
  ·simp at hb
 cases op <;> simp only [Zb9,Option.some.injEq,reduceCtorEq] at h
 case alloc T =>
  simp only [ZaY] at hs
  split at hs
  ·exact hbox h.symm hs
  ·simp at hs
 case box T x=>exact hbox h.symm hs
 case makeSlice T x y =>
  simp only [ZaY] at hs
  unfold Zb8 at hs
  split at hs
  ·split at hs
   ·split at hs
    ·split at hs
     ·simp only [Option.some.injEq] at hs;subst hs
      simp only [Option.some.injEq] at hL2;subst hL2
      exact add h.symm hq
     ·simp at hs
    ·simp at hs
   ·simp at hs
  ·simp at hs
 case store T a x =>
  simp only [ZaY] at hs
  unfold Zgr at hs
  split at hs
  ·rename_i k ver i j hv
   rw [hv] at h
   simp only [rowsA] at h
   split at hs
   ·split at hs
    ·split at hs
     ·split at hs
      ·split at hs
       ·split at hs
        all_goals
         simp only [Option.some.injEq] at hs;subst hs
         simp only [Option.some.injEq] at hL2;subst hL2
         exact put (by rw [<- h];exact List.mem_singleton.2 rfl) hq
       ·simp at hs
      ·simp at hs
     ·simp at hs
    ·simp at hs
   ·simp at hs
  ·simp at hs
 case call c =>
  split at h <;> try (simp at h;done)
  rotate_left
  ·rename_i f hcal
   simp only [Option.some.injEq] at h
   have hcalls:∀ call',Zbu P inl call' (ρ []) L c=some r->L2[q]? = L[q]?:=by
    intro call' hs
    unfold Zbu at hs
    rw [hcal] at hs
    dsimp only at hs
    split at hs
    ·rename_i g first captured hfv
     obtain ⟨news,hnews⟩:=callF_lays hs (by
      unfold Zcc at hone
      simp only [hcal,Bool.and_eq_true] at hone
      exact hone.1) L2 hL2
     unfold Zcc at hone
     simp only [hcal,hL2,Bool.and_eq_true] at hone
     have hlen:=Nat.eq_of_beq_eq_true hone.2
     have hw:=hl _ (by rw [<- h];exact List.mem_singleton.2 rfl)
     subst hnews
     rw [List.length_append] at hlen
     rw [List.getElem?_append]
     split
     ·rfl
     ·rename_i hge
      rw [List.getElem?_eq_none (by omega),List.getElem?_eq_none (by omega)]
    ·simp at hs
   simp only [ZaY] at hs
   split at hs
   ·exact hcalls _ hs
   ·exact hcalls _ hs
  rename_i s x hcal hargs
  have happ:∀ T v,Zcr P L T (ρ [] s) v=some r->L2[q]? = L[q]?:=by
   intro T v hs
   unfold Zcr at hs
   split at hs <;> try (simp at hs;done)
   split at hs <;> try (simp at hs;done)
   split at hs <;> try (simp at hs;done)
   split at hs <;> try (simp at hs;done)
   split at hs
   ·rename_i hv
    rw [hv] at h
    split at hs
    ·simp only [Option.some.injEq] at hs;subst hs;simp at hL2
    ·simp only [Option.some.injEq] at hs;subst hs
     simp only [Option.some.injEq] at hL2;subst hL2
     exact add (by simpa using h.symm) hq
   ·rename_i hv
    rw [hv] at h
    split at hs
    ·split at hs
     ·simp only [Option.some.injEq] at hs;subst hs;simp at hL2
     ·simp only [Option.some.injEq] at hs;subst hs
      simp only [Option.some.injEq] at hL2;subst hL2
      exact add (by simpa using h.symm) hq
    ·simp at hs
   ·rename_i hv
    rw [hv] at h
    split at hs
    ·split at hs
     ·simp only [Option.some.injEq] at hs;subst hs
      simp only [Option.some.injEq] at hL2;subst hL2
      exact put (by rw [<- Option.some.inj h];exact List.mem_singleton.2 rfl) hq
     ·simp at hs
    ·simp at hs
   ·rename_i hv
    rw [hv] at h
    split at hs
    ·split at hs
     ·split at hs
      ·simp only [Option.some.injEq] at hs;subst hs;simp at hL2
      ·simp only [Option.some.injEq] at hs;subst hs
       simp only [Option.some.injEq] at hL2;subst hL2
       exact put (by rw [<- Option.some.inj h];exact List.mem_singleton.2 rfl) hq
     ·simp at hs
    ·simp at hs
   ·simp at hs
  have hcalls:∀ call',Zbu P inl call' (ρ []) L c=some r->L2[q]? = L[q]?:=by
   intro call' hs
   unfold Zbu at hs
   simp only [hcal,hargs] at hs
   split at hs
   ·rename_i ha1 _
    simp only [List.cons.injEq,and_true] at ha1
    obtain ⟨rfl,rfl⟩:=ha1
    split at hs
    ·exact happ _ _ hs
    ·exact happ _ _ hs
    ·unfold ZdX at hs
     split at hs
     ·rename_i hv _
      rw [hv] at h
      split at hs
      ·split at hs
       ·split at hs
        ·simp only [Option.some.injEq] at hs;subst hs
         simp only [Option.some.injEq] at hL2;subst hL2
         exact add (by simpa using h.symm) hq
        ·simp at hs
       ·simp at hs
      ·simp at hs
     ·simp at hs
    ·simp at hs
   all_goals first
    | (simp at hs;done)
    | (simp_all;done)
  simp only [ZaY] at hs
  split at hs
  ·exact hcalls _ hs
  ·exact hcalls _ hs
theorem ZdQ {ops:Array Oper} {an:Option Ans} {h:Nat} {o:Oper} {env:Env} {L:Heap} {e:Eff} (hg:o.guard=none) :
  Zbi P inl call ops an h o env L=some e ↔ ∃ r,ZaY P inl call an (fun ex=>ev env (ex++[])) L o=some r/\fits (ev env []) L o h r.L' r.calls=true/\e=⟨[],r.v,r.L',r.asm,r.eqs,r.calls⟩:=by
 unfold Zbi Za1
 simp only [hg]
 cases hs:ZaY P inl call an (fun ex=>ev env (ex++[])) L o with
 | none=>simp [Zao]
 | some r =>
  simp only [Option.some.injEq]
  cases hf:fits (ev env []) L o h r.L' r.calls with
  | false=>simp [hf]
  | true=>simp only [Option.some.injEq];exact ⟨fun h=>⟨r,rfl,hf,h.symm⟩,fun ⟨r',h1,_,h2⟩=>by subst h1;exact h2.symm⟩
theorem ZfU {ops:Array Oper} {an:Option Ans} {h:Nat} {o:Oper} {env:Env} {L L2:Heap} {e:Eff} (hg:o.guard=none) (h3:3<=h) (hodd:h % 2=1) (hw:L2[(h-3) / 2]? = L[(h-3) / 2]?) (he:Zbi P inl call ops an h o env L=some e) :
  Zbi P inl call ops an h o env L2=some e:=by
 obtain ⟨r,h1,h2,h4⟩:=(ZdQ hg).1 he
 refine (ZdQ hg).2 ⟨r,?_,?_,h4⟩
 ·match h,h3,h2 with
  | h+3,_,h2 =>
   have hb:Nat.beq ((h+3) % 2) 1=true:=by simpa [Nat.beq_eq] using hodd
   have hg:Nat.beq (h+3) 1000000=false:=odd_grow hodd
   have hn:ZbV (h+3)=false:=odd_new hodd
   simp only [fits,ZcE,hb,hg,hn,cond_true,cond_false,Bool.and_eq_true,Option.isNone_iff_eq_none,Bool.not_eq_true',List.any_eq_false] at h2
   obtain ⟨⟨_,h5⟩,h6,h7⟩:=h2
   split at h5
   ·rename_i l hl
    exact stepA_reads (ρ:=fun ex=>ev env (ex++[])) (L:=L) (l:=l) hl (fun r hr=>Nat.eq_of_beq_eq_true (List.all_eq_true.1 h5 r hr)) hw h1 h6 h7
   ·simp at h5
 ·match h,h3,h2 with
  | h+3,_,h2 =>
   have hb:Nat.beq ((h+3) % 2) 1=true:=by simpa [Nat.beq_eq] using hodd
   have hg:Nat.beq (h+3) 1000000=false:=odd_grow hodd
   have hn:ZbV (h+3)=false:=odd_new hodd
   simp only [fits,ZcE,hb,hg,hn,cond_true,cond_false] at h2 ⊢
   exact h2
theorem new_lays {an:Option Ans} {ρ:Za4->Operand->AV} {L:Heap} {o:Oper} {u:Nat} (h5:Zc9 L o u=true) {r:SR} (h1:ZaY P inl call an ρ L o=some r) {q:Nat} (hq:q<u):(r.L'.getD L)[q]? = L[q]?:=by
 unfold Zc9 at h5
 simp only [Bool.and_eq_true] at h5
 obtain ⟨_,h5⟩:=h5
 have hw:Zb9 (ρ []) L o=some [L.length]/\u<=L.length/\Zcc L o r.L' r.calls=true:=by
  obtain ⟨dst,op,type,pos,after,guard⟩:=o
  cases op <;> simp only [Bool.false_eq_true] at h5 <;> exact ⟨rfl,Nat.le_of_ble_eq_true h5,rfl⟩
 cases hL:r.L' with
 | none=>rfl
 | some L2=>exact ZeK (l:=[L.length]) (w:=L.length) hw.1 (fun r hr=>by simpa using hr) h1 hw.2.2 q (by have:=hw.2.1;omega) L2 hL
theorem fits_new {ρ:Operand->AV} {L:Heap} {o:Oper} {h:Nat} {L':Option Heap} {k:List CF} (hg:Nat.beq h 1000000=false) (hn:ZbV h=true) (h3:3<=h) (hf:fits ρ L o h L' k=true):Zc9 L o ((h-1000002) / 2)=true:=by
 match h,h3,hf with
 | h+3,_,hf =>
  have e:fits ρ L o (h+3) L' k=bif Nat.beq (h+3) 1000000 then Zcn ρ o else bif ZbV (h+3) then Zc9 L o ((h+3-1000002) / 2) else ZcE ρ L (h+3) o&&(bif Nat.beq ((h+3) % 2) 1 then L'.isNone && !(k.any fun c=>c.own) else Zcc L o L' k):=by unfold fits;rfl
  rw [e,hg,hn] at hf
  exact hf
theorem fits_old {ρ:Operand->AV} {L:Heap} {o:Oper} {h:Nat} {L':Option Heap} {k:List CF} (hg:Nat.beq h 1000000=false) (hn:ZbV h=false) (hb:Nat.beq (h % 2) 1=false) (h3:3<=h) (hf:fits ρ L o h L' k=true):ZcE ρ L h o=true/\Zcc L o L' k=true:=by
 match h,h3,hf with
 | h+3,_,hf =>
  have e:fits ρ L o (h+3) L' k=bif Nat.beq (h+3) 1000000 then Zcn ρ o else bif ZbV (h+3) then Zc9 L o ((h+3-1000002) / 2) else ZcE ρ L (h+3) o&&(bif Nat.beq ((h+3) % 2) 1 then L'.isNone && !(k.any fun c=>c.own) else Zcc L o L' k):=by unfold fits;rfl
  rw [e,hg,hn,hb] at hf
  exact Bool.and_eq_true_iff.1 hf
theorem ZeP {ops:Array Oper} {an:Option Ans} {h:Nat} {o:Oper} {env:Env} {L:Heap} {e:Eff} (hg:o.guard=none) (h3:3<=h) (hev:h % 2=0) (hgr:Nat.beq h 1000000=false) (he:Zbi P inl call ops an h o env L=some e) {q:Nat} (hq:leaves h q=true) :
  (e.L'.getD L)[q]? = L[q]?:=by
 obtain ⟨r,h1,h2,rfl⟩:=(ZdQ hg).1 he
 unfold leaves at hq
 cases hn:ZbV h with
 | true =>
  rw [hn,cond_true,Nat.blt_eq] at hq
  exact new_lays (fits_new hgr hn h3 h2) h1 hq
 | false =>
  have hq':q ≠ (h-3) / 2:=fun e=>by
   rw [hn,cond_false,e] at hq
   rw [show Nat.beq ((h-3) / 2) ((h-3) / 2)=true from Nat.beq_refl _] at hq
   cases hq
  clear hq
  have hb:Nat.beq (h % 2) 1=false:=by
   rw [hev];rfl
  obtain ⟨h5,h6⟩:=fits_old hgr hn hb h3 h2
  unfold ZcE at h5
  simp only [hb,Bool.and_eq_true] at h5
  have h5:=h5.2
  split at h5
  ·rename_i l hl
   cases hL:r.L' with
   | none=>rfl
   | some L2=>exact ZeK (l:=l) hl (fun r hr=>Nat.eq_of_beq_eq_true (List.all_eq_true.1 h5 r hr)) h1 h6 q hq' L2 hL
  ·simp at h5
theorem effOp_wait {ops:Array Oper} {an:Option Ans} {o:Oper} {env:Env} {L:Heap} {e:Eff} (row0:Row) (hw:ZfX o=true) (h:Zbi P inl call ops an 0 o env L=some e) :
  Zbi P inl call ops an 0 o env (L++[row0])=some e:=by
 have hg:o.guard=none:=by
  unfold ZfX at hw
  simp only [Bool.and_eq_true,Option.isNone_iff_eq_none] at hw
  exact hw.1
 unfold Zbi Za1 at h ⊢
 rw [hg] at h ⊢
 simp only at h ⊢
 split at h
 ·simp [Zao] at h
 ·rename_i r hr
  split at h
  ·simp at h
  ·rename_i hf
   rw [stepA_wait row0 hw hr hf]
   have hf':fits (ev env []) (L++[row0]) o 0 r.L' r.calls=true:=hf
   simp only [hf']
   exact h
theorem effOp_grow0 {ops:Array Oper} {an:Option Ans} {hot:Nat} {o:Oper} {env:Env} {L:Heap} {e:Eff} (hg:Zdh o=true) (h:Zbi P inl call ops an hot o env L=some e) :
  e.L'=none \/ ∃ row,e.L'=some (L++[row]):=by
 have hbox:∀ {L:Heap} {v:AV} {r:SR},boxA L v=some r -> ∃ row,r.L'=some (L++[row]):=by
  intro L v r hr
  unfold boxA at hr
  split at hr
  ·simp only [Option.some.injEq] at hr;subst hr;exact ⟨_,rfl⟩
  ·simp at hr
 have hst:∀ {an ρ L r},ZaY P inl call an ρ L o=some r -> ∃ row,r.L'=some (L++[row]):=by
  intro an ρ L r hr
  obtain ⟨dst,op,type,pos,after,guard⟩:=o
  cases op <;> simp [Zdh] at hg
  case alloc T =>
   simp only [ZaY] at hr
   split at hr
   ·exact hbox hr
   ·simp at hr
  case box T x=>exact hbox hr
 unfold Zbi at h
 split at h
 ·simp at h
 ·simp only [Option.some.injEq] at h;subst h;exact .inl rfl
 ·split at h
  ·split at h
   ·simp at h
   ·simp only [Option.some.injEq] at h;subst h;exact .inl rfl
  ·rename_i r hr
   obtain ⟨row,hrow⟩:=hst hr
   split at h
   ·simp at h
   ·split at h
    ·simp only [Option.some.injEq] at h;subst h;exact .inr ⟨row,hrow⟩
    ·simp only [Option.some.injEq] at h;subst h
     simp only [hrow]
     cases Zao env _ with
     | true=>exact .inr ⟨row,rfl⟩
     | false=>exact .inl rfl
theorem ZcR {call':Zax} {ρ:Operand->AV} {L:Heap} {c:Call} {s x:Operand} (hcal:c.callee = .builtin .append) (hargs:c.args.toList=[s,x]) (hs:ρ s = .vnil) {r:SR} (h:Zbu P inl call' ρ L c=some r):r.L'=none \/ ∃ row,r.L'=some (L++[row]):=by
 have happ:∀ T y,Zcr P L T .vnil y=some r->r.L'=none \/ ∃ row,r.L'=some (L++[row]):=by
  intro T y h
  unfold Zcr at h
  split at h <;> try (simp at h;done)
  split at h <;> try (simp at h;done)
  split at h <;> try (simp at h;done)
  split at h <;> try (simp at h;done)
  rename_i ys cl q _
  cases ys with
  | nil=>simp only [Option.some.injEq] at h;subst h;exact .inl rfl
  | cons y ys=>simp only [Option.some.injEq] at h;subst h;exact .inr ⟨_,rfl⟩
 unfold Zbu at h
 simp only [hcal,hargs] at h
 split at h
 ·rename_i ha1 _
  simp only [List.cons.injEq,and_true] at ha1
  obtain ⟨rfl,rfl⟩:=ha1
  rw [hs] at h
  split at h
  ·exact happ _ _ h
  ·exact happ _ _ h
  ·unfold ZdX at h
   split at h
   ·split at h
    ·split at h
     ·split at h
      ·simp only [Option.some.injEq] at h;subst h;exact .inr ⟨_,rfl⟩
      ·simp at h
     ·simp at h
    ·simp at h
   ·simp at h
  ·simp at h
 all_goals first
  | (simp at h;done)
  | (simp_all;done)
theorem effOp_grow {ops:Array Oper} {an:Option Ans} {hot:Nat} {o:Oper} {env:Env} {L:Heap} {e:Eff} (hg:Zdh o=true\/hot=1000000) (h:Zbi P inl call ops an hot o env L=some e) :
  e.L'=none \/ ∃ row,e.L'=some (L++[row]):=by
 rcases hg with hg | rfl
 ·exact effOp_grow0 hg h
 have hst:∀ {an c r},ZaY P inl call an (fun ex=>ev env (ex++c)) L o=some r->fits (ev env c) L o 1000000 r.L' r.calls=true->r.L'=none \/ ∃ row,r.L'=some (L++[row]):=by
  intro an c r hs hf
  have hf':Zcn (ev env c) o=true:=hf
  unfold Zcn at hf'
  simp only [Bool.and_eq_true] at hf'
  obtain ⟨_,hf2⟩:=hf'
  obtain ⟨dst,op,type,pos,after,guard⟩:=o
  cases op <;> simp only [Bool.false_eq_true] at hf2
  rename_i cl
  split at hf2
  ·rename_i s x hcal hargs
   split at hf2
   ·rename_i hv
    simp only [ZaY] at hs
    split at hs
    ·exact ZcR hcal hargs (by simpa using hv) hs
    ·exact ZcR hcal hargs (by simpa using hv) hs
   ·cases hf2
  ·cases hf2
 unfold Zbi at h
 split at h
 ·simp at h
 ·simp only [Option.some.injEq] at h;subst h;exact .inl rfl
 ·split at h
  ·split at h
   ·simp at h
   ·simp only [Option.some.injEq] at h;subst h;exact .inl rfl
  ·rename_i r hr
   split at h
   ·simp at h
   ·rename_i hf
    have hrow:=hst hr hf
    split at h
    ·simp only [Option.some.injEq] at h;subst h;exact hrow
    ·simp only [Option.some.injEq] at h;subst h
     rcases hrow with hrow | ⟨row,hrow⟩
     ·simp only [hrow]
      cases Zao env _ with
      | true=>exact .inl rfl
      | false=>exact .inl rfl
     ·simp only [hrow]
      cases Zao env _ with
      | true=>exact .inr ⟨row,rfl⟩
      | false=>exact .inl rfl
end
end Go.Av

namespace Go.Av
open Go.RowKit
structure RSEq (s s':RS):Prop where
 get:∀ t,s.env.get t=s'.env.get t
 any:∀ d,(s.env.any fun e=>e.2.1.any fun x=>x.1==d)=(s'.env.any fun e=>e.2.1.any fun x=>x.1==d)
 L:s.L=s'.L
 a:∀ b,b ∈ s.asm ↔ b ∈ s'.asm
 q:∀ b,b ∈ s.eqs ↔ b ∈ s'.eqs
 k:∀ b,b ∈ s.calls ↔ b ∈ s'.calls
theorem RSEq.refl (s:RS):RSEq s s:=⟨fun _=>rfl,fun _=>rfl,rfl,fun _ => .rfl,fun _ => .rfl,fun _ => .rfl⟩
theorem RSEq.trans {s s' s'':RS} (h:RSEq s s') (k:RSEq s' s''):RSEq s s'':=
 ⟨fun t=>(h.get t).trans (k.get t),fun t=>(h.any t).trans (k.any t),h.L.trans k.L,fun b=>(h.a b).trans (k.a b),fun b=>(h.q b).trans (k.q b),fun b=>(h.k b).trans (k.k b)⟩
section
variable {P:Unit->Program} {inl:FuncId->Bool} {call:Zax} {n:Nat} {ops:Array Oper} {ans:Nat->Option Ans} {hot:Nat->Nat}
theorem Zcq {env env':Env} (h:∀ t,env.get t=env'.get t) (c:Za4):Zao env c=Zao env' c:=by
 induction c with
 | nil=>rfl
 | cons x c ih=>simp only [Zao,h,ih]
theorem effOp_congr {an:Option Ans} {hot:Nat} {o:Oper} {env env':Env} {L:Heap} (h:∀ t,env.get t=env'.get t) :
  Zbi P inl call ops an hot o env L=Zbi P inl call ops an hot o env' L:=by
 have h1:Za1 ops env o=Za1 ops env' o:=by unfold Za1;simp only [h]
 have h2:∀ c,ev env c=ev env' c:=by
  intro c;funext x
  cases x <;> simp only [ev,h]
 unfold Zbi
 simp only [h1,h2,Zcq h]
theorem Ze3 {d:Nat} {c:Za4} {v:AV} {env e1:Env} (h:putE n (some d) c v env=some e1):d<n/\noD d c=true/\(env.any fun e=>e.2.1.any fun x=>x.1==d)=false/\e1=(d,c,v)::env:=by
 unfold putE at h
 simp only at h
 split at h
 ·rename_i h1
  simp only [Option.some.injEq] at h
  obtain ⟨h2,h3⟩:=h1
  simp only [List.any_cons,Bool.or_eq_false_iff] at h3
  exact ⟨h2,by simpa [noD] using h3.1,h3.2,h.symm⟩
 ·simp at h
theorem putE_mk {d:Nat} {c:Za4} {v:AV} {env:Env} (h1:d<n) (h2:noD d c=true) (h3:(env.any fun e=>e.2.1.any fun x=>x.1==d)=false) :
  putE n (some d) c v env=some ((d,c,v)::env):=by
 have h2':(c.any fun x=>x.1==d)=false:=by simpa [noD] using h2
 unfold putE
 simp only
 rw [if_pos ⟨h1,by simp only [List.any_cons,h2',h3,Bool.or_self]⟩]
theorem putE_congr {d:Option Tmp} {c:Za4} {v:AV} {env env' e1:Env} (hg:∀ t,env.get t=env'.get t)
  (ha:∀ d,(env.any fun e=>e.2.1.any fun x=>x.1==d)=(env'.any fun e=>e.2.1.any fun x=>x.1==d)) (h:putE n d c v env=some e1) :
  ∃ e2,putE n d c v env'=some e2/\(∀ t,e1.get t=e2.get t)/\(∀ d,(e1.any fun e=>e.2.1.any fun x=>x.1==d)=(e2.any fun e=>e.2.1.any fun x=>x.1==d)):=by
 cases d with
 | none =>
  simp only [putE,Option.some.injEq] at h;subst h
  exact ⟨env',rfl,hg,ha⟩
 | some d =>
  obtain ⟨h1,h2,h3,rfl⟩:=Ze3 h
  refine ⟨_,putE_mk h1 h2 (by rw [<- ha];exact h3),fun t => ?_,fun d => ?_⟩
  ·simp only [Env.get,hg]
  ·simp only [List.any_cons,ha]
theorem Zc1:∀ (l:List Nat) {s s' t:RS},RSEq s s'->Zav P inl call n ops ans hot l s=some t -> ∃ t',Zav P inl call n ops ans hot l s'=some t'/\RSEq t t'
 | [],s,s',t,h,hr=>by
  simp only [Zav,Option.some.injEq] at hr;subst hr
  exact ⟨s',rfl,h⟩
 | i::rest,s,s',t,h,hr=>by
  simp only [Zav] at hr ⊢
  cases ho:ops[i]? with
  | none=>rw [ho] at hr;exact Zc1 rest h hr
  | some o =>
   rw [ho] at hr
   simp only at hr ⊢
   cases h1:Zbk P inl call n ops (ans i) (hot i) o s with
   | none=>rw [h1] at hr;simp at hr
   | some s1 =>
    rw [h1] at hr
    obtain ⟨e,env,k1,k2,rfl⟩:=Zcw.1 h1
    rw [effOp_congr h.get,h.L] at k1
    obtain ⟨env2,m1,m2,m3⟩:=putE_congr h.get h.any k2
    have h2:Zbk P inl call n ops (ans i) (hot i) o s'=some ⟨env2,e.L'.getD s'.L,s'.asm++e.a,s'.eqs++e.q,s'.calls++e.k⟩:=Zcw.2 ⟨e,env2,k1,m1,rfl⟩
    rw [h2]
    exact Zc1 rest ⟨m2,m3,by simp only [h.L],fun b=>by simp [h.a],fun b=>by simp [h.q],fun b=>by simp [h.k]⟩ hr
theorem ZfV {an:Option Ans} {hot:Nat} {o:Oper} {env e1:Env} {L:Heap} {d:Option Tmp} {c0:Za4} {v:AV} (hd:∀ t,d=some t->t ∉ o.looksAt ops) (hp:putE n d c0 v env=some e1) :
  Zbi P inl call ops an hot o e1 L=Zbi P inl call ops an hot o env L /\ ∀ e t,d=some t->Zbi P inl call ops an hot o env L=some e->noD t e.c=true:=by
 cases d with
 | none=>simp only [putE,Option.some.injEq] at hp;subst hp;exact ⟨rfl,by simp⟩
 | some d =>
  obtain ⟨_,h2,h3,rfl⟩:=Ze3 hp
  obtain ⟨k1,k2⟩:=effOp_cons (P:=P) (inl:=inl) (call:=call) (an:=an) (hot:=hot) (L:=L) (c0:=c0) (v:=v) (hd d rfl) (get_any h3)
  exact ⟨k1,fun e t ht he=>by cases ht;exact k2 e he⟩
theorem putE_swap {di dj:Option Tmp} {ci cj:Za4} {vi vj:AV} {env e1 e2:Env} (hne:∀ t,di=some t->dj ≠ some t) (h1:putE n di ci vi env=some e1) (h2:putE n dj cj vj e1=some e2)
  (hij:∀ t,di=some t->noD t cj=true) :
  ∃ f1 f2,putE n dj cj vj env=some f1/\putE n di ci vi f1=some f2/\(∀ t,e2.get t=f2.get t)/\(∀ d,(e2.any fun e=>e.2.1.any fun x=>x.1==d)=(f2.any fun e=>e.2.1.any fun x=>x.1==d)):=by
 cases di with
 | none =>
  simp only [putE,Option.some.injEq] at h1;subst h1
  exact ⟨e2,e2,h2,rfl,fun _=>rfl,fun _=>rfl⟩
 | some i =>
  cases dj with
  | none =>
   simp only [putE,Option.some.injEq] at h2;subst h2
   exact ⟨env,e1,rfl,h1,fun _=>rfl,fun _=>rfl⟩
  | some j =>
   have hij':i ≠ j:=fun e=>hne i rfl (by rw [e])
   obtain ⟨a1,a2,a3,rfl⟩:=Ze3 h1
   obtain ⟨b1,b2,b3,rfl⟩:=Ze3 h2
   simp only [List.any_cons,Bool.or_eq_false_iff] at b3
   have hic:=hij i rfl
   refine ⟨_,_,putE_mk b1 b2 b3.2,putE_mk a1 a2 ?_,fun t => ?_,fun d => ?_⟩
   ·have:(cj.any fun x=>x.1==i)=false:=by simpa [noD] using hic
    simp only [List.any_cons,this,a3,Bool.or_self]
   ·simp only [Env.get]
    by_cases e1:j=t
    ·subst e1
     have:(i==j)=false:=by simpa using hij'
     simp [this]
    ·have:(j==t)=false:=by simpa using e1
     simp [this]
   ·simp only [List.any_cons]
    generalize (cj.any fun x=>x.1==d)=A
    generalize (ci.any fun x=>x.1==d)=B
    generalize (env.any fun e=>e.2.1.any fun x=>x.1==d)=C
    cases A <;> cases B <;> cases C <;> rfl
theorem swap_two {i j:Nat} {oi oj:Oper} {s s1 s2:RS} (hm:Zcb hot ops i j oi oj=true) (h1:Zbk P inl call n ops (ans i) (hot i) oi s=some s1) (h2:Zbk P inl call n ops (ans j) (hot j) oj s1=some s2) :
  ∃ t1 t2,Zbk P inl call n ops (ans j) (hot j) oj s=some t1/\Zbk P inl call n ops (ans i) (hot i) oi t1=some t2/\RSEq s2 t2:=by
 unfold Zcb at hm
 simp only [Bool.and_eq_true,Bool.or_eq_true] at hm
 obtain ⟨hap,hAB⟩:=hm
 obtain ⟨ap1,ap2,ap3⟩:=Oper.apart_spec hap
 obtain ⟨ei,env1,a1,a2,rfl⟩:=Zcw.1 h1
 obtain ⟨ej,env2,b1,b2,rfl⟩:=Zcw.1 h2
 simp only at b1 b2
 obtain ⟨c1,c2⟩:=ZfV (P:=P) (inl:=inl) (call:=call) (an:=ans j) (hot:=hot j) (o:=oj) (L:=ei.L'.getD s.L) ap1 a2
 rw [c1] at b1
 obtain ⟨f1,f2,p1,p2,p3,p4⟩:=putE_swap ap2 a2 b2 (fun t ht=>c2 ej t ht b1)
 have key:Zbi P inl call ops (ans j) (hot j) oj s.env s.L=some ej/\Zbi P inl call ops (ans i) (hot i) oi s.env (ej.L'.getD s.L)=some ei/\ej.L'.getD (ei.L'.getD s.L)=ei.L'.getD (ej.L'.getD s.L):=by
  rcases hAB with ⟨hA,hB⟩ | ⟨hR,hgi,hgj⟩
  rotate_left
  ·have hgi:oi.guard=none:=by simpa using hgi
   have hgj:oj.guard=none:=by simpa using hgj
   simp only [rowSwap,Bool.and_eq_true,Nat.ble_eq,Nat.beq_eq,Bool.not_eq_true',<- Bool.not_eq_true] at hR
   obtain ⟨⟨⟨r1,r2⟩,r3⟩,r4,r5,r6⟩:=hR
   have r5:Nat.beq (hot i) 1000000=false:=Bool.eq_false_iff.2 (by simpa [Nat.beq_eq] using r5)
   have r6:Nat.beq (hot j) 1000000=false:=Bool.eq_false_iff.2 (by simpa [Nat.beq_eq] using r6)
   rcases Nat.mod_two_eq_zero_or_one (hot i) with hi | hi
   ·have hj:hot j % 2=1:=by omega
    have hjn:=Zdz (by simp [cool,Nat.blt_eq,Nat.ble_eq,r2,hj]) b1
    rw [hi] at r4
    have:=ZfU (L2:=s.L) hgj r2 hj (ZeP hgi r1 hi r5 a1 r4).symm b1
    exact ⟨this,by rw [hjn];exact a1,by rw [hjn];rfl⟩
   ·have hj:hot j % 2=0:=by omega
    have hin:=Zdz (by simp [cool,Nat.blt_eq,Nat.ble_eq,r1,hi]) a1
    rw [hin] at b1
    simp only [Option.getD_none] at b1
    rw [hi] at r4
    exact ⟨b1,ZfU hgi r1 hi (ZeP hgj r2 hj r6 b1 r4) a1,by rw [hin];rfl⟩
  rcases hA with hA | hA
  ·have hi:=Zdz hA a1
   rw [hi] at b1
   simp only [Option.getD_none] at b1
   refine ⟨b1,?_,by rw [hi];rfl⟩
   rcases hB with (hB | hB) | hB
   ·rw [Zdz hB b1];exact a1
   ·rw [(ZeA hB).1 s.L];exact a1
   ·obtain ⟨g1,g2,g3⟩:=hB
    have g3:hot i=0:=Nat.eq_of_beq_eq_true g3
    rw [g3] at a1 ⊢
    have g1:Zdh oj=true\/hot j=1000000:=g1.imp_right Nat.eq_of_beq_eq_true
    rcases effOp_grow g1 b1 with h | ⟨row,h⟩
    ·rw [h];exact a1
    ·rw [h];exact effOp_wait row g2 a1
  ·have hj:=(ZeA hA).2 ej b1
   rw [(ZeA hA).1 s.L] at b1
   exact ⟨b1,by rw [hj];exact a1,by rw [hj];rfl⟩
 obtain ⟨k1,k2,k3⟩:=key
 have q1:Zbk P inl call n ops (ans j) (hot j) oj s=some ⟨f1,ej.L'.getD s.L,s.asm++ej.a,s.eqs++ej.q,s.calls++ej.k⟩:=Zcw.2 ⟨ej,f1,k1,p1,rfl⟩
 refine ⟨_,_,q1,Zcw.2 ⟨ei,f2,?_,p2,rfl⟩,p3,p4,k3,fun b => ?_,fun b => ?_,fun b => ?_⟩
 ·obtain ⟨d1,_⟩:=ZfV (P:=P) (inl:=inl) (call:=call) (an:=ans i) (hot:=hot i) (o:=oi) (L:=ej.L'.getD s.L) ap3 p1
  rw [d1];exact k2
 ·simp only [List.mem_append];constructor <;> (intro h;rcases h with (h | h) | h <;> simp [h])
 ·simp only [List.mem_append];constructor <;> (intro h;rcases h with (h | h) | h <;> simp [h])
 ·simp only [List.mem_append];constructor <;> (intro h;rcases h with (h | h) | h <;> simp [h])
theorem bubble {j:Nat} {oj:Oper} (hj:ops[j]? = some oj):∀ (l1 l2:List Nat) {s t:RS},(∀ i ∈ l1,∃ oi,ops[i]? = some oi/\Zcb hot ops i j oi oj=true) ->
  Zav P inl call n ops ans hot (l1++j::l2) s=some t -> ∃ t',Zav P inl call n ops ans hot (j::(l1++l2)) s=some t'/\RSEq t t'
 | [],l2,s,t,_,h=>⟨t,h,RSEq.refl t⟩
 | i::l1,l2,s,t,hall,h=>by
  obtain ⟨oi,hoi,hm⟩:=hall i (List.mem_cons_self ..)
  simp only [List.cons_append,Zav,hoi] at h
  cases h1:Zbk P inl call n ops (ans i) (hot i) oi s with
  | none=>rw [h1] at h;simp at h
  | some s1 =>
   rw [h1] at h
   obtain ⟨t',k1,k2⟩:=bubble hj l1 l2 (fun i hi=>hall i (List.mem_cons_of_mem _ hi)) h
   simp only [Zav,hj] at k1
   cases h2:Zbk P inl call n ops (ans j) (hot j) oj s1 with
   | none=>rw [h2] at k1;simp at k1
   | some s2 =>
    rw [h2] at k1
    obtain ⟨t1,t2,m1,m2,m3⟩:=swap_two hm h1 h2
    obtain ⟨t'',n1,n2⟩:=Zc1 _ m3 k1
    refine ⟨t'',?_,k2.trans n2⟩
    simp only [List.cons_append,Zav,hj,hoi,m1,m2]
    exact n1
end
theorem TRel.congr {S:St} {env env':Env} {tm:Array Value} (h:∀ t,env.get t=env'.get t) (hT:TRel S env tm):TRel S env' tm:=by
 have hc:∀ {c:Za4},ChainOk env c->ChainOk env' c:=by
  intro c hc
  induction hc with
  | nil=>exact .nil
  | cons d w b hb _ ih =>
   have:=ChainOk.cons (env:=env') d w b (by rw [<- h];exact hb) (by rw [<- h];exact ih)
   rwa [<- h] at this
 refine ⟨fun t => ?_,fun t ht => ?_,fun t ht => ?_⟩
 ·rw [<- h];exact hc (hT.chain t)
 ·rw [<- h] at ht ⊢;rw [<- Zcq h] at ht;exact hT.yes t ht
 ·rw [<- h,<- Zcq h] at ht;exact hT.no t ht
section
variable {M:Mach} {call:Zax} {n:Nat} {ops:Array Oper} {ans:Nat->Option Ans} {hot:Nat->Nat} {Q:Exit->Act->World->Prop}
theorem Zct:∀ (l:List Nat) {s sf:RS} {S:St} {a:Act},Zav M.P M.inl call n ops ans hot l s=some sf ->
  (∀ b ∈ sf.asm,b=true)->(∀ q ∈ sf.eqs,q)->(∀ c ∈ sf.calls,c.cond=true->ZbL M c) ->
  HeapOk S->S.L=s.L->TRel S s.env a.tmps->n<=a.tmps.size ->
  (∀ S' a',HeapOk S'->Ext S S'->S'.L=sf.L->TRel S' sf.env a'.tmps->a'.tmps.size=a.tmps.size->a'.defers=a.defers->Q .normal a' S'.w) ->
  wpOps (M.P ()) ops Q l a S.w
 | [],s,sf,S,a,h,_,_,_,hS,hL,hT,_,hK=>by
  simp only [Zav,Option.some.injEq] at h;subst h
  exact hK S a hS (Ext.refl S) hL hT rfl rfl
 | i::rest,s,sf,S,a,h,hA,hQ,hC,hS,hL,hT,hn,hK=>by
  rw [wpOps_cons]
  simp only [Zav] at h
  cases ho:ops[i]? with
  | none =>
   rw [ho] at h
   unfold wpOp
   simp only [ho]
   exact Zct rest h hA hQ hC hS hL hT hn hK
  | some o =>
   rw [ho] at h
   simp only at h
   cases h1:Zbk M.P M.inl call n ops (ans i) (hot i) o s with
   | none=>rw [h1] at h;simp at h
   | some s1 =>
    rw [h1] at h
    simp only at h
    obtain ⟨env,L,x,y,z,rfl,_⟩:=ZaW _ h
    refine Zcl hS hL hT hn ho h1 (fun b hb=>hA b (by simp [hb])) (fun b hb=>hQ b (by simp [hb])) (fun b hb=>hC b (by simp [hb])) fun S' a' k1 k2 k3 k4 k5 k6 => ?_
    exact Zct rest h hA hQ hC k1 k3 k4 (by rw [k5];exact hn) fun S'' a'' m1 m2 m3 m4 m5 m6=>hK S'' a'' m1 (k2.trans m2) m3 m4 (m5.trans k5) (m6.trans k6)
theorem Zc4 {listed:Array Bool} (hcl:∀ (j:Nat) (o:Oper),ops[j]? = some o->listed.getD j false=true -> ∀ e ∈ o.after,Region.binds .any e=true->listed.getD e.on false=true) (i:Nat) :
  ∀ (fuel j:Nat),(∀ o,ops[j]? = some o -> ∀ e ∈ o.after,Region.binds .any e=true->listed.getD e.on false=true)->ZeT ops i fuel j=true->listed.getD i false=true
 | 0,j,_,h=>by simp [ZeT] at h
 | fuel+1,j,hj,h=>by
  simp only [ZeT] at h
  cases ho:ops[j]? with
  | none=>rw [ho] at h;simp at h
  | some o =>
   rw [ho] at h
   obtain ⟨e,he,hb⟩:=List.any_eq_true.1 h
   have he:e ∈ o.after:=by simpa using he
   simp only [Bool.and_eq_true,Bool.or_eq_true,beq_iff_eq] at hb
   have h1:=hj o ho e he hb.1
   rcases hb.2 with h2 | h2
   ·rw [<- h2];exact h1
   ·exact Zc4 hcl i fuel e.on (fun o' ho'=>hcl e.on o' ho' h1) h2
theorem ZcA {a:Array Bool} {i:Nat} (h:i<a.size) (d d':Bool):a.getD i d=a.getD i d':=by
 simp [h]
theorem draw_sound (hd:ZgR hot ops=true):∀ (fuel:Nat) (listed:Array Bool) (rest:List Nat) {s sf:RS} {S:St} {a:Act},listed.size=ops.size->rest.Pairwise (· < ·) ->
  (∀ i,i ∈ rest ↔ i<ops.size/\listed.getD i true=false) ->
  (∀ (j:Nat) (o:Oper),ops[j]? = some o->listed.getD j false=true -> ∀ e ∈ o.after,Region.binds .any e=true->listed.getD e.on false=true)->rest.length<=fuel ->
  Zav M.P M.inl call n ops ans hot rest s=some sf->(∀ b ∈ sf.asm,b=true)->(∀ q ∈ sf.eqs,q)->(∀ c ∈ sf.calls,c.cond=true->ZbL M c) ->
  HeapOk S->S.L=s.L->TRel S s.env a.tmps->n<=a.tmps.size ->
  (∀ S' a',HeapOk S'->Ext S S'->S'.L=sf.L->TRel S' sf.env a'.tmps->a'.tmps.size=a.tmps.size->a'.defers=a.defers->Q .normal a' S'.w) ->
  wpAny (M.P ()) .any ops Q fuel listed a S.w:=by
 unfold ZgR at hd
 simp only [Bool.and_eq_true,List.all_eq_true,List.mem_range] at hd
 obtain ⟨hedges,hswap⟩:=hd
 have hedge:∀ (j:Nat) (o:Oper),ops[j]? = some o -> ∀ e ∈ o.after,Region.binds .any e=true->e.on<j:=by
  intro j o ho e he hb
  unfold edgesOk at hedges
  simp only [List.all_eq_true,List.mem_range] at hedges
  have:=hedges j (Array.getElem?_eq_some_iff.1 ho).1
  rw [ho] at this
  have:=List.all_eq_true.1 this e (by simpa using he)
  simpa [hb,Nat.blt_eq] using this
 have none_ready:∀ (listed:Array Bool) (rest:List Nat),listed.size=ops.size->rest.Pairwise (· < ·)->(∀ i,i ∈ rest ↔ i<ops.size/\listed.getD i true=false) ->
   Region.ready .any ops listed=[]->rest=[]:=by
  intro listed rest hsz hp hr hnil
  cases rest with
  | nil=>rfl
  | cons j rest =>
   exfalso
   obtain ⟨h1,h2⟩:=(hr j).1 (List.mem_cons_self ..)
   have:j ∈ Region.ready .any ops listed:=by
    refine mem_ready.2 ⟨h2,ops[j],Array.getElem?_eq_getElem h1,fun e he hb => ?_⟩
    have hlt:=hedge j _ (Array.getElem?_eq_getElem h1) e he hb
    have hes:e.on<listed.size:=by omega
    cases hl:listed.getD e.on true with
    | true=>rw [ZcA hes false true];exact hl
    | false =>
     have:=(hr e.on).2 ⟨by omega,hl⟩
     rcases List.mem_cons.1 this with h | h
     ·omega
     ·have:=(List.pairwise_cons.1 hp).1 _ h
      omega
   rw [hnil] at this
   cases this
 intro fuel
 induction fuel with
 | zero =>
  intro listed rest s sf S a hsz hp hr hcl hlen h hA hQ hC hS hL hT hn hK
  have:rest=[]:=List.length_eq_zero_iff.1 (Nat.le_zero.1 hlen)
  subst this
  simp only [Zav,Option.some.injEq] at h;subst h
  refine ⟨?_,hK S a hS (Ext.refl S) hL hT rfl rfl⟩
  apply List.eq_nil_iff_forall_not_mem.2
  intro j hj
  obtain ⟨h1,o,h2,_⟩:=mem_ready.1 hj
  have:=(hr j).2 ⟨(Array.getElem?_eq_some_iff.1 h2).1,h1⟩
  cases this
 | succ fuel ih =>
  intro listed rest s sf S a hsz hp hr hcl hlen h hA hQ hC hS hL hT hn hK
  refine ⟨fun hnil => ?_,fun j hj => ?_⟩
  ·have:=none_ready listed rest hsz hp hr hnil
   subst this
   simp only [Zav,Option.some.injEq] at h;subst h
   exact hK S a hS (Ext.refl S) hL hT rfl rfl
  ·obtain ⟨h1,oj,hoj,hall⟩:=mem_ready.1 hj
   have hjlt:=(Array.getElem?_eq_some_iff.1 hoj).1
   have hjr:=(hr j).2 ⟨hjlt,h1⟩
   obtain ⟨l1,l2,rfl⟩:=List.append_of_mem hjr
   have hlt:∀ i ∈ l1,i<j:=fun i hi=>(List.pairwise_append.1 hp).2.2 i hi j (List.mem_cons_self ..)
   obtain ⟨sf',k1,k2⟩:=bubble hoj l1 l2 (fun i hi=>by
    obtain ⟨i1,i2⟩:=(hr i).1 (List.mem_append_left _ hi)
    refine ⟨ops[i],Array.getElem?_eq_getElem i1,?_⟩
    have:=hswap j hjlt i (hlt i hi)
    rw [Array.getElem?_eq_getElem i1,hoj] at this
    simp only [Bool.or_eq_true] at this
    rcases this with this | this
    ·exact this
    ·have:=Zc4 hcl i ops.size j (fun o ho=>by rw [hoj] at ho;cases ho;exact hall) this
     rw [ZcA (by omega) false true,i2] at this
     cases this) h
   simp only [Zav,hoj] at k1
   cases h2:Zbk M.P M.inl call n ops (ans j) (hot j) oj s with
   | none=>rw [h2] at k1;simp at k1
   | some s1 =>
    rw [h2] at k1
    simp only at k1
    obtain ⟨env,L,x,y,z,he,_⟩:=ZaW _ k1
    have hA':∀ b ∈ sf'.asm,b=true:=fun b hb=>hA b ((k2.a b).2 hb)
    have hQ':∀ b ∈ sf'.eqs,b:=fun b hb=>hQ b ((k2.q b).2 hb)
    have hC':∀ c ∈ sf'.calls,c.cond=true->ZbL M c:=fun b hb=>hC b ((k2.k b).2 hb)
    refine Zcl hS hL hT hn hoj h2 (fun b hb=>hA' b (by rw [he];simp [hb])) (fun b hb=>hQ' b (by rw [he];simp [hb])) (fun b hb=>hC' b (by rw [he];simp [hb])) fun S' a' m1 m2 m3 m4 m5 m6 => ?_
    refine ih (listed.setIfInBounds j true) (l1++l2) (by simpa using hsz) ?_ (fun i => ?_) (fun k o ho hk e he hb => ?_) ?_ k1 hA' hQ' hC' m1 m3 m4 (by rw [m5];exact hn) fun S'' a'' q1 q2 q3 q4 q5 q6 => ?_
    ·exact hp.sublist (List.Sublist.append (List.Sublist.refl _) (List.sublist_cons_self _ _))
    ·by_cases e:j=i
     ·subst e
      constructor
      ·intro hm
       exfalso
       rcases List.mem_append.1 hm with hm | hm
       ·exact Nat.lt_irrefl _ (hlt _ hm)
       ·exact Nat.lt_irrefl _ ((List.pairwise_cons.1 (List.pairwise_append.1 hp).2.1).1 _ hm)
      ·rintro ⟨_,hm⟩
       simp [show j<listed.size by omega] at hm
     ·rw [getD_set_ne true e,<- hr]
      simp only [List.mem_append,List.mem_cons]
      constructor
      ·rintro (h | h)
       ·exact .inl h
       ·exact .inr (.inr h)
      ·rintro (h | h | h)
       ·exact .inl h
       ·exact absurd h.symm e
       ·exact .inr h
    ·by_cases e':j=k
     ·subst e'
      rw [hoj] at ho;cases ho
      exact getD_set_true (hall e he hb)
     ·rw [getD_set_ne false e'] at hk
      exact getD_set_true (hcl k o ho hk e he hb)
    ·simp only [List.length_append,List.length_cons] at hlen ⊢
     omega
    ·exact hK S'' a'' q1 (m2.trans q2) (q3.trans k2.L.symm) (q4.congr fun t=>(k2.get t).symm) (q5.trans m5) (q6.trans m6)
end
end Go.Av

namespace Go.Av
open Go.RowKit
theorem accOf_sub {S:St} (hS:HeapOk S) {rs:List Nat} {b off:Nat} (h:Za7 S rs b off):S.acc b off:=by
 rcases h with h | ⟨r,info,_,h2,rfl⟩ | h
 ·exact hS.anew b off h
 ·exact hS.acq r info off h2
 ·exact h.1
theorem perm_ok {S0 S:St} (hS:HeapOk S) (_h0:HeapOk S0) (he:Ext S0 S) {rs:List Nat} {rows:List Row} (hrows:ZaF S.L rs=some rows) (hnd:rs.Nodup) (hcl:∀ row ∈ rows,∀ r ∈ ZaC row,r ∈ rs)
  (hid:∀ r,r<S0.L.length->rs[r]? = some r) :
  HeapOk ⟨S.base,S.acc,rows.map (Zak (Zar rs)),subβ S.β rs,S.w⟩/\Ext S0 ⟨S.base,S.acc,rows.map (Zak (Zar rs)),subβ S.β rs,S.w⟩ /\
  ∀ a v,Rel S a v->(∀ r ∈ rowsA a,r ∈ rs)->Rel ⟨S.base,S.acc,rows.map (Zak (Zar rs)),subβ S.β rs,S.w⟩ (renA (Zar rs) a) v:=by
 obtain ⟨k1,k2,k3⟩:=Zfn hS hrows hnd hcl
 obtain ⟨hl,hg⟩:=ZaE hrows
 have himm:∀ b off,Imm ⟨S.base,Za7 S rs,rows.map (Zak (Zar rs)),subβ S.β rs,S.w⟩ b off->Imm ⟨S.base,S.acc,rows.map (Zak (Zar rs)),subβ S.β rs,S.w⟩ b off:=
  fun b off h=>⟨accOf_sub hS h.1,h.2⟩
 have hd:∀ a v,DRel ⟨S.base,Za7 S rs,rows.map (Zak (Zar rs)),subβ S.β rs,S.w⟩ a v->DRel ⟨S.base,S.acc,rows.map (Zak (Zar rs)),subβ S.β rs,S.w⟩ a v:=
  fun a v h=>DRel.shift (S:=⟨S.base,Za7 S rs,rows.map (Zak (Zar rs)),subβ S.β rs,S.w⟩) (S':=⟨S.base,S.acc,rows.map (Zak (Zar rs)),subβ S.β rs,S.w⟩) rfl (fun b off hi _=>himm b off hi) h
 have hr:∀ a v,Rel ⟨S.base,Za7 S rs,rows.map (Zak (Zar rs)),subβ S.β rs,S.w⟩ a v->Rel ⟨S.base,S.acc,rows.map (Zak (Zar rs)),subβ S.β rs,S.w⟩ a v:=by
  intro a v h
  have:=Zfu (f:=fun r=>r) (D:=fun _=>True) (S:=⟨S.base,Za7 S rs,rows.map (Zak (Zar rs)),subβ S.β rs,S.w⟩) (S':=⟨S.base,S.acc,rows.map (Zak (Zar rs)),subβ S.β rs,S.w⟩)
   (fun r row info _ h1 h2=>⟨row,h1,h2,rfl,rfl⟩) hd h (fun _ _=>trivial)
  rwa [renA_id] at this
 have hmap:∀ {row:Row} {b:Nat},MapOk ⟨S.base,Za7 S rs,rows.map (Zak (Zar rs)),subβ S.β rs,S.w⟩ row b->MapOk ⟨S.base,S.acc,rows.map (Zak (Zar rs)),subβ S.β rs,S.w⟩ row b:=by
  rintro row b ⟨es,h1,h2,h3,h4⟩
  refine ⟨es,h1,h2,h3,fun i e x he hx => ?_⟩
  obtain ⟨g1,k,n,v,g2,g3,g4,g5,g6⟩:=h4 i e x he hx
  exact ⟨g1,k,n,v,g2,g3,g4,hr _ _ g5,fun hc=>hd _ _ (g6 hc)⟩
 refine ⟨⟨k1.base,k1.len,k1.blk,k1.inj,fun r row info h1 h2 hm=>hmap (k1.maps r row info h1 h2 hm),k1.cells,k1.elems,fun r row info i x k c cv h1 h2 h3 h4 h5=>hr _ _ (k1.rel r row info i x k c cv h1 h2 h3 h4 h5),
  fun r row info i x k c cv h1 h2 h3 h4 h5 h6=>hd _ _ (k1.clean r row info i x k c cv h1 h2 h3 h4 h5 h6),fun r info off h=>accOf_sub hS (k1.acq r info off h),hS.anew⟩,?_,fun a v h h'=>hr _ _ (k3 a v h h')⟩
 refine ⟨he.base,he.acc,fun b off hi hb => ?_,fun r row info h1 h2 => ?_,he.below,fun r info' h => ?_,he.other⟩
 ·obtain ⟨m1,m2⟩:=he.imm b off hi hb
  exact ⟨himm b off (k2 b off m1),m2⟩
 ·obtain ⟨row',info',m1,m2,m3,m4,m5,m6⟩:=he.rows r row info h1 h2
  have hrs:=hid r (List.getElem?_eq_some_iff.1 h1).1
  obtain ⟨row1,n1,n2⟩:=hg r r hrs
  rw [m1] at n1
  simp only [Option.some.injEq] at n1;subst n1
  obtain ⟨_,s2,_,_,s5⟩:=ZaL (Zar rs) row'
  refine ⟨Zak (Zar rs) row',info',by show (rows.map _)[r]? = _;rw [List.getElem?_map,n2];rfl,?_,by rw [s2];exact m3,by rw [s2,s5];exact m4,m5,m6⟩
  show (subβ S.β rs)[r]? = _
  unfold subβ
  rw [List.getElem?_map,hrs]
  have hlt:r<S.β.length:=Zah m2
  have h3:=(List.getElem?_eq_some_iff.1 m2).2
  simp [hlt,h3]
 ·unfold subβ at h
  simp only at h
  rw [List.getElem?_map] at h
  obtain ⟨q,q1,q2⟩:=Option.map_eq_some_iff.1 h
  obtain ⟨row,n1,_⟩:=hg r q q1
  have hlt:q<S.β.length:=by rw [<- hS.len];exact Zah n1
  have:S.β[q]? = some info':=by rw [<- q2];simp [hlt]
  exact he.fresh q info' this
theorem sw_def (p i:Nat):sw p i=if i=p then p+1 else if i=p+1 then p else i:=by
 unfold sw
 by_cases h1:i=p
 ·have:Nat.beq i p=true:=Nat.beq_eq.mpr h1
  rw [this,if_pos h1];rfl
 ·have e1:Nat.beq i p=false:=by
   cases h:Nat.beq i p with
   | false=>rfl
   | true=>exact absurd (Nat.beq_eq.mp h) h1
  rw [e1,if_neg h1]
  by_cases h2:i=p+1
  ·have:Nat.beq i (p+1)=true:=Nat.beq_eq.mpr h2
   rw [this,if_pos h2];rfl
  ·have e2:Nat.beq i (p+1)=false:=by
    cases h:Nat.beq i (p+1) with
    | false=>rfl
    | true=>exact absurd (Nat.beq_eq.mp h) h2
   rw [e2,if_neg h2];rfl
theorem sw_l (p:Nat):sw p p=p+1:=by simp [sw_def]
theorem sw_r (p:Nat):sw p (p+1)=p:=by simp [sw_def]
theorem sw_sw (p i:Nat):sw p (sw p i)=i:=by
 simp only [sw_def]
 split <;> (try split) <;> (try split) <;> omega
theorem sw_lt {p i n:Nat} (hp:p+1<n):sw p i<n ↔ i<n:=by
 simp only [sw_def]
 split
 ·omega
 ·split <;> omega
section
variable {M:Mach} {call:Zax} {n:Nat} {ops:Array Oper} {ans:Nat->Option Ans} {hot:Nat->Nat} {Q:Exit->Act->World->Prop}
structure Left (M:Mach) (call:Zax) (n:Nat) (ops:Array Oper) (ans:Nat->Option Ans) (hot:Nat->Nat) (R:Nat->Nat->Prop) (listed:Array Bool) (rest:List Nat) (s sf:RS):Prop where
 size:listed.size=ops.size
 pw:rest.Pairwise R
 mem:∀ i,i ∈ rest ↔ i<ops.size/\listed.getD i true=false
 closed:∀ (j:Nat) (o:Oper),ops[j]? = some o->listed.getD j false=true -> ∀ e ∈ o.after,Region.binds .any e=true->listed.getD e.on false=true
 run:Zav M.P M.inl call n ops ans hot rest s=some sf
theorem Left.none {R:Nat->Nat->Prop} {listed:Array Bool} {rest:List Nat} {s sf:RS} (h:Left M call n ops ans hot R listed rest s sf)
  (hedge:∀ (j:Nat) (o:Oper),ops[j]? = some o -> ∀ e ∈ o.after,Region.binds .any e=true->e.on<j/\¬R j e.on) (hnil:Region.ready .any ops listed=[]):rest=[]:=by
 obtain ⟨hsz,hp,hr,_,_⟩:=h
 cases rest with
 | nil=>rfl
 | cons j rest =>
  exfalso
  obtain ⟨h1,h2⟩:=(hr j).1 (List.mem_cons_self ..)
  have:j ∈ Region.ready .any ops listed:=by
   refine mem_ready.2 ⟨h2,ops[j],Array.getElem?_eq_getElem h1,fun e he hb => ?_⟩
   obtain ⟨hlt,hnR⟩:=hedge j _ (Array.getElem?_eq_getElem h1) e he hb
   have hes:e.on<listed.size:=by omega
   cases hl:listed.getD e.on true with
   | true=>rw [ZcA hes false true];exact hl
   | false =>
    have:=(hr e.on).2 ⟨by omega,hl⟩
    rcases List.mem_cons.1 this with h | h
    ·omega
    ·exact absurd ((List.pairwise_cons.1 hp).1 _ h) hnR
  rw [hnil] at this
  cases this
theorem Left.pick {R:Nat->Nat->Prop} {listed:Array Bool} {rest:List Nat} {s sf:RS} (h:Left M call n ops ans hot R listed rest s sf) (hirr:∀ i,¬R i i) {j:Nat} (hj:j ∈ Region.ready .any ops listed)
  (hswap:∀ i a b,R i j->ops[i]? = some a->ops[j]? = some b->Zcb hot ops i j a b=true\/ZeT ops i ops.size j=true) :
  ∃ oj s1 sf' rest',ops[j]? = some oj/\Zbk M.P M.inl call n ops (ans j) (hot j) oj s=some s1/\Left M call n ops ans hot R (listed.setIfInBounds j true) rest' s1 sf'/\RSEq sf sf'/\rest.length=rest'.length+1:=by
 obtain ⟨hsz,hp,hr,hcl,h⟩:=h
 obtain ⟨h1,oj,hoj,hall⟩:=mem_ready.1 hj
 have hjlt:=(Array.getElem?_eq_some_iff.1 hoj).1
 have hjr:=(hr j).2 ⟨hjlt,h1⟩
 obtain ⟨l1,l2,rfl⟩:=List.append_of_mem hjr
 have hlt:∀ i ∈ l1,R i j:=fun i hi=>(List.pairwise_append.1 hp).2.2 i hi j (List.mem_cons_self ..)
 obtain ⟨sf',k1,k2⟩:=bubble hoj l1 l2 (fun i hi=>by
  obtain ⟨i1,i2⟩:=(hr i).1 (List.mem_append_left _ hi)
  refine ⟨ops[i],Array.getElem?_eq_getElem i1,?_⟩
  rcases hswap i _ _ (hlt i hi) (Array.getElem?_eq_getElem i1) hoj with this | this
  ·exact this
  ·have:=Zc4 hcl i ops.size j (fun o ho=>by rw [hoj] at ho;cases ho;exact hall) this
   rw [ZcA (by omega) false true,i2] at this
   cases this) h
 simp only [Zav,hoj] at k1
 cases h2:Zbk M.P M.inl call n ops (ans j) (hot j) oj s with
 | none=>rw [h2] at k1;simp at k1
 | some s1 =>
  rw [h2] at k1
  simp only at k1
  refine ⟨oj,s1,sf',l1++l2,hoj,h2,⟨by simpa using hsz,hp.sublist (List.Sublist.append (List.Sublist.refl _) (List.sublist_cons_self _ _)),fun i => ?_,fun k o ho hk e he hb => ?_,k1⟩,k2,by simp only [List.length_append,List.length_cons];omega⟩
  ·by_cases e:j=i
   ·subst e
    constructor
    ·intro hm
     exfalso
     rcases List.mem_append.1 hm with hm | hm
     ·exact hirr _ (hlt _ hm)
     ·exact hirr _ ((List.pairwise_cons.1 (List.pairwise_append.1 hp).2.1).1 _ hm)
    ·rintro ⟨_,hm⟩
     simp [show j<listed.size by omega] at hm
   ·rw [getD_set_ne true e,<- hr]
    simp only [List.mem_append,List.mem_cons]
    constructor
    ·rintro (h | h)
     ·exact .inl h
     ·exact .inr (.inr h)
    ·rintro (h | h | h)
     ·exact .inl h
     ·exact absurd h.symm e
     ·exact .inr h
  ·by_cases e':j=k
   ·subst e'
    rw [hoj] at ho;cases ho
    exact getD_set_true (hall e he hb)
   ·rw [getD_set_ne false e'] at hk
    exact getD_set_true (hcl k o ho hk e he hb)
theorem draw_one {R:Nat->Nat->Prop} (hirr:∀ i,¬R i i)
  (hedge:∀ (j:Nat) (o:Oper),ops[j]? = some o -> ∀ e ∈ o.after,Region.binds .any e=true->e.on<j/\¬R j e.on)
  (hswap:∀ i j a b,R i j->ops[i]? = some a->ops[j]? = some b->Zcb hot ops i j a b=true\/ZeT ops i ops.size j=true) :
  ∀ (fuel:Nat) (listed:Array Bool) (rest:List Nat) {s sf:RS} {S:St} {a:Act},Left M call n ops ans hot R listed rest s sf->rest.length<=fuel ->
  (∀ b ∈ sf.asm,b=true)->(∀ q ∈ sf.eqs,q)->(∀ c ∈ sf.calls,c.cond=true->ZbL M c) ->
  HeapOk S->S.L=s.L->TRel S s.env a.tmps->n<=a.tmps.size ->
  (∀ S' a',HeapOk S'->Ext S S'->S'.L=sf.L->TRel S' sf.env a'.tmps->a'.tmps.size=a.tmps.size->a'.defers=a.defers->Q .normal a' S'.w) ->
  wpAny (M.P ()) .any ops Q fuel listed a S.w:=by
 intro fuel
 induction fuel with
 | zero =>
  intro listed rest s sf S a hl hlen hA hQ hC hS hL hT hn hK
  have:rest=[]:=List.length_eq_zero_iff.1 (Nat.le_zero.1 hlen)
  subst this
  have h:=hl.run
  simp only [Zav,Option.some.injEq] at h;subst h
  refine ⟨?_,hK S a hS (Ext.refl S) hL hT rfl rfl⟩
  apply List.eq_nil_iff_forall_not_mem.2
  intro j hj
  obtain ⟨h1,o,h2,_⟩:=mem_ready.1 hj
  have:=(hl.mem j).2 ⟨(Array.getElem?_eq_some_iff.1 h2).1,h1⟩
  cases this
 | succ fuel ih =>
  intro listed rest s sf S a hl hlen hA hQ hC hS hL hT hn hK
  refine ⟨fun hnil => ?_,fun j hj => ?_⟩
  ·have:=hl.none hedge hnil
   subst this
   have h:=hl.run
   simp only [Zav,Option.some.injEq] at h;subst h
   exact hK S a hS (Ext.refl S) hL hT rfl rfl
  ·obtain ⟨oj,s1,sf',rest',hoj,h2,hl',k2,hlen'⟩:=hl.pick hirr hj fun i a b=>hswap i j a b
   obtain ⟨env,L,x,y,z,he,_⟩:=ZaW _ hl'.run
   have hA':∀ b ∈ sf'.asm,b=true:=fun b hb=>hA b ((k2.a b).2 hb)
   have hQ':∀ b ∈ sf'.eqs,b:=fun b hb=>hQ b ((k2.q b).2 hb)
   have hC':∀ c ∈ sf'.calls,c.cond=true->ZbL M c:=fun b hb=>hC b ((k2.k b).2 hb)
   refine Zcl hS hL hT hn hoj h2 (fun b hb=>hA' b (by rw [he];simp [hb])) (fun b hb=>hQ' b (by rw [he];simp [hb])) (fun b hb=>hC' b (by rw [he];simp [hb])) fun S' a' m1 m2 m3 m4 m5 m6 => ?_
   exact ih _ rest' hl' (by omega) hA' hQ' hC' m1 m3 m4 (by rw [m5];exact hn) fun S'' a'' q1 q2 q3 q4 q5 q6 =>
    hK S'' a'' q1 (m2.trans q2) (q3.trans k2.L.symm) (q4.congr fun t=>(k2.get t).symm) (q5.trans m5) (q6.trans m6)
theorem runOp_hot {P:Unit->Program} {inl:FuncId->Bool} {an:Option Ans} {h1 h2:Nat} {o:Oper} {s s1 s2:RS} (a:Zbk P inl call n ops an h1 o s=some s1) (b:Zbk P inl call n ops an h2 o s=some s2):s1=s2:=by
 unfold Zbk at a b
 cases hc:Za1 ops s.env o with
 | none=>rw [hc] at a;simp at a
 | some c0 =>
  rw [hc] at a b
  cases c0 with
  | none =>
   simp only at a b
   rw [a] at b;simpa using b
  | some c =>
   simp only at a b
   cases hs:ZaY P inl call an (fun ex=>ev s.env (ex++c)) s.L o with
   | none =>
    rw [hs] at a b
    simp only at a b
    rw [a] at b;simpa using b
   | some r =>
    rw [hs] at a b
    simp only at a b
    cases hp:putE n o.dst c r.v s.env with
    | none=>rw [hp] at a;simp at a
    | some env =>
     rw [hp] at a b
     simp only at a b
     cases hf:fits (ev s.env c) s.L o h1 r.L' r.calls with
     | false=>rw [hf] at a;simp at a
     | true =>
      cases hf2:fits (ev s.env c) s.L o h2 r.L' r.calls with
      | false=>rw [hf2] at b;simp at b
      | true =>
       rw [hf] at a;rw [hf2] at b
       simp only at a b
       cases c with
       | nil=>simp only at a b;rw [a] at b;simpa using b
       | cons x l=>simp only at a b;rw [a] at b;simpa using b
theorem draw_two {hot2:Nat->Nat} {p:Nat} (hd:ZeB hot ops p=true) (hd2:ZeB hot2 ops p=true) :
  ∀ (fuel:Nat) (listed:Array Bool) (r1 r2:List Nat) {s f1 f2:RS} {S:St} {a:Act},Left M call n ops ans hot (· < ·) listed r1 s f1->Left M call n ops ans hot2 (fun i j=>sw p i<sw p j) listed r2 s f2 ->
  r1.length<=fuel->r2.length<=fuel ->
  (∀ b ∈ f1.asm,b=true)->(∀ q ∈ f1.eqs,q)->(∀ c ∈ f1.calls,c.cond=true->ZbL M c) ->
  (∀ b ∈ f2.asm,b=true)->(∀ q ∈ f2.eqs,q)->(∀ c ∈ f2.calls,c.cond=true->ZbL M c) ->
  HeapOk S->S.L=s.L->TRel S s.env a.tmps->n<=a.tmps.size ->
  (∀ S' a',HeapOk S'->Ext S S'->S'.L=f1.L->TRel S' f1.env a'.tmps->a'.tmps.size=a.tmps.size->a'.defers=a.defers->Q .normal a' S'.w) ->
  (∀ S' a',HeapOk S'->Ext S S'->S'.L=f2.L->TRel S' f2.env a'.tmps->a'.tmps.size=a.tmps.size->a'.defers=a.defers->Q .normal a' S'.w) ->
  wpAny (M.P ()) .any ops Q fuel listed a S.w:=by
 unfold ZeB at hd hd2
 simp only [Bool.and_eq_true,List.all_eq_true,List.mem_range,Bool.or_eq_true,Nat.beq_eq] at hd hd2
 obtain ⟨hedges,hno,hsw⟩:=hd
 obtain ⟨_,_,hsw2⟩:=hd2
 have hswap2:∀ i j a b,i<j->¬(i=p/\j=p+1)->ops[i]? = some a->ops[j]? = some b->Zcb hot2 ops i j a b=true\/ZeT ops i ops.size j=true:=by
  intro i j a b hij hp hi hj
  rcases hsw2 j (Array.getElem?_eq_some_iff.1 hj).1 i hij with h | h
  ·exact absurd h hp
  ·rw [hi,hj] at h
   simpa using h
 have hswap:∀ i j a b,i<j->¬(i=p/\j=p+1)->ops[i]? = some a->ops[j]? = some b->Zcb hot ops i j a b=true\/ZeT ops i ops.size j=true:=by
  intro i j a b hij hp hi hj
  rcases hsw j (Array.getElem?_eq_some_iff.1 hj).1 i hij with h | h
  ·exact absurd h hp
  ·rw [hi,hj] at h
   simpa using h
 have hedge0:∀ (j:Nat) (o:Oper),ops[j]? = some o -> ∀ e ∈ o.after,Region.binds .any e=true->e.on<j:=by
  intro j o ho e he hb
  unfold edgesOk at hedges
  simp only [List.all_eq_true,List.mem_range] at hedges
  have:=hedges j (Array.getElem?_eq_some_iff.1 ho).1
  rw [ho] at this
  have:=List.all_eq_true.1 this e (by simpa using he)
  simpa [hb,Nat.blt_eq] using this
 have hno:∀ o,ops[p+1]? = some o -> ∀ e ∈ o.after,Region.binds .any e=true->e.on ≠ p:=by
  intro o ho e he hb
  rw [ho] at hno
  have:=List.all_eq_true.1 hno e (by simpa using he)
  intro h
  have h':Nat.beq e.on p=true:=Nat.beq_eq.mpr h
  rw [h',hb] at this
  cases this
 have sw3:∀ i j,sw p i<sw p j->i<j\/(i=p+1/\j=p):=by
  intro i j h
  simp only [sw_def] at h
  split at h <;> split at h <;> (try split at h) <;> (try split at h) <;> omega
 have edge1:∀ (j:Nat) (o:Oper),ops[j]? = some o -> ∀ e ∈ o.after,Region.binds .any e=true->e.on<j/\¬(j<e.on):=fun j o ho e he hb=>by
  have:=hedge0 j o ho e he hb
  omega
 have edge2:∀ (j:Nat) (o:Oper),ops[j]? = some o -> ∀ e ∈ o.after,Region.binds .any e=true->e.on<j/\¬(sw p j<sw p e.on):=fun j o ho e he hb=>by
  have h:=hedge0 j o ho e he hb
  refine ⟨h,fun h2 => ?_⟩
  rcases sw3 _ _ h2 with h3 | ⟨h3,h4⟩
  ·omega
  ·subst h3;exact hno o ho e he hb h4
 intro fuel
 induction fuel with
 | zero =>
  intro listed r1 r2 s f1 f2 S a hl _ hlen _ hA hQ hC _ _ _ hS hL hT hn hK _
  have:r1=[]:=List.length_eq_zero_iff.1 (Nat.le_zero.1 hlen)
  subst this
  have h:=hl.run
  simp only [Zav,Option.some.injEq] at h;subst h
  refine ⟨?_,hK S a hS (Ext.refl S) hL hT rfl rfl⟩
  apply List.eq_nil_iff_forall_not_mem.2
  intro j hj
  obtain ⟨h1,o,h2,_⟩:=mem_ready.1 hj
  have:=(hl.mem j).2 ⟨(Array.getElem?_eq_some_iff.1 h2).1,h1⟩
  cases this
 | succ fuel ih =>
  intro listed r1 r2 s f1 f2 S a hl1 hl2 hlen1 hlen2 hA1 hQ1 hC1 hA2 hQ2 hC2 hS hL hT hn hK1 hK2
  refine ⟨fun hnil => ?_,fun j hj => ?_⟩
  ·have:=hl1.none edge1 hnil
   subst this
   have h:=hl1.run
   simp only [Zav,Option.some.injEq] at h;subst h
   exact hK1 S a hS (Ext.refl S) hL hT rfl rfl
  ·have pick1:=fun (hne:j ≠ p+1)=>hl1.pick (fun i=>Nat.lt_irrefl i) hj fun i a b h=>hswap i j a b h (by omega)
   have pick2:=fun (hne:j ≠ p)=>hl2.pick (fun i=>Nat.lt_irrefl _) hj fun i a b h hi hb=>by
    rcases sw3 _ _ h with h3 | ⟨h3,h4⟩
    ·refine hswap2 i j a b h3 ?_ hi hb
     rintro ⟨rfl,rfl⟩
     rw [sw_l,sw_r] at h
     omega
    ·omega
   by_cases e2:j=p+1
   ·
    obtain ⟨oj,s1,sf',rest',hoj,h2,hl',k2,hlen'⟩:=pick2 (by omega)
    obtain ⟨env,L,x,y,z,he,_⟩:=ZaW _ hl'.run
    have hA':∀ b ∈ sf'.asm,b=true:=fun b hb=>hA2 b ((k2.a b).2 hb)
    have hQ':∀ b ∈ sf'.eqs,b:=fun b hb=>hQ2 b ((k2.q b).2 hb)
    have hC':∀ c ∈ sf'.calls,c.cond=true->ZbL M c:=fun b hb=>hC2 b ((k2.k b).2 hb)
    refine Zcl hS hL hT hn hoj h2 (fun b hb=>hA' b (by rw [he];simp [hb])) (fun b hb=>hQ' b (by rw [he];simp [hb])) (fun b hb=>hC' b (by rw [he];simp [hb])) fun S' a' m1 m2 m3 m4 m5 m6 => ?_
    have hnm:p+1 ∉ rest':=by
     intro hm
     have h9:=((hl'.mem _).1 hm).2
     have h10:p+1<listed.size:=by rw [hl1.size];exact e2 ▸ (Array.getElem?_eq_some_iff.1 hoj).1
     rw [e2] at h9
     simp [h10] at h9
    have hl'':Left M call n ops ans hot2 (fun i j=>sw p i<sw p j/\i ≠ p+1) (listed.setIfInBounds j true) rest' s1 sf':=
     ⟨hl'.size,hl'.pw.imp_of_mem fun {x y} hx _ h=>⟨h,fun e=>hnm (e ▸ hx)⟩,hl'.mem,hl'.closed,hl'.run⟩
    refine draw_one (fun i h=>Nat.lt_irrefl _ h.1) (fun j o ho e he hb=>⟨(edge2 j o ho e he hb).1,fun h=>(edge2 j o ho e he hb).2 h.1⟩) (fun i j a b h hi hb => ?_) fuel _ rest' hl'' (by omega) hA' hQ' hC' m1 m3 m4 (by rw [m5];exact hn) fun S'' a'' q1 q2 q3 q4 q5 q6 =>
     hK2 S'' a'' q1 (m2.trans q2) (q3.trans k2.L.symm) (q4.congr fun t=>(k2.get t).symm) (q5.trans m5) (q6.trans m6)
    rcases sw3 _ _ h.1 with h3 | ⟨h3,_⟩
    ·refine hswap2 i j a b h3 ?_ hi hb
     rintro ⟨rfl,rfl⟩
     have:=h.1
     rw [sw_l,sw_r] at this
     omega
    ·exact absurd h3 h.2
   ·obtain ⟨oj,s1,sf',rest',hoj,h2,hl',k2,hlen'⟩:=pick1 e2
    obtain ⟨env,L,x,y,z,he,_⟩:=ZaW _ hl'.run
    have hA':∀ b ∈ sf'.asm,b=true:=fun b hb=>hA1 b ((k2.a b).2 hb)
    have hQ':∀ b ∈ sf'.eqs,b:=fun b hb=>hQ1 b ((k2.q b).2 hb)
    have hC':∀ c ∈ sf'.calls,c.cond=true->ZbL M c:=fun b hb=>hC1 b ((k2.k b).2 hb)
    refine Zcl hS hL hT hn hoj h2 (fun b hb=>hA' b (by rw [he];simp [hb])) (fun b hb=>hQ' b (by rw [he];simp [hb])) (fun b hb=>hC' b (by rw [he];simp [hb])) fun S' a' m1 m2 m3 m4 m5 m6 => ?_
    by_cases e1:j=p
    ·have hnm:p ∉ rest':=by
      intro hm
      have h9:=((hl'.mem _).1 hm).2
      have h10:p<listed.size:=by rw [hl1.size];exact e1 ▸ (Array.getElem?_eq_some_iff.1 hoj).1
      rw [e1] at h9
      simp [h10] at h9
     have hl'':Left M call n ops ans hot (fun i j=>i<j/\i ≠ p) (listed.setIfInBounds j true) rest' s1 sf':=
      ⟨hl'.size,hl'.pw.imp_of_mem fun {x y} hx _ h=>⟨h,fun e=>hnm (e ▸ hx)⟩,hl'.mem,hl'.closed,hl'.run⟩
     exact draw_one (fun i h=>Nat.lt_irrefl _ h.1) (fun j o ho e he hb=>⟨(edge1 j o ho e he hb).1,fun h=>(edge1 j o ho e he hb).2 h.1⟩) (fun i j a b h hi hb=>hswap i j a b h.1 (fun h'=>h.2 h'.1) hi hb) fuel _ rest' hl'' (by omega) hA' hQ' hC' m1 m3 m4 (by rw [m5];exact hn) fun S'' a'' q1 q2 q3 q4 q5 q6 =>
      hK1 S'' a'' q1 (m2.trans q2) (q3.trans k2.L.symm) (q4.congr fun t=>(k2.get t).symm) (q5.trans m5) (q6.trans m6)
    ·obtain ⟨oj2,s2,sg,rest2,hoj2,h22,hl2',kk2,hlen2'⟩:=pick2 e1
     rw [hoj] at hoj2;cases hoj2
     have:=runOp_hot h2 h22
     subst this
     exact ih _ rest' rest2 hl' hl2' (by omega) (by omega) hA' hQ' hC' (fun b hb=>hA2 b ((kk2.a b).2 hb)) (fun b hb=>hQ2 b ((kk2.q b).2 hb)) (fun b hb=>hC2 b ((kk2.k b).2 hb)) m1 m3 m4 (by rw [m5];exact hn)
      (fun S'' a'' q1 q2 q3 q4 q5 q6=>hK1 S'' a'' q1 (m2.trans q2) (q3.trans k2.L.symm) (q4.congr fun t=>(k2.get t).symm) (q5.trans m5) (q6.trans m6))
      (fun S'' a'' q1 q2 q3 q4 q5 q6=>hK2 S'' a'' q1 (m2.trans q2) (q3.trans kk2.L.symm) (q4.congr fun t=>(kk2.get t).symm) (q5.trans m5) (q6.trans m6))
end
end Go.Av

namespace Go.Av
open Go.RowKit
theorem lift_get (env:Vars) (t:Nat):Env.get (lift env) t=([],env.get t):=by
 induction env with
 | nil=>rfl
 | cons e env ih =>
  obtain ⟨k,v⟩:=e
  simp only [lift,List.map_cons,Env.get,Vars.get]
  cases k==t with
  | true=>rfl
  | false=>exact ih
theorem Zcm {S:St} {env:Vars} {tm:Array Value} (h:VRel S env tm):TRel S (lift env) tm:=by
 refine ⟨fun t => ?_,fun t _ => ?_,fun t ht => ?_⟩
 ·rw [lift_get];exact .nil
 ·rw [lift_get];exact h t
 ·rw [lift_get] at ht;simp [Zao] at ht
theorem ZbH {S:St} {env:Env} {tm:Array Value} (h:TRel S env tm) (keep:List Nat):VRel S (Zbq keep env) tm:=by
 intro t
 induction keep with
 | nil=>exact .any _
 | cons k keep ih =>
  simp only [Zbq,List.map_cons,Vars.get]
  cases hk:k==t with
  | false=>exact ih
  | true =>
   have hk:k=t:=by simpa using hk
   subst hk
   simp only [cond_true]
   split
   ·rename_i v hv
    have:=h.yes k (by rw [hv];rfl)
    rw [hv] at this;exact this
   ·exact .any _
theorem ZeX {S:St} {env:Vars} {a:Act} (h:VRel S env a.tmps) (x:Operand):Rel S (evV env x) (a.eval x):=by
 cases x with
 | tmp t=>exact h t
 | const v=>exact Zfv S v
 | global g=>exact .any _
 | func f=>exact .data _ _ (.func _ [] [] [] [] rfl rfl (by simp) (by simp))
theorem args_rel {S:St}:∀ (i:Nat) (args:List AV) (vs:List Value) (t:Nat),RelL S args vs->Rel S ((ZaN i args).get t) (if i<=t then vs.getD (t-i) undef else undef)
 | i,[],vs,t,_ => .any _
 | i,c::args,[],t,h=>by have:=h.1;simp at this
 | i,c::args,u::vs,t,h=>by
  simp only [ZaN,Vars.get]
  cases hk:i==t with
  | true =>
   have hk:i=t:=by simpa using hk
   subst hk
   simp only [cond_true,Nat.le_refl,if_true,Nat.sub_self,List.getD_cons_zero]
   exact h.2 0 c u rfl rfl
  | false =>
   have hk:i ≠ t:=by simpa using hk
   have:=args_rel (S:=S) (i+1) args vs t ⟨by simpa using h.1,fun j c v hc hv=>h.2 (j+1) c v (by simpa using hc) (by simpa using hv)⟩
   simp only [cond_false]
   by_cases hlt:i+1<=t
   ·rw [if_pos hlt] at this
    rw [if_pos (by omega)]
    obtain ⟨m,rfl⟩:∃ m,t=i+1+m:=⟨t-(i+1),by omega⟩
    have e1:i+1+m-(i+1)=m:=by omega
    have e2:i+1+m-i=m+1:=by omega
    rw [e1] at this
    rw [e2];simpa using this
   ·rw [if_neg hlt] at this
    rw [if_neg (by omega)];exact this
theorem enter_rel {S:St} {args:List AV} {vs:List Value} (n:Nat) (h:RelL S args vs):VRel S (ZaN 0 args) ((⟨vs⟩:Array Value)++Array.replicate n undef):=by
 intro t
 have:=args_rel (S:=S) 0 args vs t h
 simp only [Nat.zero_le,if_true,Nat.sub_zero] at this
 have e:((⟨vs⟩:Array Value)++Array.replicate n undef).getD t undef=vs.getD t undef:=by
  simp only [Array.getD_eq_getD_getElem?,List.getD_eq_getElem?_getD,Array.getElem?_append,List.size_toArray,List.getElem?_toArray]
  by_cases ht:t<vs.length
  ·rw [if_pos ht]
  ·rw [if_neg ht,List.getElem?_eq_none (by omega:vs.length<=t)]
   simp only [Array.getElem?_replicate,Option.getD_none]
   split <;> rfl
 rw [e];exact this
def resF (tm:Array Value):ResultVar->Sem Value
 | .tmp t=>pure (tm.getD t undef)
 | .cell a t=>do loadVar t (<- asAddr (tm.getD a undef))
theorem ZbM {P:Unit->Program} {S:St} (hS:HeapOk S) {env:Vars} {tm:Array Value} (hV:VRel S env tm):∀ (l:List ResultVar) {vs:List AV},ZcF P env S.L l=some vs ->
  ∃ cvs:List Value,RelL S vs cvs/\(l.mapM (resF tm)).run (P ()) S.w = .ok cvs S.w
 | [],vs,h=>by
  simp only [ZcF,Option.some.injEq] at h;subst h
  exact ⟨[],.nil S,by simp⟩
 | .tmp t::r,vs,h=>by
  simp only [ZcF] at h
  split at h
  ·rename_i vs' h'
   simp only [Option.some.injEq] at h;subst h
   obtain ⟨cvs,h1,h2⟩:=ZbM hS hV r h'
   have h3:(resF tm (.tmp t)).run (P ()) S.w = .ok (tm.getD t undef) S.w:=rfl
   exact ⟨tm.getD t undef::cvs,.cons (hV t) h1,by simp only [List.mapM_cons,Sem.run_bind,h3,Result.andThen_ok,h2,Sem.run_pure]⟩
  ·simp at h
 | .cell a T::r,vs,h=>by
  simp only [ZcF] at h
  split at h
  ·rename_i x vs' hx h'
   cases hall:x.asm.all fun b=>b with
   | false=>simp [hall] at h
   | true =>
    simp only [hall,cond_true,Option.some.injEq] at h;subst h
    obtain ⟨cvs,h1,h2⟩:=ZbM hS hV r h'
    have hel:∀ {xs:List AV} {i:Nat} {x:AV} {q:List Prop},elemA none xs i=some (x,q)->q=[]:=by
     intro xs i x q he
     unfold elemA at he
     simp only at he
     split at he
     ·simp only [Option.some.injEq,Prod.mk.injEq] at he;exact he.2.symm
     ·simp at he
    have hva:=hV a
    have key:x.eqs=[] /\ ∃ ad,tm.getD a undef = .pointer (some ad):=by
     unfold loadA at hx
     split at hx
     ·rename_i q ver i j hv
      rw [hv] at hva
      obtain ⟨hp,_⟩:=Ze0 hva
      split at hx
      ·split at hx
       ·rename_i he
        split at hx
        ·simp only [Option.some.injEq] at hx;subst hx
         exact ⟨hel he,hp⟩
        ·simp at hx
       ·simp at hx
      ·simp at hx
     ·rename_i es xs i j hv
      rw [hv] at hva
      have hp:∃ ad,tm.getD a undef = .pointer (some ad):=by
       have hd:=Zdo hva
       generalize tm.getD a undef=pv at *
       cases hd with
       | eptr _ _ _ _ b off h1 h2 h3=>exact ⟨_,rfl⟩
      split at hx
      ·rename_i he
       split at hx
       ·simp only [Option.some.injEq] at hx;subst hx
        exact ⟨hel he,hp⟩
       ·simp at hx
      ·simp at hx
     ·simp at hx
    obtain ⟨heq,ad,had⟩:=key
    obtain ⟨_,_,cv,k1,k2⟩:=ZgF (P:=P) hS (hV a) hx (by simpa using hall) (by rw [heq];simp)
    have h3:(resF tm (.cell a T)).run (P ()) S.w = .ok cv S.w:=by
     rw [<- k1,had]
     simp [resF,asAddr,Instr.loadAt,Instr.sureAddr,had]
    exact ⟨cv::cvs,.cons k2 h1,by simp only [List.mapM_cons,Sem.run_bind,h3,Result.andThen_ok,h2,Sem.run_pure]⟩
  ·simp at h
theorem ZeO {P:Unit->Program} {S:St} (hS:HeapOk S) {env:Vars} {tm:Array Value} (hV:VRel S env tm) {fi:Fi} {fn:Func} (hfi:fn.results.toList=fi.res) {v:AV} (h:finish P fi env S.L=some v) :
  ∃ cv,(results fn tm).run (P ()) S.w = .ok cv S.w/\Rel S v cv:=by
 have hrun:∀ {cvs:List Value},(fi.res.mapM (resF tm)).run (P ()) S.w = .ok cvs S.w->(results fn tm).run (P ()) S.w = .ok (if h:cvs.length=1 then cvs[0] else .tuple ⟨cvs⟩) S.w:=by
  intro cvs h
  have hm:results fn tm=(do let vs <- fn.results.mapM (resF tm);pure (if h:vs.size=1 then vs[0] else .tuple vs)):=by
   unfold results
   congr 1
  rw [hm,Array.mapM_eq_mapM_toList,hfi]
  rw [map_eq_pure_bind]
  simp only [Sem.run_bind,h,Result.andThen_ok,Sem.run_pure]
  rfl
 unfold finish at h
 split at h
 ·rename_i u hr
  simp only [Option.some.injEq] at h;subst h
  obtain ⟨cvs,h1,h2⟩:=ZbM hS hV _ hr
  have:=h1.1
  match cvs,this,h1,h2 with
  | [cv],_,h1,h2=>exact ⟨cv,by simpa using hrun h2,h1.head⟩
 ·rename_i vs hne hr
  simp only [Option.some.injEq] at h;subst h
  obtain ⟨cvs,h1,h2⟩:=ZbM hS hV _ hr
  have hl:cvs.length ≠ 1:=by
   rw [<- h1.1]
   intro e
   obtain ⟨x,rfl⟩:=List.length_eq_one_iff.1 e
   exact hne x rfl
  exact ⟨.tuple ⟨cvs⟩,by simpa [hl] using hrun h2,.tup vs cvs h1.1 h1.2⟩
 ·simp at h
theorem call_runs {P:Program} {f:FuncId} {fn:Func} {c:Code} {args:Array Value} (hf:P.funcs[f]? = some fn) (hb:fn.body=some c) (hn:(fn.name == "runtime.NumGoroutine")=false) (w:World) :
  (callFunc f args).run P w = .ok (.enter f args) w:=by
 have hn':fn.name ≠ "runtime.NumGoroutine":=by simpa using hn
 simp [callFunc,hf,hb,hn']
theorem ZeW {S:St} {a d:AV} (h:Weak a d):∀ {v:Value},DRel S a v->DRel S d v:=by
 induction h with
 | refl a=>exact fun h=>h
 | vnil es=>intro v h;cases h;exact .vecE false es none 0 (by simp)
 | full es xs =>
  intro v h
  cases h with
  | vecE f es a cap hf=>exact .vecE false es a cap (by simp)
  | vec f es xs b off cap ho hf hl hc hr=>exact .vec false es xs b off cap ho (by simp) hl hc hr
 | tup xs ys hl _ ih =>
  intro v h
  cases h with
  | tup _ vs h1 h2 =>
   refine .tup ys vs (hl.symm.trans h1) fun i c v hc hv => ?_
   have hi:i<xs.length:=by rw [hl];exact (List.getElem?_eq_some_iff.1 hc).1
   exact ih i xs[i] c (List.getElem?_eq_getElem hi) hc (h2 i xs[i] v (List.getElem?_eq_getElem hi) hv)
 | agg xs ys hl _ ih =>
  intro v h
  cases h with
  | agg _ vs h1 h2 =>
   refine .agg ys vs (hl.symm.trans h1) fun i c v hc hv => ?_
   have hi:i<xs.length:=by rw [hl];exact (List.getElem?_eq_some_iff.1 hc).1
   exact ih i xs[i] c (List.getElem?_eq_getElem hi) hc (h2 i xs[i] v (List.getElem?_eq_getElem hi) hv)
 | cells f es xs ys hl _ hy hx ih =>
  intro v h
  have one:∀ {y:AV} {k:Nat} {c:AV},y.cells=[y]->y.cells[k]? = some c->k=0/\c=y:=by
   intro y k c e hk
   rw [e] at hk
   cases k with
   | zero=>simp at hk;exact ⟨rfl,hk.symm⟩
   | succ k=>simp at hk
  have lk:∀ (i:Nat) y,ys[i]? = some y -> ∃ x,xs[i]? = some x:=fun i y h=>by
   have hi:i<xs.length:=by rw [hl];exact (List.getElem?_eq_some_iff.1 h).1
   exact ⟨xs[i],List.getElem?_eq_getElem hi⟩
  have lk':∀ (i:Nat) x,xs[i]? = some x -> ∃ y,ys[i]? = some y:=fun i y h=>by
   have hi:i<ys.length:=by rw [<- hl];exact (List.getElem?_eq_some_iff.1 h).1
   exact ⟨ys[i],List.getElem?_eq_getElem hi⟩
  cases h with
  | vecE f es a cap hf =>
   have:ys=[]:=List.length_eq_zero_iff.1 (by simpa using hl.symm)
   subst this
   exact .vecE f es a cap hf
  | vec f es xs b off cap ho hf hlc hc hr =>
   have:=DRel.vec (S:=S) f es ys b off cap (fun i y h=>by
     obtain ⟨x,hxi⟩:=lk i y h
     obtain ⟨q1,q2⟩:=ho i x hxi
     rw [hx x (List.mem_of_getElem? hxi)] at q1
     obtain ⟨p1,p2⟩:=hy y (List.mem_of_getElem? h)
     rw [p1];exact ⟨q1,by simp [p2]⟩)
    (fun e=>by rw [<- hl];exact hf e) (by rw [<- hl];exact hlc)
    (fun i y k c h hk=>by
     obtain ⟨x,hxi⟩:=lk i y h
     obtain ⟨rfl,rfl⟩:=one (hy y (List.mem_of_getElem? h)).1 hk
     exact hc i x 0 x hxi (by rw [hx x (List.mem_of_getElem? hxi)];rfl))
    (fun i y k c cv h hk hcv=>by
     obtain ⟨x,hxi⟩:=lk i y h
     obtain ⟨rfl,rfl⟩:=one (hy y (List.mem_of_getElem? h)).1 hk
     exact ih i x c hxi h (hr i x 0 x cv hxi (by rw [hx x (List.mem_of_getElem? hxi)];rfl) hcv))
   rw [<- hl] at this
   exact this
theorem OwnQ.snd {M:Mach} {f:FuncId} {args:List AV} {L L':Heap} {v:AV} (h:OwnQ M f args L (isR v L')):OwnSnd M f args L v L':=by
 intro S cargs h1 h2 h3
 obtain ⟨k1,k2⟩:=h S cargs h1 h2 h3
 refine ⟨k1,Calls.mono k2 fun e w' he => ?_⟩
 cases e with
 | returned cv =>
  obtain ⟨v',K,β',⟨rfl,rfl⟩,m1,m2,m3⟩:=he
  exact ⟨β',m1,m2,m3⟩
 | panicked c=>exact he.elim
 | outgrown=>exact he.elim
theorem PureR.snd {M:Mach} {f:FuncId} {args:List AV} {v:AV} (h:PureR M f args (isR v [])):Zf3 M f args v:=by
 intro base acc w cargs h1 h2 h3
 obtain ⟨k1,k2⟩:=h base acc w cargs h1 h2 h3
 refine ⟨k1,Calls.mono k2 fun e w' he => ?_⟩
 cases e with
 | returned cv =>
  obtain ⟨d,⟨rfl,_⟩,m1,m2⟩:=he
  exact ⟨m1,m2⟩
 | panicked c=>exact he.elim
 | outgrown=>exact he.elim
theorem ZaU.step {M:Mach} {fi:Fi} {k k':List Item} {env:Vars} {L:Heap} {Q:AV->Heap->Prop} (h:ZaU M fi k' env L Q) (ht:Zcu k=true->Zcu k'=true)
  (hs:∀ (b:Frame) (a:Act) (cs:List Frame) (S:St),VRel S env a.tmps->step (M.P ()) (lone (b.atR a k) cs S.w) = .next (lone (b.atR a k') cs S.w)):ZaU M fi k env L Q:=by
 intro S b a cs fn h1 h2 h3 h4 h5 h6 h7 h8
 obtain ⟨a',todo',Ds,w',β',v,L',hq,g1,g2,k1,k2⟩:=h S b a cs fn h1 h2 h3 (h4.imp id ht) h5 h6 h7 h8
 exact ⟨a',todo',Ds,w',β',v,L',hq,g1,g2,.head (hs b a cs S h7) k1,k2⟩
theorem Zfk {id:Nat}:∀ {k k':List Item},exitTo id k=some k'->Zcu k=true->Zcu k'=true
 | [],k',h,_=>by simp [exitTo] at h
 | x::k,k',h,ht=>by
  have ht':Zd3 x=true/\Zcu k=true:=by simpa [Zcu] using ht
  cases x with
  | inBlock id' =>
   simp only [exitTo] at h
   split at h
   ·simp only [Option.some.injEq] at h;subst h;exact ht'.2
   ·exact Zfk h ht'.2
  | _=>exact Zfk (by simpa [exitTo] using h) ht'.2
def onlyN (K:Act->World->Prop):Exit->Act->World->Prop:=fun e a w=>match e with
 | .normal=>K a w
 | _=>False
theorem opsR {P:Program} {ops:Array Oper} {K:Act->World->Prop} {b:Frame} {k:List Item} {cs:List Frame} {rest:List Nat} (hb:b.roundOf=none\/Zc8 ops=true):∀ (l:List Nat) (a:Act) (w:World),wpOps P ops (onlyN K) l a w ->
  ∃ a' w',K a' w'/\Steps P (lone (b.atR a (.inRegion ops (l++rest)::k)) cs w) (lone (b.atR a' (.inRegion ops rest::k)) cs w'):=by
 intro l
 induction l with
 | nil=>exact fun a w h=>⟨a,w,h,Steps.refl _ _⟩
 | cons i l ih =>
  intro a w h
  simp only [wpOps] at h
  simp only [List.cons_append]
  cases ho:ops[i]? with
  | none =>
   simp only [ho] at h
   obtain ⟨a',w',hq,harr⟩:=ih a w h
   have hs:=stepR_op_skip (P:=P) (b:=b) (a:=a) (k:=k) (cs:=cs) (w:=w) (ops:=ops) (i:=i) (rest:=l++rest) (by simp [ho])
   simp only [ho,Option.bind_none,Act.put] at hs
   exact ⟨a',w',hq,.head hs harr⟩
  | some o =>
   simp only [ho] at h
   by_cases hw:Region.wanted o (yielded ops a.tmps)=true
   ·simp only [hw,if_true] at h
    have hsem:o.semAt b.roundOf a.eval=execOp a.eval o:=by
     rcases hb with hb | hb
     ·rw [hb];rfl
     ·refine Oper.semAt_eq _ _ _ fun c hc => ?_
      have:=List.all_eq_true.1 hb o (by
       have:=Array.mem_of_getElem? ho
       exact Array.mem_toList_iff.2 this)
      rw [hc] at this;simp at this
    rcases h with h | ⟨_,a0,w0,h⟩
    ·unfold Oper.wp at h
     have hg:=stepGR_op (P:=P) (b:=b) (k:=k) (cs:=cs) (w:=w) (rest:=l++rest) ho hw
     rw [hsem] at hg
     have hfin:∀ v,(b.atR a (.inRegion ops (i::(l++rest))::k)).finish v=b.atR (a.put o.dst v) (.inRegion ops (l++rest)::k):=by
      intro v;rw [Frame.finish_atR,ho];rfl
     simp only [Oper.upon] at h
     split at h
     ·rename_i v w' hr'
      obtain ⟨a',w'',hq,harr⟩:=ih _ _ h
      refine ⟨a',w'',hq,.head (step_lone_go ?_) harr⟩
      rw [hg,<- hfin];simp [stepG.apply,hr']
     ·rename_i w' hr'
      obtain ⟨a',w'',hq,harr⟩:=ih _ _ h
      refine ⟨a',w'',hq,.head (step_lone_go ?_) harr⟩
      rw [hg,<- hfin];simp [stepG.apply,hr']
     ·rename_i d w' hr'
      obtain ⟨a',w'',hq,harr⟩:=ih _ _ h
      refine ⟨a',w'',hq,.head (step_lone_go ?_) harr⟩
      have:({ b.atR a (.inRegion ops (i::(l++rest))::k) with defers:=d::a.defers }:Frame).finish undef =
        b.atR ({ a with defers:=d::a.defers }.put o.dst undef) (.inRegion ops (l++rest)::k):=by
       have:=Frame.finish_atR b { a with defers:=d::a.defers } ops i (l++rest) k undef
       rw [ho] at this;exact this
      rw [hg];simp only [stepG.apply,Sem.runT_eq,hr',GStep.bare_after]
      exact congrArg (fun fr=>GStep.go { frame:=fr,callers:=cs,status:=.running,dying:=none } w') this
     ·rename_i f args w' hr'
      obtain ⟨e,w'',fr,hR,hsteps,hfn,hleave⟩:=h (b.atR a (.inRegion ops (i::(l++rest))::k)::cs)
      have henter:step P (lone (b.atR a (.inRegion ops (i::(l++rest))::k)) cs w) =
        .next (lone (Frame.enter P f args .normal) (b.atR a (.inRegion ops (i::(l++rest))::k)::cs) w'):=
       step_lone_go (by rw [hg];simp [stepG.apply,hr',Frame.atR])
      cases e with
      | returned v =>
       obtain ⟨a',w₃,hq,harr⟩:=ih _ _ hR
       refine ⟨a',w₃,hq,.head henter (Steps.trans hsteps (.head ?_ harr))⟩
       rw [<- hfin];exact step_leave_returned hleave
      | panicked chain=>exact hR.elim
      | outgrown=>obtain ⟨a₀,w₀,hq⟩:=hR;exact hq.elim
     ·rename_i row args w' hr'
      obtain ⟨v,w'',hR,hsteps⟩:=h (b.atR a (.inRegion ops (i::(l++rest))::k)) cs
      have henter:step P (lone (b.atR a (.inRegion ops (i::(l++rest))::k)) cs w) =
        .next (lone (Frame.ofRow P row args .normal) (b.atR a (.inRegion ops (i::(l++rest))::k)::cs) w'):=
       step_lone_go (by rw [hg];simp [stepG.apply,hr',Frame.atR])
      obtain ⟨a',w₃,hq,harr⟩:=ih _ _ hR
      refine ⟨a',w₃,hq,.head henter (Steps.trans hsteps ?_)⟩
      rw [hfin];exact harr
     ·exact h.elim
     ·exact h.elim
    ·exact h.elim
   ·simp only [hw,if_false,Bool.false_eq_true] at h
    obtain ⟨a',w',hq,harr⟩:=ih _ _ h
    have hs:=stepR_op_skip (P:=P) (b:=b) (a:=a) (k:=k) (cs:=cs) (w:=w) (ops:=ops) (i:=i) (rest:=l++rest)
     (by simp [ho];simpa using hw)
    simp only [ho,Option.bind_some] at hs
    exact ⟨a',w',hq,.head hs harr⟩
def RegR (P:Program) (id:Nat) (ops:Array Oper) (draw:Bool) (K:Act->World->Prop) (a:Act) (w:World):Prop:=
 ∀ (b:Frame) (k:List Item) (cs:List Frame),(b.roundOf=none\/Zc8 ops=true) ->
  ∃ a' w',K a' w'/\Steps P (lone (b.atR a (.code (.region id ops draw)::k)) cs w) (lone (b.atR a' k) cs w')
theorem Zeb {P:Program} {id:Nat} {ops:Array Oper} {K:Act->World->Prop} {a:Act} {w:World} (h:wpOps P ops (onlyN K) (List.range ops.size) a w):RegR P id ops false K a w:=by
 intro b k cs hb
 obtain ⟨a',w',h1,h2⟩:=opsR (k:=k) (cs:=cs) (rest:=[]) hb _ a w h
 rw [List.append_nil] at h2
 exact ⟨a',w',h1,.head stepR_region (Steps.trans h2 (.one stepR_region_end))⟩
theorem regR_any {P:Program} {id:Nat} {ops:Array Oper} {K:Act->World->Prop} {a:Act} {w:World} (hm:P.follows .mixedOrders=true)
  (h:wpAny P .any ops (onlyN K) ops.size (Array.replicate ops.size false) a { w with drawn:=w.drawn+1 }):RegR P id ops true K a w:=by
 intro b k cs hb
 have h':wpOps P ops (onlyN K) (Region.schedule (P.follows .mixedOrders) ops (w.tape w.drawn (.order b.fn id))) a { w with drawn:=w.drawn+1 }:=by
  simp only [Region.schedule,hm,Bool.true_or,if_true]
  exact wpAny_sound ops.size _ _ a _ h
 obtain ⟨a',w',h1,h2⟩:=opsR (k:=k) (cs:=cs) (rest:=[]) hb _ a _ h'
 rw [List.append_nil] at h2
 exact ⟨a',w',h1,.head stepR_region_draw (Steps.trans h2 (.one stepR_region_end))⟩
theorem ZaU.after {M:Mach} {fi:Fi} {id:Nat} {ops:Array Oper} {draw:Bool} {k:List Item} {env:Vars} {L:Heap} {Q:AV->Heap->Prop}
  (h:∀ (S:St) (a:Act),HeapOk S->S.L=L->VRel S env a.tmps->fi.n<=a.tmps.size->RegR (M.P ()) id ops draw (fun a' w' => ∃ (S':St) (env':Vars),S'.w=w'/\HeapOk S'/\Ext S S'/\ZaU M fi k env' S'.L Q/\VRel S' env' a'.tmps/\a'.tmps.size=a.tmps.size/\a'.defers=a.defers) a S.w) :
  ZaU M fi (.code (.region id ops draw)::k) env L Q:=by
 intro S b a cs fn h1 h2 h3 h4 h5 h6 h7 h8
 have ht:b.roundOf=none\/(Zc8 ops=true/\Zcu k=true):=h4.imp (fun h=>h) fun h=>by simpa [Zcu,Zd3,Zch] using h
 obtain ⟨a',w',⟨S',env',rfl,k1,k2,k3,k4,k5,k6⟩,hs⟩:=h S a h5 h6 h7 h8 b k cs (ht.imp (fun h=>h) And.left)
 obtain ⟨a2,todo',Ds,w2,β',v,L',hq,g1,g2,m1,m2,m3,m4,m5,m6⟩:=k3 S' b a' cs fn h1 h2 h3 (ht.imp (fun h=>h) And.right) k1 rfl k4 (by rw [k5];exact h8)
 rw [k2.base,k2.acc] at m5 m6
 exact ⟨a2,todo',Ds,w2,β',v,L',hq,g1,g2,Steps.trans hs m1,by rw [m2,k6],⟨m3.1,fun D hD=>⟨Nat.le_trans k2.below.size (m3.2 D hD).1,(m3.2 D hD).2⟩⟩,fun w'' hn=>by obtain ⟨cv,z1,z2⟩:=m4 w'' hn;rw [k2.base,k2.acc] at z2;exact ⟨cv,z1,z2⟩,m5,k2.trans m6⟩
theorem run_eq_nil {P:Unit->Program} {d:Nat} {T e:TypeId} (hu:(P ()).underlying T=some (.slice e)) (a:Option Addr) (c:Nat) (w:World) :
  (Op.equalIn (d+1) T (.slice a 0 c) (.slice none 0 0)).run (P ()) w = .ok a.isNone w/\(Op.equalIn (d+1) T (.slice none 0 0) (.slice a 0 c)).run (P ()) w = .ok a.isNone w:=by
 constructor <;> cases a <;> simp [Op.equalIn,run_underlying hu]
theorem nilTest_runs {P:Unit->Program} {env:Env} {o:Oper} {d:Nat} (h:nilTest P env o=some d) {S:St} {ρ:Operand->Value} (hρ:∀ x,Rel S (ev env [] x) (ρ x)) :
  o.guard=none/\o.dst=some d /\ ∃ b,(execOp ρ o).run (P ()) S.w = .ok (.value (.bool b)) S.w:=by
 unfold nilTest at h
 split at h
 ·rename_i d' op T x y yT hg hd ho
  have hx:=hρ x
  have hy:=hρ y
  have emp:∀ {f:Bool} {es:Nat} {v:Value},Rel S (.vec f es []) v -> ∃ a c,v = .slice a 0 c:=by
   intro f es v hv
   have:=ZbS hv
   cases this with
   | vecE f es a cap _=>exact ⟨a,cap,rfl⟩
   | vec f es xs b off cap=>exact ⟨_,_,rfl⟩
  refine ⟨hg,?_⟩
  have eqn':∀ {e:TypeId},(P ()).underlying T=some (.slice e) -> ∀ (a:Option Addr) (c:Nat),(Op.equalIn Op.maxDepth T (.slice a 0 c) (.slice none 0 0)).run (P ()) S.w = .ok a.isNone S.w/\(Op.equalIn Op.maxDepth T (.slice none 0 0) (.slice a 0 c)).run (P ()) S.w = .ok a.isNone S.w:=
   fun hu a c=>run_eq_nil (d:=Op.maxDepth-1) hu a c S.w
  split at h
  ·rename_i e f es hu hvx hvy
   have eqn:=eqn' hu
   simp only [Option.some.injEq] at h;subst h
   rw [hvx] at hx;rw [hvy] at hy
   obtain ⟨a,c,ex⟩:=emp hx
   exact ⟨hd,a.isNone,by simp [execOp,ho,ex,ZaM hy,eqGuard,binOp,Op.equal,(eqn a c).1]⟩
  ·rename_i e f es hu hvx hvy
   have eqn:=eqn' hu
   simp only [Option.some.injEq] at h;subst h
   rw [hvx] at hx;rw [hvy] at hy
   obtain ⟨a,c,ey⟩:=emp hy
   exact ⟨hd,a.isNone,by simp [execOp,ho,ey,ZaM hx,eqGuard,binOp,Op.equal,(eqn a c).2]⟩
  ·rename_i e f es hu hvx hvy
   have eqn:=eqn' hu
   simp only [Option.some.injEq] at h;subst h
   rw [hvx] at hx;rw [hvy] at hy
   obtain ⟨a,c,ex⟩:=emp hx
   exact ⟨hd,!a.isNone,by simp [execOp,ho,ex,ZaM hy,eqGuard,binOp,Op.equal,(eqn a c).1]⟩
  ·rename_i e f es hu hvx hvy
   have eqn:=eqn' hu
   simp only [Option.some.injEq] at h;subst h
   rw [hvx] at hx;rw [hvy] at hy
   obtain ⟨a,c,ey⟩:=emp hy
   exact ⟨hd,!a.isNone,by simp [execOp,ho,ey,ZaM hx,eqGuard,binOp,Op.equal,(eqn a c).2]⟩
  ·simp at h
 ·simp at h
theorem Zgx {S:St} {a:AV} {v:Value} (h:Rel S a v):∀ r ∈ rowsA a,r<S.L.length:=by
 have lt:∀ {r:Nat} {row:Row},S.L[r]? = some row->r<S.L.length:=fun h=>(List.getElem?_eq_some_iff.1 h).1
 have all:∀ {cs:List AV} {vs:List Value},cs.length=vs.length->(∀ (i:Nat) c v,cs[i]? = some c->vs[i]? = some v -> ∀ r ∈ rowsA c,r<S.L.length) -> ∀ r ∈ rowsL cs,r<S.L.length:=by
  intro cs
  induction cs with
  | nil=>intro vs _ _ r hr;simp [rowsL] at hr
  | cons c cs ih =>
   intro vs hl h r hr
   cases vs with
   | nil=>simp at hl
   | cons u vs =>
    simp only [rowsL,List.mem_append] at hr
    rcases hr with hr | hr
    ·exact h 0 c u rfl rfl r hr
    ·exact ih (vs:=vs) (by simpa using hl) (fun i c v hc hv=>h (i+1) c v (by simpa using hc) (by simpa using hv)) r hr
 induction h with
 | any v=>intro r hr;simp [rowsA] at hr
 | data a v h =>
  intro r hr
  have h1:=rowsA_ren (fun _=>S.L.length) a
  have h2:=dren h (fun _=>S.L.length)
  have h3:=dren h (fun _=>S.L.length+1)
  have h4:=rowsA_ren (fun _=>S.L.length+1) a
  rw [h2] at h1
  rw [h3,h1] at h4
  cases hra:rowsA a with
  | nil=>rw [hra] at hr;simp at hr
  | cons q l=>rw [hra] at h4;simp at h4
 | agg cs vs hl _ ih=>exact all hl ih
 | tup cs vs hl _ ih=>exact all hl ih
 | func fn a b va vb ha hb _ _ ih1 ih2 =>
  intro r hr
  simp only [rowsA,List.mem_append] at hr
  rcases hr with hr | hr
  ·exact all ha ih1 r hr
  ·exact all hb ih2 r hr
 | mapr r0 row info v _ _ h1=>intro r hr;simp only [rowsA,List.mem_singleton] at hr;subst hr;exact lt h1
 | ptr r0 ver i j row info v _ h1=>intro r hr;simp only [rowsA,List.mem_singleton] at hr;subst hr;exact lt h1
 | row r0 ver row info v _ h1=>intro r hr;simp only [rowsA,List.mem_singleton] at hr;subst hr;exact lt h1
 | ref r0 ver lo len row info v _ h1=>intro r hr;simp only [rowsA,List.mem_singleton] at hr;subst hr;exact lt h1
theorem refs_in {S:St} (hS:HeapOk S):∀ row ∈ S.L,∀ r ∈ ZaC row,r<S.L.length:=by
 intro row hm r hr
 obtain ⟨q,hq⟩:=List.getElem?_of_mem hm
 have hlt:q<S.β.length:=by rw [<- hS.len];exact (List.getElem?_eq_some_iff.1 hq).1
 obtain ⟨info,hi⟩:∃ info,S.β[q]? = some info:=⟨_,List.getElem?_eq_getElem hlt⟩
 unfold ZaC at hr
 cases hc:row.clean with
 | true=>rw [hc] at hr;simp at hr
 | false =>
  rw [hc] at hr
  simp only [cond_false] at hr
  obtain ⟨i,x,h1,h2⟩:=Zd7 hr
  have hcell:∃ (k:Nat) (c:AV),x.cells[k]? = some c/\r ∈ rowsA c:=by
   cases x with
   | agg cs=>exact Zd7 h2
   | _=>exact ⟨0,_,rfl,h2⟩
  obtain ⟨k,c,h3,h4⟩:=hcell
  cases hmp:info.mp with
  | false =>
   obtain ⟨cv,_,hcr⟩:=Zd8 hS hq hi hmp h1 k c h3
   exact Zgx hcr r h4
  | true =>
   obtain ⟨es,b1,b2,b3,b4⟩:=hS.maps q row info hq hi hmp
   have hil:i<es.size:=by have:=(List.getElem?_eq_some_iff.1 h1).1;omega
   obtain ⟨_,kk,n,v,rfl,_,_,g5,_⟩:=b4 i es[i] x (Array.getElem?_eq_getElem hil) h1
   match k with
   | 0=>simp [AV.cells] at h3;subst h3;simp [rowsA] at h4
   | 1=>simp [AV.cells] at h3;subst h3;exact Zgx g5 r h4
   | k+2=>simp [AV.cells] at h3
theorem get_renV (f:Nat->Nat) (env:Vars) (t:Nat):(renV f env).get t=renA f (env.get t):=by
 induction env with
 | nil=>rfl
 | cons e env ih =>
  obtain ⟨k,v⟩:=e
  simp only [renV,List.map_cons,Vars.get]
  cases k==t with
  | true=>rfl
  | false=>exact ih
theorem rows_get {env:Vars} {t r:Nat} (h:r ∈ rowsA (env.get t)):r ∈ rowsL (env.map (·.2)):=by
 induction env with
 | nil=>simp [Vars.get,rowsA] at h
 | cons e env ih =>
  obtain ⟨k,v⟩:=e
  simp only [Vars.get] at h
  simp only [List.map_cons,rowsL,List.mem_append]
  cases hk:k==t with
  | true=>rw [hk] at h;exact .inl h
  | false=>rw [hk] at h;exact .inr (ih h)
theorem Zdi (l:List Row):∀ n,n<=l.length->ZaF l (List.range n)=some (l.take n):=by
 intro n hn
 have gen:∀ (k m:Nat),k+m<=l.length->ZaF l (List.range' k m)=some ((l.drop k).take m):=by
  intro k m
  induction m generalizing k with
  | zero=>intro _;rfl
  | succ m ih =>
   intro h
   have hk:k<l.length:=by omega
   simp only [List.range'_succ,ZaF,List.getElem?_eq_getElem hk,ih (k+1) (by omega)]
   rw [List.drop_eq_getElem_cons hk];rfl
 have:=gen 0 n (by omega)
 rw [List.range_eq_range'];simpa using this
theorem getRows_drop (l:List Row) (n:Nat) (hn:n<=l.length):ZaF l (List.range' n (l.length-n))=some (l.drop n):=by
 have gen:∀ (k m:Nat),k+m<=l.length->ZaF l (List.range' k m)=some ((l.drop k).take m):=by
  intro k m
  induction m generalizing k with
  | zero=>intro _;rfl
  | succ m ih =>
   intro h
   have hk:k<l.length:=by omega
   simp only [List.range'_succ,ZaF,List.getElem?_eq_getElem hk,ih (k+1) (by omega)]
   rw [List.drop_eq_getElem_cons hk];rfl
 rw [gen n _ (by omega),List.take_of_length_le (by simp)]
theorem Zc5:∀ (m k i:Nat),k<=i->i<k+m->Zar (List.range' k m) i=i-k
 | 0,k,i,h1,h2=>by omega
 | m+1,k,i,h1,h2=>by
  simp only [List.range'_succ,Zar]
  by_cases he:k=i
  ·subst he;simp
  ·have:(k==i)=false:=by simpa using he
   rw [this,Zc5 m (k+1) i (by omega) (by omega)]
   simp only [cond_false];omega
theorem DRel.recell {S S':St} (hL:S'.L=S.L) (hβ:S'.β=S.β) (ha:S'.acc=S.acc) (hc:∀ b off,S'.w.cell? ⟨b,off,none⟩=S.w.cell? ⟨b,off,none⟩) {a:AV} {v:Value} (h:DRel S a v):DRel S' a v:=by
 have hi:∀ b off,Imm S b off->Imm S' b off:=fun b off ⟨h1,h2⟩=>⟨by rw [ha];exact h1,fun r info hr hb=>by rw [hβ] at hr;rw [hL];exact h2 r info hr hb⟩
 induction h with
 | bool b=>exact .bool b
 | int k n=>exact .int k n
 | str s=>exact .str s
 | flt s=>exact .flt s
 | nilp=>exact .nilp
 | nilf=>exact .nilf
 | nilm=>exact .nilm
 | agg cs vs hl _ ih=>exact .agg cs vs hl ih
 | tup cs vs hl _ ih=>exact .tup cs vs hl ih
 | func fn a b va vb ha hb _ _ ih1 ih2=>exact .func fn a b va vb ha hb ih1 ih2
 | eptr es xs i j b off ho hk _ ih=>exact .eptr es xs i j b off ho (fun i x k c hx hk'=>by obtain ⟨⟨cv,q1⟩,q2⟩:=hk i x k c hx hk';exact ⟨⟨cv,by rw [hc];exact q1⟩,hi _ _ q2⟩) (fun i x k c cv hx hk' hcv=>ih i x k c cv hx hk' (by rw [<- hc];exact hcv))
 | vnil=>exact .vnil
 | vecE f es a cap hf=>exact .vecE f es a cap hf
 | vec f es xs b off cap ho hf hl hk _ ih=>exact .vec f es xs b off cap ho hf hl (fun i x k c hx hk'=>by obtain ⟨⟨cv,q1⟩,q2⟩:=hk i x k c hx hk';exact ⟨⟨cv,by rw [hc];exact q1⟩,hi _ _ q2⟩) (fun i x k c cv hx hk' hcv=>ih i x k c cv hx hk' (by rw [<- hc];exact hcv))
theorem Rel.recell {S S':St} (hL:S'.L=S.L) (hβ:S'.β=S.β) (ha:S'.acc=S.acc) (hc:∀ b off,S'.w.cell? ⟨b,off,none⟩=S.w.cell? ⟨b,off,none⟩) {a:AV} {v:Value} (h:Rel S a v):Rel S' a v:=by
 induction h with
 | any v=>exact .any v
 | data a v h=>exact .data a v (h.recell hL hβ ha hc)
 | agg cs vs hl _ ih=>exact .agg cs vs hl ih
 | tup cs vs hl _ ih=>exact .tup cs vs hl ih
 | func fn a b va vb ha hb _ _ ih1 ih2=>exact .func fn a b va vb ha hb ih1 ih2
 | mapr r row info v h0 h3 h1 h2=>exact .mapr r row info v h0 h3 (hL ▸ h1) (hβ ▸ h2)
 | ptr r ver i j row info v h0 h1 h2 h3 h4=>exact .ptr r ver i j row info v h0 (hL ▸ h1) (hβ ▸ h2) h3 h4
 | row r ver row info v h0 h1 h2 h3 h4=>exact .row r ver row info v h0 (hL ▸ h1) (hβ ▸ h2) h3 h4
 | ref r ver lo len row info v h0 h1 h2 h3 h4=>exact .ref r ver lo len row info v h0 (hL ▸ h1) (hβ ▸ h2) h3 h4
theorem other_blk {S:St} (hS:HeapOk S) {D:Nat} {o:Obj} (ho:S.w.heap[D]? = some o) (hk:ZbA o=true):∀ (r:Nat) info,S.β[r]? = some info->info.blk ≠ D:=by
 intro r info hi e
 have hlt:r<S.L.length:=by rw [hS.len];exact (List.getElem?_eq_some_iff.1 hi).1
 obtain ⟨row,hr⟩:∃ row,S.L[r]? = some row:=⟨_,List.getElem?_eq_getElem hlt⟩
 cases hmp:info.mp with
 | true =>
  obtain ⟨es,h1,_⟩:=hS.maps r row info hr hi hmp
  rw [e,ho] at h1;simp only [Option.some.injEq] at h1;subst h1;simp [ZbA] at hk
 | false =>
  obtain ⟨_,_,cs,T,h1,_⟩:=hS.cells r row info hr hi hmp
  rw [e,ho] at h1;simp only [Option.some.injEq] at h1;subst h1;simp [ZbA] at hk
theorem Rel.at {base:Nat} {acc:Nat->Nat->Prop} {L:Heap} {β:List BI} {w w':World} (hc:∀ b off,w'.cell? ⟨b,off,none⟩=w.cell? ⟨b,off,none⟩) {a:AV} {v:Value} (h:Rel ⟨base,acc,L,β,w⟩ a v):Rel ⟨base,acc,L,β,w'⟩ a v:=
 Rel.recell (S:=⟨base,acc,L,β,w⟩) (S':=⟨base,acc,L,β,w'⟩) rfl rfl rfl hc h
theorem ZgT {w:World} {D:Nat} {o:Obj} (ho:w.heap[D]? = some o) (hk:ZbA o=true) (off:Nat):w.cell? ⟨D,off,none⟩=none:=by
 unfold World.cell?
 simp only [ho]
 cases o <;> first | rfl | (simp [ZbA] at hk;done)
theorem cell_put {w:World} {D:Nat} {o o':Obj} (ho:w.heap[D]? = some o) (hk:ZbA o=true) (hk':ZbA o'=true) (b off:Nat):(w.putObj D o').cell? ⟨b,off,none⟩=w.cell? ⟨b,off,none⟩:=by
 by_cases e:b=D
 ·subst e
  rw [ZgT ho hk,ZgT (World.putObj_heap_same (w:=w) (o:=o') (Array.getElem?_eq_some_iff.1 ho).1) hk']
 ·exact Zaw (World.putObj_heap_other e)
theorem Zec {S:St} (hS:HeapOk S) {D:Nat} {o o':Obj} (ho:S.w.heap[D]? = some o) (hk:ZbA o=true) (hk':ZbA o'=true) :
  HeapOk ⟨S.base,S.acc,S.L,S.β,S.w.putObj D o'⟩ /\ ∀ a v,Rel S a v->Rel ⟨S.base,S.acc,S.L,S.β,S.w.putObj D o'⟩ a v:=by
 have hne:=other_blk hS ho hk
 have hcell:=cell_put ho hk hk'
 have hh:∀ b,b ≠ D->(S.w.putObj D o').heap[b]? = S.w.heap[b]?:=fun b h=>World.putObj_heap_other h
 have hrel:∀ a v,Rel S a v->Rel ⟨S.base,S.acc,S.L,S.β,S.w.putObj D o'⟩ a v:=fun a v h=>Rel.recell (S:=S) (S':=⟨S.base,S.acc,S.L,S.β,S.w.putObj D o'⟩) rfl rfl rfl hcell h
 have hdrel:∀ a v,DRel S a v->DRel ⟨S.base,S.acc,S.L,S.β,S.w.putObj D o'⟩ a v:=fun a v h=>DRel.recell (S:=S) (S':=⟨S.base,S.acc,S.L,S.β,S.w.putObj D o'⟩) rfl rfl rfl hcell h
 refine ⟨⟨by simpa using hS.base,hS.len,fun r info h=>by simpa using hS.blk r info h,hS.inj,fun r row info h1 h2 h3 => ?_,fun r row info h1 h2 h3 => ?_,hS.elems,fun r row info i x k c cv h1 h2 h3 h4 h5 => ?_,fun r row info i x k c cv h1 h2 h0 h3 h4 h5 => ?_,hS.acq,fun b off h=>hS.anew b off (by simpa using h)⟩,hrel⟩
 ·obtain ⟨es,q1,q2,q3,q4⟩:=hS.maps r row info h1 h2 h3
  refine ⟨es,(hh _ (hne r info h2)).trans q1,q2,q3,fun i e x he hx => ?_⟩
  obtain ⟨z1,kk,n,v,z2,z3,z4,z5,z6⟩:=q4 i e x he hx
  exact ⟨z1,kk,n,v,z2,z3,z4,hrel _ _ z5,fun hc=>hdrel _ _ (z6 hc)⟩
 ·obtain ⟨q1,q2,cs,T,q3,q4⟩:=hS.cells r row info h1 h2 h3
  exact ⟨q1,q2,cs,T,(hh _ (hne r info h2)).trans q3,q4⟩
 ·exact hrel _ _ (hS.rel r row info i x k c cv h1 h2 h3 h4 (by rw [<- hcell];exact h5))
 ·exact hdrel _ _ (hS.clean r row info i x k c cv h1 h2 h0 h3 h4 (by rw [<- hcell];exact h5))
theorem put_ext {S0 S:St} {D:Nat} {o o':Obj} (ho:S.w.heap[D]? = some o) (hk:ZbA o=true) (hk':ZbA o'=true) (hD:S0.base<=S0.w.heap.size) (hD0:S0.w.heap.size<=D) (he:Ext S0 S):Ext S0 ⟨S.base,S.acc,S.L,S.β,S.w.putObj D o'⟩:=by
 have hcell:=cell_put ho hk hk'
 have hh:∀ b,b ≠ D->(S.w.putObj D o').heap[b]? = S.w.heap[b]?:=fun b h=>World.putObj_heap_other h
 refine ⟨he.base,he.acc,fun b off hi hlt => ?_,he.rows,?_,he.fresh,fun b h1 h2 h3=>(hh b (by omega)).trans (he.other b h1 h2 h3)⟩
 ·obtain ⟨q1,q2⟩:=he.imm b off hi hlt
  exact ⟨q1,(hcell b off).trans q2⟩
 ·have hb:=he.below
  exact ⟨hb.os,hb.tape,hb.output,by simpa using hb.size,fun k hk=>(hh k (by omega)).trans (hb.block k hk)⟩
theorem ZfD {w w':World} (h:Near w w'):∀ b off,w'.cell? ⟨b,off,none⟩=w.cell? ⟨b,off,none⟩:=by
 induction h with
 | refl=>exact fun _ _=>rfl
 | put o' _ h1 h2 h3 ih=>exact fun b off=>(cell_put h1 h2 h3 b off).trans (ih b off)
theorem near_ok {base:Nat} {acc:Nat->Nat->Prop} {L:Heap} {β:List BI} {w w':World} (hn:Near w w'):HeapOk ⟨base,acc,L,β,w⟩->HeapOk ⟨base,acc,L,β,w'⟩:=by
 induction hn with
 | refl=>exact fun h=>h
 | put o' _ h1 h2 h3 ih=>exact fun h=>(Zec (ih h) h1 h2 h3).1
theorem narrow_sound {M:Mach} {fi:Fi} {k:List Item} {env env':Vars} {L Lc:Heap} {Q:AV->Heap->Prop} {rs:List Nat} (hn:Zbn L rs env=some (env',Lc))
  (ih:ZaU M fi k env' Lc fun v L1=>Q (renA (Zb0 L.length rs) v) (ZdW L rs L1)):ZaU M fi k env L Q:=by
 unfold Zbn at hn
 split at hn
 ·rename_i rows hrows
  split at hn
  ·rename_i hc
   simp only [Option.some.injEq,Prod.mk.injEq] at hn
   obtain ⟨rfl,rfl⟩:=hn
   simp only [Bool.and_eq_true,List.all_eq_true,List.contains_iff_mem] at hc
   obtain ⟨hnd,ha,hcl⟩:=hc
   have hnd:=(Zbl rs).1 hnd
   intro S b a cs fn h1 h2 h3 h4 h5 h6 h7 h8
   subst h6
   obtain ⟨hSc,_,hrelc⟩:=Zfn h5 hrows hnd hcl
   obtain ⟨gl,_⟩:=ZaE hrows
   have hV:VRel ⟨S.base,Za7 S rs,rows.map (Zak (Zar rs)),subβ S.β rs,S.w⟩ (renV (Zar rs) env) a.tmps:=by
    intro t
    rw [get_renV]
    exact hrelc _ _ (h7 t) fun r hr=>ha r (rows_get hr)
   obtain ⟨a',todo',Ds,w',β',v,L1,hq,g1,g2,k1,k2,k3,k3',k4,k5⟩:=ih _ b a cs fn h1 h2 h3 h4 hSc rfl hV h8
   have hle:rs.length<=L1.length:=by
    by_cases hz:rs.length=0
    ·omega
    ·have hlt:rs.length-1<(rows.map (Zak (Zar rs))).length:=by simp;omega
     have hβ:rs.length-1<(subβ S.β rs).length:=by simp [subβ];omega
     obtain ⟨row',info',q1,_⟩:=k5.rows (rs.length-1) _ _ (List.getElem?_eq_getElem hlt) (List.getElem?_eq_getElem hβ)
     have:=(List.getElem?_eq_some_iff.1 q1).1
     simp only at this;omega
   let ns:=List.range' rs.length (L1.length-rs.length)
   have hmem:∀ i,i ∈ ns ↔ rs.length<=i/\i<L1.length:=by
    intro i;simp only [ns,List.mem_range'_1];omega
   have hrefs:=refs_in k4
   obtain ⟨m1,m2,m3⟩:=ZeG (S1:=⟨S.base,Za7 S rs,L1,β',w'⟩) (ns:=ns) (old:=L1.take rs.length) (new:=L1.drop rs.length) h5 hrows hnd hcl k4 k5 List.nodup_range' (fun i hi=>((hmem i).1 hi).1)
    (Zdi L1 _ hle) (getRows_drop L1 _ hle) (fun row hr r hrr=>by
     have hm:row ∈ L1:=by
      rcases List.mem_append.1 hr with h | h
      ·exact List.mem_of_mem_take h
      ·exact List.mem_of_mem_drop h
     have:=hrefs row hm r hrr
     by_cases hlt:r<rs.length
     ·exact .inl hlt
     ·exact .inr ((hmem r).2 ⟨by omega,this⟩))
   have heq:∀ r,r<L1.length->ZaP S.L.length rs ns r=Zb0 S.L.length rs r:=by
    intro r hr
    unfold ZaP Zb0
    cases hb:Nat.blt r rs.length with
    | true=>rfl
    | false =>
     have hge:rs.length<=r:=by
      rcases Nat.lt_or_ge r rs.length with h | h
      ·rw [Nat.blt_eq.mpr h] at hb;simp at hb
      ·exact h
     simp only [cond_false,ns]
     rw [Zc5 _ _ _ hge (by omega)]
   have hrow:∀ row ∈ L1,Zak (ZaP S.L.length rs ns) row=Zak (Zb0 S.L.length rs) row:=by
    intro row hm
    unfold Zak
    cases hcr:row.clean with
    | true=>rfl
    | false =>
     simp only [cond_false]
     rw [renL_ext _ fun r hr=>heq r (hrefs row hm r (by unfold ZaC;rw [hcr];exact hr))]
   have hLL:Za3 S.L rs ns (L1.take rs.length) (L1.drop rs.length)=ZdW S.L rs L1:=by
    unfold Za3 ZdW
    rw [List.map_congr_left fun row hm=>hrow row (List.mem_of_mem_take hm),List.map_congr_left fun row hm=>hrow row (List.mem_of_mem_drop hm)]
   rw [hLL] at m1 m2 m3
   refine ⟨a',todo',Ds,w',_,_,_,hq,g1,g2,k1,k2,k3,fun w'' hne => ?_,m1,m2⟩
   obtain ⟨cv,z1,z2⟩:=k3' w'' hne
   have hcell:=ZfD hne
   have k6:Rel ⟨S.base,Za7 S rs,L1,β',w'⟩ v cv:=Rel.at (fun b off=>(hcell b off).symm) z2
   have hin:=Zgx k6
   have m3':=m3 v cv k6 fun r hr=>by
    have:=hin r hr
    by_cases hlt:r<rs.length
    ·exact .inl hlt
    ·exact .inr ((hmem r).2 ⟨by omega,this⟩)
   rw [renA_ext v fun r hr=>heq r (hin r hr)] at m3'
   exact ⟨cv,z1,Rel.at hcell m3'⟩
  ·simp at hn
 ·simp at hn
theorem ZcI {n i:Nat} (h:i<n):Zar (List.range n) i=i:=by
 rw [List.range_eq_range',Zc5 n 0 i (Nat.zero_le _) (by omega)];rfl
theorem ZcG {f:Nat->Nat} {row:Row} (h:∀ r ∈ ZaC row,f r=r):Zak f row=row:=by
 unfold Zak
 cases hc:row.clean with
 | true=>rfl
 | false =>
  simp only [cond_false]
  rw [renL_ext (g:=fun r=>r) row.elems (fun r hr=>h r (by unfold ZaC;rw [hc];exact hr)),renL_id,<- hc]
theorem Zc2 {f:Nat->Nat} {a:AV} (h:∀ r ∈ rowsA a,f r=r):renA f a=a:=by
 rw [renA_ext (g:=fun r=>r) a h,renA_id]
theorem put_all {α:Type} (l xs:List α) (h:xs.length=l.length):ZcS l (List.range l.length) xs=xs:=by
 apply List.ext_getElem?
 intro i
 by_cases hi:i<l.length
 ·rw [Zdq (List.range l.length) l xs List.nodup_range i i xs[i] (by simp [hi]) (List.getElem?_eq_getElem (by omega)) hi,List.getElem?_eq_getElem (by omega)]
 ·rw [List.getElem?_eq_none (by rw [ZaI];omega),List.getElem?_eq_none (by omega)]
theorem keepV_rel {S:St} {env:Vars} {tm:Array Value} (h:VRel S env tm) (ks:List Nat):VRel S (keepV ks env) tm:=by
 intro t
 have key:∀ ks:List Nat,Vars.get (keepV ks env) t=env.get t\/Vars.get (keepV ks env) t = .any:=by
  intro ks
  induction ks with
  | nil=>exact .inr rfl
  | cons x ks ih =>
   show (bif x==t then env.get x else Vars.get (keepV ks env) t)=_\/(bif x==t then env.get x else Vars.get (keepV ks env) t)=_
   cases hx:x==t with
   | true =>
    have:x=t:=by simpa using hx
    subst this;exact .inl rfl
   | false=>exact ih
 rcases key ks with e | e
 ·rw [e];exact h t
 ·rw [e];exact .any _
theorem drop_sound {M:Mach} {f:FuncId} {args:List AV} {L:Heap} {v:AV} {K:Heap} (hk:ZaB L.length v K=true) (ih:OwnQ M f args L (Zat v K)):OwnQ M f args L (isR v K):=by
 unfold ZaB at hk
 simp only [Bool.and_eq_true,List.all_eq_true,Nat.blt_eq,Nat.beq_eq] at hk
 obtain ⟨hKl,hv,hK⟩:=hk
 intro S cargs h1 h2 h3
 subst h2
 have hrows:=ZdN S.L
 have hnd:(List.range S.L.length).Nodup:=List.nodup_range
 have hin:=refs_in h1
 have hcl:∀ row ∈ S.L,∀ r ∈ ZaC row,r ∈ List.range S.L.length:=fun row hr r hrr=>by simpa using hin row hr r hrr
 obtain ⟨hSc,_,hrelc⟩:=Zfn h1 hrows hnd hcl
 have hself:S.L.map (Zak (Zar (List.range S.L.length)))=S.L:=by
  have:S.L.map (Zak (Zar (List.range S.L.length)))=S.L.map id:=List.map_congr_left fun row hr=>by
   rw [ZcG fun r hrr=>ZcI (hin row hr r hrr)];rfl
  rw [this,List.map_id]
 have hrel':RelL ⟨S.base,Za7 S (List.range S.L.length),S.L.map (Zak (Zar (List.range S.L.length))),subβ S.β (List.range S.L.length),S.w⟩ args cargs:=by
  refine ⟨h3.1,fun i c cv hc hcv => ?_⟩
  have hri:=Zgx (h3.2 i c cv hc hcv)
  have:=hrelc c cv (h3.2 i c cv hc hcv) fun r hr=>by simpa using hri r hr
  rwa [Zc2 fun r hr=>ZcI (hri r hr)] at this
 obtain ⟨m1,m2⟩:=ih _ cargs hSc hself hrel'
 refine ⟨m1,Calls.mono m2 fun e w' he => ?_⟩
 cases e with
 | panicked c=>exact he.elim
 | outgrown=>exact he.elim
 | returned cv =>
  obtain ⟨v',L1,β1,⟨rfl,hq⟩,n1,n2,n3⟩:=he
  rw [hKl] at hq
  have hlen:(List.range S.L.length).length=S.L.length:=List.length_range
  have hle:S.L.length<=L1.length:=by
   have:=congrArg List.length hq
   rw [List.length_take,hKl] at this
   omega
  have ho:ZaF L1 (List.range (List.range S.L.length).length)=some K:=by
   rw [hlen,<- hq]
   have:=Zdi L1 S.L.length hle
   rw [hq] at this ⊢
   exact this
  obtain ⟨k1,k2,k3⟩:=ZeG (S1:=⟨S.base,Za7 S (List.range S.L.length),L1,β1,w'⟩) (ns:=[]) (new:=[]) h1 hrows hnd hcl n1 n2 List.nodup_nil (by simp) ho rfl
   (fun row hr r hrr => .inl (by rw [hlen];exact hK row (by simpa using hr) r hrr))
  have hb:∀ r,r<S.L.length->ZaP S.L.length (List.range S.L.length) [] r=r:=by
   intro r hr
   rw [ZeH (by rw [hlen];exact hr)];simp
  have hKK:Za3 S.L (List.range S.L.length) [] K []=K:=by
   unfold Za3
   rw [List.map_nil,List.append_nil]
   have:K.map (Zak (ZaP S.L.length (List.range S.L.length) []))=K.map id:=List.map_congr_left fun row hr=>by
    rw [ZcG fun r hrr=>hb r (hK row hr r hrr)];rfl
   rw [this,List.map_id,put_all _ _ hKl]
  have k3':=k3 v' cv n3 fun r hr => .inl (by rw [hlen];exact hv r hr)
  rw [Zc2 fun r hr=>hb r (hv r hr)] at k3'
  rw [hKK] at k1 k2 k3'
  exact ⟨v',K,_,⟨rfl,rfl⟩,k1,k2,k3'⟩
theorem text_app {M:Mach} {call:Zax} {n:Nat} {ops:Array Oper} {ans:Nat->Option Ans} {hot:Nat->Nat} {Q:Exit->Act->World->Prop} (l2:List Nat):∀ (l:List Nat) {s sf:RS} {S:St} {a:Act},Zav M.P M.inl call n ops ans hot l s=some sf ->
  (∀ b ∈ sf.asm,b=true)->(∀ q ∈ sf.eqs,q)->(∀ c ∈ sf.calls,c.cond=true->ZbL M c) ->
  HeapOk S->S.L=s.L->TRel S s.env a.tmps->n<=a.tmps.size ->
  (∀ S' a',HeapOk S'->Ext S S'->S'.L=sf.L->TRel S' sf.env a'.tmps->a'.tmps.size=a.tmps.size->a'.defers=a.defers->wpOps (M.P ()) ops Q l2 a' S'.w) ->
  wpOps (M.P ()) ops Q (l++l2) a S.w
 | [],s,sf,S,a,h,_,_,_,hS,hL,hT,_,hK=>by
  simp only [Zav,Option.some.injEq] at h;subst h
  exact hK S a hS (Ext.refl S) hL hT rfl rfl
 | i::rest,s,sf,S,a,h,hA,hQ,hC,hS,hL,hT,hn,hK=>by
  rw [List.cons_append,wpOps_cons]
  simp only [Zav] at h
  cases ho:ops[i]? with
  | none =>
   rw [ho] at h
   unfold wpOp
   simp only [ho]
   exact text_app l2 rest h hA hQ hC hS hL hT hn hK
  | some o =>
   rw [ho] at h
   simp only at h
   cases h1:Zbk M.P M.inl call n ops (ans i) (hot i) o s with
   | none=>rw [h1] at h;simp at h
   | some s1 =>
    rw [h1] at h
    simp only at h
    obtain ⟨env,L,x,y,z,rfl,_⟩:=ZaW _ h
    refine Zcl hS hL hT hn ho h1 (fun b hb=>hA b (by simp [hb])) (fun b hb=>hQ b (by simp [hb])) (fun b hb=>hC b (by simp [hb])) fun S' a' k1 k2 k3 k4 k5 k6 => ?_
    exact text_app l2 rest h hA hQ hC k1 k3 k4 (by rw [k5];exact hn) fun S'' a'' m1 m2 m3 m4 m5 m6=>hK S'' a'' m1 (k2.trans m2) m3 m4 (m5.trans k5) (m6.trans k6)
theorem range_split {n i:Nat} (h:i<n):List.range n=List.range i++i::(List.range n).drop (i+1):=by
 have h1:List.range i=(List.range n).take i:=by rw [List.take_range,Nat.min_eq_left (by omega)]
 have h2:(List.range n).drop i=i::(List.range n).drop (i+1):=by
  have h3:i<(List.range n).length:=by simpa using h
  rw [List.drop_eq_getElem_cons h3];simp
 rw [h1,<- h2,List.take_append_drop]
theorem nil_sound {M:Mach} {fi:Fi} {id i:Nat} {ops:Array Oper} {k:List Item} {env:Vars} {L:Heap} {Q:AV->Heap->Prop} {keep:List Nat} {s:Bool->RS}
  (hr:∀ b,nilRun M.P M.inl fi.n ops i env L b=some (s b)) (hA:∀ b,(∀ x ∈ (s b).asm,x=true)/\(s b).eqs=[]/\(s b).calls=[])
  (ih:∀ b,ZaU M fi k (Zbq keep (s b).env) (s b).L Q):ZaU M fi (.code (.region id ops false)::k) env L Q:=by
 refine ZaU.after fun S a h5 h6 h7 h8 => ?_
 refine Zeb ?_
 show wpOps (M.P ()) ops _ _ a S.w
 ·have h0:=hr true
  unfold nilRun at h0
  cases ho:ops[i]? with
  | none=>simp [ho] at h0
  | some o =>
  cases hs1:Zav M.P M.inl (fun _ _ _=>none) fi.n ops (fun _=>none) (fun _=>2) (List.range i) ⟨lift env,L,[],[],[]⟩ with
  | none=>simp [hs1] at h0
  | some s1 =>
  simp only [ho,hs1] at h0
  cases hd:nilTest M.P s1.env o with
  | none=>simp [hd] at h0
  | some d =>
  have hb:∀ t,∃ env1,putE fi.n (some d) [] (.bool t) s1.env=some env1/\Zav M.P M.inl (fun _ _ _=>none) fi.n ops (fun _=>none) (fun _=>2) ((List.range ops.size).drop (i+1)) ⟨env1,s1.L,s1.asm,s1.eqs,s1.calls⟩=some (s t):=by
   intro t
   have ht:=hr t
   unfold nilRun at ht
   simp only [ho,hs1,hd] at ht
   split at ht
   ·rename_i env1 he;exact ⟨env1,he,ht⟩
   ·simp at ht
  have hin:(∀ x ∈ s1.asm,x=true)/\s1.eqs=[]/\s1.calls=[]:=by
   obtain ⟨env1,_,ht⟩:=hb true
   obtain ⟨e2,L2,x,y,z,he,_⟩:=ZaW _ ht
   have:=hA true
   rw [he] at this
   simp only [List.append_eq_nil_iff] at this
   exact ⟨fun w hw=>this.1 w (by simp [hw]),this.2.1.1,this.2.2.1⟩
  have hlt:i<ops.size:=(Array.getElem?_eq_some_iff.1 ho).1
  rw [range_split hlt]
  refine text_app _ (List.range i) hs1 hin.1 (by rw [hin.2.1];simp) (by rw [hin.2.2];simp) h5 h6 (Zcm h7) h8 fun S' a' k1 k2 k3 k4 k5 k6 => ?_
  rw [wpOps_cons]
  have hρ:∀ x,Rel S' (ev s1.env [] x) (a'.eval x):=ev_rel k4 (by intro x hx;simp at hx)
  obtain ⟨n1,n2,t,n3⟩:=nilTest_runs hd (S:=S') hρ
  obtain ⟨env1,he,ht⟩:=hb t
  have hc:Za1 ops s1.env o=some (some []):=by unfold Za1;rw [n1]
  obtain ⟨hco,hw⟩:=ZdT k4 hc
  unfold wpOp
  simp only [ho]
  rw [hw]
  simp only [Zao,if_true]
  left
  unfold Oper.wp
  rw [n3,Oper.upon_value,n2]
  have hput:=Zfy (cv:=.bool t) k4 (by rw [k5];exact h8) hco he (fun _ => .data _ _ (.bool t)) (fun h=>by simp [Zao] at h)
  obtain ⟨p1,p2,p3⟩:=hA t
  refine Zct _ ht p1 (by rw [p2];simp) (by rw [p3];simp) k1 k3 hput (by rw [ZcC,k5];exact h8) fun S'' a'' m1 m2 m3 m4 m5 m6 => ?_
  exact ⟨S'',Zbq keep (s t).env,rfl,m1,k2.trans m2,m3.symm ▸ ih t,ZbH m4 keep,by rw [m5,ZcC,k5],by rw [m6];simpa [Act.put] using k6⟩
theorem both_sound {M:Mach} (hm:(M.P ()).follows .mixedOrders=true) {fi:Fi} {id:Nat} {ops:Array Oper} {env:Vars} {L:Heap} {call:Zax} {ans:Nat->Option Ans} {hot:Bool->Nat->Nat} {keep rs:List Nat} {p:Nat} {e1:Vars} {L1:Heap} {asl:List Bool} {qs:List Prop} {cl:List CF}
  (hd:∀ t,ZeB (hot t) ops p=true) (hr:∀ t,bothRun M.P M.inl call fi.n ops ans (hot t) keep rs p env L t=some (e1,L1,asl,qs,cl)) (hA:∀ b ∈ asl,b=true) (hQ:∀ q ∈ qs,q) (hC:∀ c ∈ cl,c.cond=true->ZbL M c)
  {S:St} {a:Act} (h5:HeapOk S) (h6:S.L=L) (h7:VRel S env a.tmps) (h8:fi.n<=a.tmps.size) :
  RegR (M.P ()) id ops true (fun a' w' => ∃ S':St,S'.w=w'/\HeapOk S'/\Ext S S'/\S'.L=L1/\VRel S' e1 a'.tmps/\a'.tmps.size=a.tmps.size/\a'.defers=a.defers) a S.w:=by
 refine regR_any hm ?_
 obtain ⟨n1,n2⟩:=Zca h5 (w':={ S.w with drawn:=S.w.drawn+1 }) ⟨rfl,rfl,rfl,Nat.le_refl _,fun _ _=>rfl⟩ (fun _ _=>rfl)
 have hf:=hr false
 have ht:=hr true
 unfold bothRun at hf ht
 simp only at hf ht
 have hp1:p+1<ops.size:=by
  have hd:=hd false
  unfold ZeB at hd
  simp only [Bool.and_eq_true] at hd
  have:=hd.2.1
  cases h:ops[p+1]? with
  | none=>rw [h] at this;simp at this
  | some o=>exact (Array.getElem?_eq_some_iff.1 h).1
 split at hf
 ·rename_i s1 hs1
  simp only [Option.some.injEq,Prod.mk.injEq] at hf
  obtain ⟨f1,f2,f3,f4,f5⟩:=hf
  split at ht
  ·rename_i s2 hs2
   split at ht
   ·rename_i e2 K hn hall
    simp only [Option.some.injEq,Prod.mk.injEq] at ht
    obtain ⟨g1,g2,g3,g4,g5⟩:=ht
    subst g1 g2
    have hclosed:∀ (j:Nat) (o:Oper),ops[j]? = some o->(Array.replicate ops.size false).getD j false=true -> ∀ e ∈ o.after,Region.binds .any e=true->(Array.replicate ops.size false).getD e.on false=true:=by
     intro j o _ hj
     by_cases hlt:j<ops.size <;> simp [hlt] at hj
    refine draw_two (hd false) (hd true) ops.size (Array.replicate ops.size false) (List.range ops.size) ((List.range ops.size).map (sw p)) (S:=⟨S.base,S.acc,S.L,S.β,{ S.w with drawn:=S.w.drawn+1 }⟩)
     ⟨by simp,List.pairwise_lt_range,fun i => ?_,hclosed,hs1⟩ ⟨by simp,?_,fun i => ?_,hclosed,hs2⟩ (by simp) (by simp)
     (by rw [f3];exact hA) (by rw [f4];exact hQ) (by rw [f5];exact hC) (by rw [g3];exact hA) (by rw [g4];exact hQ) (by rw [g5];exact hC) n1 h6 ((Zcm h7).mono n2) h8
     (fun S' a' k1 k2 k3 k4 k5 k6=>⟨S',rfl,k1,n2.trans k2,k3.trans f2,f1 ▸ ZbH k4 keep,k5,k6⟩)
     (fun S' a' k1 k2 k3 k4 k5 k6 => ?_)
    ·simp only [List.mem_range]
     constructor
     ·intro h;exact ⟨h,by simp [h]⟩
     ·intro h;exact h.1
    ·rw [List.pairwise_map]
     exact List.pairwise_lt_range.imp fun h=>by rw [sw_sw,sw_sw];exact h
    ·simp only [List.mem_map,List.mem_range]
     constructor
     ·rintro ⟨j,h,rfl⟩
      have:=(sw_lt (i:=j) hp1).2 h
      exact ⟨this,by simp [this]⟩
     ·intro h;exact ⟨sw p i,(sw_lt hp1).2 h.1,sw_sw p i⟩
    ·unfold Zbn at hn
     split at hn
     ·rename_i rows hrows
      split at hn
      ·rename_i hc
       simp only [Option.some.injEq,Prod.mk.injEq] at hn
       obtain ⟨rfl,rfl⟩:=hn
       simp only [Bool.and_eq_true,List.all_eq_true,List.contains_iff_mem] at hc
       obtain ⟨hnd,ha,hcl⟩:=hc
       have hnd:=(Zbl rs).1 hnd
       simp only [Bool.and_eq_true,List.all_eq_true,List.mem_range] at hall
       rw [<- k3] at hrows
       obtain ⟨p1,p2,p3⟩:=perm_ok k1 n1 k2 hrows hnd hcl (fun r hr=>by
        have:=hall.2 r (by rw [<- h6];exact hr)
        cases h:rs[r]? with
        | none=>rw [h] at this;simp at this
        | some q=>rw [h] at this;simp only [Nat.beq_eq] at this;rw [this])
       refine ⟨⟨S'.base,S'.acc,rows.map (Zak (Zar rs)),subβ S'.β rs,S'.w⟩,rfl,p1,n2.trans p2,rfl,fun t => ?_,k5,k6⟩
       rw [get_renV]
       exact p3 _ _ (ZbH k4 keep t) fun r hr=>ha r (rows_get hr)
      ·simp at hn
     ·simp at hn
   ·simp at ht
  ·simp at ht
 ·simp at hf
theorem marks_out {P:Program} {S0:St}:∀ (Ds:List Nat) {S:St} {fr:Frame} {cs:List Frame},HeapOk S->Ext S0 S->S0.base<=S0.w.heap.size->MarksOk S0.w.heap.size S.w Ds ->
  fr.mode = .returning->fr.defers=Ds.map ZeM ->
  ∃ w',Steps P (lone fr cs S.w) (lone { fr with defers:=[] } cs w')/\Near S.w w'/\HeapOk ⟨S.base,S.acc,S.L,S.β,w'⟩/\Ext S0 ⟨S.base,S.acc,S.L,S.β,w'⟩
 | [],S,fr,cs,hS,he,_,_,h1,h2=>by
  have:({ fr with defers:=[] }:Frame)=fr:=by cases fr;simp at h2;subst h2;rfl
  rw [this]
  exact ⟨S.w,Steps.refl _ _,.refl _,hS,he⟩
 | D::Ds,S,fr,cs,hS,he,hb,hm,h1,h2=>by
  obtain ⟨hnd,hD⟩:=hm
  obtain ⟨d1,d2⟩:=hD D (List.mem_cons_self ..)
  obtain ⟨p1,p3⟩:=Zec (o':=.deferred none) hS d2 rfl rfl
  have p2:=put_ext (o':=.deferred none) d2 rfl rfl hb d1 he
  have hstep:=step_collected (P:=P) (fr:=fr) (cs:=cs) (w:=S.w) (d:=ZeM D) (r:=D) (ds:=Ds.map ZeM) (by rw [h1];simp) (by rw [h2];rfl) rfl (run_takeDeferred d2)
  obtain ⟨w',s1,s2,s3,s4⟩:=marks_out Ds (S:=⟨S.base,S.acc,S.L,S.β,S.w.putObj D (.deferred none)⟩) (fr:={ fr with defers:=[]++Ds.map ZeM }) (cs:=cs) p1 p2 hb
   ⟨(List.nodup_cons.1 hnd).2,fun D' h'=>by
    obtain ⟨e1,e2⟩:=hD D' (List.mem_cons_of_mem _ h')
    have hne:D' ≠ D:=fun e=>(List.nodup_cons.1 hnd).1 (e ▸ h')
    exact ⟨e1,(World.putObj_heap_other hne).trans e2⟩⟩ h1 rfl
  have near:∀ {w1 w2:World},Near w1 w2 -> ∀ {w0:World},Near w0 w1->Near w0 w2:=by
   intro w1 w2 h
   induction h with
   | refl=>exact fun h=>h
   | put o' _ q1 q2 q3 ih=>exact fun h => .put o' (ih h) q1 q2 q3
  exact ⟨w',.head hstep s1,near s2 (.put _ (.refl _) d2 rfl rfl),s3,s4⟩
theorem own_of_run {M:Mach} {f:FuncId} {args:List AV} {L:Heap} {Q:AV->Heap->Prop} {fn:Func} {c:Code} (hf:(M.P ()).funcs[f]? = some fn) (hb:fn.body=some c) (hn:(fn.name == "runtime.NumGoroutine")=false)
  (ih:ZaU M ⟨fn.ntmps,fn.results.toList⟩ [.code c] (ZaN 0 args) L Q):OwnQ M f args L Q:=by
 intro S cargs hS hL hr
 refine ⟨call_runs hf hb hn,fun cs => ?_⟩
 let b:Frame:={ (default:Frame) with fn:=f,kind:=.normal,roundOf:=none }
 let a:Act:={ tmps:=⟨cargs⟩++Array.replicate (fn.ntmps-(⟨cargs⟩:Array Value).size) undef,defers:=[] }
 have henter:Frame.enter (M.P ()) f ⟨cargs⟩ .normal=b.atR a [.code c]:=by
  simp [Frame.enter,Frame.atR,hf,hb,b,a]
 obtain ⟨a',todo',Ds,w',β',v,L',hq,g1,g2,k1,k2,k3,k4,k5,k6⟩:=ih S b a cs fn hf rfl rfl (.inl rfl) hS hL (enter_rel _ hr) (by simp [a];omega)
 have hout:step (M.P ()) (lone (b.atR a' todo') cs w') = .next (lone { b.atR a' todo' with mode:=.returning } cs w'):=by
  rcases g1 with rfl | ⟨k,rfl⟩
  ·exact stepR_end rfl
  ·exact stepR_ret rfl
 have hd:a'.defers=Ds.map ZeM:=by rw [k2];simp [a]
 obtain ⟨w2,s1,s2,s3,s4⟩:=marks_out (P:=M.P ()) (S0:=S) Ds (S:=⟨S.base,S.acc,L',β',w'⟩) (fr:={ b.atR a' todo' with mode:=.returning }) (cs:=cs) k5 k6 hS.base k3 rfl hd
 obtain ⟨cv,z1,z2⟩:=k4 w2 s2
 rw [<- henter] at k1
 exact ⟨.returned cv,w2,_,⟨v,L',β',hq,s3,s4,z2⟩,Steps.trans k1 (.head hout s1),rfl,rfl,rfl,rfl,fn,hf,z1⟩
theorem Zbe {M:Mach} (hm:(M.P ()).follows .mixedOrders=true) {c:Conf} {Q:AV->Heap->Prop} (h:Wp M c Q):Means M c Q:=by
 induction h with
 | skip _ ih=>exact ZaU.step ih (fun h=>by simpa [Zcu,Zd3,Zch] using h) fun b a cs S _=>stepR_skip
 | seq _ ih=>exact ZaU.step ih (fun h=>by simp only [Zcu,List.all_cons,Zd3,Zch,Bool.and_eq_true] at h ⊢;exact ⟨h.1.1,h.1.2,h.2⟩) fun b a cs S _=>stepR_seq
 | @cond fi c x y k env L Q t ht _ ih =>
  refine ZaU.step ih (fun h => ?_) fun b a cs S hV => ?_
  ·simp only [Zcu,List.all_cons,Zd3,Zch,Bool.and_eq_true] at h ⊢
   cases t with
   | true=>exact ⟨h.1.1,h.2⟩
   | false=>exact ⟨h.1.2,h.2⟩
  have:=ZeX (a:=a) hV c
  rw [ht] at this
  have hc:=ZbN this
  cases t with
  | true=>exact stepR_cond (t:=true) hc
  | false=>exact stepR_cond (t:=false) hc
 | block _ ih=>exact ZaU.step ih (fun h=>by simpa [Zcu,Zd3,Zch] using h) fun b a cs S _=>stepR_block
 | inBlock _ ih=>exact ZaU.step ih (fun h=>by simpa [Zcu,Zd3,Zch] using h) fun b a cs S _=>stepR_inBlock
 | loop _ ih=>exact ZaU.step ih (fun h=>by simp only [Zcu,List.all_cons,Zd3,Zch,Bool.and_eq_true] at h ⊢;exact ⟨h.1,h.1,h.2⟩) fun b a cs S _=>stepR_loop
 | inLoop _ ih=>exact ZaU.step ih (fun h=>by simp only [Zcu,List.all_cons,Zd3,Bool.and_eq_true] at h ⊢;exact ⟨h.1,h.1,h.2⟩) fun b a cs S _=>stepR_inLoop
 | exit he _ ih=>exact ZaU.step ih (fun h=>Zfk he (by simpa [Zcu,Zd3,Zch] using h)) fun b a cs S _=>stepR_exit he
 | @region fi id ops draw k env L Q0 call ans hot keep s hd hr hA hQ ho hp _ iho ihp ih =>
  have hC:∀ c ∈ s.calls,c.cond=true->ZbL M c:=by
   intro c hc hcc
   unfold ZbL
   cases hown:c.own with
   | true=>exact OwnQ.snd (iho c hc hcc hown)
   | false=>exact PureR.snd (ihp c hc hcc hown)
  refine ZaU.after fun S a h5 h6 h7 h8 => ?_
  cases draw with
  | false =>
   exact Zeb (Zct _ hr hA hQ hC h5 h6 (Zcm h7) h8 fun S' a' k1 k2 k3 k4 k5 k6=>⟨S',_,rfl,k1,k2,k3.symm ▸ ih,ZbH k4 keep,k5,k6⟩)
  | true =>
   refine regR_any hm ?_
   obtain ⟨n1,n2⟩:=Zca h5 (w':={ S.w with drawn:=S.w.drawn+1 }) ⟨rfl,rfl,rfl,Nat.le_refl _,fun _ _=>rfl⟩ (fun _ _=>rfl)
   refine draw_sound (hd rfl) ops.size (Array.replicate ops.size false) (List.range ops.size) (S:=⟨S.base,S.acc,S.L,S.β,{ S.w with drawn:=S.w.drawn+1 }⟩) (by simp) List.pairwise_lt_range (fun i => ?_) (fun j o _ hj => ?_) (by simp) hr hA hQ hC n1 h6 ((Zcm h7).mono n2) h8 fun S' a' k1 k2 k3 k4 k5 k6=>⟨S',_,rfl,k1,n2.trans k2,k3.symm ▸ ih,ZbH k4 keep,k5,k6⟩
   ·simp only [List.mem_range]
    constructor
    ·intro h;exact ⟨h,by simp [h]⟩
    ·intro h;exact h.1
   ·by_cases hlt:j<ops.size <;> simp [hlt] at hj
 | @both fi id ops k env L Q0 call ans hot keep rs p e1 L1 asl qs cl hd hr hA hQ ho hp _ iho ihp ih =>
  have hC:∀ c ∈ cl,c.cond=true->ZbL M c:=by
   intro c hc hcc
   unfold ZbL
   cases hown:c.own with
   | true=>exact OwnQ.snd (iho c hc hcc hown)
   | false=>exact PureR.snd (ihp c hc hcc hown)
  refine ZaU.after fun S a h5 h6 h7 h8 b k2 cs hb => ?_
  obtain ⟨a',w',⟨S',e0,n1,n2,n3,n4,n5,n6⟩,hs⟩:=both_sound hm hd hr hA hQ hC h5 h6 h7 h8 b k2 cs hb
  exact ⟨a',w',⟨S',e1,e0,n1,n2,n3.symm ▸ ih,n4,n5,n6⟩,hs⟩
 | @ret fi k env L v Q hf hq =>
  intro S b a cs fn h1 h2 h3 h4 h5 h6 h7 h8
  subst h6
  have hn:b.roundOf=none:=by
   rcases h4 with h | h
   ·exact h
   ·simp [Zcu,Zd3,Zch] at h
  exact ⟨a,_,[],S.w,S.β,v,_,hq,.inr ⟨k,rfl⟩,.inl hn,Steps.refl _ _,rfl,⟨.nil,by simp⟩,fun w'' hne=>ZeO (S:=⟨S.base,S.acc,S.L,S.β,w''⟩) (near_ok hne h5) (fun t=>Rel.at (ZfD hne) (h7 t)) h2 hf,h5,Ext.refl S⟩
 | @done fi env L v Q hf hq =>
  intro S b a cs fn h1 h2 h3 h4 h5 h6 h7 h8
  subst h6
  exact ⟨a,_,[],S.w,S.β,v,_,hq,.inl rfl,.inr ⟨rfl,rfl⟩,Steps.refl _ _,rfl,⟨.nil,by simp⟩,fun w'' hne=>ZeO (S:=⟨S.base,S.acc,S.L,S.β,w''⟩) (near_ok hne h5) (fun t=>Rel.at (ZfD hne) (h7 t)) h2 hf,h5,Ext.refl S⟩
 | @own f args L Q fn c hf hb hn _ ih=>exact own_of_run hf hb hn ih
 | @pure f args Q _ ih =>
  intro base acc w cargs hb hac hr
  have hS:HeapOk ⟨base,acc,[],[],w⟩:=⟨hb,rfl,by simp,by simp,by simp,by simp,by simp,by simp,by simp,by simp,fun b off h=>hac b off (Nat.le_trans hb h)⟩
  obtain ⟨k1,k2⟩:=ih ⟨base,acc,[],[],w⟩ cargs hS rfl hr
  refine ⟨k1,Calls.mono k2 fun e w' he => ?_⟩
  cases e with
  | returned cv =>
   obtain ⟨v,L',β',⟨d,d',hd,hv,hcl,hw,hq⟩,m1,m2,m3⟩:=he
   refine ⟨d',hq,m2.below,ZeW hw (pure_rel (S:=⟨base,acc,L',β',w'⟩) (S':=⟨base,acc,[],[],w'⟩) m1 rfl (fun b off hi _ => ?_) v m3 hd hv fun r hr row info q1 q2 off _ _ => ?_)⟩
   ·exact ⟨hi.1,by simp⟩
   ·exact ⟨m1.acq r info off q2,by simp⟩
  | panicked c=>exact he.elim
  | outgrown=>exact he.elim
 | @narrow fi k env L Q rs env' Lc hn _ ih=>exact narrow_sound hn ih
 | @drop f args L v K hk _ ih=>exact drop_sound hk ih
 | @less fi k env L Q ks _ ih=>exact fun S b a cs fn h1 h2 h3 h4 h5 h6 h7 h8=>ih S b a cs fn h1 h2 h3 h4 h5 h6 (keepV_rel h7 ks) h8
 | @nilq fi id ops k env L Q i keep s hr hA _ ih=>exact nil_sound hr hA ih
 | sem h=>exact h
 | @mono c Q Q' _ hq ih =>
  cases c with
  | run fi todo env L =>
   intro S b a cs fn h1 h2 h3 h4 h5 h6 h7 h8
   obtain ⟨a',todo',Ds,w',β',v,L',hqq,k⟩:=ih S b a cs fn h1 h2 h3 h4 h5 h6 h7 h8
   exact ⟨a',todo',Ds,w',β',v,L',hq v L' hqq,k⟩
  | own f args L =>
   intro S cargs h1 h2 h3
   obtain ⟨k1,k2⟩:=ih S cargs h1 h2 h3
   refine ⟨k1,Calls.mono k2 fun e w' he => ?_⟩
   cases e with
   | returned cv =>
    obtain ⟨v,L',β',hqq,m⟩:=he
    exact ⟨v,L',β',hq v L' hqq,m⟩
   | panicked c=>exact he.elim
   | outgrown=>exact he.elim
  | pure f args =>
   intro base acc w cargs h1 h2 h3
   obtain ⟨k1,k2⟩:=ih base acc w cargs h1 h2 h3
   refine ⟨k1,Calls.mono k2 fun e w' he => ?_⟩
   cases e with
   | returned cv =>
    obtain ⟨d,hqq,m⟩:=he
    exact ⟨d,hq d [] hqq,m⟩
   | panicked c=>exact he.elim
   | outgrown=>exact he.elim
 | @weak f args v d _ hw ih =>
  intro base acc w cargs hb hac hr
  obtain ⟨k1,k2⟩:=ih base acc w cargs hb hac hr
  refine ⟨k1,Calls.mono k2 fun e w' he => ?_⟩
  cases e with
  | returned cv =>
   obtain ⟨d0,⟨rfl,_⟩,m1,m2⟩:=he
   exact ⟨d,⟨rfl,rfl⟩,m1,ZeW hw m2⟩
  | panicked c=>exact he.elim
  | outgrown=>exact he.elim
theorem ev_sound {M:Mach} (hm:(M.P ()).follows .mixedOrders=true) {f:FuncId} {args:List AV} {v:AV} (h:Ev M (.pure f args) v []):Zf3 M f args v:=
 PureR.snd (Zbe hm h)
end Go.Av
