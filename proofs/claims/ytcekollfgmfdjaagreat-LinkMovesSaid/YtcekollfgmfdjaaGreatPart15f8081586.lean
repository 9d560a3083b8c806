/- PART 2 of the texts of a claim, joined by a program: what each part shows stands at its head. -/
import Derived.Test.YtcekollfgmfdjaaGreatPartb80df84d16
import Derived.Orders
import Derived.ProofKit
import Derived.OpenShut
import Derived.Test.YtcekollfgmfdjaaGreatRows
import Derived.Test.YtcekollfgmfdjaaGreatProg

namespace Go.Av
open Go.RowKit
section
variable {S S1:St} {rs ns:List Nat} {rows old new:List Row}
def Zbb (n:Nat) (rs ns:List Nat) (i:Nat):Nat:=bif Nat.blt i rs.length then rs.getD i 0 else n+ZaF ns i
theorem Zg8 {n i:Nat} (h:i<rs.length):Zbb n rs ns i=rs[i]:=by
 have:Nat.blt i rs.length=true:=by simpa [Nat.blt_eq] using h
 simp [Zbb,this,h]
theorem back_ge {n i:Nat} (h:rs.length<=i):Zbb n rs ns i=n+ZaF ns i:=by
 have:Nat.blt i rs.length=false:=by
  cases hb:Nat.blt i rs.length with
  | false=>rfl
  | true=>have:=Nat.blt_eq.mp hb;omega
 simp [Zbb,this]
def ZbA (L:Heap) (rs ns:List Nat) (old new:List Row):Heap:=Zep L rs (old.map (Zau (Zbb L.length rs ns)))++new.map (Zau (Zbb L.length rs ns))
def Zca (β β1:List BI) (rs ns:List Nat):List BI:=Zep β rs (subβ β1 (List.range rs.length))++subβ β1 ns
theorem sub_at {β:List BI} {l:List Nat} {j i:Nat} {info:BI} (h:l[j]? = some i) (hi:β[i]? = some info):(subβ β l)[j]? = some info:=by
 unfold subβ
 obtain ⟨h1,h2⟩:=List.getElem?_eq_some_iff.1 hi
 rw [List.getElem?_map,h]
 simp [h1,h2]
theorem back_in (hS:HeapOk S) (hlen:∀ r ∈ rs,r<S.L.length) (hnd:rs.Nodup) (ho:ZaQ S1.L (List.range rs.length)=some old) (hn:ZaQ S1.L ns=some new)
  {i:Nat} {row:Row} {info:BI} (hi:i<rs.length\/i ∈ ns) (h1:S1.L[i]? = some row) (h2:S1.β[i]? = some info) :
  (ZbA S.L rs ns old new)[Zbb S.L.length rs ns i]? = some (Zau (Zbb S.L.length rs ns) row)/\(Zca S.β S1.β rs ns)[Zbb S.L.length rs ns i]? = some info:=by
 obtain ⟨o1,o2⟩:=ZaK ho
 obtain ⟨n1,n2⟩:=ZaK hn
 by_cases hlt:i<rs.length
 ·have hr:(List.range rs.length)[i]? = some i:=by simp [hlt]
  obtain ⟨row0,k1,k2⟩:=o2 i i hr
  rw [h1] at k1
  simp only [Option.some.injEq] at k1;subst k1
  rw [Zg8 hlt]
  have hm:rs[i]<S.L.length:=hlen _ (List.getElem_mem hlt)
  have hm2:rs[i]<S.β.length:=by rw [<- hS.len];exact hm
  unfold ZbA Zca
  rw [List.getElem?_append_left (by rw [ZaN];exact hm),List.getElem?_append_left (by rw [ZaN];exact hm2)]
  exact ⟨Ze2 rs _ _ hnd i _ _ (List.getElem?_eq_getElem hlt) (by rw [List.getElem?_map,k2];rfl) hm,Ze2 rs _ _ hnd i _ _ (List.getElem?_eq_getElem hlt) (sub_at hr h2) hm2⟩
 ·have hm:i ∈ ns:=hi.resolve_left hlt
  have hp:=Zcn hm
  obtain ⟨row0,k1,k2⟩:=n2 _ i hp
  rw [h1] at k1
  simp only [Option.some.injEq] at k1;subst k1
  rw [back_ge (by omega)]
  unfold ZbA Zca
  rw [List.getElem?_append_right (by rw [ZaN];omega),List.getElem?_append_right (by rw [ZaN,hS.len];omega),ZaN,ZaN]
  have e1:S.L.length+ZaF ns i-S.L.length=ZaF ns i:=by omega
  have e2:S.L.length+ZaF ns i-S.β.length=ZaF ns i:=by have:=hS.len;omega
  rw [e1,e2]
  exact ⟨by rw [List.getElem?_map,k2];rfl,sub_at hp h2⟩
theorem back_cases (hS:HeapOk S) (hS1:HeapOk S1) (hnd:rs.Nodup) (hns:ns.Nodup) (hge:∀ i ∈ ns,rs.length<=i) (ho:ZaQ S1.L (List.range rs.length)=some old) (hn:ZaQ S1.L ns=some new) (hlen:∀ r ∈ rs,r<S.L.length) {q:Nat}
  (hq:q<(ZbA S.L rs ns old new).length) :
  (q<S.L.length/\q ∉ rs/\(ZbA S.L rs ns old new)[q]? = S.L[q]? /\ (Zca S.β S1.β rs ns)[q]? = S.β[q]?) \/
  ∃ i row info,(i<rs.length\/i ∈ ns)/\q=Zbb S.L.length rs ns i/\S1.L[i]? = some row/\S1.β[i]? = some info/\(ZbA S.L rs ns old new)[q]? = some (Zau (Zbb S.L.length rs ns) row)/\(Zca S.β S1.β rs ns)[q]? = some info:=by
 obtain ⟨o1,o2⟩:=ZaK ho
 obtain ⟨n1,n2⟩:=ZaK hn
 have fin:∀ i row,(i<rs.length\/i ∈ ns)->q=Zbb S.L.length rs ns i->S1.L[i]? = some row -> ∃ i row info,(i<rs.length\/i ∈ ns)/\q=Zbb S.L.length rs ns i/\S1.L[i]? = some row/\S1.β[i]? = some info/\(ZbA S.L rs ns old new)[q]? = some (Zau (Zbb S.L.length rs ns) row)/\(Zca S.β S1.β rs ns)[q]? = some info:=by
  intro i row hi he h1
  have hlt:i<S1.β.length:=by rw [<- hS1.len];exact Zaq h1
  obtain ⟨k1,k2⟩:=back_in hS hlen hnd ho hn hi h1 (List.getElem?_eq_getElem hlt)
  exact ⟨i,row,_,hi,he,h1,List.getElem?_eq_getElem hlt,by rw [he];exact k1,by rw [he];exact k2⟩
 by_cases hlt:q<S.L.length
 ·by_cases hm:q ∈ rs
  ·right
   have hp:=Zcn hm
   obtain ⟨h3,h4⟩:=List.getElem?_eq_some_iff.1 hp
   obtain ⟨row,k1,_⟩:=o2 (ZaF rs q) (ZaF rs q) (by simp [h3])
   exact fin (ZaF rs q) row (.inl h3) (by rw [Zg8 h3,h4]) k1
  ·left
   refine ⟨hlt,hm,?_,?_⟩
   ·unfold ZbA
    rw [List.getElem?_append_left (by rw [ZaN];exact hlt),Zb6 _ _ _ _ hm]
   ·unfold Zca
    rw [List.getElem?_append_left (by rw [ZaN,<- hS.len];exact hlt),Zb6 _ _ _ _ hm]
 ·right
  have hj:q-S.L.length<ns.length:=by
   unfold ZbA at hq
   rw [List.length_append,ZaN,List.length_map,n1] at hq
   omega
  obtain ⟨row,k1,_⟩:=n2 (q-S.L.length) ns[q-S.L.length] (List.getElem?_eq_getElem hj)
  have hmem:ns[q-S.L.length] ∈ ns:=List.getElem_mem hj
  refine fin ns[q-S.L.length] row (.inr hmem) ?_ k1
  rw [back_ge (hge _ hmem),Zf2 hns (List.getElem?_eq_getElem hj)]
  omega
theorem back_ok (hS:HeapOk S) (hrows:ZaQ S.L rs=some rows) (hnd:rs.Nodup) (hcl:∀ row ∈ rows,∀ r ∈ ZaV row,r ∈ rs)
  (hS1:HeapOk S1) (hE:Ext ⟨S.base,ZcZ S rs,rows.map (Zau (ZaF rs)),subβ S.β rs,S.w⟩ S1)
  (hns:ns.Nodup) (hge:∀ i ∈ ns,rs.length<=i) (ho:ZaQ S1.L (List.range rs.length)=some old) (hn:ZaQ S1.L ns=some new)
  (href:∀ row ∈ old++new,∀ r ∈ ZaV row,r<rs.length\/r ∈ ns) :
  HeapOk ⟨S.base,S.acc,ZbA S.L rs ns old new,Zca S.β S1.β rs ns,S1.w⟩/\Ext S ⟨S.base,S.acc,ZbA S.L rs ns old new,Zca S.β S1.β rs ns,S1.w⟩ /\
  ∀ a v,Rel S1 a v->(∀ r ∈ rowsA a,r<rs.length\/r ∈ ns)->Rel ⟨S.base,S.acc,ZbA S.L rs ns old new,Zca S.β S1.β rs ns,S1.w⟩ (renA (Zbb S.L.length rs ns) a) v:=by
 obtain ⟨hSc,hic,_⟩:=sub_ok hS hrows hnd hcl
 obtain ⟨g1,g2⟩:=ZaK hrows
 obtain ⟨o1,o2⟩:=ZaK ho
 obtain ⟨n1,n2⟩:=ZaK hn
 have hlen:∀ r ∈ rs,r<S.L.length:=fun r hr=>by
  obtain ⟨j,hj⟩:=List.getElem?_of_mem hr
  obtain ⟨row,k1,_⟩:=g2 j r hj
  exact Zaq k1
 have hbase:S1.base=S.base:=hE.base
 have hacc:S1.acc=ZcZ S rs:=hE.acc
 have hsize:S.w.heap.size<=S1.w.heap.size:=hE.below.size
 have hsub:∀ (j:Nat) info,(subβ S.β rs)[j]? = some info -> ∃ r,rs[j]? = some r/\S.β[r]? = some info:=by
  intro j info h
  unfold subβ at h
  rw [List.getElem?_map] at h
  obtain ⟨r,h1,rfl⟩:=Option.map_eq_some_iff.1 h
  have hlt:r<S.β.length:=by rw [<- hS.len];exact hlen r (List.mem_of_getElem? h1)
  exact ⟨r,h1,by simp [hlt]⟩
 have hno:∀ (q:Nat) info,S.β[q]? = some info->q ∉ rs -> ∀ (j:Nat) info',(subβ S.β rs)[j]? = some info'->info'.blk ≠ info.blk:=by
  intro q info h1 h2 j info' h3 he
  obtain ⟨r,k1,k2⟩:=hsub j info' h3
  have:=hS.inj r q info' info k2 h1 he
  subst this
  exact h2 (List.mem_of_getElem? k1)
 have hstay:∀ (q:Nat) info,S.β[q]? = some info->q ∉ rs->S1.w.heap[info.blk]? = S.w.heap[info.blk]?:=by
  intro q info h1 h2
  obtain ⟨b1,b2⟩:=hS.blk q info h1
  exact hE.other info.blk b1 b2 fun j info' h3=>hno q info h1 h2 j info' h3
 have hfresh:∀ (i:Nat) info',S1.β[i]? = some info'->(∃ (r:Nat) (info:BI),r ∈ rs/\S.β[r]? = some info/\info.blk=info'.blk)\/S.w.heap.size<=info'.blk:=by
  intro i info' h
  rcases hE.fresh i info' h with ⟨j,info,h1,h2⟩ | h1
  ·obtain ⟨r,k1,k2⟩:=hsub j info h1
   exact .inl ⟨r,info,List.mem_of_getElem? k1,k2,h2⟩
  ·exact .inr h1
 have hqβ:∀ (q:Nat) info,(Zca S.β S1.β rs ns)[q]? = some info->q<(ZbA S.L rs ns old new).length:=by
  intro q info h
  have:=Zaq h
  unfold Zca at this
  unfold ZbA
  rw [List.length_append,ZaN] at this ⊢
  simp only [subβ,List.length_map] at this ⊢
  rw [n1,hS.len];exact this
 have hcases:∀ (q:Nat),q<(ZbA S.L rs ns old new).length->_:=fun q hq=>back_cases hS hS1 hnd hns hge ho hn hlen hq
 have himm:∀ b off,Imm S b off->b<S.w.heap.size->Imm ⟨S.base,S.acc,ZbA S.L rs ns old new,Zca S.β S1.β rs ns,S1.w⟩ b off/\S1.w.cell? ⟨b,off,none⟩=S.w.cell? ⟨b,off,none⟩:=by
  intro b off hi hb
  obtain ⟨i1,i2⟩:=hE.imm b off (hic b off hi) hb
  refine ⟨⟨hi.1,fun q info hq he => ?_⟩,i2⟩
  rcases hcases q (hqβ q info hq) with ⟨c1,c2,c3,c4⟩ | ⟨i,row,info',c1,c2,c3,c4,c5,c6⟩
  ·rw [c4] at hq
   obtain ⟨row,r1,r2⟩:=hi.2 q info hq he
   exact ⟨row,c3.trans r1,r2⟩
  ·rw [c6] at hq
   simp only [Option.some.injEq] at hq;subst hq
   obtain ⟨row',r1,r2,r3,r4⟩:=i1.2 i info' c4 he
   rw [c3] at r1
   simp only [Option.some.injEq] at r1;subst r1
   obtain ⟨_,_,s3,_,s5⟩:=ZaW (Zbb S.L.length rs ns) row
   exact ⟨_,c5,by rw [s3];exact r2,r3,by rw [s5];exact r4⟩
 have hd:∀ a v,DRel S1 a v->DRel ⟨S.base,S.acc,ZbA S.L rs ns old new,Zca S.β S1.β rs ns,S1.w⟩ a v:=by
  intro a v h
  refine DRel.shift (S:=S1) (S':=⟨S.base,S.acc,ZbA S.L rs ns old new,Zca S.β S1.β rs ns,S1.w⟩) rfl (fun b off hi hb => ?_) h
  obtain ⟨h1,h2⟩:=hi
  rw [hacc] at h1
  refine ⟨?_,fun q info hq he => ?_⟩
  ·rcases h1 with h1 | ⟨r,info,_,h3,rfl⟩ | h1
   ·exact hS.anew b off h1
   ·exact hS.acq r info off h3
   ·exact h1.1
  ·rcases hcases q (hqβ q info hq) with ⟨c1,c2,c3,c4⟩ | ⟨i,row,info',c1,c2,c3,c4,c5,c6⟩
   ·rw [c4] at hq
    rcases h1 with h1 | ⟨r,info',h3,h4,h5⟩ | h1
    ·have:=(hS.blk q info hq).2;omega
    ·have:=hS.inj r q info' info h4 hq (h5.trans he.symm)
     subst this
     exact absurd h3 c2
    ·obtain ⟨row,r1,r2⟩:=h1.2 q info hq he
     exact ⟨row,c3.trans r1,r2⟩
   ·rw [c6] at hq
    simp only [Option.some.injEq] at hq;subst hq
    obtain ⟨row',r1,r2,r3,r4⟩:=h2 i info' c4 he
    rw [c3] at r1
    simp only [Option.some.injEq] at r1;subst r1
    obtain ⟨_,_,s3,_,s5⟩:=ZaW (Zbb S.L.length rs ns) row
    exact ⟨_,c5,by rw [s3];exact r2,r3,by rw [s5];exact r4⟩
 have hrow:∀ (r:Nat) row info,(r<rs.length\/r ∈ ns)->S1.L[r]? = some row->S1.β[r]? = some info ->
   ∃ row',(ZbA S.L rs ns old new)[Zbb S.L.length rs ns r]? = some row'/\(Zca S.β S1.β rs ns)[Zbb S.L.length rs ns r]? = some info/\row'.ver=row.ver/\row'.elems.length=row.elems.length:=by
  intro r row info hr h1 h2
  obtain ⟨k1,k2⟩:=back_in hS hlen hnd ho hn hr h1 h2
  obtain ⟨_,s2,_,_,s5⟩:=ZaW (Zbb S.L.length rs ns) row
  exact ⟨_,k1,k2,s2,s5⟩
 have hex:Ext S ⟨S.base,S.acc,ZbA S.L rs ns old new,Zca S.β S1.β rs ns,S1.w⟩:=by
  refine ⟨rfl,rfl,himm,fun r row info h1 h2 => ?_,hE.below,fun q info hq => ?_,fun b hb hlt hnb => ?_⟩
  ·by_cases hm:r ∈ rs
   ·have hp:=Zcn hm
    obtain ⟨p1,p2⟩:=List.getElem?_eq_some_iff.1 hp
    obtain ⟨row0,k1,k2⟩:=g2 _ r hp
    rw [h1] at k1
    simp only [Option.some.injEq] at k1;subst k1
    obtain ⟨_,s2,_,_,s5⟩:=ZaW (ZaF rs) row
    obtain ⟨row1,info1,e1,e2,e3,e4⟩:=hE.rows (ZaF rs r) (Zau (ZaF rs) row) info (by show (rows.map _)[ZaF rs r]? = _;rw [List.getElem?_map,k2];rfl) (sub_at hp h2)
    obtain ⟨b1,b2⟩:=back_in hS hlen hnd ho hn (.inl p1) e1 e2
    rw [Zg8 p1,p2] at b1 b2
    obtain ⟨_,t2,_,_,t5⟩:=ZaW (Zbb S.L.length rs ns) row1
    exact ⟨_,info1,b1,b2,by rw [t2,<- s2];exact e3,fun e=>by rw [t5,<- s5];exact e4 (by rw [s2,<- t2];exact e)⟩
   ·have hq:r<(ZbA S.L rs ns old new).length:=by
     unfold ZbA;rw [List.length_append,ZaN];have:=Zaq h1;omega
    refine ⟨row,info,?_,?_,Nat.le_refl _,fun _=>⟨rfl,rfl⟩⟩
    ·show (ZbA S.L rs ns old new)[r]? = _
     unfold ZbA
     rw [List.getElem?_append_left (by rw [ZaN];exact Zaq h1),Zb6 _ _ _ _ hm];exact h1
    ·show (Zca S.β S1.β rs ns)[r]? = _
     unfold Zca
     rw [List.getElem?_append_left (by rw [ZaN];exact Zaq h2),Zb6 _ _ _ _ hm];exact h2
  ·rcases hcases q (hqβ q info hq) with ⟨c1,c2,c3,c4⟩ | ⟨i,row,info',c1,c2,c3,c4,c5,c6⟩
   ·have hq':(Zca S.β S1.β rs ns)[q]? = some info:=hq
    rw [c4] at hq'
    exact .inl ⟨q,info,hq',rfl⟩
   ·have hq':(Zca S.β S1.β rs ns)[q]? = some info:=hq
    rw [c6] at hq'
    simp only [Option.some.injEq] at hq';subst hq'
    rcases hfresh i info' c4 with ⟨r,inf,_,h3,h4⟩ | h
    ·exact .inl ⟨r,inf,h3,h4⟩
    ·exact .inr h
  ·refine hE.other b hb hlt fun j info h => ?_
   obtain ⟨r,_,h2⟩:=hsub j info h
   exact hnb r info h2
 refine ⟨?_,hex,fun a v h hr=>ren_rel hrow hd h hr⟩
 have hboth:∀ (q:Nat) row' info,(ZbA S.L rs ns old new)[q]? = some row'->(Zca S.β S1.β rs ns)[q]? = some info ->
   (q<S.L.length/\q ∉ rs/\S.L[q]? = some row'/\S.β[q]? = some info) \/
   ∃ i row,(i<rs.length\/i ∈ ns)/\q=Zbb S.L.length rs ns i/\S1.L[i]? = some row/\S1.β[i]? = some info/\row'=Zau (Zbb S.L.length rs ns) row:=by
  intro q row' info h1 h2
  rcases hcases q (Zaq h1) with ⟨c1,c2,c3,c4⟩ | ⟨i,row,info',c1,c2,c3,c4,c5,c6⟩
  ·exact .inl ⟨c1,c2,c3.symm.trans h1,c4.symm.trans h2⟩
  ·rw [c5] at h1;rw [c6] at h2
   simp only [Option.some.injEq] at h1 h2;subst h1;subst h2
   exact .inr ⟨i,row,c1,c2,c3,c4,rfl⟩
 have hβc:∀ (q:Nat) info,(Zca S.β S1.β rs ns)[q]? = some info->(q ∉ rs/\S.β[q]? = some info) \/ ∃ i,(i<rs.length\/i ∈ ns)/\q=Zbb S.L.length rs ns i/\S1.β[i]? = some info:=by
  intro q info h
  rcases hcases q (hqβ q info h) with ⟨c1,c2,c3,c4⟩ | ⟨i,row,info',c1,c2,c3,c4,c5,c6⟩
  ·exact .inl ⟨c2,c4.symm.trans h⟩
  ·rw [c6] at h
   simp only [Option.some.injEq] at h;subst h
   exact .inr ⟨i,c1,c2,c4⟩
 have hrefs:∀ i row,(i<rs.length\/i ∈ ns)->S1.L[i]? = some row -> ∀ r ∈ ZaV row,r<rs.length\/r ∈ ns:=by
  intro i row hi h1
  refine href row ?_
  rcases hi with hi | hi
  ·obtain ⟨row0,k1,k2⟩:=o2 i i (by simp [hi])
   rw [h1] at k1
   simp only [Option.some.injEq] at k1;subst k1
   exact List.mem_append_left _ (List.mem_of_getElem? k2)
  ·obtain ⟨row0,k1,k2⟩:=n2 _ i (Zcn hi)
   rw [h1] at k1
   simp only [Option.some.injEq] at k1;subst k1
   exact List.mem_append_right _ (List.mem_of_getElem? k2)
 have hmixed:∀ (q i:Nat) info info',q ∉ rs->S.β[q]? = some info->S1.β[i]? = some info'->info.blk ≠ info'.blk:=by
  intro q i info info' hq h1 h2 he
  rcases hfresh i info' h2 with ⟨r,inf,k1,k2,k3⟩ | k
  ·have:=hS.inj r q inf info k2 h1 (k3.trans he.symm)
   subst this
   exact hq k1
  ·have:=(hS.blk q info h1).2;omega
 refine ⟨Nat.le_trans hS.base hsize,?_,fun q info h => ?_,fun q q' info info' h h' he => ?_,fun q row' info h1 h2 => ?_,fun q row' h1 => ?_,fun q row' info i x k c cv h1 h2 hx hk hcv => ?_,fun q row' info i x k c cv h1 h2 hc hx hk hcv => ?_,fun q info off h => ?_,fun b off h=>hS.anew b off (Nat.le_trans hsize h)⟩
 ·show (ZbA S.L rs ns old new).length=(Zca S.β S1.β rs ns).length
  unfold ZbA Zca subβ
  rw [List.length_append,List.length_append,ZaN,ZaN,List.length_map,List.length_map,n1,hS.len]
 ·rcases hβc q info h with ⟨_,h1⟩ | ⟨i,_,_,h1⟩
  ·exact ⟨(hS.blk q info h1).1,Nat.lt_of_lt_of_le (hS.blk q info h1).2 hsize⟩
  ·have:=hS1.blk i info h1
   rw [hbase] at this;exact this
 ·rcases hβc q info h with ⟨a1,a2⟩ | ⟨i,a1,a2,a3⟩
  ·rcases hβc q' info' h' with ⟨b1,b2⟩ | ⟨i',b1,b2,b3⟩
   ·exact hS.inj q q' info info' a2 b2 he
   ·exact absurd he (hmixed q i' info info' a1 a2 b3)
  ·rcases hβc q' info' h' with ⟨b1,b2⟩ | ⟨i',b1,b2,b3⟩
   ·exact absurd he.symm (hmixed q' i info' info b1 b2 a3)
   ·have:=hS1.inj i i' info info' a3 b3 he
    subst this
    rw [a2,b2]
 ·rcases hboth q row' info h1 h2 with ⟨_,a2,a3,a4⟩ | ⟨i,row,a1,a2,a3,a4,rfl⟩
  ·obtain ⟨b1,b2,cs,T,b3,b4⟩:=hS.cells q row' info a3 a4
   exact ⟨b1,b2,cs,T,(hstay q info a4 a2).trans b3,b4⟩
  ·obtain ⟨s1,_,_,_,s5⟩:=ZaW (Zbb S.L.length rs ns) row
   rw [s1,s5]
   exact hS1.cells i row info a3 a4
 ·rcases hcases q (Zaq h1) with ⟨c1,c2,c3,c4⟩ | ⟨i,row,info',c1,c2,c3,c4,c5,c6⟩
  ·exact hS.elems q row' (c3.symm.trans h1)
  ·have h1':(ZbA S.L rs ns old new)[q]? = some row':=h1
   rw [c5] at h1'
   simp only [Option.some.injEq] at h1';subst h1'
   have:=hS1.elems i row c3
   unfold Zau
   cases row.clean with
   | true=>exact this
   | false=>exact ren_ok this
 ·rcases hboth q row' info h1 h2 with ⟨_,a2,a3,a4⟩ | ⟨j,row,a1,a2,a3,a4,rfl⟩
  ·exact (hS.rel q row' info i x k c cv a3 a4 hx hk (by rw [<- ZaO (hstay q info a4 a2)];exact hcv)).mono hex
  ·exact (ZfS (S:=S1) (S':=⟨S.base,S.acc,ZbA S.L rs ns old new,Zca S.β S1.β rs ns,S1.w⟩) (cellv:=fun i k=>S1.w.cell? ⟨info.blk,info.off+i*info.es+k,none⟩) hrow hd (hrefs j row a1 a3)
    (fun i x k c cv hx hk hcv=>hS1.rel j row info i x k c cv a3 a4 hx hk hcv) (fun hc i x k c cv hx hk hcv=>hS1.clean j row info i x k c cv a3 a4 hc hx hk hcv)).1 i x k c cv hx hk hcv
 ·rcases hboth q row' info h1 h2 with ⟨_,a2,a3,a4⟩ | ⟨j,row,a1,a2,a3,a4,rfl⟩
  ·exact (hS.clean q row' info i x k c cv a3 a4 hc hx hk (by rw [<- ZaO (hstay q info a4 a2)];exact hcv)).mono hex
  ·exact (ZfS (S:=S1) (S':=⟨S.base,S.acc,ZbA S.L rs ns old new,Zca S.β S1.β rs ns,S1.w⟩) (cellv:=fun i k=>S1.w.cell? ⟨info.blk,info.off+i*info.es+k,none⟩) hrow hd (hrefs j row a1 a3)
    (fun i x k c cv hx hk hcv=>hS1.rel j row info i x k c cv a3 a4 hx hk hcv) (fun hc i x k c cv hx hk hcv=>hS1.clean j row info i x k c cv a3 a4 hc hx hk hcv)).2 hc i x k c cv hx hk hcv
 ·rcases hβc q info h with ⟨_,h1⟩ | ⟨i,_,_,h1⟩
  ·exact hS.acq q info off h1
  ·have:=hS1.acq i info off h1
   rw [hacc] at this
   rcases this with h2 | ⟨r,inf,_,h3,h4⟩ | h2
   ·exact hS.anew _ off h2
   ·rw [<- h4];exact hS.acq r inf off h3
   ·exact h2.1
end
end Go.Av

namespace Go.Av
open Go.RowKit
mutual
theorem renA_ext {f g:Nat->Nat}:∀ (a:AV),(∀ r ∈ rowsA a,f r=g r)->renA f a=renA g a
 | .any,_=>rfl
 | .bool _,_=>rfl
 | .int _ _,_=>rfl
 | .str _,_=>rfl
 | .nilp,_=>rfl
 | .nilf,_=>rfl
 | .vnil,_=>rfl
 | .eptr ..,_=>rfl
 | .vec ..,_=>rfl
 | .row r v,h=>by simp only [renA];rw [h r (by simp [rowsA])]
 | .ref r v lo n,h=>by simp only [renA];rw [h r (by simp [rowsA])]
 | .ptr r v i j,h=>by simp only [renA];rw [h r (by simp [rowsA])]
 | .agg cs,h=>by simp only [renA];rw [renL_ext cs (by simpa [rowsA] using h)]
 | .tup cs,h=>by simp only [renA];rw [renL_ext cs (by simpa [rowsA] using h)]
 | .func fn a b,h=>by
  simp only [renA]
  rw [renL_ext a (fun r hr=>h r (by simp [rowsA,hr])),renL_ext b (fun r hr=>h r (by simp [rowsA,hr]))]
theorem renL_ext {f g:Nat->Nat}:∀ (l:List AV),(∀ r ∈ rowsL l,f r=g r)->renL f l=renL g l
 | [],_=>rfl
 | c::l,h=>by
  simp only [renL]
  rw [renA_ext c (fun r hr=>h r (by simp [rowsL,hr])),renL_ext l (fun r hr=>h r (by simp [rowsL,hr]))]
end
mutual
theorem renA_id:∀ (a:AV),renA (fun r=>r) a=a
 | .any=>rfl
 | .bool _=>rfl
 | .int _ _=>rfl
 | .str _=>rfl
 | .nilp=>rfl
 | .nilf=>rfl
 | .vnil=>rfl
 | .eptr .. => rfl
 | .vec .. => rfl
 | .row r v=>rfl
 | .ref r v lo n=>rfl
 | .ptr r v i j=>rfl
 | .agg cs=>by simp only [renA];rw [renL_id cs]
 | .tup cs=>by simp only [renA];rw [renL_id cs]
 | .func fn a b=>by simp only [renA];rw [renL_id a,renL_id b]
theorem renL_id:∀ (l:List AV),renL (fun r=>r) l=l
 | []=>rfl
 | c::l=>by simp only [renL];rw [renA_id c,renL_id l]
end
mutual
theorem renA_renA (f g:Nat->Nat):∀ (a:AV),renA g (renA f a)=renA (fun r=>g (f r)) a
 | .any=>rfl
 | .bool _=>rfl
 | .int _ _=>rfl
 | .str _=>rfl
 | .nilp=>rfl
 | .nilf=>rfl
 | .vnil=>rfl
 | .eptr .. => rfl
 | .vec .. => rfl
 | .row r v=>rfl
 | .ref r v lo n=>rfl
 | .ptr r v i j=>rfl
 | .agg cs=>by simp only [renA];rw [renL_renL f g cs]
 | .tup cs=>by simp only [renA];rw [renL_renL f g cs]
 | .func fn a b=>by simp only [renA];rw [renL_renL f g a,renL_renL f g b]
theorem renL_renL (f g:Nat->Nat):∀ (l:List AV),renL g (renL f l)=renL (fun r=>g (f r)) l
 | []=>rfl
 | c::l=>by simp only [renL];rw [renA_renA f g c,renL_renL f g l]
end
mutual
theorem rowsA_ren (f:Nat->Nat):∀ (a:AV),rowsA (renA f a)=(rowsA a).map f
 | .any=>rfl
 | .bool _=>rfl
 | .int _ _=>rfl
 | .str _=>rfl
 | .nilp=>rfl
 | .nilf=>rfl
 | .vnil=>rfl
 | .eptr .. => rfl
 | .vec .. => rfl
 | .row r v=>rfl
 | .ref r v lo n=>rfl
 | .ptr r v i j=>rfl
 | .agg cs=>by simp only [renA,rowsA];exact rowsL_ren f cs
 | .tup cs=>by simp only [renA,rowsA];exact rowsL_ren f cs
 | .func fn a b=>by simp only [renA,rowsA,List.map_append];rw [rowsL_ren f a,rowsL_ren f b]
theorem rowsL_ren (f:Nat->Nat):∀ (l:List AV),rowsL (renL f l)=(rowsL l).map f
 | []=>rfl
 | c::l=>by simp only [renL,rowsL,List.map_append];rw [rowsA_ren f c,rowsL_ren f l]
end
theorem refs_ren (f:Nat->Nat) (row:Row):ZaV (Zau f row)=(ZaV row).map f:=by
 unfold ZaV Zau
 cases hc:row.clean with
 | true=>simp [hc]
 | false=>simp [rowsL_ren]
theorem renRow_back {f g:Nat->Nat} {row:Row} (h:∀ r ∈ ZaV row,g (f r)=r):Zau g (Zau f row)=row:=by
 unfold Zau
 unfold ZaV at h
 cases hc:row.clean with
 | true=>simp [hc]
 | false =>
  rw [hc] at h
  simp only [cond_false] at h ⊢
  rw [renL_renL,renL_ext row.elems (g:=fun r=>r) h,renL_id,<- hc]
theorem ZgQ (l:List Row):ZaQ l (List.range l.length)=some l:=by
 have:∀ (n k:Nat),n+k=l.length->ZaQ l (List.range' k n)=some (l.drop k):=by
  intro n
  induction n with
  | zero=>intro k hk;simp [ZaQ];omega
  | succ n ih =>
   intro k hk
   have hlt:k<l.length:=by omega
   rw [List.range'_succ,ZaQ,List.getElem?_eq_getElem hlt,ih (k+1) (by omega),List.drop_eq_getElem_cons hlt]
 have h:=this l.length 0 (by omega)
 rw [<- List.range_eq_range'] at h
 simpa using h
theorem put_same {α:Type} {l:List α}:∀ (rs:List Nat) (xs:List α),(∀ (j:Nat) r x,rs[j]? = some r->xs[j]? = some x->l[r]? = some x)->Zep l rs xs=l
 | [],xs,_=>by cases xs <;> rfl
 | r::rs,[],_=>rfl
 | r::rs,x::xs,h=>by
  have h0:=h 0 r x rfl rfl
  have hs:l.set r x=l:=ZfR h0
  rw [Zep,hs]
  exact put_same rs xs fun j q y hj hy=>h (j+1) q y (by simpa using hj) (by simpa using hy)
theorem own_in {L Lc:Heap} {args args':List AV} {rs:List Nat} (h:ownIn L args=some (rs,args',Lc)) :
  ∃ rows,ZaQ L rs=some rows/\rs.Nodup/\(∀ r ∈ rowsL args,r ∈ rs)/\(∀ row ∈ rows,∀ r ∈ ZaV row,r ∈ rs)/\args'=renL (ZaF rs) args/\Lc=rows.map (Zau (ZaF rs)):=by
 unfold ownIn at h
 simp only at h
 split at h
 ·rename_i rows hr
  split at h
  ·rename_i hc
   simp only [Option.some.injEq,Prod.mk.injEq] at h
   obtain ⟨rfl,rfl,rfl⟩:=h
   simp only [Bool.and_eq_true,List.all_eq_true,List.contains_iff_mem] at hc
   exact ⟨rows,hr,(Zdg _).1 hc.1,hc.2.1,hc.2.2,rfl,rfl⟩
  ·simp at h
 ·simp at h
end Go.Av

namespace Go.Av
open Go.RowKit
inductive ChainOk (env:Env):Zbs->Prop
 | nil:ChainOk env []
 | cons (d:Nat) (w:Bool) (b:Bool):(env.get d).2 = .bool b->ChainOk env (env.get d).1->ChainOk env ((d,w)::(env.get d).1)
def noD (d:Nat) (c:Zbs):Bool:=!(c.any fun x=>x.1==d)
structure TRel (S:St) (env:Env) (tm:Array Value):Prop where
 chain:∀ t,ChainOk env (env.get t).1
 yes:∀ t,Zax env (env.get t).1=true->Rel S (env.get t).2 (tm.getD t undef)
 no:∀ t,Zax env (env.get t).1=false->tm.getD t undef=undef
theorem TRel.mono {S S':St} (he:Ext S S') {env:Env} {tm:Array Value} (h:TRel S env tm):TRel S' env tm:=
 ⟨h.chain,fun t ht=>(h.yes t ht).mono he,h.no⟩
theorem chain_iff {S:St} {env:Env} {tm:Array Value} (h:TRel S env tm) {c:Zbs} (hc:ChainOk env c) :
  Zax env c=true ↔ ∀ x ∈ c,tm.getD x.1 undef = .bool x.2:=by
 induction hc with
 | nil=>simp [Zax]
 | cons d w b hb _ ih =>
  simp only [Zax,hb,Bool.and_eq_true,beq_iff_eq,List.forall_mem_cons]
  rw [<- ih]
  constructor
  ·rintro ⟨e,hch⟩
   have:=h.yes d hch
   rw [hb] at this
   exact ⟨by rw [Zcd this,e],hch⟩
  ·rintro ⟨e,hch⟩
   have:=h.yes d hch
   rw [hb] at this
   have:=Zcd this
   rw [e] at this
   simp only [Value.bool.injEq] at this
   exact ⟨this.symm,hch⟩
theorem ev_rel {S:St} {env:Env} {a:Act} (h:TRel S env a.tmps) {c:Zbs} (hc:∀ x ∈ c,a.tmps.getD x.1 undef = .bool x.2) (x:Operand):Rel S (ev env c x) (a.eval x):=by
 cases x with
 | tmp t =>
  simp only [ev,Act.eval]
  cases hs:Zbs.sub (env.get t).1 c with
  | false=>exact .any _
  | true =>
   refine h.yes t ((chain_iff h (h.chain t)).2 fun x hx => ?_)
   have:=(List.all_eq_true.1 hs) x hx
   obtain ⟨y,hy,he⟩:=List.any_eq_true.1 this
   simp only [Bool.and_eq_true,beq_iff_eq] at he
   rw [he.1,he.2];exact hc y hy
 | const v=>exact Zgt S v
 | global g=>exact .any _
 | func f=>exact .data _ _ (.func _ [] [] [] [] rfl rfl (by simp) (by simp))
theorem get_any {env:Env} {d:Nat} (h:(env.any fun e=>e.2.1.any fun x=>x.1==d)=false) (t:Nat):noD d (env.get t).1=true:=by
 induction env with
 | nil=>rfl
 | cons e env ih =>
  obtain ⟨k,c,v⟩:=e
  simp only [List.any_cons,Bool.or_eq_false_iff] at h
  simp only [Env.get]
  cases hk:k==t with
  | true=>simpa [noD] using h.1
  | false=>exact ih h.2
theorem Zdt {env:Env} {d:Nat} {c':Zbs} {v:AV} {c:Zbs} (h:noD d c=true):Zax ((d,c',v)::env) c=Zax env c:=by
 induction c with
 | nil=>rfl
 | cons x c ih =>
  simp only [noD,List.any_cons,Bool.not_or,Bool.and_eq_true,Bool.not_eq_true',beq_eq_false_iff_ne] at h
  have hk:(d==x.1)=false:=by simpa using fun e=>h.1 e.symm
  simp only [Zax,Env.get,hk,cond_false]
  rw [ih (by simpa [noD] using h.2)]
theorem ChainOk.cons_env {env:Env} {d:Nat} {c':Zbs} {v:AV} {c:Zbs} (hc:ChainOk env c):noD d c=true->ChainOk ((d,c',v)::env) c:=by
 induction hc with
 | nil=>exact fun _ => .nil
 | cons t w b hb _ ih =>
  intro h
  simp only [noD,List.any_cons,Bool.not_or,Bool.and_eq_true,Bool.not_eq_true',beq_eq_false_iff_ne] at h
  have hk:(d==t)=false:=by simpa using fun e=>h.1 e.symm
  have e:Env.get ((d,c',v)::env) t=env.get t:=by simp [Env.get,hk]
  have:=ChainOk.cons (env:=(d,c',v)::env) t w b (by rw [e];exact hb) (by rw [e];exact ih (by simpa [noD] using h.2))
  rwa [e] at this
theorem putE_spec {n:Nat} {d:Nat} {c:Zbs} {v:AV} {env env':Env} (h:putE n (some d) c v env=some env') :
  d<n/\env'=(d,c,v)::env/\noD d c=true /\ ∀ t,noD d (env.get t).1=true:=by
 unfold putE at h
 simp only at h
 split at h
 ·rename_i h1
  simp only [Option.some.injEq] at h
  obtain ⟨h2,h3⟩:=h1
  simp only [List.any_cons,Bool.or_eq_false_iff] at h3
  exact ⟨h2,h.symm,by simpa [noD] using h3.1,get_any h3.2⟩
 ·simp at h
theorem Zd6 (a:Act) (o:Option Tmp) (v:Value):(a.put o v).tmps.size=a.tmps.size:=by
 cases o <;> simp [Act.put]
theorem Zgv {S:St} {env env':Env} {a:Act} {n:Nat} {d:Option Tmp} {c:Zbs} {v:AV} {cv:Value} (h:TRel S env a.tmps) (hn:n<=a.tmps.size) (hc:ChainOk env c)
  (hp:putE n d c v env=some env') (hy:Zax env c=true->Rel S v cv) (hno:Zax env c=false->cv=undef):TRel S env' (a.put d cv).tmps:=by
 cases d with
 | none =>
  simp only [putE,Option.some.injEq] at hp
  subst hp;exact h
 | some d =>
  obtain ⟨h1,rfl,h3,h4⟩:=putE_spec hp
  have hgd:∀ t,(a.put (some d) cv).tmps.getD t undef=if d=t then cv else a.tmps.getD t undef:=by
   intro t
   simp only [Act.put]
   by_cases e:d=t
   ·subst e
    have:d<a.tmps.size:=Nat.lt_of_lt_of_le h1 hn
    simp [this]
   ·simp [e]
  have hget:∀ t,Env.get ((d,c,v)::env) t=if d=t then (c,v) else env.get t:=by
   intro t
   simp only [Env.get]
   by_cases e:d=t
   ·subst e;simp
   ·have:(d==t)=false:=by simpa using e
    simp [this,e]
  have hch:∀ t,noD d (Env.get ((d,c,v)::env) t).1=true:=by
   intro t;rw [hget];split
   ·exact h3
   ·exact h4 t
  refine ⟨fun t => ?_,fun t ht => ?_,fun t ht => ?_⟩
  ·have:=hch t
   rw [hget] at this ⊢
   split
   ·exact hc.cons_env h3
   ·exact (h.chain t).cons_env (h4 t)
  ·rw [Zdt (hch t)] at ht
   rw [hget] at ht ⊢
   rw [hgd]
   split
   ·rename_i e;rw [if_pos e] at ht;exact hy ht
   ·rename_i e;rw [if_neg e] at ht;exact h.yes t ht
  ·rw [Zdt (hch t)] at ht
   rw [hget] at ht
   rw [hgd]
   split
   ·rename_i e;rw [if_pos e] at ht;exact hno ht
   ·rename_i e;rw [if_neg e] at ht;exact h.no t ht
def OwnSnd (M:Mach) (f:FuncId) (args:List AV) (L:Heap) (v:AV) (L':Heap):Prop:=
 ∀ (S:St) (cargs:List Value),HeapOk S->S.L=L->RelL S args cargs ->
  (∀ w,(callFunc f ⟨cargs⟩).run (M.P ()) w = .ok (.enter f ⟨cargs⟩) w) /\
  Calls (M.P ()) f ⟨cargs⟩ S.w fun
   | .returned cv,w' => ∃ β',HeapOk ⟨S.base,S.acc,L',β',w'⟩/\Ext S ⟨S.base,S.acc,L',β',w'⟩/\Rel ⟨S.base,S.acc,L',β',w'⟩ v cv
   | _,_=>False
def Zhb (M:Mach) (f:FuncId) (args:List AV) (d:AV):Prop:=
 ∀ (base:Nat) (acc:Nat->Nat->Prop) (w:World) (cargs:List Value),base<=w.heap.size->(∀ b off,base<=b->acc b off)->RelL ⟨base,acc,[],[],w⟩ args cargs ->
  (∀ w,(callFunc f ⟨cargs⟩).run (M.P ()) w = .ok (.enter f ⟨cargs⟩) w) /\
  Calls (M.P ()) f ⟨cargs⟩ w fun
   | .returned cv,w'=>Below base w w'/\DRel ⟨base,acc,[],[],w'⟩ d cv
   | _,_=>False
def Zdv (M:Mach) (c:CF):Prop:=
 match c.own with
 | true=>OwnSnd M c.f c.args c.L c.v c.L'
 | false=>Zhb M c.f c.args c.v
theorem ZeA {a:Array Value} {d:Nat} {v:Value} (h:a[d]? = some v):a.getD d undef=v:=by
 simp [h]
theorem chainOf_no {S:St} {env:Env} {ops:Array Oper} {a:Act} {o:Oper} (hT:TRel S env a.tmps) (h:Zbn ops env o=some none):Region.wanted o (yielded ops a.tmps)=false:=by
 unfold Zbn at h
 unfold Region.wanted
 split at h
 ·simp at h
 ·rename_i j want hg
  simp only [hg]
  split at h
  ·rename_i hd
   simp [yielded,hd]
  ·rename_i d hd
   have hno:a.tmps.getD d undef=undef->(yielded ops a.tmps j==some want)=false:=by
    intro e
    unfold yielded
    rw [hd]
    simp only [Option.bind_some]
    cases hx:a.tmps[d]? with
    | none=>rfl
    | some v =>
     have:=ZeA hx
     rw [e] at this
     subst this
     rfl
   split at h
   ·simp at h
   ·rename_i ch hgt
    cases hcv:Zax env ch with
    | false =>
     have:=hT.no d (by rw [hgt];exact hcv)
     exact hno this
    | true =>
     have:=hT.yes d (by rw [hgt];exact hcv)
     rw [hgt] at this
     obtain ⟨vs,h1,h2,_⟩:=rel_tup this
     have:vs=[]:=List.length_eq_zero_iff.1 h2.symm
     subst this
     exact hno h1
   ·simp at h
theorem Zg2 {S:St} {env:Env} {ops:Array Oper} {a:Act} {o:Oper} {c:Zbs} (hT:TRel S env a.tmps) (h:Zbn ops env o=some (some c)) :
  ChainOk env c/\Region.wanted o (yielded ops a.tmps)=Zax env c:=by
 unfold Zbn at h
 unfold Region.wanted
 split at h
 ·rename_i hg
  simp only [Option.some.injEq] at h;subst h
  simp only [hg]
  exact ⟨.nil,rfl⟩
 ·rename_i j want hg
  simp only [hg]
  split at h
  ·simp at h
  ·rename_i d hd
   split at h
   ·rename_i ch b hgt
    simp only [Option.some.injEq] at h;subst h
    have hc:ChainOk env ((d,want)::ch):=by
     have:=ChainOk.cons (env:=env) d want b (by rw [hgt]) (hT.chain d)
     rwa [hgt] at this
    refine ⟨hc,?_⟩
    have hch:ChainOk env ch:=by have:=hT.chain d;rwa [hgt] at this
    unfold yielded
    rw [hd]
    simp only [Option.bind_some,Zax,hgt]
    cases hcv:Zax env ch with
    | false =>
     have:=hT.no d (by rw [hgt];exact hcv)
     cases hx:a.tmps[d]? with
     | none=>simp
     | some v =>
      have h2:=ZeA hx
      rw [this] at h2
      subst h2
      simp [undef]
    | true =>
     have:=hT.yes d (by rw [hgt];exact hcv)
     rw [hgt] at this
     have:=Zcd this
     cases hx:a.tmps[d]? with
     | none=>rw [Array.getD_eq_getD_getElem?,hx] at this;simp [undef] at this
     | some v =>
      have h2:=ZeA hx
      rw [this] at h2
      subst h2
      simp
   ·simp at h
   ·simp at h
theorem DRel.scalar {S S':St} {a:AV} {v:Value} (h:DRel S a v):a.scalar=true->DRel S' a v:=by
 have get:∀ {l:List AV},scalarL l=true -> ∀ (i:Nat) c,l[i]? = some c->c.scalar=true:=by
  intro l
  induction l with
  | nil=>intro _ i c hc;simp at hc
  | cons x l ih =>
   intro h i c hc
   simp only [scalarL,Bool.and_eq_true] at h
   cases i with
   | zero=>simp at hc;subst hc;exact h.1
   | succ i=>simp at hc;exact ih h.2 i c hc
 induction h with
 | bool b=>exact fun _ => .bool b
 | int k n=>exact fun _ => .int k n
 | str s=>exact fun _ => .str s
 | nilp=>exact fun _ => .nilp
 | nilf=>exact fun _ => .nilf
 | vnil=>exact fun _ => .vnil
 | agg cs vs hl _ ih=>exact fun h => .agg cs vs hl fun i c v hc hv=>ih i c v hc hv (get (by simpa [AV.scalar] using h) i c hc)
 | tup cs vs hl _ ih=>exact fun h => .tup cs vs hl fun i c v hc hv=>ih i c v hc hv (get (by simpa [AV.scalar] using h) i c hc)
 | func fn a b va vb ha hb _ _ ih1 ih2=>intro h;simp [AV.scalar] at h
 | eptr es xs i j b off ho hc _ ih=>intro h;simp [AV.scalar] at h
 | vecE f es a cap hf=>intro h;simp [AV.scalar] at h
 | vec f es xs b off cap ho hf hl hc _ ih=>intro h;simp [AV.scalar] at h
theorem pure_call {M:Mach} {S:St} (hS:HeapOk S) {args ds:List AV} {cargs:List Value} {d:AV} {g:FuncId} {L2:Heap} (hrel:RelL S args cargs) (hds:pureL S.L args=some ds)
  (hv:∀ b ∈ versL S.L args,b=true) (hL2:(d.scalar=true/\L2=S.L)\/L2=Zcq (rowsL args) S.L) (hsnd:Zhb M g ds d) :
  (∀ w,(callFunc g ⟨cargs⟩).run (M.P ()) w = .ok (.enter g ⟨cargs⟩) w) /\
  Calls (M.P ()) g ⟨cargs⟩ S.w fun
   | .returned cv,w'=>HeapOk ⟨S.base,S.acc,L2,S.β,w'⟩/\Ext S ⟨S.base,S.acc,L2,S.β,w'⟩/\Rel ⟨S.base,S.acc,L2,S.β,w'⟩ d cv
   | _,_=>False:=by
 obtain ⟨z1,z2⟩:HeapOk ⟨S.base,S.acc,L2,S.β,S.w⟩/\Ext S ⟨S.base,S.acc,L2,S.β,S.w⟩:=by
  rcases hL2 with ⟨_,rfl⟩ | rfl
  ·exact ⟨hS,Ext.refl S⟩
  ·exact Zfc _ hS
 let acc':Nat->Nat->Prop:=fun b off=>S.w.heap.size<=b\/d.scalar=true\/Imm ⟨S.base,S.acc,L2,S.β,S.w⟩ b off
 have hpre:RelL ⟨S.w.heap.size,acc',[],[],S.w⟩ ds cargs:=by
  have hi:∀ b off,Imm S b off->b<S.w.heap.size->Imm ⟨S.w.heap.size,acc',[],[],S.w⟩ b off:=
   fun b off h1 h2=>⟨.inr (.inr (z2.imm b off h1 h2).1),by simp⟩
  have hh:Zhk S ⟨S.w.heap.size,acc',[],[],S.w⟩ (rowsL args):=by
   intro r hr row info h1 h2 off h3 h4
   refine ⟨?_,by simp⟩
   rcases hL2 with ⟨h,_⟩ | rfl
   ·exact .inr (.inl h)
   ·exact .inr (.inr (ZfF hS _ r hr row info h1 h2 off h3 h4))
  obtain ⟨h1,h2⟩:=pure_relL (S':=⟨S.w.heap.size,acc',[],[],S.w⟩) hS rfl hi args hrel hds hv hh
  exact ⟨h1,fun i c v hc hv => .data _ _ (h2 i c v hc hv)⟩
 obtain ⟨m1,m2⟩:=hsnd _ acc' S.w cargs (Nat.le_refl _) (fun b off h => .inl h) hpre
 refine ⟨m1,Calls.mono m2 fun e w'' he => ?_⟩
 cases e with
 | returned cv =>
  obtain ⟨n1,n2⟩:=he
  obtain ⟨k1,k2⟩:=ZdW z1 (w':=w'') ⟨n1.os,n1.tape,n1.output,n1.size,fun k hk=>n1.block k (Nat.lt_of_lt_of_le hk hS.base)⟩ (fun b hb=>n1.block b hb)
  refine ⟨k1,z2.trans k2,.data _ _ ?_⟩
  rcases hL2 with ⟨h,_⟩ | _
  ·exact n2.scalar h
  ·cases hsc:d.scalar with
   | true=>exact n2.scalar hsc
   | false =>
    refine DRel.shift (S':=⟨S.base,S.acc,L2,S.β,w''⟩) (S:=⟨S.w.heap.size,acc',[],[],w''⟩) rfl (fun b off hi hb => ?_) n2
    rcases hi.1 with h1 | h2 | h2
    ·refine ⟨hS.anew b off h1,fun r info h2 h3 => ?_⟩
     have:=(hS.blk r info h2).2
     omega
    ·rw [hsc] at h2;simp at h2
    ·exact h2
 | panicked c=>exact he.elim
 | outgrown=>exact he.elim
theorem Zcy {S:St} {a:AV} {v:Value} (h:DRel S a v):freshA a=true->a.scalar=true:=by
 have all:∀ {l:List AV} {vs:List Value},l.length=vs.length->(∀ (i:Nat) c v,l[i]? = some c->vs[i]? = some v->freshA c=true->c.scalar=true)->freshL l=true->scalarL l=true:=by
  intro l
  induction l with
  | nil=>intro _ _ _ _;rfl
  | cons x l ih =>
   intro vs hl h hf
   cases vs with
   | nil=>simp at hl
   | cons u vs =>
    simp only [freshL,Bool.and_eq_true] at hf
    simp only [scalarL,Bool.and_eq_true]
    exact ⟨h 0 x u rfl rfl hf.1,ih (vs:=vs) (by simpa using hl) (fun i c v hc hv=>h (i+1) c v (by simpa using hc) (by simpa using hv)) hf.2⟩
 induction h with
 | agg cs vs hl _ ih=>intro hf;simpa [AV.scalar] using all hl ih (by simpa [freshA] using hf)
 | tup cs vs hl _ ih=>intro hf;simpa [AV.scalar] using all hl ih (by simpa [freshA] using hf)
 | bool b=>intro _;rfl
 | int k m=>intro _;rfl
 | str s=>intro _;rfl
 | nilp=>intro _;rfl
 | nilf=>intro _;rfl
 | vnil=>intro _;rfl
 | func=>intro hf;simp [freshA,AV.scalar] at hf
 | eptr=>intro hf;simp [freshA,AV.scalar] at hf
 | vecE=>intro hf;simp [freshA,AV.scalar] at hf
 | vec=>intro hf;simp [freshA,AV.scalar] at hf
theorem ZhH {S S':St} {a:AV} {v:Value} (h:Rel S a v) (hs:a.scalar=true):Rel S' a v:=by
 have get:∀ {l:List AV},scalarL l=true -> ∀ (i:Nat) c,l[i]? = some c->c.scalar=true:=by
  intro l
  induction l with
  | nil=>intro _ i c hc;simp at hc
  | cons x l ih =>
   intro h i c hc
   simp only [scalarL,Bool.and_eq_true] at h
   cases i with
   | zero=>simp at hc;subst hc;exact h.1
   | succ i=>simp at hc;exact ih h.2 i c hc
 induction h with
 | any v=>simp [AV.scalar] at hs
 | data a v h=>exact .data _ _ (h.scalar hs)
 | agg cs vs hl _ ih=>exact .agg cs vs hl fun i c v hc hv=>ih i c v hc hv (get (by simpa [AV.scalar] using hs) i c hc)
 | tup cs vs hl _ ih=>exact .tup cs vs hl fun i c v hc hv=>ih i c v hc hv (get (by simpa [AV.scalar] using hs) i c hc)
 | func fn a b va vb _ _ _ _ _ _=>simp [AV.scalar] at hs
 | ptr r ver i j row info v _ _ _ _ _=>simp [AV.scalar] at hs
 | row r ver row info v _ _ _ _ _=>simp [AV.scalar] at hs
 | ref r ver lo len row info v _ _ _ _ _=>simp [AV.scalar] at hs
theorem scalar_ren (f:Nat->Nat):∀ {a:AV} {S:St} {v:Value},Rel S a v->a.scalar=true->renA f a=a:=by
 intro a S v h hs
 have get:∀ {l:List AV},scalarL l=true -> ∀ (i:Nat) c,l[i]? = some c->c.scalar=true:=by
  intro l
  induction l with
  | nil=>intro _ i c hc;simp at hc
  | cons x l ih =>
   intro h i c hc
   simp only [scalarL,Bool.and_eq_true] at h
   cases i with
   | zero=>simp at hc;subst hc;exact h.1
   | succ i=>simp at hc;exact ih h.2 i c hc
 induction h with
 | any v=>simp [AV.scalar] at hs
 | data a v h=>exact dren h f
 | agg cs vs hl _ ih =>
  simp only [renA]
  rw [Zdc fun i c hc=>ih i c (vs[i]'(by rw [<- hl];exact (List.getElem?_eq_some_iff.1 hc).1)) hc (List.getElem?_eq_getElem _) (get (by simpa [AV.scalar] using hs) i c hc)]
 | tup cs vs hl _ ih =>
  simp only [renA]
  rw [Zdc fun i c hc=>ih i c (vs[i]'(by rw [<- hl];exact (List.getElem?_eq_some_iff.1 hc).1)) hc (List.getElem?_eq_getElem _) (get (by simpa [AV.scalar] using hs) i c hc)]
 | func fn a b va vb _ _ _ _ _ _=>simp [AV.scalar] at hs
 | ptr r ver i j row info v _ _ _ _ _=>simp [AV.scalar] at hs
 | row r ver row info v _ _ _ _ _=>simp [AV.scalar] at hs
 | ref r ver lo len row info v _ _ _ _ _=>simp [AV.scalar] at hs
theorem fresh_rel {S1 S':St} {j n:Nat} {row:Row} {info:BI} (h1:S1.L[j]? = some row) (h2:S1.β[j]? = some info) (h3:S'.L[n]? = some row) (h4:S'.β[n]? = some info) {a:AV} {v:Value} (h:Rel S1 a v) :
  freshA a=true->(∀ r ∈ rowsA a,r=j)->Rel S' (renA (fun _=>n) a) v:=by
 have get:∀ {l:List AV},freshL l=true -> ∀ (i:Nat) c,l[i]? = some c->freshA c=true:=by
  intro l
  induction l with
  | nil=>intro _ i c hc;simp at hc
  | cons x l ih =>
   intro h i c hc
   simp only [freshL,Bool.and_eq_true] at h
   cases i with
   | zero=>simp at hc;subst hc;exact h.1
   | succ i=>simp at hc;exact ih h.2 i c hc
 have mem:∀ {l:List AV} {i:Nat} {c:AV},(renL (fun _=>n) l)[i]? = some c -> ∃ c0,l[i]? = some c0/\c=renA (fun _=>n) c0:=by
  intro l i c h
  rw [ZbK,List.getElem?_map] at h
  obtain ⟨c0,h1,h2⟩:=Option.map_eq_some_iff.1 h
  exact ⟨c0,h1,h2.symm⟩
 have len:∀ l:List AV,(renL (fun _=>n) l).length=l.length:=fun l=>by rw [ZbK];simp
 have sc:∀ {a:AV} {v:Value},Rel S1 a v->a.scalar=true->Rel S' (renA (fun _=>n) a) v:=fun hr hs=>by rw [scalar_ren _ hr hs];exact ZhH hr hs
 induction h with
 | any v=>intro hf;simp [freshA,AV.scalar] at hf
 | data a v h =>
  intro hf hm
  cases h with
  | agg cs vs hl hh =>
   refine .agg _ vs ((len cs).trans hl) fun i c v hc hv => ?_
   obtain ⟨c0,k1,rfl⟩:=mem hc
   have hd:=hh i c0 v k1 hv
   rw [dren hd]
   have e:=Zcy hd (get (by simpa [freshA] using hf) i c0 k1)
   exact .data _ _ (hd.scalar e)
  | tup cs vs hl hh =>
   refine .tup _ vs ((len cs).trans hl) fun i c v hc hv => ?_
   obtain ⟨c0,k1,rfl⟩:=mem hc
   have hd:=hh i c0 v k1 hv
   rw [dren hd]
   have e:=Zcy hd (get (by simpa [freshA] using hf) i c0 k1)
   exact .data _ _ (hd.scalar e)
  | func=>simp [freshA,AV.scalar] at hf
  | eptr=>simp [freshA,AV.scalar] at hf
  | vecE=>simp [freshA,AV.scalar] at hf
  | vec=>simp [freshA,AV.scalar] at hf
  | bool b=>exact .data _ _ (.bool b)
  | int k m=>exact .data _ _ (.int k m)
  | str s=>exact .data _ _ (.str s)
  | nilp=>exact .data _ _ .nilp
  | nilf=>exact .data _ _ .nilf
  | vnil=>exact .data _ _ .vnil
 | agg cs vs hl _ ih =>
  intro hf hm
  refine .agg _ vs ((len cs).trans hl) fun i c v hc hv => ?_
  obtain ⟨c0,k1,rfl⟩:=mem hc
  exact ih i c0 v k1 hv (get (by simpa [freshA] using hf) i c0 k1) fun r hr=>hm r (by simp only [rowsA];exact ZbX k1 hr)
 | tup cs vs hl _ ih =>
  intro hf hm
  refine .tup _ vs ((len cs).trans hl) fun i c v hc hv => ?_
  obtain ⟨c0,k1,rfl⟩:=mem hc
  exact ih i c0 v k1 hv (get (by simpa [freshA] using hf) i c0 k1) fun r hr=>hm r (by simp only [rowsA];exact ZbX k1 hr)
 | func fn a b va vb _ _ _ _ _ _=>intro hf;simp [freshA,AV.scalar] at hf
 | ptr r ver i j row info v _ _ _ _ _=>intro hf;simp [freshA,AV.scalar] at hf
 | ref r ver lo len row info v _ _ _ _ _=>intro hf;simp [freshA,AV.scalar] at hf
 | row r ver row' info' v g0 g1 g2 g3 g4 =>
  intro hf hm
  have hj:=hm r (by simp [rowsA])
  subst hj
  rw [h1] at g1;rw [h2] at g2
  simp only [Option.some.injEq] at g1 g2
  subst g1;subst g2
  exact .row n ver row info v g0 h3 h4 g3 g4
theorem own_call {M:Mach} {S:St} (hS:HeapOk S) {args args':List AV} {cargs:List Value} {rs:List Nat} {Lc:Heap} {v v':AV} {o L':Option Heap} {g:FuncId} (hin:ownIn S.L args=some (rs,args',Lc)) (hrel:RelL S args cargs)
  (hout:ownOut S.L rs v o=some (v',L')) (hsnd:OwnSnd M g args' Lc v (o.getD Lc)) :
  (∀ w,(callFunc g ⟨cargs⟩).run (M.P ()) w = .ok (.enter g ⟨cargs⟩) w) /\
  Calls (M.P ()) g ⟨cargs⟩ S.w fun
   | .returned cv,w' => ∃ β',HeapOk ⟨S.base,S.acc,L'.getD S.L,β',w'⟩/\Ext S ⟨S.base,S.acc,L'.getD S.L,β',w'⟩/\Rel ⟨S.base,S.acc,L'.getD S.L,β',w'⟩ v' cv
   | _,_=>False:=by
 obtain ⟨rows,hrows,hnd,ha,hcl,rfl,rfl⟩:=own_in hin
 obtain ⟨hl,hg⟩:=ZaK hrows
 obtain ⟨hSc,_,hrelc⟩:=sub_ok hS hrows hnd hcl
 have hrel':RelL ⟨S.base,ZcZ S rs,rows.map (Zau (ZaF rs)),subβ S.β rs,S.w⟩ (renL (ZaF rs) args) cargs:=by
  refine ⟨by rw [ZbK];simpa using hrel.1,fun i c cv hc hv => ?_⟩
  rw [ZbK,List.getElem?_map] at hc
  obtain ⟨c0,h1,rfl⟩:=Option.map_eq_some_iff.1 hc
  exact hrelc c0 cv (hrel.2 i c0 cv h1 hv) fun r hr=>ha r (ZbX h1 hr)
 obtain ⟨m1,m2⟩:=hsnd _ cargs hSc rfl hrel'
 refine ⟨m1,Calls.mono m2 fun e w' he => ?_⟩
 cases e with
 | panicked c=>exact he.elim
 | outgrown=>exact he.elim
 | returned cv =>
  obtain ⟨β1,n1,n2,n3⟩:=he
  cases o with
  | some L1 =>
   simp only [Option.getD_some] at n1 n2 n3
   unfold ownOut at hout
   simp only at hout
   split at hout
   ·rename_i old new ho hn
    split at hout
    ·rename_i hc
     simp only [Option.some.injEq,Prod.mk.injEq] at hout
     obtain ⟨rfl,rfl⟩:=hout
     simp only [Bool.and_eq_true,List.all_eq_true,Bool.or_eq_true,List.contains_iff_mem] at hc
     obtain ⟨k1,k2,k3⟩:=back_ok (S1:=⟨S.base,ZcZ S rs,L1,β1,w'⟩) hS hrows hnd hcl n1 n2 ((Zdg _).1 hc.1) (fun i hi=>by simpa using (List.mem_filter.1 hi).2) ho hn
      (fun row hr r hrr=>by simpa [Nat.blt_eq] using hc.2.2 row hr r hrr)
     exact ⟨_,k1,k2,k3 v cv n3 fun r hr=>by simpa [Nat.blt_eq] using hc.2.1 r hr⟩
    ·simp at hout
   ·simp at hout
  | none =>
   simp only [Option.getD_none] at n1 n2 n3
   unfold ownOut at hout
   simp only at hout
   split at hout
   ·rename_i hc
    simp only [Option.some.injEq,Prod.mk.injEq] at hout
    obtain ⟨rfl,rfl⟩:=hout
    simp only [List.all_eq_true] at hc
    have hk:(rows.map (Zau (ZaF rs))).length=rs.length:=by simp [hl]
    have hall:=ZgQ (rows.map (Zau (ZaF rs)))
    rw [hk] at hall
    have href:∀ row ∈ rows.map (Zau (ZaF rs))++[],∀ r ∈ ZaV row,r<rs.length\/r ∈ ([]:List Nat):=by
     intro row hr r hrr
     rw [List.append_nil] at hr
     obtain ⟨row0,q1,rfl⟩:=List.mem_map.1 hr
     rw [refs_ren] at hrr
     obtain ⟨r0,q2,rfl⟩:=List.mem_map.1 hrr
     exact .inl (List.getElem?_eq_some_iff.1 (Zcn (hcl row0 q1 r0 q2))).1
    obtain ⟨k1,k2,k3⟩:=back_ok (S1:=⟨S.base,ZcZ S rs,rows.map (Zau (ZaF rs)),β1,w'⟩) (ns:=[]) (new:=[]) hS hrows hnd hcl n1 n2 List.nodup_nil (by simp) hall rfl href
    have hL:ZbA S.L rs [] (rows.map (Zau (ZaF rs))) []=S.L:=by
     unfold ZbA
     rw [List.map_nil,List.append_nil]
     refine put_same rs _ fun j r x hj hx => ?_
     obtain ⟨row,q1,q2⟩:=hg j r hj
     rw [List.map_map,List.getElem?_map,q2] at hx
     simp only [Option.map_some,Option.some.injEq,Function.comp] at hx
     rw [<- hx,renRow_back]
     ·exact q1
     ·intro r0 hr0
      have hp:=Zcn (hcl row (List.mem_of_getElem? q2) r0 hr0)
      obtain ⟨z1,z2⟩:=List.getElem?_eq_some_iff.1 hp
      rw [Zg8 z1,z2]
    have hv:renA (Zbb S.L.length rs []) v=renA (fun i=>rs.getD i 0) v:=renA_ext v fun r hr=>by
     have:=hc r hr
     simp [Zbb,this]
    have k3':=k3 v cv n3 fun r hr => .inl (by simpa [Nat.blt_eq] using hc r hr)
    rw [hL] at k1 k2 k3'
    rw [hv] at k3'
    exact ⟨_,k1,k2,k3'⟩
   ·simp at hout
theorem Zgr {xs:List AV} {i k:Nat} {x c:AV} (h:scalarL xs=true) (hx:xs[i]? = some x) (hc:x.cells[k]? = some c):c.scalar=true:=by
 have get:∀ {l:List AV},scalarL l=true -> ∀ (i:Nat) c,l[i]? = some c->c.scalar=true:=by
  intro l
  induction l with
  | nil=>intro _ i c hc;simp at hc
  | cons x l ih =>
   intro h i c hc
   simp only [scalarL,Bool.and_eq_true] at h
   cases i with
   | zero=>simp at hc;subst hc;exact h.1
   | succ i=>simp at hc;exact ih h.2 i c hc
 have h1:=get h i x hx
 cases x with
 | agg cs=>exact get (l:=cs) (by simpa [AV.scalar] using h1) k c hc
 | _ =>
  cases k with
  | zero=>simp only [AV.cells,List.getElem?_cons_zero,Option.some.injEq] at hc;subst hc;exact h1
  | succ k=>simp [AV.cells] at hc
theorem fresh_call {M:Mach} {S:St} (hS:HeapOk S) {args ds:List AV} {cargs:List Value} {v:AV} {L1:Heap} {j:Nat} {row:Row} {g:FuncId} (hrel:RelL S args cargs) (hds:pureL S.L args=some ds)
  (hv:∀ b ∈ versL S.L args,b=true) (hj:rowsA v=[j]) (hrow:L1[j]? = some row) (hf:freshA v=true) (hsc:scalarL row.elems=true) (hsnd:OwnSnd M g ds [] v L1) :
  (∀ w,(callFunc g ⟨cargs⟩).run (M.P ()) w = .ok (.enter g ⟨cargs⟩) w) /\
  Calls (M.P ()) g ⟨cargs⟩ S.w fun
   | .returned cv,w' => ∃ β',HeapOk ⟨S.base,S.acc,S.L++[row],β',w'⟩/\Ext S ⟨S.base,S.acc,S.L++[row],β',w'⟩/\Rel ⟨S.base,S.acc,S.L++[row],β',w'⟩ (renA (fun _=>S.L.length) v) cv
   | _,_=>False:=by
 let V:St:=⟨S.w.heap.size,fun _ _=>True,[],[],S.w⟩
 have hV:HeapOk V:=⟨Nat.le_refl _,rfl,by simp [V],by simp [V],by simp [V],by simp [V],by simp [V],by simp [V],by simp [V],fun _ _ _=>trivial⟩
 have hpre:RelL V ds cargs:=by
  have hi:∀ b off,Imm S b off->b<S.w.heap.size->Imm V b off:=fun b off _ _=>⟨trivial,by simp [V]⟩
  have hh:Zhk S V (rowsL args):=by
   intro r hr row info h1 h2 off h3 h4
   exact ⟨trivial,by simp [V]⟩
  obtain ⟨h1,h2⟩:=pure_relL (S':=V) hS rfl hi args hrel hds hv hh
  exact ⟨h1,fun i c v hc hv => .data _ _ (h2 i c v hc hv)⟩
 obtain ⟨m1,m2⟩:=hsnd V cargs hV rfl hpre
 refine ⟨m1,Calls.mono m2 fun e w' he => ?_⟩
 cases e with
 | returned cv =>
  obtain ⟨β1,n1,n2,n3⟩:=he
  have hlt:j<β1.length:=by rw [<- n1.len];exact (List.getElem?_eq_some_iff.1 hrow).1
  obtain ⟨info,hinfo⟩:∃ info,β1[j]? = some info:=⟨_,List.getElem?_eq_getElem hlt⟩
  obtain ⟨b1,b2⟩:=n1.blk j info hinfo
  simp only [V] at b1
  have hbel:Below S.w.heap.size S.w w':=n2.below
  have hold:∀ b,b<S.w.heap.size->w'.heap[b]? = S.w.heap[b]?:=hbel.block
  have cell:∀ b off,b<S.w.heap.size->w'.cell? ⟨b,off,none⟩=S.w.cell? ⟨b,off,none⟩:=fun b off hb=>by simp only [World.cell?,hold b hb]
  have gL:∀ {r:Nat} {row':Row},(S.L++[row])[r]? = some row'->(S.L[r]? = some row')\/(r=S.L.length/\row'=row):=by
   intro r row' h
   rw [List.getElem?_append] at h
   split at h
   ·exact .inl h
   ·rename_i hge
    have:r-S.L.length=0:=by
     rcases Nat.eq_zero_or_pos (r-S.L.length) with h0 | h0
     ·exact h0
     ·rw [List.getElem?_eq_none (by simp;omega)] at h;simp at h
    rw [this] at h
    simp only [List.getElem?_cons_zero,Option.some.injEq] at h
    exact .inr ⟨by omega,h.symm⟩
  have gβ:∀ {r:Nat} {info':BI},(S.β++[info])[r]? = some info'->(S.β[r]? = some info')\/(r=S.L.length/\info'=info):=by
   intro r info' h
   rw [List.getElem?_append] at h
   split at h
   ·exact .inl h
   ·rename_i hge
    have hl:=hS.len
    have:r-S.β.length=0:=by
     rcases Nat.eq_zero_or_pos (r-S.β.length) with h0 | h0
     ·exact h0
     ·rw [List.getElem?_eq_none (by simp;omega)] at h;simp at h
    rw [this] at h
    simp only [List.getElem?_cons_zero,Option.some.injEq] at h
    exact .inr ⟨by omega,h.symm⟩
  have lt:∀ {r:Nat} {row':Row},S.L[r]? = some row'->r<S.L.length:=fun h=>(List.getElem?_eq_some_iff.1 h).1
  have ltβ:∀ {r:Nat} {i:BI},S.β[r]? = some i->r<S.L.length:=fun h=>by rw [hS.len];exact (List.getElem?_eq_some_iff.1 h).1
  have hE:Ext S ⟨S.base,S.acc,S.L++[row],S.β++[info],w'⟩:=by
   refine ⟨rfl,rfl,fun b off hi hb=>⟨⟨hi.1,fun r info' hr he => ?_⟩,cell b off hb⟩,fun r row' info' h1 h2=>⟨row',info',?_,?_,Nat.le_refl _,fun _=>⟨rfl,rfl⟩⟩,⟨hbel.os,hbel.tape,hbel.output,hbel.size,fun k hk=>hbel.block k (Nat.lt_of_lt_of_le hk hS.base)⟩,fun r info' hr => ?_,fun b h1 h2 _=>hold b h2⟩
   ·rcases gβ hr with h | ⟨_,rfl⟩
    ·obtain ⟨row',k1,k2⟩:=hi.2 r info' h he
     exact ⟨row',by show (S.L++[row])[r]? = _;rw [List.getElem?_append_left (lt k1)];exact k1,k2⟩
    ·omega
   ·show (S.L++[row])[r]? = _;rw [List.getElem?_append_left (lt h1)];exact h1
   ·show (S.β++[info])[r]? = _;rw [List.getElem?_append_left (by rw [<- hS.len];exact lt h1)];exact h2
   ·rcases gβ hr with h | ⟨_,rfl⟩
    ·exact .inl ⟨r,info',h,rfl⟩
    ·exact .inr b1
  refine ⟨S.β++[info],⟨?_,by simp [hS.len],?_,?_,?_,?_,?_,?_,?_,fun b off hb=>hS.anew b off (Nat.le_trans hbel.size hb)⟩,hE,?_⟩
  ·exact Nat.le_trans hS.base hbel.size
  ·intro r info' hr
   rcases gβ hr with h | ⟨_,rfl⟩
   ·obtain ⟨k1,k2⟩:=hS.blk r info' h
    exact ⟨k1,Nat.lt_of_lt_of_le k2 hbel.size⟩
   ·exact ⟨Nat.le_trans hS.base b1,b2⟩
  ·intro r r' i1 i2 h1 h2 he
   rcases gβ h1 with g1 | ⟨e1,e2⟩ <;> rcases gβ h2 with g2 | ⟨e3,e4⟩
   ·exact hS.inj r r' i1 i2 g1 g2 he
   ·have:=(hS.blk r i1 g1).2;rw [e4] at he;omega
   ·have:=(hS.blk r' i2 g2).2;rw [e2] at he;omega
   ·rw [e1,e3]
  ·intro r row' info' h1 h2
   rcases gL h1 with h1 | ⟨rfl,rfl⟩
   ·rcases gβ h2 with h2 | ⟨e,_⟩
    ·obtain ⟨k1,k2,cs,T,k3,k4⟩:=hS.cells r row' info' h1 h2
     exact ⟨k1,k2,cs,T,by show w'.heap[_]? = _;rw [hold _ (hS.blk r info' h2).2];exact k3,k4⟩
    ·have:=lt h1;omega
   ·rcases gβ h2 with h2 | ⟨_,rfl⟩
    ·have:=ltβ h2;omega
    ·exact n1.cells j row' info' hrow hinfo
  ·intro r row' h1
   rcases gL h1 with h1 | ⟨_,rfl⟩
   ·exact hS.elems r row' h1
   ·exact n1.elems j row' hrow
  ·intro r row' info' i x k c cv' h1 h2 h3 h4 h5
   rcases gL h1 with h1 | ⟨rfl,rfl⟩
   ·rcases gβ h2 with h2 | ⟨e,_⟩
    ·exact (hS.rel r row' info' i x k c cv' h1 h2 h3 h4 (by rw [<- cell _ _ (hS.blk r info' h2).2];exact h5)).mono hE
    ·have:=lt h1;omega
   ·rcases gβ h2 with h2 | ⟨_,rfl⟩
    ·have:=ltβ h2;omega
    ·exact ZhH (n1.rel j row' info' i x k c cv' hrow hinfo h3 h4 h5) (Zgr hsc h3 h4)
  ·intro r row' info' i x k c cv' h1 h2 hcl h3 h4 h5
   rcases gL h1 with h1 | ⟨rfl,rfl⟩
   ·rcases gβ h2 with h2 | ⟨e,_⟩
    ·exact (hS.clean r row' info' i x k c cv' h1 h2 hcl h3 h4 (by rw [<- cell _ _ (hS.blk r info' h2).2];exact h5)).mono hE
    ·have:=lt h1;omega
   ·rcases gβ h2 with h2 | ⟨_,rfl⟩
    ·have:=ltβ h2;omega
    ·exact (n1.clean j row' info' i x k c cv' hrow hinfo hcl h3 h4 h5).scalar (Zgr hsc h3 h4)
  ·intro r info' off hr
   rcases gβ hr with h | ⟨_,rfl⟩
   ·exact hS.acq r info' off h
   ·exact hS.anew _ _ b1
  ·exact fresh_rel (S1:=⟨V.base,V.acc,L1,β1,w'⟩) (j:=j) (n:=S.L.length) hrow hinfo (by show (S.L++[row])[S.L.length]? = _;simp) (by show (S.β++[info])[S.L.length]? = _;rw [hS.len];simp) n3 hf (by rw [hj];simp)
 | panicked c=>exact he.elim
 | outgrown=>exact he.elim
theorem Zef {M:Mach} {S:St} {s s':RS} {ops:Array Oper} {o:Oper} {i n hot:Nat} {an:Option Ans} {call:Za6} {a:Act} {Q:Exit->Act->World->Prop} {K:Act->World->Prop}
  (hS:HeapOk S) (hL:S.L=s.L) (hT:TRel S s.env a.tmps) (hn:n<=a.tmps.size) (ho:ops[i]? = some o) (h:Zb1 M.P M.inl call n ops an hot o s=some s')
  (hA:∀ b ∈ s'.asm,b=true) (hQ:∀ q ∈ s'.eqs,q) (hC:∀ c ∈ s'.calls,c.cond=true->Zdv M c)
  (hK:∀ S' a',HeapOk S'->Ext S S'->S'.L=s'.L->TRel S' s'.env a'.tmps->a'.tmps.size=a.tmps.size->a'.defers=a.defers->K a' S'.w) :
  wpOp (M.P ()) ops Q i K a S.w:=by
 have hdef:∀ v,(a.put o.dst v).defers=a.defers:=fun v=>by cases hd:o.dst <;> simp [Act.put]
 unfold wpOp
 simp only [ho]
 unfold Zb1 at h
 split at h
 ·simp at h
 ·rename_i hc
  split at h
  ·rename_i env he
   simp only [Option.some.injEq] at h;subst h
   simp only [chainOf_no hT hc,Bool.false_eq_true,if_false]
   exact hK S _ hS (Ext.refl S) hL (Zgv hT hn .nil he (fun _ => .data _ _ (.tup [] [] rfl (by simp))) (fun h=>by simp [Zax] at h)) (Zd6 _ _ _) (hdef _)
  ·simp at h
 ·rename_i c hc
  obtain ⟨hco,hw⟩:=Zg2 hT hc
  rw [hw]
  split at h
  ·split at h
   ·simp at h
   ·rename_i hcv
    split at h
    ·rename_i env he
     simp only [Option.some.injEq] at h;subst h
     simp only [hcv,Bool.false_eq_true,if_false]
     exact hK S _ hS (Ext.refl S) hL (Zgv hT hn hco he (fun h=>by simp [hcv] at h) (fun _=>rfl)) (Zd6 _ _ _) (hdef _)
    ·simp at h
  ·rename_i r hr
   split at h
   ·simp at h
   ·rename_i env he
    split at h
    ·simp at h
    ·
     have hs:s'.env=env/\s'.L=mergeH (Zax s.env c) s.L r.L'/\(Zax s.env c=true->(∀ b ∈ r.asm,b ∈ s'.asm)/\(∀ q ∈ r.eqs,∃ q' ∈ s'.eqs,q'->q)/\(∀ x ∈ r.calls,∃ x' ∈ s'.calls,x'.cond=x.cond/\(Zdv M x'->Zdv M x))):=by
      split at h
      ·simp only [Option.some.injEq] at h;subst h
       refine ⟨rfl,?_,fun _=>⟨fun b hb=>by simp [hb],fun q hq=>⟨q,by simp [hq],id⟩,fun x hx=>⟨x,by simp [hx],rfl,id⟩⟩⟩
       cases r.L' <;> simp [mergeH,Zax]
      ·simp only [Option.some.injEq] at h;subst h
       refine ⟨rfl,rfl,fun hcv=>⟨fun b hb => ?_,fun q hq => ?_,fun x hx => ?_⟩⟩
       ·simp only [hcv,List.mem_append,List.mem_map]
        exact .inr ⟨b,hb,by simp⟩
       ·refine ⟨_,List.mem_append_right _ (List.mem_map.2 ⟨q,hq,rfl⟩),fun hp=>hp hcv⟩
       ·refine ⟨CF.under (Zax s.env c) x,List.mem_append_right _ (List.mem_map.2 ⟨x,hx,rfl⟩),by simp [CF.under,hcv],?_⟩
        exact id
     obtain ⟨e1,e2,e3⟩:=hs
     cases hcv:Zax s.env c with
     | false =>
      simp only [Bool.false_eq_true,if_false]
      refine hK S _ hS (Ext.refl S) ?_ ?_ (Zd6 _ _ _) (hdef _)
      ·rw [e2,hcv,hL];cases r.L' <;> rfl
      ·rw [e1];exact Zgv hT hn hco he (fun h=>by simp [hcv] at h) (fun _=>rfl)
     | true =>
      simp only [if_true]
      obtain ⟨f1,f2,f3⟩:=e3 hcv
      have hL':s'.L=r.L'.getD S.L:=by rw [e2,hcv,hL];cases r.L' <;> rfl
      have hrho:∀ ex,ChainTrue a.eval ex -> ∀ x,Rel S (ev s.env (ex++c) x) (a.eval x):=by
       intro ex hex x
       refine ev_rel hT (fun y hy => ?_) x
       rcases List.mem_append.1 hy with hy | hy
       ·exact hex y hy
       ·exact (chain_iff hT hco).1 hcv y hy
      rw [<- hL] at hr
      have fin:∀ β' w' cv,HeapOk ⟨S.base,S.acc,r.L'.getD S.L,β',w'⟩->Ext S ⟨S.base,S.acc,r.L'.getD S.L,β',w'⟩->Rel ⟨S.base,S.acc,r.L'.getD S.L,β',w'⟩ r.v cv->K (a.put o.dst cv) w':=by
       intro β' w' cv h1 h2 h3
       refine hK ⟨S.base,S.acc,r.L'.getD S.L,β',w'⟩ _ h1 h2 hL'.symm ?_ (Zd6 _ _ _) (hdef _)
       rw [e1];exact Zgv (hT.mono h2) hn hco he (fun _=>h3) (fun h=>by simp [hcv] at h)
      rcases step_sound hS hrho hr (fun b hb=>hA b (f1 b hb)) (fun q hq=>by obtain ⟨q',h1,h2⟩:=f2 q hq;exact h2 (hQ q' h1)) with ⟨_,β',w',cv,h1,h2,h3,h4⟩ | ⟨g,args,cargs,hcl⟩
      ·left
       unfold Oper.wp
       rcases h4 with h4 | ⟨h4,h5⟩
       ·rw [h4,Oper.upon_value];exact fin β' w' cv h1 h2 h3
       ·rw [h4,Oper.upon_skip];subst h5;exact fin β' w' undef h1 h2 h3
      ·left
       unfold Oper.wp
       obtain ⟨k1,k2,call',k3⟩:=hcl
       have hsnd:∀ x ∈ r.calls,x.cond=true->Zdv M x:=fun x hx hxc=>by
        obtain ⟨x',h1,h2,h3⟩:=f3 x hx
        exact h3 (hC x' h1 (h2.trans hxc))
       unfold Zfy at k3
       cases hin:M.inl g with
       | true =>
        simp only [hin,cond_true] at k3
        split at k3
        ·rename_i rs args' Lc hoi
         split at k3
         ·rename_i v o hcall
          split at k3
          ·rename_i v' L' hoo
           simp only [Option.some.injEq] at k3;subst k3
           have:=hsnd _ (List.mem_singleton.2 rfl) rfl
           obtain ⟨m1,m2⟩:=own_call (M:=M) hS hoi k2 hoo this
           rw [k1,m1,Oper.upon_enter]
           refine Calls.mono m2 fun e w'' he => ?_
           cases e with
           | returned cv =>
            obtain ⟨β',n1,n2,n3⟩:=he
            exact fin β' w'' cv n1 n2 n3
           | panicked c=>exact he.elim
           | outgrown=>exact he.elim
          ·simp at k3
         ·simp at k3
        ·simp at k3
       | false =>
        simp only [hin,cond_false] at k3
        split at k3
        ·rename_i ds hds
         split at k3
         ·rename_i d hcall
          split at k3
          ·rename_i hdc
           have go:∀ L2:Heap,((d.scalar=true/\L2=S.L)\/L2=Zcq (rowsL args) S.L)->r.L'.getD S.L=L2->r.v=d->r.asm=versL S.L args->r.calls=[⟨true,false,g,ds,[],d,[]⟩] ->
             Oper.upon (M.P ()) o a K Q ((execOp a.eval o).run (M.P ()) S.w):=by
            intro L2 g1 g2 g3 g4 g5
            obtain ⟨m1,m2⟩:=pure_call (M:=M) (g:=g) hS k2 hds (fun b hb=>hA b (f1 b (by rw [g4];exact hb))) g1 (hsnd ⟨true,false,g,ds,[],d,[]⟩ (by rw [g5];simp) rfl)
            rw [k1,m1,Oper.upon_enter]
            refine Calls.mono m2 fun e w'' he => ?_
            cases e with
            | returned cv =>
             obtain ⟨n1,n2,n3⟩:=he
             rw [<- g2] at n1 n2 n3
             rw [<- g3] at n3
             exact fin _ w'' cv n1 n2 n3
            | panicked c=>exact he.elim
            | outgrown=>exact he.elim
           cases hsc:(d.scalar||Zbj S.L (rowsL args)) with
           | true =>
            simp only [hsc,Option.some.injEq] at k3;subst k3
            rcases Bool.or_eq_true_iff.1 hsc with hs1 | hs1
            ·exact go S.L (.inl ⟨hs1,rfl⟩) rfl rfl rfl rfl
            ·exact go S.L (.inr (ZgR _ _ hs1).symm) rfl rfl rfl rfl
           | false =>
            cases hrs:rowsL args with
            | nil=>rw [hrs] at hsc;simp [Zbj] at hsc
            | cons q qs =>
             rw [hrs] at hsc
             simp only [hrs,hsc,Option.some.injEq] at k3;subst k3
             exact go (Zcq (q::qs) S.L) (.inr (by rw [hrs])) rfl rfl rfl rfl
          ·simp at k3
         ·rename_i v L1 hcall
          split at k3
          ·rename_i j hj
           split at k3
           ·rename_i row hrow
            split at k3
            ·rename_i hfr
             simp only [Option.some.injEq] at k3;subst k3
             simp only [Bool.and_eq_true] at hfr
             obtain ⟨m1,m2⟩:=fresh_call (M:=M) (g:=g) hS k2 hds (fun b hb=>hA b (f1 b (List.mem_append_left _ hb))) hj hrow hfr.1 (hA _ (f1 _ (List.mem_append_right _ (List.mem_singleton.2 rfl)))) (hsnd _ (List.mem_singleton.2 rfl) rfl)
             rw [k1,m1,Oper.upon_enter]
             refine Calls.mono m2 fun e w'' he => ?_
             cases e with
             | returned cv =>
              obtain ⟨β',n1,n2,n3⟩:=he
              exact fin β' w'' cv n1 n2 n3
             | panicked c=>exact he.elim
             | outgrown=>exact he.elim
            ·simp at k3
           ·simp at k3
          ·simp at k3
         ·simp at k3
        ·simp at k3
end Go.Av

namespace Go.Av
open Go.RowKit
section
variable {P:Unit->Program} {inl:FuncId->Bool} {call:Za6}
theorem ZdX {α β:Type} {f g:α->β} {a:Array α} (h:∀ x ∈ a,f x=g x):a.toList.map f=a.toList.map g:=
 List.map_congr_left fun x hx=>h x (by simpa using hx)
theorem stepA_congr {an:Option Ans} {ρ ρ':Zbs->Operand->AV} {L:Heap} {o:Oper} (h:∀ ex,∀ x ∈ o.op.operands,ρ ex x=ρ' ex x) :
  Zbx P inl call an ρ L o=Zbx P inl call an ρ' L o:=by
 obtain ⟨dst,op,type,pos,after,guard⟩:=o
 have pairs:∀ ps:Array (Nat × Operand),(∀ x ∈ ps.map (·.2),ρ [] x=ρ' [] x) ->
   (ps.toList.map fun (i,x)=>(i,ρ [] x))=(ps.toList.map fun (i,x)=>(i,ρ' [] x)):=fun ps hp =>
  List.map_congr_left fun p hm=>by
   obtain ⟨i,x⟩:=p
   simp only [hp x (Array.mem_map.2 ⟨(i,x),by simpa using hm,rfl⟩)]
 have calls:∀ c:Call,(∀ x ∈ c.operands,ρ [] x=ρ' [] x) -> ∀ call' L,ZcG P inl call' (ρ []) L c=ZcG P inl call' (ρ' []) L c:=by
  intro c hc call' L
  have hargs:∀ x ∈ c.args,ρ [] x=ρ' [] x:=fun x hx=>hc x (by simp [Call.operands,hx])
  unfold ZcG
  cases hcal:c.callee with
  | builtin b =>
   simp only
   have mem:∀ {l:List Operand},c.args.toList=l -> ∀ x ∈ l,ρ [] x=ρ' [] x:=fun e x hx=>hargs x (by rw [<- e] at hx;simpa using hx)
   split <;> first
    | (rename_i e _;have:=mem e;simp_all;done)
    | (rename_i e;have hm:=mem e;rw [hm _ (List.mem_cons_self ..),List.map_congr_left (fun y hy=>hm y (List.mem_cons_of_mem _ hy))];done)
    | rfl
  | value f =>
   have hf:ρ [] f=ρ' [] f:=hc f (by simp [Call.operands,hcal])
   simp only [hf,ZdX hargs]
  | invoke r m=>rfl
 cases op <;> simp only [Op.operands] at h <;> simp only [Zbx]
 case build t ps=>rw [pairs ps fun x hx=>h [] x (by simpa using hx)]
 case buildSlice t n ps=>rw [pairs ps fun x hx=>h [] x (by simpa using hx)]
 case makeFunc fn first captured =>
  rw [ZdX (a:=first) fun x hx=>h [] x (by simp [hx]),ZdX (a:=captured) fun x hx=>h [] x (by simp [hx])]
 case call c =>
  split
  ·exact calls c (fun x hx=>h [] x hx) _ _
  ·exact calls c (fun x hx=>h [] x hx) _ _
 case slice t x lo hi mx=>cases lo <;> cases hi <;> cases mx <;> simp_all
 all_goals (first | rfl | (simp_all;done))
theorem fits_congr {ρ ρ':Operand->AV} {L:Heap} {o:Oper} {hot:Nat} {L':Option Heap} {k:List CF} (h:∀ x ∈ o.op.operands,ρ x=ρ' x):fits ρ L o hot L' k=fits ρ' L o hot L' k:=by
 have hcall:∀ c,o.op = .call c->(∀ f,c.callee = .value f->ρ f=ρ' f)/\(∀ x ∈ c.args.toList,ρ x=ρ' x):=by
  intro c hc
  rw [hc] at h
  exact ⟨fun f hf=>h f (by simp [Op.operands,Call.operands,hf]),fun x hx=>h x (by simp only [Op.operands,Call.operands,Array.mem_append];right;exact Array.mem_toList_iff.1 hx)⟩
 have h1:ZhI ρ o=ZhI ρ' o:=by
  unfold ZhI
  split <;> rename_i e
  ·rw [h _ (by rw [e];simp [Op.operands])]
  ·rw [h _ (by rw [e];simp [Op.operands])]
  ·rw [h _ (by rw [e];simp [Op.operands])]
  ·rfl
  ·obtain ⟨g1,g2⟩:=hcall _ e
   split
   ·rename_i h1 h2
    rw [g2 _ (by rw [h2];exact List.mem_cons_self ..)]
   ·rename_i f hf
    rw [g1 f hf,List.map_congr_left g2]
   ·rfl
  ·rfl
 have h2:ZdF ρ L o=ZdF ρ' L o:=by
  unfold ZdF
  split <;> rename_i e
  ·rfl
  ·rfl
  ·rw [h _ (by rw [e];simp [Op.operands])]
  ·obtain ⟨g1,g2⟩:=hcall _ e
   split
   ·rename_i h1 h2
    rw [g2 _ (by rw [h2];exact List.mem_cons_self ..)]
   ·rfl
   ·rfl
  ·rfl
 unfold fits Zfn
 rw [h1,h2]
theorem fits_free {ρ:Operand->AV} {L L2:Heap} {o:Oper} {hot:Nat} {L':Option Heap} {k:List CF} (h:Zez o=true):fits ρ L o hot L' k=fits ρ L2 o hot L' k:=by
 have h2:ZdF ρ L o=none/\ZdF ρ L2 o=none/\Zfu L o L' k=Zfu L2 o L' k:=by
  obtain ⟨dst,op,type,pos,after,guard⟩:=o
  cases op <;> simp [Zez] at h <;> exact ⟨rfl,rfl,rfl⟩
 unfold fits Zfn
 rw [h2.1,h2.2.1,h2.2.2]
theorem ZhF {an:Option Ans} {ρ:Zbs->Operand->AV} {L L2:Heap} {o:Oper} (h:Zez o=true) :
  Zbx P inl call an ρ L o=Zbx P inl call an ρ L2 o /\ ∀ r,Zbx P inl call an ρ L o=some r->r.L'=none:=by
 have hq:∀ {x:Option AV} {r:SR},Zb2 x=some r->r.L'=none:=by
  intro x r hr
  unfold Zb2 at hr
  split at hr
  ·simp only [Option.some.injEq] at hr;subst hr;rfl
  ·simp at hr
 obtain ⟨dst,op,type,pos,after,guard⟩:=o
 unfold Zez at h
 refine ⟨by cases op <;> simp only [Bool.false_eq_true] at h <;> rfl,fun r hr => ?_⟩
 cases op <;> simp only [Bool.false_eq_true] at h <;> simp only [Zbx] at hr
 case nilCheck x =>
  split at hr
  ·simp only [Option.some.injEq] at hr;subst hr;rfl
  ·simp only [Option.some.injEq] at hr;subst hr;rfl
  ·simp at hr
 case binOp op T x y yT =>
  unfold binA at hr
  split at hr <;> first
   | (simp only [Option.some.injEq] at hr;subst hr;rfl)
   | (split at hr <;> first | exact hq hr | simp at hr | (unfold ZhV at hr;split at hr <;> first | (simp only [Option.some.injEq] at hr;subst hr;rfl) | simp at hr))
   | (unfold ZhD at hr;split at hr <;> first | (simp only [Option.some.injEq] at hr;subst hr;rfl) | simp at hr)
   | simp at hr
 case index T x i =>
  unfold ZhW at hr
  split at hr
  ·split at hr
   ·split at hr
    ·simp only [Option.some.injEq] at hr;subst hr;rfl
    ·simp at hr
   ·simp at hr
  ·simp only [Option.some.injEq] at hr;subst hr;rfl
  ·simp at hr
 all_goals first
  | exact hq hr
  | (simp only [Option.some.injEq] at hr;subst hr;rfl)
  | (split at hr <;> first | exact hq hr | simp at hr)
theorem ZcO {L:Heap} {row0 row:Row} {r:Nat} (h:L[r]? = some row):(L++[row0])[r]? = some row:=by
 rw [List.getElem?_append_left (List.getElem?_eq_some_iff.1 h).1];exact h
theorem ZdH {L:Heap} {row0 row:Row} {r v:Nat} (h:L[r]? = some row):Zc3 (L++[row0]) r v=Zc3 L r v:=by
 unfold Zc3;rw [ZcO h,h]
mutual
theorem pureA_append {L:Heap} (row0:Row):∀ (a:AV) {d:AV},pureA L a=some d->pureA (L++[row0]) a=some d/\versA (L++[row0]) a=versA L a
 | .any,_,h=>by simp [pureA] at h
 | .bool b,_,h=>⟨h,rfl⟩
 | .int k n,_,h=>⟨h,rfl⟩
 | .str s,_,h=>⟨h,rfl⟩
 | .nilp,_,h=>⟨h,rfl⟩
 | .nilf,_,h=>⟨h,rfl⟩
 | .vnil,_,h=>⟨h,rfl⟩
 | .eptr ..,_,h=>⟨h,rfl⟩
 | .vec ..,_,h=>⟨h,rfl⟩
 | .row r v,_,h=>by
  cases hr:L[r]? with
  | none=>simp [pureA,hr] at h
  | some row=>exact ⟨by simpa only [pureA,ZcO hr,hr] using h,by simp only [versA,ZdH hr]⟩
 | .ref r v lo len,_,h=>by
  cases hr:L[r]? with
  | none=>simp [pureA,hr] at h
  | some row=>exact ⟨by simpa only [pureA,ZcO hr,hr] using h,by simp only [versA,ZdH hr]⟩
 | .ptr r v i j,_,h=>by
  cases hr:L[r]? with
  | none=>simp [pureA,hr] at h
  | some row=>exact ⟨by simpa only [pureA,ZcO hr,hr] using h,by simp only [versA,ZdH hr]⟩
 | .agg cs,_,h=>by
  cases hr:pureL L cs with
  | none=>simp [pureA,hr] at h
  | some ds =>
   obtain ⟨h1,h2⟩:=pureL_append row0 cs hr
   exact ⟨by simpa only [pureA,h1,hr] using h,by simp only [versA,h2]⟩
 | .tup cs,_,h=>by
  cases hr:pureL L cs with
  | none=>simp [pureA,hr] at h
  | some ds =>
   obtain ⟨h1,h2⟩:=pureL_append row0 cs hr
   exact ⟨by simpa only [pureA,h1,hr] using h,by simp only [versA,h2]⟩
 | .func fn a b,_,h=>by
  cases hr:pureL L a with
  | none=>simp [pureA,hr] at h
  | some ds =>
   cases hr2:pureL L b with
   | none=>simp [pureA,hr,hr2] at h
   | some ds2 =>
    obtain ⟨h1,h2⟩:=pureL_append row0 a hr
    obtain ⟨h3,h4⟩:=pureL_append row0 b hr2
    exact ⟨by simpa only [pureA,h1,h3,hr,hr2] using h,by simp only [versA,h2,h4]⟩
theorem pureL_append {L:Heap} (row0:Row):∀ (l:List AV) {ds:List AV},pureL L l=some ds->pureL (L++[row0]) l=some ds/\versL (L++[row0]) l=versL L l
 | [],_,h=>⟨h,rfl⟩
 | c::l,_,h=>by
  cases hr:pureA L c with
  | none=>simp [pureL,hr] at h
  | some d =>
   cases hr2:pureL L l with
   | none=>simp [pureL,hr,hr2] at h
   | some ds2 =>
    obtain ⟨h1,h2⟩:=pureA_append row0 c hr
    obtain ⟨h3,h4⟩:=pureL_append row0 l hr2
    exact ⟨by simpa only [pureL,h1,h3,hr,hr2] using h,by simp only [versL,h2,h4]⟩
end
mutual
theorem pureA_same {L L2:Heap}:∀ (a:AV),(∀ q ∈ rowsA a,L2[q]? = L[q]?)->pureA L2 a=pureA L a/\versA L2 a=versA L a
 | .any,_=>⟨rfl,rfl⟩
 | .bool _,_=>⟨rfl,rfl⟩
 | .int _ _,_=>⟨rfl,rfl⟩
 | .str _,_=>⟨rfl,rfl⟩
 | .nilp,_=>⟨rfl,rfl⟩
 | .nilf,_=>⟨rfl,rfl⟩
 | .vnil,_=>⟨rfl,rfl⟩
 | .eptr ..,_=>⟨rfl,rfl⟩
 | .vec ..,_=>⟨rfl,rfl⟩
 | .row r v,h=>by
  have:=h r (by simp [rowsA])
  exact ⟨by simp only [pureA,this],by simp only [versA,Zc3,this]⟩
 | .ref r v lo n,h=>by
  have:=h r (by simp [rowsA])
  exact ⟨by simp only [pureA,this],by simp only [versA,Zc3,this]⟩
 | .ptr r v i j,h=>by
  have:=h r (by simp [rowsA])
  exact ⟨by simp only [pureA,this],by simp only [versA,Zc3,this]⟩
 | .agg cs,h=>by
  obtain ⟨h1,h2⟩:=pureL_same cs (by simpa only [rowsA] using h)
  exact ⟨by simp only [pureA,h1],by simp only [versA,h2]⟩
 | .tup cs,h=>by
  obtain ⟨h1,h2⟩:=pureL_same cs (by simpa only [rowsA] using h)
  exact ⟨by simp only [pureA,h1],by simp only [versA,h2]⟩
 | .func fn a b,h=>by
  simp only [rowsA,List.mem_append] at h
  obtain ⟨h1,h2⟩:=pureL_same a (fun q hq=>h q (.inl hq))
  obtain ⟨h3,h4⟩:=pureL_same b (fun q hq=>h q (.inr hq))
  exact ⟨by simp only [pureA,h1,h3],by simp only [versA,h2,h4]⟩
theorem pureL_same {L L2:Heap}:∀ (l:List AV),(∀ q ∈ rowsL l,L2[q]? = L[q]?)->pureL L2 l=pureL L l/\versL L2 l=versL L l
 | [],_=>⟨rfl,rfl⟩
 | c::l,h=>by
  simp only [rowsL,List.mem_append] at h
  obtain ⟨h1,h2⟩:=pureA_same c (fun q hq=>h q (.inl hq))
  obtain ⟨h3,h4⟩:=pureL_same l (fun q hq=>h q (.inr hq))
  exact ⟨by simp only [pureL,h1,h3],by simp only [versL,h2,h4]⟩
end
theorem callF_wait {L:Heap} {g:FuncId} {args:List AV} {r:SR} (row0:Row) (h:Zfy inl call L g args=some r) (hf1:r.L'=none) (hf2:∀ x ∈ r.calls,¬x.own=true) :
  Zfy inl call (L++[row0]) g args=some r:=by
 unfold Zfy at h ⊢
 cases hin:inl g with
 | true =>
  simp only [hin,cond_true] at h
  split at h
  ·split at h
   ·split at h
    ·simp only [Option.some.injEq] at h;subst h
     simp at hf2
    ·simp at h
   ·simp at h
  ·simp at h
 | false =>
  simp only [hin,cond_false] at h ⊢
  split at h
  ·rename_i ds hds
   obtain ⟨h1,h2⟩:=pureL_append row0 _ hds
   rw [h1]
   simp only
   split at h
   ·rename_i d hcl
    split at h
    ·rename_i hd
     rw [if_pos hd,h2]
     cases hsc:(d.scalar||Zbj L (rowsL args)) with
     | true =>
      have hsc':(d.scalar||Zbj (L++[row0]) (rowsL args))=true:=by
       rcases Bool.or_eq_true_iff.1 hsc with hs | hs
       ·rw [hs];rfl
       ·rw [Bool.or_eq_true_iff]
        right
        simp only [Zbj,List.all_eq_true] at hs ⊢
        intro q hq
        have:=hs q hq
        cases hL:L[q]? with
        | none=>rw [hL] at this;simp at this
        | some row=>rw [ZcO hL];rw [hL] at this;exact this
      simp only [hsc] at h
      simp only [hsc']
      exact h
     | false =>
      cases hrs:rowsL args with
      | nil=>rw [hrs] at hsc;simp [Zbj] at hsc
      | cons q qs =>
       rw [hrs] at hsc
       simp only [hrs,hsc,Option.some.injEq] at h;subst h;simp at hf1
    ·simp at h
   ·split at h
    ·split at h
     ·split at h
      ·simp only [Option.some.injEq] at h;subst h;simp at hf1
      ·simp at h
     ·simp at h
    ·simp at h
   ·simp at h
  ·simp at h
theorem callF_same {L L2:Heap} {g:FuncId} {args:List AV} {r:SR} (hrows:∀ q ∈ rowsL args,L2[q]? = L[q]?) (h:Zfy inl call L g args=some r) (hf1:r.L'=none) (hf2:∀ x ∈ r.calls,¬x.own=true) :
  Zfy inl call L2 g args=some r:=by
 obtain ⟨p1,p2⟩:=pureL_same args hrows
 unfold Zfy at h ⊢
 cases hin:inl g with
 | true =>
  simp only [hin,cond_true] at h
  split at h
  ·split at h
   ·split at h
    ·simp only [Option.some.injEq] at h;subst h
     simp at hf2
    ·simp at h
   ·simp at h
  ·simp at h
 | false =>
  simp only [hin,cond_false,p1,p2] at h ⊢
  split at h
  ·rename_i ds hds
   split at h
   ·rename_i d hcl
    split at h
    ·rename_i hd
     rw [if_pos hd]
     simp only [Zg9 hrows]
     cases hsc:(d.scalar||Zbj L (rowsL args)) with
     | true=>simp only [hsc] at h ⊢;exact h
     | false =>
      cases hrs:rowsL args with
      | nil=>rw [hrs] at hsc;simp [Zbj] at hsc
      | cons q qs =>
       rw [hrs] at hsc
       simp only [hrs,hsc,Option.some.injEq] at h;subst h;simp at hf1
    ·simp at h
   ·split at h
    ·split at h
     ·split at h
      ·simp only [Option.some.injEq] at h;subst h;simp at hf1
      ·simp at h
     ·simp at h
    ·simp at h
   ·simp at h
  ·simp at h
theorem stepA_wait {an:Option Ans} {ρ:Zbs->Operand->AV} {L:Heap} {o:Oper} (row0:Row) (h:Zg3 o=true) {r:SR} (hr:Zbx P inl call an ρ L o=some r)
  {ρ2:Operand->AV} {L2:Heap} (hf:fits ρ2 L2 o 0 r.L' r.calls=true):Zbx P inl call an ρ (L++[row0]) o=some r:=by
 simp only [fits,Bool.and_eq_true,Option.isNone_iff_eq_none,Bool.not_eq_true',List.any_eq_false] at hf
 obtain ⟨hf1,hf2⟩:=hf
 have hcall:∀ c call',(∃ f,c.callee = .value f)->ZcG P inl call' (ρ []) L c=some r->ZcG P inl call' (ρ []) (L++[row0]) c=some r:=by
  intro c call' ⟨f,hc⟩ h
  unfold ZcG at h ⊢
  rw [hc] at h ⊢
  dsimp only at h ⊢
  split at h
  ·rename_i g first captured hfv
   exact callF_wait row0 h hf1 hf2
  ·simp at h
 obtain ⟨dst,op,type,pos,after,guard⟩:=o
 cases op <;> simp [Zg3] at h
 case load T a =>
  simp only [Zbx] at hr ⊢
  unfold loadA at hr ⊢
  split at hr
  ·rename_i q ver i j hv
   cases hq:L[q]? with
   | none=>simp [hq] at hr
   | some row=>rw [ZcO hq];rw [hq] at hr;exact hr
  ·exact hr
  ·simp at hr
 case call c =>
  have hc:∃ f,c.callee = .value f:=by
   cases hcal:c.callee <;> simp [hcal] at h
   exact ⟨_,rfl⟩
  simp only [Zbx] at hr ⊢
  split at hr
  ·exact hcall c _ hc hr
  ·exact hcall c _ hc hr
structure Eff where
 c:Zbs
 v:AV
 L':Option Heap
 a:List Bool
 q:List Prop
 k:List CF
def ZbQ (P:Unit->Program) (inl:FuncId->Bool) (call:Za6) (ops:Array Oper) (an:Option Ans) (hot:Nat) (o:Oper) (env:Env) (L:Heap):Option Eff:=
 match Zbn ops env o with
 | none=>none
 | some none=>some ⟨[],.tup [],none,[],[],[]⟩
 | some (some c) =>
  match Zbx P inl call an (fun ex=>ev env (ex++c)) L o with
  | none=>match Zax env c with
   | true=>none
   | false=>some ⟨c,.any,none,[],[],[]⟩
  | some r =>
   match fits (ev env c) L o hot r.L' r.calls with
   | false=>none
   | true =>
    match c with
    | []=>some ⟨c,r.v,r.L',r.asm,r.eqs,r.calls⟩
    | _=>some ⟨c,r.v,bif Zax env c then r.L' else none,r.asm.map (fun a => !(Zax env c)||a),r.eqs.map (fun p=>(Zax env c=true->p)),r.calls.map (CF.under (Zax env c))⟩
theorem Zdb {n:Nat} {ops:Array Oper} {an:Option Ans} {hot:Nat} {o:Oper} {s s':RS} :
  Zb1 P inl call n ops an hot o s=some s' ↔ ∃ e env,ZbQ P inl call ops an hot o s.env s.L=some e/\putE n o.dst e.c e.v s.env=some env /\
   s'=⟨env,e.L'.getD s.L,s.asm++e.a,s.eqs++e.q,s.calls++e.k⟩:=by
 unfold Zb1 ZbQ
 cases Zbn ops s.env o with
 | none=>simp
 | some oc =>
  cases oc with
  | none =>
   simp only [Option.some.injEq]
   cases hp:putE n o.dst [] (.tup []) s.env with
   | none=>simp;intro e h;simp [hp] at h
   | some env =>
    simp only [Option.some.injEq]
    constructor
    ·rintro rfl;exact ⟨_,env,rfl,hp,by simp⟩
    ·rintro ⟨e,env',rfl,h2,rfl⟩
     simp only [hp,Option.some.injEq] at h2;subst h2;simp
  | some c =>
   simp only
   cases hs:Zbx P inl call an (fun ex=>ev s.env (ex++c)) s.L o with
   | none =>
    simp only
    cases hcv:Zax s.env c with
    | true=>simp
    | false =>
     simp only [Option.some.injEq]
     cases hp:putE n o.dst c .any s.env with
     | none=>simp;intro e h;simp [hp] at h
     | some env =>
      simp only [Option.some.injEq]
      constructor
      ·rintro rfl;exact ⟨_,env,rfl,hp,by simp⟩
      ·rintro ⟨e,env',rfl,h2,rfl⟩
       simp only [hp,Option.some.injEq] at h2;subst h2;simp
   | some r =>
    simp only
    cases hf:fits (ev s.env c) s.L o hot r.L' r.calls with
    | false=>cases putE n o.dst c r.v s.env <;> simp
    | true =>
     simp only
     cases c with
     | nil =>
      simp only [Option.some.injEq]
      cases hp:putE n o.dst [] r.v s.env with
      | none=>simp;intro e h;simp [hp] at h
      | some env =>
       simp only [Option.some.injEq]
       constructor
       ·rintro rfl;exact ⟨_,env,rfl,hp,rfl⟩
       ·rintro ⟨e,env',rfl,h2,rfl⟩
        simp only [hp,Option.some.injEq] at h2;subst h2;rfl
     | cons x c =>
      simp only [Option.some.injEq]
      have hm:∀ b,mergeH b s.L r.L'=(bif b then r.L' else none).getD s.L:=by intro b;cases b <;> cases r.L' <;> rfl
      cases hp:putE n o.dst (x::c) r.v s.env with
      | none=>simp;intro e h;simp [hp] at h
      | some env =>
       simp only [Option.some.injEq,hm]
       constructor
       ·rintro rfl;exact ⟨_,env,rfl,hp,rfl⟩
       ·rintro ⟨e,env',rfl,h2,rfl⟩
        simp only [hp,Option.some.injEq] at h2;subst h2;rfl
theorem effOp_cons {ops:Array Oper} {an:Option Ans} {hot:Nat} {o:Oper} {env:Env} {L:Heap} {d:Nat} {c0:Zbs} {v:AV} (hd:d ∉ o.looksAt ops) (hno:∀ t,noD d (env.get t).1=true) :
  ZbQ P inl call ops an hot o ((d,c0,v)::env) L=ZbQ P inl call ops an hot o env L /\ ∀ e,ZbQ P inl call ops an hot o env L=some e->noD d e.c=true:=by
 have hget:∀ t,t ≠ d->Env.get ((d,c0,v)::env) t=env.get t:=by
  intro t ht
  have:(d==t)=false:=by simpa using fun e=>ht e.symm
  simp [Env.get,this]
 have hch:Zbn ops ((d,c0,v)::env) o=Zbn ops env o /\ ∀ c,Zbn ops env o=some (some c)->noD d c=true:=by
  unfold Zbn
  cases hg:o.guard with
  | none=>exact ⟨rfl,fun c h=>by simp only [Option.some.injEq] at h;subst h;rfl⟩
  | some gw =>
   obtain ⟨j,want⟩:=gw
   simp only
   cases hj:(ops[j]?).bind (·.dst) with
   | none=>exact ⟨rfl,fun c h=>by simp at h⟩
   | some t =>
    have ht:t ≠ d:=fun e=>hd (by subst e;simp [Oper.looksAt,hg,hj])
    simp only [hget t ht]
    refine ⟨trivial,fun c h => ?_⟩
    split at h
    ·rename_i ch b hgt
     simp only [Option.some.injEq] at h;subst h
     have:=hno t
     rw [hgt] at this
     simp only [noD,List.any_cons,Bool.not_or,Bool.and_eq_true,Bool.not_eq_true',beq_eq_false_iff_ne]
     exact ⟨ht,by simpa [noD] using this⟩
    ·simp at h
    ·simp at h
 unfold ZbQ
 rw [hch.1]
 cases hc:Zbn ops env o with
 | none=>simp
 | some oc =>
  cases oc with
  | none =>
   refine ⟨rfl,fun e h => ?_⟩
   simp only [Option.some.injEq] at h;subst h;rfl
  | some c =>
   have hnd:=hch.2 c hc
   have hst:Zbx P inl call an (fun ex=>ev ((d,c0,v)::env) (ex++c)) L o=Zbx P inl call an (fun ex=>ev env (ex++c)) L o:=by
    refine stepA_congr fun ex x hx => ?_
    cases x with
    | tmp t =>
     have ht:t ≠ d:=fun e=>hd (by subst e;exact List.mem_append_left _ (List.mem_filterMap.2 ⟨.tmp t,by simpa using hx,rfl⟩))
     simp only [ev,hget t ht]
    | _=>rfl
   have hfi:∀ L' k,fits (ev ((d,c0,v)::env) c) L o hot L' k=fits (ev env c) L o hot L' k:=fun L' k=>by
    refine fits_congr fun x hx => ?_
    cases x with
    | tmp t =>
     have ht:t ≠ d:=fun e=>hd (by subst e;exact List.mem_append_left _ (List.mem_filterMap.2 ⟨.tmp t,by simpa using hx,rfl⟩))
     simp only [ev,hget t ht]
    | _=>rfl
   simp only [hst,Zdt hnd,hfi]
   refine ⟨trivial,fun e h => ?_⟩
   split at h
   ·split at h
    ·simp at h
    ·simp only [Option.some.injEq] at h;subst h;exact hnd
   ·split at h
    ·simp at h
    ·split at h
     ·simp only [Option.some.injEq] at h;subst h;exact hnd
     ·simp only [Option.some.injEq] at h;subst h;exact hnd
theorem Zfw {ops:Array Oper} {an:Option Ans} {hot:Nat} {o:Oper} {env:Env} {L:Heap} (hm:Zez o=true) :
  (∀ L2,ZbQ P inl call ops an hot o env L=ZbQ P inl call ops an hot o env L2) /\ ∀ e,ZbQ P inl call ops an hot o env L=some e->e.L'=none:=by
 refine ⟨fun L2 => ?_,fun e h => ?_⟩
 ·unfold ZbQ
  split <;> try rfl
  rw [(ZhF (P:=P) (inl:=inl) (call:=call) (L2:=L2) hm).1]
  simp only [fits_free (L:=L) (L2:=L2) hm]
 ·unfold ZbQ at h
  split at h
  ·simp at h
  ·simp only [Option.some.injEq] at h;subst h;rfl
  ·split at h
   ·split at h
    ·simp at h
    ·simp only [Option.some.injEq] at h;subst h;rfl
   ·rename_i r hr
    have:=(ZhF (P:=P) (inl:=inl) (call:=call) (L:=L) (L2:=L) hm).2 r hr
    split at h
    ·simp at h
    ·split at h
     ·simp only [Option.some.injEq] at h;subst h;exact this
     ·simp only [Option.some.injEq] at h;subst h;simp [this]
theorem Zel {ops:Array Oper} {an:Option Ans} {hot:Nat} {o:Oper} {env:Env} {L:Heap} {e:Eff} (hh:cool hot=true) (h:ZbQ P inl call ops an hot o env L=some e):e.L'=none:=by
 unfold ZbQ at h
 split at h
 ·simp at h
 ·simp only [Option.some.injEq] at h;subst h;rfl
 ·split at h
  ·split at h
   ·simp at h
   ·simp only [Option.some.injEq] at h;subst h;rfl
  ·rename_i r hr
   split at h
   ·simp at h
   ·rename_i hf
    have:r.L'=none:=by
     match hot,hh,hf with
     | 0,_,hf=>simp [fits] at hf;exact hf.1
     | 1,_,hf=>simpa [fits] using hf
     | 2,hh,_=>simp [cool,Nat.blt_eq,Nat.ble_eq] at hh
     | h+3,hh,hf =>
      simp only [cool,Bool.or_eq_true,Nat.blt_eq,Bool.and_eq_true,Nat.ble_eq,Nat.beq_eq] at hh
      have hb:Nat.beq ((h+3) % 2) 1=true:=by
       rcases hh with h1 | h1
       ·omega
       ·simpa [Nat.beq_eq] using h1.2
      simp only [fits,hb,cond_true,Bool.and_eq_true,Option.isNone_iff_eq_none] at hf
      exact hf.2.1
    split at h
    ·simp only [Option.some.injEq] at h;subst h;exact this
    ·simp only [Option.some.injEq] at h;subst h;simp [this]
theorem Zg4 {L L2:Heap} {keep:Bool} {T:TypeId} {len:Nat} {parts:List (Nat × AV)} {res:SR} (h:ZbC P keep L T len parts=some res) (hn:res.L'=none):ZbC P keep L2 T len parts=some res:=by
 unfold ZbC at h ⊢
 cases hu:(P ()).underlying T with
 | none=>rw [hu] at h;simp at h
 | some td =>
 rw [hu] at h
 cases td <;> simp only at h ⊢ <;> try (simp at h;done)
 rename_i elem
 cases hi:(P ()).info? elem with
 | none=>rw [hi] at h;simp at h
 | some i =>
 rw [hi] at h
 simp only at h ⊢
 by_cases hl:len=0
 ·rw [if_pos hl] at h ⊢;exact h
 ·rw [if_neg hl] at h ⊢
  cases hz:i.zero with
  | none=>rw [hz] at h;simp at h
  | some z0 =>
  rw [hz] at h
  simp only at h ⊢
  split at h
  ·rename_i hc
   rw [if_pos hc]
   split at h
   ·rename_i xs hx
    cases keep with
    | true=>simp only [cond_true,Option.some.injEq] at h;subst h;simp at hn
    | false =>
     simp only [cond_false] at h ⊢
     split at h
     ·rename_i ys hy
      split at h
      ·rename_i hr
       have:=(pureL_same (L:=L) (L2:=L2) xs (by rw [hr];simp)).1
       rw [this,hy]
       exact h
      ·simp only [Option.some.injEq] at h;subst h;simp at hn
     ·simp at h
   ·simp at h
  ·simp at h
theorem stepA_reads {an:Option Ans} {ρ:Zbs->Operand->AV} {L L2:Heap} {o:Oper} {l:List Nat} {w:Nat} {res:SR} (h:ZhI (ρ []) o=some l) (hl:∀ r ∈ l,r=w) (hw:L2[w]? = L[w]?)
  (hres:Zbx P inl call an ρ L o=some res) (hn:res.L'=none) (ho:∀ x ∈ res.calls,¬x.own=true):Zbx P inl call an ρ L2 o=some res:=by
 have hr:∀ {v:AV} {r:Nat},rowsA v=l->r ∈ rowsA v->L2[r]? = L[r]?:=fun e hm=>by rw [e] at hm;rw [hl _ hm,hw]
 rw [<- hres]
 obtain ⟨dst,op,type,pos,after,guard⟩:=o
 cases op <;> simp only [ZhI,Option.some.injEq,reduceCtorEq] at h
 case load T a =>
  simp only [Zbx]
  unfold loadA
  generalize ρ [] a=v at h
  cases v <;> try rfl
  case ptr r ver i j=>simp only [hr (v:=.ptr r ver i j) (r:=r) h (by simp [rowsA])]
 case indexAddr T x i =>
  simp only [Zbx]
  generalize ρ [] x=v at h
  generalize ρ [] i=n
  unfold ZcN
  cases (P ()).underlying T with
  | none=>rfl
  | some td =>
  cases td <;> cases v <;> cases n <;> try rfl
  case slice.row.int r ver _ _=>simp only [hr (v:=.row r ver) (r:=r) h (by simp [rowsA])]
  case slice.ref.int r ver lo len _ _=>simp only [hr (v:=.ref r ver lo len) (r:=r) h (by simp [rowsA])]
 case slice T x lo hi mx =>
  simp only [Zbx]
  generalize ρ [] x=v at h
  unfold ZhG
  cases (P ()).underlying T with
  | none=>rfl
  | some td =>
  cases td <;> cases v <;> try rfl
  case slice.row r ver=>simp only [hr (v:=.row r ver) (r:=r) h (by simp [rowsA])]
  case slice.ref r ver low len=>simp only [hr (v:=.ref r ver low len) (r:=r) h (by simp [rowsA])]
 case buildSlice T len parts =>
  rw [hres]
  simp only [Zbx] at hres ⊢
  exact Zg4 hres hn
 case call c =>
  have hcalls:∀ call',ZcG P inl call' (ρ []) L c=some res->ZcG P inl call' (ρ []) L2 c=some res:=by
   intro call' hc
   split at h
   ·rename_i hcal hargs
    rename_i x
    simp only [Option.some.injEq] at h
    unfold ZcG at hc ⊢
    simp only [hcal,hargs] at hc ⊢
    cases hT:c.argTypes.toList with
    | nil=>rw [hT] at hc;simp at hc
    | cons T ts =>
     rw [hT] at hc
     simp only at hc ⊢
     rw [<- hc]
     unfold lenA
     generalize ρ [] x=v at h
     cases (P ()).underlying T with
     | none=>rfl
     | some td =>
     cases td <;> cases v <;> try rfl
     case slice.row r ver=>simp only [hr (v:=.row r ver) (r:=r) h (by simp [rowsA])]
     case slice.ref r ver low len=>simp only [hr (v:=.ref r ver low len) (r:=r) h (by simp [rowsA])]
   ·rename_i f hcal
    unfold ZcG at hc ⊢
    rw [hcal] at hc ⊢
    dsimp only at hc ⊢
    split at h
    ·rename_i g first captured hfv
     simp only [Option.some.injEq] at h
     try rw [hfv] at hc
     try simp only at hc
     exact callF_same (fun q hq=>by rw [h] at hq;rw [hl _ hq,hw]) hc hn ho
    ·simp at h
   ·simp at h
  rw [hres]
  simp only [Zbx] at hres ⊢
  split at hres
  ·exact hcalls _ hres
  ·exact hcalls _ hres
theorem callF_lays {L:Heap} {g:FuncId} {args:List AV} {r:SR} (h:Zfy inl call L g args=some r) (hc:(r.calls.all fun c=>c.own&&c.L.isEmpty)=true):∀ L2,r.L'=some L2 -> ∃ news,L2=L++news:=by
 intro L2 hL2
 unfold Zfy at h
 cases hin:inl g with
 | true =>
  simp only [hin,cond_true] at h
  split at h
  ·rename_i rs args' Lc hoi
   split at h
   ·rename_i v o hcall
    split at h
    ·rename_i v' L' hoo
     simp only [Option.some.injEq] at h;subst h
     simp only [List.all_cons,List.all_nil,Bool.and_true,Bool.true_and,List.isEmpty_iff] at hc
     subst hc
     have hrs:rs=[]:=by
      obtain ⟨rows,hrows,_,_,_,_,e⟩:=own_in hoi
      obtain ⟨hlen,_⟩:=ZaK hrows
      have:rows=[]:=by
       cases rows with
       | nil=>rfl
       | cons a l=>simp at e
      subst this
      cases rs with
      | nil=>rfl
      | cons a l=>simp at hlen
     subst hrs
     simp only at hL2
     subst hL2
     unfold ownOut at hoo
     split at hoo
     ·split at hoo
      ·simp at hoo
      ·simp at hoo
     ·dsimp only at hoo
      split at hoo
      ·split at hoo
       ·simp only [Option.some.injEq,Prod.mk.injEq] at hoo
        have e0:∀ xs:List Row,Zep L [] xs=L:=fun xs=>by cases xs <;> rfl
        rw [e0] at hoo
        exact ⟨_,hoo.2.symm⟩
       ·simp at hoo
      ·simp at hoo
    ·simp at h
   ·simp at h
  ·simp at h
 | false =>
  simp only [hin,cond_false] at h
  split at h
  ·split at h
   ·split at h
    ·split at h
     ·simp only [Option.some.injEq] at h;subst h;simp at hL2
     ·simp only [Option.some.injEq] at h;subst h;simp at hL2
     ·simp only [Option.some.injEq] at h;subst h;simp at hc
    ·simp at h
   ·split at h
    ·split at h
     ·split at h
      ·simp only [Option.some.injEq] at h;subst h
       simp only [Option.some.injEq] at hL2
       exact ⟨_,hL2.symm⟩
      ·simp at h
     ·simp at h
    ·simp at h
   ·simp at h
  ·simp at h
theorem stepA_writes {an:Option Ans} {ρ:Zbs->Operand->AV} {L:Heap} {o:Oper} {l:List Nat} {w:Nat} (h:ZdF (ρ []) L o=some l) (hl:∀ r ∈ l,r=w) {r:SR} (hs:Zbx P inl call an ρ L o=some r) (hone:Zfu L o r.L' r.calls=true) :
  ∀ q,q ≠ w -> ∀ L2,r.L'=some L2->L2[q]? = L[q]?:=by
 have add:∀ {q:Nat} {row:Row},l=[L.length]->q ≠ w->(L++[row])[q]? = L[q]?:=by
  intro q row e hq
  subst e
  have:=hl _ (List.mem_singleton.2 rfl)
  rw [List.getElem?_append]
  split
  ·rfl
  ·rename_i hlt
   rw [List.getElem?_eq_none (by simp;omega),List.getElem?_eq_none (by omega)]
 have put:∀ {q k:Nat} {row:Row},k ∈ l->q ≠ w->(L.set k row)[q]? = L[q]?:=by
  intro q k row e hq
  have:=hl _ e
  exact List.getElem?_set_ne (by omega)
 intro q hq L2 hL2
 obtain ⟨dst,op,type,pos,after,guard⟩:=o
 have hbox:∀ {v:AV},l=[L.length]->boxA L v=some r->L2[q]? = L[q]?:=by
  intro v e hb
  unfold boxA at hb
  split at hb
  ·simp only [Option.some.injEq] at hb;subst hb
   simp only [Option.some.injEq] at hL2;subst hL2
   exact add e hq
  ·simp at hb
 cases op <;> simp only [ZdF,Option.some.injEq,reduceCtorEq] at h
 case alloc T =>
  simp only [Zbx] at hs
  split at hs
  ·exact hbox h.symm hs
  ·simp at hs
 case box T x=>exact hbox h.symm hs
 case store T a x =>
  simp only [Zbx] at hs
  unfold ZhE at hs
  split at hs
  ·rename_i k ver i j hv
   rw [hv] at h
   simp only [rowsA] at h
   split at hs
   ·split at hs
    ·split at hs
     ·split at hs
      ·split at hs
       ·simp only [Option.some.injEq] at hs;subst hs
        simp only [Option.some.injEq] at hL2;subst hL2
        exact put (by rw [<- h];exact List.mem_singleton.2 rfl) hq
       ·simp at hs
      ·simp at hs
     ·simp at hs
    ·simp at hs
   ·simp at hs
  ·simp at hs
 case call c =>
  split at h <;> try (simp at h;done)
  rotate_left
  ·rename_i f hcal
   simp only [Option.some.injEq] at h
   have hcalls:∀ call',ZcG P inl call' (ρ []) L c=some r->L2[q]? = L[q]?:=by
    intro call' hs
    unfold ZcG at hs
    rw [hcal] at hs
    dsimp only at hs
    split at hs
    ·rename_i g first captured hfv
     obtain ⟨news,hnews⟩:=callF_lays hs (by
      unfold Zfu at hone
      simp only [hcal,Bool.and_eq_true] at hone
      exact hone.1) L2 hL2
     unfold Zfu at hone
     simp only [hcal,hL2,Bool.and_eq_true] at hone
     have hlen:=Nat.eq_of_beq_eq_true hone.2
     have hw:=hl _ (by rw [<- h];exact List.mem_singleton.2 rfl)
     subst hnews
     rw [List.length_append] at hlen
     rw [List.getElem?_append]
     split
     ·rfl
     ·rename_i hge
      rw [List.getElem?_eq_none (by omega),List.getElem?_eq_none (by omega)]
    ·simp at hs
   simp only [Zbx] at hs
   split at hs
   ·exact hcalls _ hs
   ·exact hcalls _ hs
  rename_i s x hcal hargs
  have happ:∀ T v,Zd4 P L T (ρ [] s) v=some r->L2[q]? = L[q]?:=by
   intro T v hs
   unfold Zd4 at hs
   split at hs <;> try (simp at hs;done)
   split at hs <;> try (simp at hs;done)
   split at hs <;> try (simp at hs;done)
   split at hs <;> try (simp at hs;done)
   split at hs
   ·rename_i hv
    rw [hv] at h
    split at hs
    ·simp only [Option.some.injEq] at hs;subst hs;simp at hL2
    ·simp only [Option.some.injEq] at hs;subst hs
     simp only [Option.some.injEq] at hL2;subst hL2
     exact add (by simpa using h.symm) hq
   ·rename_i hv
    rw [hv] at h
    split at hs
    ·split at hs
     ·simp only [Option.some.injEq] at hs;subst hs;simp at hL2
     ·simp only [Option.some.injEq] at hs;subst hs
      simp only [Option.some.injEq] at hL2;subst hL2
      exact add (by simpa using h.symm) hq
    ·simp at hs
   ·rename_i hv
    rw [hv] at h
    split at hs
    ·split at hs
     ·simp only [Option.some.injEq] at hs;subst hs
      simp only [Option.some.injEq] at hL2;subst hL2
      exact put (by rw [<- Option.some.inj h];exact List.mem_singleton.2 rfl) hq
     ·simp at hs
    ·simp at hs
   ·rename_i hv
    rw [hv] at h
    split at hs
    ·split at hs
     ·split at hs
      ·simp only [Option.some.injEq] at hs;subst hs;simp at hL2
      ·simp only [Option.some.injEq] at hs;subst hs
       simp only [Option.some.injEq] at hL2;subst hL2
       exact put (by rw [<- Option.some.inj h];exact List.mem_singleton.2 rfl) hq
     ·simp at hs
    ·simp at hs
   ·simp at hs
  have hcalls:∀ call',ZcG P inl call' (ρ []) L c=some r->L2[q]? = L[q]?:=by
   intro call' hs
   unfold ZcG at hs
   simp only [hcal,hargs] at hs
   split at hs
   ·rename_i ha1 _
    simp only [List.cons.injEq,and_true] at ha1
    obtain ⟨rfl,rfl⟩:=ha1
    split at hs
    ·exact happ _ _ hs
    ·exact happ _ _ hs
    ·simp at hs
   all_goals first
    | (simp at hs;done)
    | (simp_all;done)
  simp only [Zbx] at hs
  split at hs
  ·exact hcalls _ hs
  ·exact hcalls _ hs
theorem ZeD {ops:Array Oper} {an:Option Ans} {h:Nat} {o:Oper} {env:Env} {L:Heap} {e:Eff} (hg:o.guard=none) :
  ZbQ P inl call ops an h o env L=some e ↔ ∃ r,Zbx P inl call an (fun ex=>ev env (ex++[])) L o=some r/\fits (ev env []) L o h r.L' r.calls=true/\e=⟨[],r.v,r.L',r.asm,r.eqs,r.calls⟩:=by
 unfold ZbQ Zbn
 simp only [hg]
 cases hs:Zbx P inl call an (fun ex=>ev env (ex++[])) L o with
 | none=>simp [Zax]
 | some r =>
  simp only [Option.some.injEq]
  cases hf:fits (ev env []) L o h r.L' r.calls with
  | false=>simp [hf]
  | true=>simp only [Option.some.injEq];exact ⟨fun h=>⟨r,rfl,hf,h.symm⟩,fun ⟨r',h1,_,h2⟩=>by subst h1;exact h2.symm⟩
theorem ZgX {ops:Array Oper} {an:Option Ans} {h:Nat} {o:Oper} {env:Env} {L L2:Heap} {e:Eff} (hg:o.guard=none) (h3:3<=h) (hodd:h % 2=1) (hw:L2[(h-3) / 2]? = L[(h-3) / 2]?) (he:ZbQ P inl call ops an h o env L=some e) :
  ZbQ P inl call ops an h o env L2=some e:=by
 obtain ⟨r,h1,h2,h4⟩:=(ZeD hg).1 he
 refine (ZeD hg).2 ⟨r,?_,?_,h4⟩
 ·match h,h3,h2 with
  | h+3,_,h2 =>
   have hb:Nat.beq ((h+3) % 2) 1=true:=by simpa [Nat.beq_eq] using hodd
   simp only [fits,Zfn,hb,cond_true,Bool.and_eq_true,Option.isNone_iff_eq_none,Bool.not_eq_true',List.any_eq_false] at h2
   obtain ⟨⟨_,h5⟩,h6,h7⟩:=h2
   split at h5
   ·rename_i l hl
    exact stepA_reads (ρ:=fun ex=>ev env (ex++[])) (L:=L) (l:=l) hl (fun r hr=>Nat.eq_of_beq_eq_true (List.all_eq_true.1 h5 r hr)) hw h1 h6 h7
   ·simp at h5
 ·match h,h3,h2 with
  | h+3,_,h2 =>
   have hb:Nat.beq ((h+3) % 2) 1=true:=by simpa [Nat.beq_eq] using hodd
   simp only [fits,Zfn,hb,cond_true] at h2 ⊢
   exact h2
theorem ZfH {ops:Array Oper} {an:Option Ans} {h:Nat} {o:Oper} {env:Env} {L:Heap} {e:Eff} (hg:o.guard=none) (h3:3<=h) (hev:h % 2=0) (he:ZbQ P inl call ops an h o env L=some e) {q:Nat} (hq:q ≠ (h-3) / 2) :
  (e.L'.getD L)[q]? = L[q]?:=by
 obtain ⟨r,h1,h2,rfl⟩:=(ZeD hg).1 he
 match h,h3,h2 with
 | h+3,_,h2 =>
  have hb:Nat.beq ((h+3) % 2) 1=false:=by
   rw [hev];rfl
  simp only [fits,Zfn,hb,cond_false,Bool.and_eq_true] at h2
  obtain ⟨⟨_,h5⟩,h6⟩:=h2
  split at h5
  ·rename_i l hl
   cases hL:r.L' with
   | none=>rfl
   | some L2=>exact stepA_writes (l:=l) hl (fun r hr=>Nat.eq_of_beq_eq_true (List.all_eq_true.1 h5 r hr)) h1 h6 q hq L2 hL
  ·simp at h5
theorem effOp_wait {ops:Array Oper} {an:Option Ans} {o:Oper} {env:Env} {L:Heap} {e:Eff} (row0:Row) (hw:Zg3 o=true) (h:ZbQ P inl call ops an 0 o env L=some e) :
  ZbQ P inl call ops an 0 o env (L++[row0])=some e:=by
 have hg:o.guard=none:=by
  unfold Zg3 at hw
  simp only [Bool.and_eq_true,Option.isNone_iff_eq_none] at hw
  exact hw.1
 unfold ZbQ Zbn at h ⊢
 rw [hg] at h ⊢
 simp only at h ⊢
 split at h
 ·simp [Zax] at h
 ·rename_i r hr
  split at h
  ·simp at h
  ·rename_i hf
   rw [stepA_wait row0 hw hr hf]
   have hf':fits (ev env []) (L++[row0]) o 0 r.L' r.calls=true:=hf
   simp only [hf']
   exact h
theorem effOp_grow {ops:Array Oper} {an:Option Ans} {hot:Nat} {o:Oper} {env:Env} {L:Heap} {e:Eff} (hg:ZgO o=true) (h:ZbQ P inl call ops an hot o env L=some e) :
  e.L'=none \/ ∃ row,e.L'=some (L++[row]):=by
 have hbox:∀ {L:Heap} {v:AV} {r:SR},boxA L v=some r -> ∃ row,r.L'=some (L++[row]):=by
  intro L v r hr
  unfold boxA at hr
  split at hr
  ·simp only [Option.some.injEq] at hr;subst hr;exact ⟨_,rfl⟩
  ·simp at hr
 have hst:∀ {an ρ L r},Zbx P inl call an ρ L o=some r -> ∃ row,r.L'=some (L++[row]):=by
  intro an ρ L r hr
  obtain ⟨dst,op,type,pos,after,guard⟩:=o
  cases op <;> simp [ZgO] at hg
  case alloc T =>
   simp only [Zbx] at hr
   split at hr
   ·exact hbox hr
   ·simp at hr
  case box T x=>exact hbox hr
 unfold ZbQ at h
 split at h
 ·simp at h
 ·simp only [Option.some.injEq] at h;subst h;exact .inl rfl
 ·split at h
  ·split at h
   ·simp at h
   ·simp only [Option.some.injEq] at h;subst h;exact .inl rfl
  ·rename_i r hr
   obtain ⟨row,hrow⟩:=hst hr
   split at h
   ·simp at h
   ·split at h
    ·simp only [Option.some.injEq] at h;subst h;exact .inr ⟨row,hrow⟩
    ·simp only [Option.some.injEq] at h;subst h
     simp only [hrow]
     cases Zax env _ with
     | true=>exact .inr ⟨row,rfl⟩
     | false=>exact .inl rfl
end
end Go.Av

namespace Go.Av
open Go.RowKit
structure RSEq (s s':RS):Prop where
 get:∀ t,s.env.get t=s'.env.get t
 any:∀ d,(s.env.any fun e=>e.2.1.any fun x=>x.1==d)=(s'.env.any fun e=>e.2.1.any fun x=>x.1==d)
 L:s.L=s'.L
 a:∀ b,b ∈ s.asm ↔ b ∈ s'.asm
 q:∀ b,b ∈ s.eqs ↔ b ∈ s'.eqs
 k:∀ b,b ∈ s.calls ↔ b ∈ s'.calls
theorem RSEq.refl (s:RS):RSEq s s:=⟨fun _=>rfl,fun _=>rfl,rfl,fun _ => .rfl,fun _ => .rfl,fun _ => .rfl⟩
theorem RSEq.trans {s s' s'':RS} (h:RSEq s s') (k:RSEq s' s''):RSEq s s'':=
 ⟨fun t=>(h.get t).trans (k.get t),fun t=>(h.any t).trans (k.any t),h.L.trans k.L,fun b=>(h.a b).trans (k.a b),fun b=>(h.q b).trans (k.q b),fun b=>(h.k b).trans (k.k b)⟩
section
variable {P:Unit->Program} {inl:FuncId->Bool} {call:Za6} {n:Nat} {ops:Array Oper} {ans:Nat->Option Ans} {hot:Nat->Nat}
theorem Zc5 {env env':Env} (h:∀ t,env.get t=env'.get t) (c:Zbs):Zax env c=Zax env' c:=by
 induction c with
 | nil=>rfl
 | cons x c ih=>simp only [Zax,h,ih]
theorem effOp_congr {an:Option Ans} {hot:Nat} {o:Oper} {env env':Env} {L:Heap} (h:∀ t,env.get t=env'.get t) :
  ZbQ P inl call ops an hot o env L=ZbQ P inl call ops an hot o env' L:=by
 have h1:Zbn ops env o=Zbn ops env' o:=by unfold Zbn;simp only [h]
 have h2:∀ c,ev env c=ev env' c:=by
  intro c;funext x
  cases x <;> simp only [ev,h]
 unfold ZbQ
 simp only [h1,h2,Zc5 h]
theorem Zf1 {d:Nat} {c:Zbs} {v:AV} {env e1:Env} (h:putE n (some d) c v env=some e1):d<n/\noD d c=true/\(env.any fun e=>e.2.1.any fun x=>x.1==d)=false/\e1=(d,c,v)::env:=by
 unfold putE at h
 simp only at h
 split at h
 ·rename_i h1
  simp only [Option.some.injEq] at h
  obtain ⟨h2,h3⟩:=h1
  simp only [List.any_cons,Bool.or_eq_false_iff] at h3
  exact ⟨h2,by simpa [noD] using h3.1,h3.2,h.symm⟩
 ·simp at h
theorem putE_mk {d:Nat} {c:Zbs} {v:AV} {env:Env} (h1:d<n) (h2:noD d c=true) (h3:(env.any fun e=>e.2.1.any fun x=>x.1==d)=false) :
  putE n (some d) c v env=some ((d,c,v)::env):=by
 have h2':(c.any fun x=>x.1==d)=false:=by simpa [noD] using h2
 unfold putE
 simp only
 rw [if_pos ⟨h1,by simp only [List.any_cons,h2',h3,Bool.or_self]⟩]
theorem putE_congr {d:Option Tmp} {c:Zbs} {v:AV} {env env' e1:Env} (hg:∀ t,env.get t=env'.get t)
  (ha:∀ d,(env.any fun e=>e.2.1.any fun x=>x.1==d)=(env'.any fun e=>e.2.1.any fun x=>x.1==d)) (h:putE n d c v env=some e1) :
  ∃ e2,putE n d c v env'=some e2/\(∀ t,e1.get t=e2.get t)/\(∀ d,(e1.any fun e=>e.2.1.any fun x=>x.1==d)=(e2.any fun e=>e.2.1.any fun x=>x.1==d)):=by
 cases d with
 | none =>
  simp only [putE,Option.some.injEq] at h;subst h
  exact ⟨env',rfl,hg,ha⟩
 | some d =>
  obtain ⟨h1,h2,h3,rfl⟩:=Zf1 h
  refine ⟨_,putE_mk h1 h2 (by rw [<- ha];exact h3),fun t => ?_,fun d => ?_⟩
  ·simp only [Env.get,hg]
  ·simp only [List.any_cons,ha]
theorem ZdN:∀ (l:List Nat) {s s' t:RS},RSEq s s'->ZaJ P inl call n ops ans hot l s=some t -> ∃ t',ZaJ P inl call n ops ans hot l s'=some t'/\RSEq t t'
 | [],s,s',t,h,hr=>by
  simp only [ZaJ,Option.some.injEq] at hr;subst hr
  exact ⟨s',rfl,h⟩
 | i::rest,s,s',t,h,hr=>by
  simp only [ZaJ] at hr ⊢
  cases ho:ops[i]? with
  | none=>rw [ho] at hr;exact ZdN rest h hr
  | some o =>
   rw [ho] at hr
   simp only at hr ⊢
   cases h1:Zb1 P inl call n ops (ans i) (hot i) o s with
   | none=>rw [h1] at hr;simp at hr
   | some s1 =>
    rw [h1] at hr
    obtain ⟨e,env,k1,k2,rfl⟩:=Zdb.1 h1
    rw [effOp_congr h.get,h.L] at k1
    obtain ⟨env2,m1,m2,m3⟩:=putE_congr h.get h.any k2
    have h2:Zb1 P inl call n ops (ans i) (hot i) o s'=some ⟨env2,e.L'.getD s'.L,s'.asm++e.a,s'.eqs++e.q,s'.calls++e.k⟩:=Zdb.2 ⟨e,env2,k1,m1,rfl⟩
    rw [h2]
    exact ZdN rest ⟨m2,m3,by simp only [h.L],fun b=>by simp [h.a],fun b=>by simp [h.q],fun b=>by simp [h.k]⟩ hr
theorem ZgY {an:Option Ans} {hot:Nat} {o:Oper} {env e1:Env} {L:Heap} {d:Option Tmp} {c0:Zbs} {v:AV} (hd:∀ t,d=some t->t ∉ o.looksAt ops) (hp:putE n d c0 v env=some e1) :
  ZbQ P inl call ops an hot o e1 L=ZbQ P inl call ops an hot o env L /\ ∀ e t,d=some t->ZbQ P inl call ops an hot o env L=some e->noD t e.c=true:=by
 cases d with
 | none=>simp only [putE,Option.some.injEq] at hp;subst hp;exact ⟨rfl,by simp⟩
 | some d =>
  obtain ⟨_,h2,h3,rfl⟩:=Zf1 hp
  obtain ⟨k1,k2⟩:=effOp_cons (P:=P) (inl:=inl) (call:=call) (an:=an) (hot:=hot) (L:=L) (c0:=c0) (v:=v) (hd d rfl) (get_any h3)
  exact ⟨k1,fun e t ht he=>by cases ht;exact k2 e he⟩
theorem putE_swap {di dj:Option Tmp} {ci cj:Zbs} {vi vj:AV} {env e1 e2:Env} (hne:∀ t,di=some t->dj ≠ some t) (h1:putE n di ci vi env=some e1) (h2:putE n dj cj vj e1=some e2)
  (hij:∀ t,di=some t->noD t cj=true) :
  ∃ f1 f2,putE n dj cj vj env=some f1/\putE n di ci vi f1=some f2/\(∀ t,e2.get t=f2.get t)/\(∀ d,(e2.any fun e=>e.2.1.any fun x=>x.1==d)=(f2.any fun e=>e.2.1.any fun x=>x.1==d)):=by
 cases di with
 | none =>
  simp only [putE,Option.some.injEq] at h1;subst h1
  exact ⟨e2,e2,h2,rfl,fun _=>rfl,fun _=>rfl⟩
 | some i =>
  cases dj with
  | none =>
   simp only [putE,Option.some.injEq] at h2;subst h2
   exact ⟨env,e1,rfl,h1,fun _=>rfl,fun _=>rfl⟩
  | some j =>
   have hij':i ≠ j:=fun e=>hne i rfl (by rw [e])
   obtain ⟨a1,a2,a3,rfl⟩:=Zf1 h1
   obtain ⟨b1,b2,b3,rfl⟩:=Zf1 h2
   simp only [List.any_cons,Bool.or_eq_false_iff] at b3
   have hic:=hij i rfl
   refine ⟨_,_,putE_mk b1 b2 b3.2,putE_mk a1 a2 ?_,fun t => ?_,fun d => ?_⟩
   ·have:(cj.any fun x=>x.1==i)=false:=by simpa [noD] using hic
    simp only [List.any_cons,this,a3,Bool.or_self]
   ·simp only [Env.get]
    by_cases e1:j=t
    ·subst e1
     have:(i==j)=false:=by simpa using hij'
     simp [this]
    ·have:(j==t)=false:=by simpa using e1
     simp [this]
   ·simp only [List.any_cons]
    generalize (cj.any fun x=>x.1==d)=A
    generalize (ci.any fun x=>x.1==d)=B
    generalize (env.any fun e=>e.2.1.any fun x=>x.1==d)=C
    cases A <;> cases B <;> cases C <;> rfl
theorem swap_two {i j:Nat} {oi oj:Oper} {s s1 s2:RS} (hm:Zdq hot ops i j oi oj=true) (h1:Zb1 P inl call n ops (ans i) (hot i) oi s=some s1) (h2:Zb1 P inl call n ops (ans j) (hot j) oj s1=some s2) :
  ∃ t1 t2,Zb1 P inl call n ops (ans j) (hot j) oj s=some t1/\Zb1 P inl call n ops (ans i) (hot i) oi t1=some t2/\RSEq s2 t2:=by
 unfold Zdq at hm
 simp only [Bool.and_eq_true,Bool.or_eq_true] at hm
 obtain ⟨hap,hAB⟩:=hm
 obtain ⟨ap1,ap2,ap3⟩:=Oper.apart_spec hap
 obtain ⟨ei,env1,a1,a2,rfl⟩:=Zdb.1 h1
 obtain ⟨ej,env2,b1,b2,rfl⟩:=Zdb.1 h2
 simp only at b1 b2
 obtain ⟨c1,c2⟩:=ZgY (P:=P) (inl:=inl) (call:=call) (an:=ans j) (hot:=hot j) (o:=oj) (L:=ei.L'.getD s.L) ap1 a2
 rw [c1] at b1
 obtain ⟨f1,f2,p1,p2,p3,p4⟩:=putE_swap ap2 a2 b2 (fun t ht=>c2 ej t ht b1)
 have key:ZbQ P inl call ops (ans j) (hot j) oj s.env s.L=some ej/\ZbQ P inl call ops (ans i) (hot i) oi s.env (ej.L'.getD s.L)=some ei/\ej.L'.getD (ei.L'.getD s.L)=ei.L'.getD (ej.L'.getD s.L):=by
  rcases hAB with ⟨hA,hB⟩ | ⟨hR,hgi,hgj⟩
  rotate_left
  ·have hgi:oi.guard=none:=by simpa using hgi
   have hgj:oj.guard=none:=by simpa using hgj
   simp only [rowSwap,Bool.and_eq_true,Nat.ble_eq,Nat.beq_eq,Bool.not_eq_true',<- Bool.not_eq_true] at hR
   obtain ⟨⟨⟨r1,r2⟩,r3⟩,r4⟩:=hR
   rcases Nat.mod_two_eq_zero_or_one (hot i) with hi | hi
   ·have hj:hot j % 2=1:=by omega
    have hjn:=Zel (by simp [cool,Nat.blt_eq,Nat.ble_eq,r2,hj]) b1
    have:=ZgX (L2:=s.L) hgj r2 hj (ZfH hgi r1 hi a1 (Ne.symm r4)).symm b1
    exact ⟨this,by rw [hjn];exact a1,by rw [hjn];rfl⟩
   ·have hj:hot j % 2=0:=by omega
    have hin:=Zel (by simp [cool,Nat.blt_eq,Nat.ble_eq,r1,hi]) a1
    rw [hin] at b1
    simp only [Option.getD_none] at b1
    exact ⟨b1,ZgX hgi r1 hi (ZfH hgj r2 hj b1 r4) a1,by rw [hin];rfl⟩
  rcases hA with hA | hA
  ·have hi:=Zel hA a1
   rw [hi] at b1
   simp only [Option.getD_none] at b1
   refine ⟨b1,?_,by rw [hi];rfl⟩
   rcases hB with (hB | hB) | hB
   ·rw [Zel hB b1];exact a1
   ·rw [(Zfw hB).1 s.L];exact a1
   ·obtain ⟨g1,g2,g3⟩:=hB
    have g3:hot i=0:=Nat.eq_of_beq_eq_true g3
    rw [g3] at a1 ⊢
    rcases effOp_grow g1 b1 with h | ⟨row,h⟩
    ·rw [h];exact a1
    ·rw [h];exact effOp_wait row g2 a1
  ·have hj:=(Zfw hA).2 ej b1
   rw [(Zfw hA).1 s.L] at b1
   exact ⟨b1,by rw [hj];exact a1,by rw [hj];rfl⟩
 obtain ⟨k1,k2,k3⟩:=key
 have q1:Zb1 P inl call n ops (ans j) (hot j) oj s=some ⟨f1,ej.L'.getD s.L,s.asm++ej.a,s.eqs++ej.q,s.calls++ej.k⟩:=Zdb.2 ⟨ej,f1,k1,p1,rfl⟩
 refine ⟨_,_,q1,Zdb.2 ⟨ei,f2,?_,p2,rfl⟩,p3,p4,k3,fun b => ?_,fun b => ?_,fun b => ?_⟩
 ·obtain ⟨d1,_⟩:=ZgY (P:=P) (inl:=inl) (call:=call) (an:=ans i) (hot:=hot i) (o:=oi) (L:=ej.L'.getD s.L) ap3 p1
  rw [d1];exact k2
 ·simp only [List.mem_append];constructor <;> (intro h;rcases h with (h | h) | h <;> simp [h])
 ·simp only [List.mem_append];constructor <;> (intro h;rcases h with (h | h) | h <;> simp [h])
 ·simp only [List.mem_append];constructor <;> (intro h;rcases h with (h | h) | h <;> simp [h])
theorem bubble {j:Nat} {oj:Oper} (hj:ops[j]? = some oj):∀ (l1 l2:List Nat) {s t:RS},(∀ i ∈ l1,∃ oi,ops[i]? = some oi/\Zdq hot ops i j oi oj=true) ->
  ZaJ P inl call n ops ans hot (l1++j::l2) s=some t -> ∃ t',ZaJ P inl call n ops ans hot (j::(l1++l2)) s=some t'/\RSEq t t'
 | [],l2,s,t,_,h=>⟨t,h,RSEq.refl t⟩
 | i::l1,l2,s,t,hall,h=>by
  obtain ⟨oi,hoi,hm⟩:=hall i (List.mem_cons_self ..)
  simp only [List.cons_append,ZaJ,hoi] at h
  cases h1:Zb1 P inl call n ops (ans i) (hot i) oi s with
  | none=>rw [h1] at h;simp at h
  | some s1 =>
   rw [h1] at h
   obtain ⟨t',k1,k2⟩:=bubble hj l1 l2 (fun i hi=>hall i (List.mem_cons_of_mem _ hi)) h
   simp only [ZaJ,hj] at k1
   cases h2:Zb1 P inl call n ops (ans j) (hot j) oj s1 with
   | none=>rw [h2] at k1;simp at k1
   | some s2 =>
    rw [h2] at k1
    obtain ⟨t1,t2,m1,m2,m3⟩:=swap_two hm h1 h2
    obtain ⟨t'',n1,n2⟩:=ZdN _ m3 k1
    refine ⟨t'',?_,k2.trans n2⟩
    simp only [List.cons_append,ZaJ,hj,hoi,m1,m2]
    exact n1
end
theorem TRel.congr {S:St} {env env':Env} {tm:Array Value} (h:∀ t,env.get t=env'.get t) (hT:TRel S env tm):TRel S env' tm:=by
 have hc:∀ {c:Zbs},ChainOk env c->ChainOk env' c:=by
  intro c hc
  induction hc with
  | nil=>exact .nil
  | cons d w b hb _ ih =>
   have:=ChainOk.cons (env:=env') d w b (by rw [<- h];exact hb) (by rw [<- h];exact ih)
   rwa [<- h] at this
 refine ⟨fun t => ?_,fun t ht => ?_,fun t ht => ?_⟩
 ·rw [<- h];exact hc (hT.chain t)
 ·rw [<- h] at ht ⊢;rw [<- Zc5 h] at ht;exact hT.yes t ht
 ·rw [<- h,<- Zc5 h] at ht;exact hT.no t ht
section
variable {M:Mach} {call:Za6} {n:Nat} {ops:Array Oper} {ans:Nat->Option Ans} {hot:Nat->Nat} {Q:Exit->Act->World->Prop}
theorem Zd5:∀ (l:List Nat) {s sf:RS} {S:St} {a:Act},ZaJ M.P M.inl call n ops ans hot l s=some sf ->
  (∀ b ∈ sf.asm,b=true)->(∀ q ∈ sf.eqs,q)->(∀ c ∈ sf.calls,c.cond=true->Zdv M c) ->
  HeapOk S->S.L=s.L->TRel S s.env a.tmps->n<=a.tmps.size ->
  (∀ S' a',HeapOk S'->Ext S S'->S'.L=sf.L->TRel S' sf.env a'.tmps->a'.tmps.size=a.tmps.size->a'.defers=a.defers->Q .normal a' S'.w) ->
  wpOps (M.P ()) ops Q l a S.w
 | [],s,sf,S,a,h,_,_,_,hS,hL,hT,_,hK=>by
  simp only [ZaJ,Option.some.injEq] at h;subst h
  exact hK S a hS (Ext.refl S) hL hT rfl rfl
 | i::rest,s,sf,S,a,h,hA,hQ,hC,hS,hL,hT,hn,hK=>by
  rw [wpOps_cons]
  simp only [ZaJ] at h
  cases ho:ops[i]? with
  | none =>
   rw [ho] at h
   unfold wpOp
   simp only [ho]
   exact Zd5 rest h hA hQ hC hS hL hT hn hK
  | some o =>
   rw [ho] at h
   simp only at h
   cases h1:Zb1 M.P M.inl call n ops (ans i) (hot i) o s with
   | none=>rw [h1] at h;simp at h
   | some s1 =>
    rw [h1] at h
    simp only at h
    obtain ⟨env,L,x,y,z,rfl,_⟩:=Zbo _ h
    refine Zef hS hL hT hn ho h1 (fun b hb=>hA b (by simp [hb])) (fun b hb=>hQ b (by simp [hb])) (fun b hb=>hC b (by simp [hb])) fun S' a' k1 k2 k3 k4 k5 k6 => ?_
    exact Zd5 rest h hA hQ hC k1 k3 k4 (by rw [k5];exact hn) fun S'' a'' m1 m2 m3 m4 m5 m6=>hK S'' a'' m1 (k2.trans m2) m3 m4 (m5.trans k5) (m6.trans k6)
theorem ZdO {listed:Array Bool} (hcl:∀ (j:Nat) (o:Oper),ops[j]? = some o->listed.getD j false=true -> ∀ e ∈ o.after,Region.binds .any e=true->listed.getD e.on false=true) (i:Nat) :
  ∀ (fuel j:Nat),(∀ o,ops[j]? = some o -> ∀ e ∈ o.after,Region.binds .any e=true->listed.getD e.on false=true)->Zhg ops i fuel j=true->listed.getD i false=true
 | 0,j,_,h=>by simp [Zhg] at h
 | fuel+1,j,hj,h=>by
  simp only [Zhg] at h
  cases ho:ops[j]? with
  | none=>rw [ho] at h;simp at h
  | some o =>
   rw [ho] at h
   obtain ⟨e,he,hb⟩:=List.any_eq_true.1 h
   have he:e ∈ o.after:=by simpa using he
   simp only [Bool.and_eq_true,Bool.or_eq_true,beq_iff_eq] at hb
   have h1:=hj o ho e he hb.1
   rcases hb.2 with h2 | h2
   ·rw [<- h2];exact h1
   ·exact ZdO hcl i fuel e.on (fun o' ho'=>hcl e.on o' ho' h1) h2
theorem Zfb {a:Array Bool} {i:Nat} (h:i<a.size) (d d':Bool):a.getD i d=a.getD i d':=by
 simp [h]
theorem draw_sound (hd:Zh0 hot ops=true):∀ (fuel:Nat) (listed:Array Bool) (rest:List Nat) {s sf:RS} {S:St} {a:Act},listed.size=ops.size->rest.Pairwise (· < ·) ->
  (∀ i,i ∈ rest ↔ i<ops.size/\listed.getD i true=false) ->
  (∀ (j:Nat) (o:Oper),ops[j]? = some o->listed.getD j false=true -> ∀ e ∈ o.after,Region.binds .any e=true->listed.getD e.on false=true)->rest.length<=fuel ->
  ZaJ M.P M.inl call n ops ans hot rest s=some sf->(∀ b ∈ sf.asm,b=true)->(∀ q ∈ sf.eqs,q)->(∀ c ∈ sf.calls,c.cond=true->Zdv M c) ->
  HeapOk S->S.L=s.L->TRel S s.env a.tmps->n<=a.tmps.size ->
  (∀ S' a',HeapOk S'->Ext S S'->S'.L=sf.L->TRel S' sf.env a'.tmps->a'.tmps.size=a.tmps.size->a'.defers=a.defers->Q .normal a' S'.w) ->
  wpAny (M.P ()) .any ops Q fuel listed a S.w:=by
 unfold Zh0 at hd
 simp only [Bool.and_eq_true,List.all_eq_true,List.mem_range] at hd
 obtain ⟨hedges,hswap⟩:=hd
 have hedge:∀ (j:Nat) (o:Oper),ops[j]? = some o -> ∀ e ∈ o.after,Region.binds .any e=true->e.on<j:=by
  intro j o ho e he hb
  unfold edgesOk at hedges
  simp only [List.all_eq_true,List.mem_range] at hedges
  have:=hedges j (Array.getElem?_eq_some_iff.1 ho).1
  rw [ho] at this
  have:=List.all_eq_true.1 this e (by simpa using he)
  simpa [hb,Nat.blt_eq] using this
 have none_ready:∀ (listed:Array Bool) (rest:List Nat),listed.size=ops.size->rest.Pairwise (· < ·)->(∀ i,i ∈ rest ↔ i<ops.size/\listed.getD i true=false) ->
   Region.ready .any ops listed=[]->rest=[]:=by
  intro listed rest hsz hp hr hnil
  cases rest with
  | nil=>rfl
  | cons j rest =>
   exfalso
   obtain ⟨h1,h2⟩:=(hr j).1 (List.mem_cons_self ..)
   have:j ∈ Region.ready .any ops listed:=by
    refine mem_ready.2 ⟨h2,ops[j],Array.getElem?_eq_getElem h1,fun e he hb => ?_⟩
    have hlt:=hedge j _ (Array.getElem?_eq_getElem h1) e he hb
    have hes:e.on<listed.size:=by omega
    cases hl:listed.getD e.on true with
    | true=>rw [Zfb hes false true];exact hl
    | false =>
     have:=(hr e.on).2 ⟨by omega,hl⟩
     rcases List.mem_cons.1 this with h | h
     ·omega
     ·have:=(List.pairwise_cons.1 hp).1 _ h
      omega
   rw [hnil] at this
   cases this
 intro fuel
 induction fuel with
 | zero =>
  intro listed rest s sf S a hsz hp hr hcl hlen h hA hQ hC hS hL hT hn hK
  have:rest=[]:=List.length_eq_zero_iff.1 (Nat.le_zero.1 hlen)
  subst this
  simp only [ZaJ,Option.some.injEq] at h;subst h
  refine ⟨?_,hK S a hS (Ext.refl S) hL hT rfl rfl⟩
  apply List.eq_nil_iff_forall_not_mem.2
  intro j hj
  obtain ⟨h1,o,h2,_⟩:=mem_ready.1 hj
  have:=(hr j).2 ⟨(Array.getElem?_eq_some_iff.1 h2).1,h1⟩
  cases this
 | succ fuel ih =>
  intro listed rest s sf S a hsz hp hr hcl hlen h hA hQ hC hS hL hT hn hK
  refine ⟨fun hnil => ?_,fun j hj => ?_⟩
  ·have:=none_ready listed rest hsz hp hr hnil
   subst this
   simp only [ZaJ,Option.some.injEq] at h;subst h
   exact hK S a hS (Ext.refl S) hL hT rfl rfl
  ·obtain ⟨h1,oj,hoj,hall⟩:=mem_ready.1 hj
   have hjlt:=(Array.getElem?_eq_some_iff.1 hoj).1
   have hjr:=(hr j).2 ⟨hjlt,h1⟩
   obtain ⟨l1,l2,rfl⟩:=List.append_of_mem hjr
   have hlt:∀ i ∈ l1,i<j:=fun i hi=>(List.pairwise_append.1 hp).2.2 i hi j (List.mem_cons_self ..)
   obtain ⟨sf',k1,k2⟩:=bubble hoj l1 l2 (fun i hi=>by
    obtain ⟨i1,i2⟩:=(hr i).1 (List.mem_append_left _ hi)
    refine ⟨ops[i],Array.getElem?_eq_getElem i1,?_⟩
    have:=hswap j hjlt i (hlt i hi)
    rw [Array.getElem?_eq_getElem i1,hoj] at this
    simp only [Bool.or_eq_true] at this
    rcases this with this | this
    ·exact this
    ·have:=ZdO hcl i ops.size j (fun o ho=>by rw [hoj] at ho;cases ho;exact hall) this
     rw [Zfb (by omega) false true,i2] at this
     cases this) h
   simp only [ZaJ,hoj] at k1
   cases h2:Zb1 M.P M.inl call n ops (ans j) (hot j) oj s with
   | none=>rw [h2] at k1;simp at k1
   | some s1 =>
    rw [h2] at k1
    simp only at k1
    obtain ⟨env,L,x,y,z,he,_⟩:=Zbo _ k1
    have hA':∀ b ∈ sf'.asm,b=true:=fun b hb=>hA b ((k2.a b).2 hb)
    have hQ':∀ b ∈ sf'.eqs,b:=fun b hb=>hQ b ((k2.q b).2 hb)
    have hC':∀ c ∈ sf'.calls,c.cond=true->Zdv M c:=fun b hb=>hC b ((k2.k b).2 hb)
    refine Zef hS hL hT hn hoj h2 (fun b hb=>hA' b (by rw [he];simp [hb])) (fun b hb=>hQ' b (by rw [he];simp [hb])) (fun b hb=>hC' b (by rw [he];simp [hb])) fun S' a' m1 m2 m3 m4 m5 m6 => ?_
    refine ih (listed.setIfInBounds j true) (l1++l2) (by simpa using hsz) ?_ (fun i => ?_) (fun k o ho hk e he hb => ?_) ?_ k1 hA' hQ' hC' m1 m3 m4 (by rw [m5];exact hn) fun S'' a'' q1 q2 q3 q4 q5 q6 => ?_
    ·exact hp.sublist (List.Sublist.append (List.Sublist.refl _) (List.sublist_cons_self _ _))
    ·by_cases e:j=i
     ·subst e
      constructor
      ·intro hm
       exfalso
       rcases List.mem_append.1 hm with hm | hm
       ·exact Nat.lt_irrefl _ (hlt _ hm)
       ·exact Nat.lt_irrefl _ ((List.pairwise_cons.1 (List.pairwise_append.1 hp).2.1).1 _ hm)
      ·rintro ⟨_,hm⟩
       simp [show j<listed.size by omega] at hm
     ·rw [getD_set_ne true e,<- hr]
      simp only [List.mem_append,List.mem_cons]
      constructor
      ·rintro (h | h)
       ·exact .inl h
       ·exact .inr (.inr h)
      ·rintro (h | h | h)
       ·exact .inl h
       ·exact absurd h.symm e
       ·exact .inr h
    ·by_cases e':j=k
     ·subst e'
      rw [hoj] at ho;cases ho
      exact getD_set_true (hall e he hb)
     ·rw [getD_set_ne false e'] at hk
      exact getD_set_true (hcl k o ho hk e he hb)
    ·simp only [List.length_append,List.length_cons] at hlen ⊢
     omega
    ·exact hK S'' a'' q1 (m2.trans q2) (q3.trans k2.L.symm) (q4.congr fun t=>(k2.get t).symm) (q5.trans m5) (q6.trans m6)
end
end Go.Av

namespace Go.Av
open Go.RowKit
theorem accOf_sub {S:St} (hS:HeapOk S) {rs:List Nat} {b off:Nat} (h:ZcZ S rs b off):S.acc b off:=by
 rcases h with h | ⟨r,info,_,h2,rfl⟩ | h
 ·exact hS.anew b off h
 ·exact hS.acq r info off h2
 ·exact h.1
theorem perm_ok {S0 S:St} (hS:HeapOk S) (_h0:HeapOk S0) (he:Ext S0 S) {rs:List Nat} {rows:List Row} (hrows:ZaQ S.L rs=some rows) (hnd:rs.Nodup) (hcl:∀ row ∈ rows,∀ r ∈ ZaV row,r ∈ rs)
  (hid:∀ r,r<S0.L.length->rs[r]? = some r) :
  HeapOk ⟨S.base,S.acc,rows.map (Zau (ZaF rs)),subβ S.β rs,S.w⟩/\Ext S0 ⟨S.base,S.acc,rows.map (Zau (ZaF rs)),subβ S.β rs,S.w⟩ /\
  ∀ a v,Rel S a v->(∀ r ∈ rowsA a,r ∈ rs)->Rel ⟨S.base,S.acc,rows.map (Zau (ZaF rs)),subβ S.β rs,S.w⟩ (renA (ZaF rs) a) v:=by
 obtain ⟨k1,k2,k3⟩:=sub_ok hS hrows hnd hcl
 obtain ⟨hl,hg⟩:=ZaK hrows
 have himm:∀ b off,Imm ⟨S.base,ZcZ S rs,rows.map (Zau (ZaF rs)),subβ S.β rs,S.w⟩ b off->Imm ⟨S.base,S.acc,rows.map (Zau (ZaF rs)),subβ S.β rs,S.w⟩ b off:=
  fun b off h=>⟨accOf_sub hS h.1,h.2⟩
 have hd:∀ a v,DRel ⟨S.base,ZcZ S rs,rows.map (Zau (ZaF rs)),subβ S.β rs,S.w⟩ a v->DRel ⟨S.base,S.acc,rows.map (Zau (ZaF rs)),subβ S.β rs,S.w⟩ a v:=
  fun a v h=>DRel.shift (S:=⟨S.base,ZcZ S rs,rows.map (Zau (ZaF rs)),subβ S.β rs,S.w⟩) (S':=⟨S.base,S.acc,rows.map (Zau (ZaF rs)),subβ S.β rs,S.w⟩) rfl (fun b off hi _=>himm b off hi) h
 have hr:∀ a v,Rel ⟨S.base,ZcZ S rs,rows.map (Zau (ZaF rs)),subβ S.β rs,S.w⟩ a v->Rel ⟨S.base,S.acc,rows.map (Zau (ZaF rs)),subβ S.β rs,S.w⟩ a v:=by
  intro a v h
  have:=ren_rel (f:=fun r=>r) (D:=fun _=>True) (S:=⟨S.base,ZcZ S rs,rows.map (Zau (ZaF rs)),subβ S.β rs,S.w⟩) (S':=⟨S.base,S.acc,rows.map (Zau (ZaF rs)),subβ S.β rs,S.w⟩)
   (fun r row info _ h1 h2=>⟨row,h1,h2,rfl,rfl⟩) hd h (fun _ _=>trivial)
  rwa [renA_id] at this
 refine ⟨⟨k1.base,k1.len,k1.blk,k1.inj,k1.cells,k1.elems,fun r row info i x k c cv h1 h2 h3 h4 h5=>hr _ _ (k1.rel r row info i x k c cv h1 h2 h3 h4 h5),
  fun r row info i x k c cv h1 h2 h3 h4 h5 h6=>hd _ _ (k1.clean r row info i x k c cv h1 h2 h3 h4 h5 h6),fun r info off h=>accOf_sub hS (k1.acq r info off h),hS.anew⟩,?_,fun a v h h'=>hr _ _ (k3 a v h h')⟩
 refine ⟨he.base,he.acc,fun b off hi hb => ?_,fun r row info h1 h2 => ?_,he.below,fun r info' h => ?_,he.other⟩
 ·obtain ⟨m1,m2⟩:=he.imm b off hi hb
  exact ⟨himm b off (k2 b off m1),m2⟩
 ·obtain ⟨row',info',m1,m2,m3,m4⟩:=he.rows r row info h1 h2
  have hrs:=hid r (List.getElem?_eq_some_iff.1 h1).1
  obtain ⟨row1,n1,n2⟩:=hg r r hrs
  rw [m1] at n1
  simp only [Option.some.injEq] at n1;subst n1
  obtain ⟨_,s2,_,_,s5⟩:=ZaW (ZaF rs) row'
  refine ⟨Zau (ZaF rs) row',info',by show (rows.map _)[r]? = _;rw [List.getElem?_map,n2];rfl,?_,by rw [s2];exact m3,by rw [s2,s5];exact m4⟩
  show (subβ S.β rs)[r]? = _
  unfold subβ
  rw [List.getElem?_map,hrs]
  have hlt:r<S.β.length:=Zaq m2
  have h3:=(List.getElem?_eq_some_iff.1 m2).2
  simp [hlt,h3]
 ·unfold subβ at h
  simp only at h
  rw [List.getElem?_map] at h
  obtain ⟨q,q1,q2⟩:=Option.map_eq_some_iff.1 h
  obtain ⟨row,n1,_⟩:=hg r q q1
  have hlt:q<S.β.length:=by rw [<- hS.len];exact Zaq n1
  have:S.β[q]? = some info':=by rw [<- q2];simp [hlt]
  exact he.fresh q info' this
theorem sw_def (p i:Nat):sw p i=if i=p then p+1 else if i=p+1 then p else i:=by
 unfold sw
 by_cases h1:i=p
 ·have:Nat.beq i p=true:=Nat.beq_eq.mpr h1
  rw [this,if_pos h1];rfl
 ·have e1:Nat.beq i p=false:=by
   cases h:Nat.beq i p with
   | false=>rfl
   | true=>exact absurd (Nat.beq_eq.mp h) h1
  rw [e1,if_neg h1]
  by_cases h2:i=p+1
  ·have:Nat.beq i (p+1)=true:=Nat.beq_eq.mpr h2
   rw [this,if_pos h2];rfl
  ·have e2:Nat.beq i (p+1)=false:=by
    cases h:Nat.beq i (p+1) with
    | false=>rfl
    | true=>exact absurd (Nat.beq_eq.mp h) h2
   rw [e2,if_neg h2];rfl
theorem sw_l (p:Nat):sw p p=p+1:=by simp [sw_def]
theorem sw_r (p:Nat):sw p (p+1)=p:=by simp [sw_def]
theorem sw_sw (p i:Nat):sw p (sw p i)=i:=by
 simp only [sw_def]
 split <;> (try split) <;> (try split) <;> omega
theorem sw_lt {p i n:Nat} (hp:p+1<n):sw p i<n ↔ i<n:=by
 simp only [sw_def]
 split
 ·omega
 ·split <;> omega
section
variable {M:Mach} {call:Za6} {n:Nat} {ops:Array Oper} {ans:Nat->Option Ans} {hot:Nat->Nat} {Q:Exit->Act->World->Prop}
structure Left (M:Mach) (call:Za6) (n:Nat) (ops:Array Oper) (ans:Nat->Option Ans) (hot:Nat->Nat) (R:Nat->Nat->Prop) (listed:Array Bool) (rest:List Nat) (s sf:RS):Prop where
 size:listed.size=ops.size
 pw:rest.Pairwise R
 mem:∀ i,i ∈ rest ↔ i<ops.size/\listed.getD i true=false
 closed:∀ (j:Nat) (o:Oper),ops[j]? = some o->listed.getD j false=true -> ∀ e ∈ o.after,Region.binds .any e=true->listed.getD e.on false=true
 run:ZaJ M.P M.inl call n ops ans hot rest s=some sf
theorem Left.none {R:Nat->Nat->Prop} {listed:Array Bool} {rest:List Nat} {s sf:RS} (h:Left M call n ops ans hot R listed rest s sf)
  (hedge:∀ (j:Nat) (o:Oper),ops[j]? = some o -> ∀ e ∈ o.after,Region.binds .any e=true->e.on<j/\¬R j e.on) (hnil:Region.ready .any ops listed=[]):rest=[]:=by
 obtain ⟨hsz,hp,hr,_,_⟩:=h
 cases rest with
 | nil=>rfl
 | cons j rest =>
  exfalso
  obtain ⟨h1,h2⟩:=(hr j).1 (List.mem_cons_self ..)
  have:j ∈ Region.ready .any ops listed:=by
   refine mem_ready.2 ⟨h2,ops[j],Array.getElem?_eq_getElem h1,fun e he hb => ?_⟩
   obtain ⟨hlt,hnR⟩:=hedge j _ (Array.getElem?_eq_getElem h1) e he hb
   have hes:e.on<listed.size:=by omega
   cases hl:listed.getD e.on true with
   | true=>rw [Zfb hes false true];exact hl
   | false =>
    have:=(hr e.on).2 ⟨by omega,hl⟩
    rcases List.mem_cons.1 this with h | h
    ·omega
    ·exact absurd ((List.pairwise_cons.1 hp).1 _ h) hnR
  rw [hnil] at this
  cases this
theorem Left.pick {R:Nat->Nat->Prop} {listed:Array Bool} {rest:List Nat} {s sf:RS} (h:Left M call n ops ans hot R listed rest s sf) (hirr:∀ i,¬R i i) {j:Nat} (hj:j ∈ Region.ready .any ops listed)
  (hswap:∀ i a b,R i j->ops[i]? = some a->ops[j]? = some b->Zdq hot ops i j a b=true\/Zhg ops i ops.size j=true) :
  ∃ oj s1 sf' rest',ops[j]? = some oj/\Zb1 M.P M.inl call n ops (ans j) (hot j) oj s=some s1/\Left M call n ops ans hot R (listed.setIfInBounds j true) rest' s1 sf'/\RSEq sf sf'/\rest.length=rest'.length+1:=by
 obtain ⟨hsz,hp,hr,hcl,h⟩:=h
 obtain ⟨h1,oj,hoj,hall⟩:=mem_ready.1 hj
 have hjlt:=(Array.getElem?_eq_some_iff.1 hoj).1
 have hjr:=(hr j).2 ⟨hjlt,h1⟩
 obtain ⟨l1,l2,rfl⟩:=List.append_of_mem hjr
 have hlt:∀ i ∈ l1,R i j:=fun i hi=>(List.pairwise_append.1 hp).2.2 i hi j (List.mem_cons_self ..)
 obtain ⟨sf',k1,k2⟩:=bubble hoj l1 l2 (fun i hi=>by
  obtain ⟨i1,i2⟩:=(hr i).1 (List.mem_append_left _ hi)
  refine ⟨ops[i],Array.getElem?_eq_getElem i1,?_⟩
  rcases hswap i _ _ (hlt i hi) (Array.getElem?_eq_getElem i1) hoj with this | this
  ·exact this
  ·have:=ZdO hcl i ops.size j (fun o ho=>by rw [hoj] at ho;cases ho;exact hall) this
   rw [Zfb (by omega) false true,i2] at this
   cases this) h
 simp only [ZaJ,hoj] at k1
 cases h2:Zb1 M.P M.inl call n ops (ans j) (hot j) oj s with
 | none=>rw [h2] at k1;simp at k1
 | some s1 =>
  rw [h2] at k1
  simp only at k1
  refine ⟨oj,s1,sf',l1++l2,hoj,h2,⟨by simpa using hsz,hp.sublist (List.Sublist.append (List.Sublist.refl _) (List.sublist_cons_self _ _)),fun i => ?_,fun k o ho hk e he hb => ?_,k1⟩,k2,by simp only [List.length_append,List.length_cons];omega⟩
  ·by_cases e:j=i
   ·subst e
    constructor
    ·intro hm
     exfalso
     rcases List.mem_append.1 hm with hm | hm
     ·exact hirr _ (hlt _ hm)
     ·exact hirr _ ((List.pairwise_cons.1 (List.pairwise_append.1 hp).2.1).1 _ hm)
    ·rintro ⟨_,hm⟩
     simp [show j<listed.size by omega] at hm
   ·rw [getD_set_ne true e,<- hr]
    simp only [List.mem_append,List.mem_cons]
    constructor
    ·rintro (h | h)
     ·exact .inl h
     ·exact .inr (.inr h)
    ·rintro (h | h | h)
     ·exact .inl h
     ·exact absurd h.symm e
     ·exact .inr h
  ·by_cases e':j=k
   ·subst e'
    rw [hoj] at ho;cases ho
    exact getD_set_true (hall e he hb)
   ·rw [getD_set_ne false e'] at hk
    exact getD_set_true (hcl k o ho hk e he hb)
theorem draw_one {R:Nat->Nat->Prop} (hirr:∀ i,¬R i i)
  (hedge:∀ (j:Nat) (o:Oper),ops[j]? = some o -> ∀ e ∈ o.after,Region.binds .any e=true->e.on<j/\¬R j e.on)
  (hswap:∀ i j a b,R i j->ops[i]? = some a->ops[j]? = some b->Zdq hot ops i j a b=true\/Zhg ops i ops.size j=true) :
  ∀ (fuel:Nat) (listed:Array Bool) (rest:List Nat) {s sf:RS} {S:St} {a:Act},Left M call n ops ans hot R listed rest s sf->rest.length<=fuel ->
  (∀ b ∈ sf.asm,b=true)->(∀ q ∈ sf.eqs,q)->(∀ c ∈ sf.calls,c.cond=true->Zdv M c) ->
  HeapOk S->S.L=s.L->TRel S s.env a.tmps->n<=a.tmps.size ->
  (∀ S' a',HeapOk S'->Ext S S'->S'.L=sf.L->TRel S' sf.env a'.tmps->a'.tmps.size=a.tmps.size->a'.defers=a.defers->Q .normal a' S'.w) ->
  wpAny (M.P ()) .any ops Q fuel listed a S.w:=by
 intro fuel
 induction fuel with
 | zero =>
  intro listed rest s sf S a hl hlen hA hQ hC hS hL hT hn hK
  have:rest=[]:=List.length_eq_zero_iff.1 (Nat.le_zero.1 hlen)
  subst this
  have h:=hl.run
  simp only [ZaJ,Option.some.injEq] at h;subst h
  refine ⟨?_,hK S a hS (Ext.refl S) hL hT rfl rfl⟩
  apply List.eq_nil_iff_forall_not_mem.2
  intro j hj
  obtain ⟨h1,o,h2,_⟩:=mem_ready.1 hj
  have:=(hl.mem j).2 ⟨(Array.getElem?_eq_some_iff.1 h2).1,h1⟩
  cases this
 | succ fuel ih =>
  intro listed rest s sf S a hl hlen hA hQ hC hS hL hT hn hK
  refine ⟨fun hnil => ?_,fun j hj => ?_⟩
  ·have:=hl.none hedge hnil
   subst this
   have h:=hl.run
   simp only [ZaJ,Option.some.injEq] at h;subst h
   exact hK S a hS (Ext.refl S) hL hT rfl rfl
  ·obtain ⟨oj,s1,sf',rest',hoj,h2,hl',k2,hlen'⟩:=hl.pick hirr hj fun i a b=>hswap i j a b
   obtain ⟨env,L,x,y,z,he,_⟩:=Zbo _ hl'.run
   have hA':∀ b ∈ sf'.asm,b=true:=fun b hb=>hA b ((k2.a b).2 hb)
   have hQ':∀ b ∈ sf'.eqs,b:=fun b hb=>hQ b ((k2.q b).2 hb)
   have hC':∀ c ∈ sf'.calls,c.cond=true->Zdv M c:=fun b hb=>hC b ((k2.k b).2 hb)
   refine Zef hS hL hT hn hoj h2 (fun b hb=>hA' b (by rw [he];simp [hb])) (fun b hb=>hQ' b (by rw [he];simp [hb])) (fun b hb=>hC' b (by rw [he];simp [hb])) fun S' a' m1 m2 m3 m4 m5 m6 => ?_
   exact ih _ rest' hl' (by omega) hA' hQ' hC' m1 m3 m4 (by rw [m5];exact hn) fun S'' a'' q1 q2 q3 q4 q5 q6 =>
    hK S'' a'' q1 (m2.trans q2) (q3.trans k2.L.symm) (q4.congr fun t=>(k2.get t).symm) (q5.trans m5) (q6.trans m6)
theorem runOp_hot {P:Unit->Program} {inl:FuncId->Bool} {an:Option Ans} {h1 h2:Nat} {o:Oper} {s s1 s2:RS} (a:Zb1 P inl call n ops an h1 o s=some s1) (b:Zb1 P inl call n ops an h2 o s=some s2):s1=s2:=by
 unfold Zb1 at a b
 cases hc:Zbn ops s.env o with
 | none=>rw [hc] at a;simp at a
 | some c0 =>
  rw [hc] at a b
  cases c0 with
  | none =>
   simp only at a b
   rw [a] at b;simpa using b
  | some c =>
   simp only at a b
   cases hs:Zbx P inl call an (fun ex=>ev s.env (ex++c)) s.L o with
   | none =>
    rw [hs] at a b
    simp only at a b
    rw [a] at b;simpa using b
   | some r =>
    rw [hs] at a b
    simp only at a b
    cases hp:putE n o.dst c r.v s.env with
    | none=>rw [hp] at a;simp at a
    | some env =>
     rw [hp] at a b
     simp only at a b
     cases hf:fits (ev s.env c) s.L o h1 r.L' r.calls with
     | false=>rw [hf] at a;simp at a
     | true =>
      cases hf2:fits (ev s.env c) s.L o h2 r.L' r.calls with
      | false=>rw [hf2] at b;simp at b
      | true =>
       rw [hf] at a;rw [hf2] at b
       simp only at a b
       cases c with
       | nil=>simp only at a b;rw [a] at b;simpa using b
       | cons x l=>simp only at a b;rw [a] at b;simpa using b
theorem draw_two {hot2:Nat->Nat} {p:Nat} (hd:Zds hot ops p=true) (hd2:Zds hot2 ops p=true) :
  ∀ (fuel:Nat) (listed:Array Bool) (r1 r2:List Nat) {s f1 f2:RS} {S:St} {a:Act},Left M call n ops ans hot (· < ·) listed r1 s f1->Left M call n ops ans hot2 (fun i j=>sw p i<sw p j) listed r2 s f2 ->
  r1.length<=fuel->r2.length<=fuel ->
  (∀ b ∈ f1.asm,b=true)->(∀ q ∈ f1.eqs,q)->(∀ c ∈ f1.calls,c.cond=true->Zdv M c) ->
  (∀ b ∈ f2.asm,b=true)->(∀ q ∈ f2.eqs,q)->(∀ c ∈ f2.calls,c.cond=true->Zdv M c) ->
  HeapOk S->S.L=s.L->TRel S s.env a.tmps->n<=a.tmps.size ->
  (∀ S' a',HeapOk S'->Ext S S'->S'.L=f1.L->TRel S' f1.env a'.tmps->a'.tmps.size=a.tmps.size->a'.defers=a.defers->Q .normal a' S'.w) ->
  (∀ S' a',HeapOk S'->Ext S S'->S'.L=f2.L->TRel S' f2.env a'.tmps->a'.tmps.size=a.tmps.size->a'.defers=a.defers->Q .normal a' S'.w) ->
  wpAny (M.P ()) .any ops Q fuel listed a S.w:=by
 unfold Zds at hd hd2
 simp only [Bool.and_eq_true,List.all_eq_true,List.mem_range,Bool.or_eq_true,Nat.beq_eq] at hd hd2
 obtain ⟨hedges,hno,hsw⟩:=hd
 obtain ⟨_,_,hsw2⟩:=hd2
 have hswap2:∀ i j a b,i<j->¬(i=p/\j=p+1)->ops[i]? = some a->ops[j]? = some b->Zdq hot2 ops i j a b=true\/Zhg ops i ops.size j=true:=by
  intro i j a b hij hp hi hj
  rcases hsw2 j (Array.getElem?_eq_some_iff.1 hj).1 i hij with h | h
  ·exact absurd h hp
  ·rw [hi,hj] at h
   simpa using h
 have hswap:∀ i j a b,i<j->¬(i=p/\j=p+1)->ops[i]? = some a->ops[j]? = some b->Zdq hot ops i j a b=true\/Zhg ops i ops.size j=true:=by
  intro i j a b hij hp hi hj
  rcases hsw j (Array.getElem?_eq_some_iff.1 hj).1 i hij with h | h
  ·exact absurd h hp
  ·rw [hi,hj] at h
   simpa using h
 have hedge0:∀ (j:Nat) (o:Oper),ops[j]? = some o -> ∀ e ∈ o.after,Region.binds .any e=true->e.on<j:=by
  intro j o ho e he hb
  unfold edgesOk at hedges
  simp only [List.all_eq_true,List.mem_range] at hedges
  have:=hedges j (Array.getElem?_eq_some_iff.1 ho).1
  rw [ho] at this
  have:=List.all_eq_true.1 this e (by simpa using he)
  simpa [hb,Nat.blt_eq] using this
 have hno:∀ o,ops[p+1]? = some o -> ∀ e ∈ o.after,Region.binds .any e=true->e.on ≠ p:=by
  intro o ho e he hb
  rw [ho] at hno
  have:=List.all_eq_true.1 hno e (by simpa using he)
  intro h
  have h':Nat.beq e.on p=true:=Nat.beq_eq.mpr h
  rw [h',hb] at this
  cases this
 have sw3:∀ i j,sw p i<sw p j->i<j\/(i=p+1/\j=p):=by
  intro i j h
  simp only [sw_def] at h
  split at h <;> split at h <;> (try split at h) <;> (try split at h) <;> omega
 have edge1:∀ (j:Nat) (o:Oper),ops[j]? = some o -> ∀ e ∈ o.after,Region.binds .any e=true->e.on<j/\¬(j<e.on):=fun j o ho e he hb=>by
  have:=hedge0 j o ho e he hb
  omega
 have edge2:∀ (j:Nat) (o:Oper),ops[j]? = some o -> ∀ e ∈ o.after,Region.binds .any e=true->e.on<j/\¬(sw p j<sw p e.on):=fun j o ho e he hb=>by
  have h:=hedge0 j o ho e he hb
  refine ⟨h,fun h2 => ?_⟩
  rcases sw3 _ _ h2 with h3 | ⟨h3,h4⟩
  ·omega
  ·subst h3;exact hno o ho e he hb h4
 intro fuel
 induction fuel with
 | zero =>
  intro listed r1 r2 s f1 f2 S a hl _ hlen _ hA hQ hC _ _ _ hS hL hT hn hK _
  have:r1=[]:=List.length_eq_zero_iff.1 (Nat.le_zero.1 hlen)
  subst this
  have h:=hl.run
  simp only [ZaJ,Option.some.injEq] at h;subst h
  refine ⟨?_,hK S a hS (Ext.refl S) hL hT rfl rfl⟩
  apply List.eq_nil_iff_forall_not_mem.2
  intro j hj
  obtain ⟨h1,o,h2,_⟩:=mem_ready.1 hj
  have:=(hl.mem j).2 ⟨(Array.getElem?_eq_some_iff.1 h2).1,h1⟩
  cases this
 | succ fuel ih =>
  intro listed r1 r2 s f1 f2 S a hl1 hl2 hlen1 hlen2 hA1 hQ1 hC1 hA2 hQ2 hC2 hS hL hT hn hK1 hK2
  refine ⟨fun hnil => ?_,fun j hj => ?_⟩
  ·have:=hl1.none edge1 hnil
   subst this
   have h:=hl1.run
   simp only [ZaJ,Option.some.injEq] at h;subst h
   exact hK1 S a hS (Ext.refl S) hL hT rfl rfl
  ·have pick1:=fun (hne:j ≠ p+1)=>hl1.pick (fun i=>Nat.lt_irrefl i) hj fun i a b h=>hswap i j a b h (by omega)
   have pick2:=fun (hne:j ≠ p)=>hl2.pick (fun i=>Nat.lt_irrefl _) hj fun i a b h hi hb=>by
    rcases sw3 _ _ h with h3 | ⟨h3,h4⟩
    ·refine hswap2 i j a b h3 ?_ hi hb
     rintro ⟨rfl,rfl⟩
     rw [sw_l,sw_r] at h
     omega
    ·omega
   by_cases e2:j=p+1
   ·
    obtain ⟨oj,s1,sf',rest',hoj,h2,hl',k2,hlen'⟩:=pick2 (by omega)
    obtain ⟨env,L,x,y,z,he,_⟩:=Zbo _ hl'.run
    have hA':∀ b ∈ sf'.asm,b=true:=fun b hb=>hA2 b ((k2.a b).2 hb)
    have hQ':∀ b ∈ sf'.eqs,b:=fun b hb=>hQ2 b ((k2.q b).2 hb)
    have hC':∀ c ∈ sf'.calls,c.cond=true->Zdv M c:=fun b hb=>hC2 b ((k2.k b).2 hb)
    refine Zef hS hL hT hn hoj h2 (fun b hb=>hA' b (by rw [he];simp [hb])) (fun b hb=>hQ' b (by rw [he];simp [hb])) (fun b hb=>hC' b (by rw [he];simp [hb])) fun S' a' m1 m2 m3 m4 m5 m6 => ?_
    have hnm:p+1 ∉ rest':=by
     intro hm
     have h9:=((hl'.mem _).1 hm).2
     have h10:p+1<listed.size:=by rw [hl1.size];exact e2 ▸ (Array.getElem?_eq_some_iff.1 hoj).1
     rw [e2] at h9
     simp [h10] at h9
    have hl'':Left M call n ops ans hot2 (fun i j=>sw p i<sw p j/\i ≠ p+1) (listed.setIfInBounds j true) rest' s1 sf':=
     ⟨hl'.size,hl'.pw.imp_of_mem fun {x y} hx _ h=>⟨h,fun e=>hnm (e ▸ hx)⟩,hl'.mem,hl'.closed,hl'.run⟩
    refine draw_one (fun i h=>Nat.lt_irrefl _ h.1) (fun j o ho e he hb=>⟨(edge2 j o ho e he hb).1,fun h=>(edge2 j o ho e he hb).2 h.1⟩) (fun i j a b h hi hb => ?_) fuel _ rest' hl'' (by omega) hA' hQ' hC' m1 m3 m4 (by rw [m5];exact hn) fun S'' a'' q1 q2 q3 q4 q5 q6 =>
     hK2 S'' a'' q1 (m2.trans q2) (q3.trans k2.L.symm) (q4.congr fun t=>(k2.get t).symm) (q5.trans m5) (q6.trans m6)
    rcases sw3 _ _ h.1 with h3 | ⟨h3,_⟩
    ·refine hswap2 i j a b h3 ?_ hi hb
     rintro ⟨rfl,rfl⟩
     have:=h.1
     rw [sw_l,sw_r] at this
     omega
    ·exact absurd h3 h.2
   ·obtain ⟨oj,s1,sf',rest',hoj,h2,hl',k2,hlen'⟩:=pick1 e2
    obtain ⟨env,L,x,y,z,he,_⟩:=Zbo _ hl'.run
    have hA':∀ b ∈ sf'.asm,b=true:=fun b hb=>hA1 b ((k2.a b).2 hb)
    have hQ':∀ b ∈ sf'.eqs,b:=fun b hb=>hQ1 b ((k2.q b).2 hb)
    have hC':∀ c ∈ sf'.calls,c.cond=true->Zdv M c:=fun b hb=>hC1 b ((k2.k b).2 hb)
    refine Zef hS hL hT hn hoj h2 (fun b hb=>hA' b (by rw [he];simp [hb])) (fun b hb=>hQ' b (by rw [he];simp [hb])) (fun b hb=>hC' b (by rw [he];simp [hb])) fun S' a' m1 m2 m3 m4 m5 m6 => ?_
    by_cases e1:j=p
    ·have hnm:p ∉ rest':=by
      intro hm
      have h9:=((hl'.mem _).1 hm).2
      have h10:p<listed.size:=by rw [hl1.size];exact e1 ▸ (Array.getElem?_eq_some_iff.1 hoj).1
      rw [e1] at h9
      simp [h10] at h9
     have hl'':Left M call n ops ans hot (fun i j=>i<j/\i ≠ p) (listed.setIfInBounds j true) rest' s1 sf':=
      ⟨hl'.size,hl'.pw.imp_of_mem fun {x y} hx _ h=>⟨h,fun e=>hnm (e ▸ hx)⟩,hl'.mem,hl'.closed,hl'.run⟩
     exact draw_one (fun i h=>Nat.lt_irrefl _ h.1) (fun j o ho e he hb=>⟨(edge1 j o ho e he hb).1,fun h=>(edge1 j o ho e he hb).2 h.1⟩) (fun i j a b h hi hb=>hswap i j a b h.1 (fun h'=>h.2 h'.1) hi hb) fuel _ rest' hl'' (by omega) hA' hQ' hC' m1 m3 m4 (by rw [m5];exact hn) fun S'' a'' q1 q2 q3 q4 q5 q6 =>
      hK1 S'' a'' q1 (m2.trans q2) (q3.trans k2.L.symm) (q4.congr fun t=>(k2.get t).symm) (q5.trans m5) (q6.trans m6)
    ·obtain ⟨oj2,s2,sg,rest2,hoj2,h22,hl2',kk2,hlen2'⟩:=pick2 e1
     rw [hoj] at hoj2;cases hoj2
     have:=runOp_hot h2 h22
     subst this
     exact ih _ rest' rest2 hl' hl2' (by omega) (by omega) hA' hQ' hC' (fun b hb=>hA2 b ((kk2.a b).2 hb)) (fun b hb=>hQ2 b ((kk2.q b).2 hb)) (fun b hb=>hC2 b ((kk2.k b).2 hb)) m1 m3 m4 (by rw [m5];exact hn)
      (fun S'' a'' q1 q2 q3 q4 q5 q6=>hK1 S'' a'' q1 (m2.trans q2) (q3.trans k2.L.symm) (q4.congr fun t=>(k2.get t).symm) (q5.trans m5) (q6.trans m6))
      (fun S'' a'' q1 q2 q3 q4 q5 q6=>hK2 S'' a'' q1 (m2.trans q2) (q3.trans kk2.L.symm) (q4.congr fun t=>(kk2.get t).symm) (q5.trans m5) (q6.trans m6))
end
end Go.Av

namespace Go.Av
open Go.RowKit
def VRel (S:St) (env:Vars) (tm:Array Value):Prop:=∀ t,Rel S (env.get t) (tm.getD t undef)
def Zcz (M:Mach) (fi:Fi) (todo:List Item) (env:Vars) (L:Heap) (Q:AV->Heap->Prop):Prop:=
 ∀ (S:St) (b:Frame) (a:Act) (cs:List Frame) (fn:Func),(M.P ()).funcs[b.fn]? = some fn->fn.results.toList=fi.res->b.kind = .normal->a.defers=[] ->
  HeapOk S->S.L=L->VRel S env a.tmps->fi.n<=a.tmps.size ->
  ∃ fr w' β' cv v L',Q v L'/\Steps (M.P ()) (lone (b.at a todo) cs S.w) (lone fr cs w')/\fr.fn=b.fn/\fr.leaving (M.P ()) w' (.returned cv) /\
   HeapOk ⟨S.base,S.acc,L',β',w'⟩/\Ext S ⟨S.base,S.acc,L',β',w'⟩/\Rel ⟨S.base,S.acc,L',β',w'⟩ v cv
theorem lift_get (env:Vars) (t:Nat):Env.get (lift env) t=([],env.get t):=by
 induction env with
 | nil=>rfl
 | cons e env ih =>
  obtain ⟨k,v⟩:=e
  simp only [lift,List.map_cons,Env.get,Vars.get]
  cases k==t with
  | true=>rfl
  | false=>exact ih
theorem Zf7 {S:St} {env:Vars} {tm:Array Value} (h:VRel S env tm):TRel S (lift env) tm:=by
 refine ⟨fun t => ?_,fun t _ => ?_,fun t ht => ?_⟩
 ·rw [lift_get];exact .nil
 ·rw [lift_get];exact h t
 ·rw [lift_get] at ht;simp [Zax] at ht
theorem Zej {S:St} {env:Env} {tm:Array Value} (h:TRel S env tm) (keep:List Nat):VRel S (Zfd keep env) tm:=by
 intro t
 induction keep with
 | nil=>exact .any _
 | cons k keep ih =>
  simp only [Zfd,List.map_cons,Vars.get]
  cases hk:k==t with
  | false=>exact ih
  | true =>
   have hk:k=t:=by simpa using hk
   subst hk
   simp only [cond_true]
   split
   ·rename_i v hv
    have:=h.yes k (by rw [hv];rfl)
    rw [hv] at this;exact this
   ·exact .any _
theorem vget_rel {S:St} {env:Vars} {a:Act} (h:VRel S env a.tmps) (x:Operand):Rel S (evV env x) (a.eval x):=by
 cases x with
 | tmp t=>exact h t
 | const v=>exact Zgt S v
 | global g=>exact .any _
 | func f=>exact .data _ _ (.func _ [] [] [] [] rfl rfl (by simp) (by simp))
theorem args_rel {S:St}:∀ (i:Nat) (args:List AV) (vs:List Value) (t:Nat),RelL S args vs->Rel S ((Za2 i args).get t) (if i<=t then vs.getD (t-i) undef else undef)
 | i,[],vs,t,_ => .any _
 | i,c::args,[],t,h=>by have:=h.1;simp at this
 | i,c::args,u::vs,t,h=>by
  simp only [Za2,Vars.get]
  cases hk:i==t with
  | true =>
   have hk:i=t:=by simpa using hk
   subst hk
   simp only [cond_true,Nat.le_refl,if_true,Nat.sub_self,List.getD_cons_zero]
   exact h.2 0 c u rfl rfl
  | false =>
   have hk:i ≠ t:=by simpa using hk
   have:=args_rel (S:=S) (i+1) args vs t ⟨by simpa using h.1,fun j c v hc hv=>h.2 (j+1) c v (by simpa using hc) (by simpa using hv)⟩
   simp only [cond_false]
   by_cases hlt:i+1<=t
   ·rw [if_pos hlt] at this
    rw [if_pos (by omega)]
    obtain ⟨m,rfl⟩:∃ m,t=i+1+m:=⟨t-(i+1),by omega⟩
    have e1:i+1+m-(i+1)=m:=by omega
    have e2:i+1+m-i=m+1:=by omega
    rw [e1] at this
    rw [e2];simpa using this
   ·rw [if_neg hlt] at this
    rw [if_neg (by omega)];exact this
theorem enter_rel {S:St} {args:List AV} {vs:List Value} (n:Nat) (h:RelL S args vs):VRel S (Za2 0 args) ((⟨vs⟩:Array Value)++Array.replicate n undef):=by
 intro t
 have:=args_rel (S:=S) 0 args vs t h
 simp only [Nat.zero_le,if_true,Nat.sub_zero] at this
 have e:((⟨vs⟩:Array Value)++Array.replicate n undef).getD t undef=vs.getD t undef:=by
  simp only [Array.getD_eq_getD_getElem?,List.getD_eq_getElem?_getD,Array.getElem?_append,List.size_toArray,List.getElem?_toArray]
  by_cases ht:t<vs.length
  ·rw [if_pos ht]
  ·rw [if_neg ht,List.getElem?_eq_none (by omega:vs.length<=t)]
   simp only [Array.getElem?_replicate,Option.getD_none]
   split <;> rfl
 rw [e];exact this
def resF (tm:Array Value):ResultVar->Sem Value
 | .tmp t=>pure (tm.getD t undef)
 | .cell a t=>do loadVar t (<- asAddr (tm.getD a undef))
theorem Zcc {P:Unit->Program} {S:St} (hS:HeapOk S) {env:Vars} {tm:Array Value} (hV:VRel S env tm):∀ (l:List ResultVar) {vs:List AV},Zdm P env S.L l=some vs ->
  ∃ cvs:List Value,RelL S vs cvs/\(l.mapM (resF tm)).run (P ()) S.w = .ok cvs S.w
 | [],vs,h=>by
  simp only [Zdm,Option.some.injEq] at h;subst h
  exact ⟨[],.nil S,by simp⟩
 | .tmp t::r,vs,h=>by
  simp only [Zdm] at h
  split at h
  ·rename_i vs' h'
   simp only [Option.some.injEq] at h;subst h
   obtain ⟨cvs,h1,h2⟩:=Zcc hS hV r h'
   have h3:(resF tm (.tmp t)).run (P ()) S.w = .ok (tm.getD t undef) S.w:=rfl
   exact ⟨tm.getD t undef::cvs,.cons (hV t) h1,by simp only [List.mapM_cons,Sem.run_bind,h3,Result.andThen_ok,h2,Sem.run_pure]⟩
  ·simp at h
 | .cell a T::r,vs,h=>by
  simp only [Zdm] at h
  split at h
  ·rename_i x vs' hx h'
   cases hall:x.asm.all fun b=>b with
   | false=>simp [hall] at h
   | true =>
    simp only [hall,cond_true,Option.some.injEq] at h;subst h
    obtain ⟨cvs,h1,h2⟩:=Zcc hS hV r h'
    have hel:∀ {xs:List AV} {i:Nat} {x:AV} {q:List Prop},elemA none xs i=some (x,q)->q=[]:=by
     intro xs i x q he
     unfold elemA at he
     simp only at he
     split at he
     ·simp only [Option.some.injEq,Prod.mk.injEq] at he;exact he.2.symm
     ·simp at he
    have hva:=hV a
    have key:x.eqs=[] /\ ∃ ad,tm.getD a undef = .pointer (some ad):=by
     unfold loadA at hx
     split at hx
     ·rename_i q ver i j hv
      rw [hv] at hva
      obtain ⟨hp,_⟩:=ZfU hva
      split at hx
      ·split at hx
       ·rename_i he
        split at hx
        ·simp only [Option.some.injEq] at hx;subst hx
         exact ⟨hel he,hp⟩
        ·simp at hx
       ·simp at hx
      ·simp at hx
     ·rename_i es xs i j hv
      rw [hv] at hva
      have hp:∃ ad,tm.getD a undef = .pointer (some ad):=by
       have hd:=ZeP hva
       generalize tm.getD a undef=pv at *
       cases hd with
       | eptr _ _ _ _ b off h1 h2 h3=>exact ⟨_,rfl⟩
      split at hx
      ·rename_i he
       split at hx
       ·simp only [Option.some.injEq] at hx;subst hx
        exact ⟨hel he,hp⟩
       ·simp at hx
      ·simp at hx
     ·simp at hx
    obtain ⟨heq,ad,had⟩:=key
    obtain ⟨_,_,cv,k1,k2⟩:=ZhU (P:=P) hS (hV a) hx (by simpa using hall) (by rw [heq];simp)
    have h3:(resF tm (.cell a T)).run (P ()) S.w = .ok cv S.w:=by
     rw [<- k1,had]
     simp [resF,asAddr,Instr.loadAt,Instr.sureAddr,had]
    exact ⟨cv::cvs,.cons k2 h1,by simp only [List.mapM_cons,Sem.run_bind,h3,Result.andThen_ok,h2,Sem.run_pure]⟩
  ·simp at h
theorem ZfG {P:Unit->Program} {S:St} (hS:HeapOk S) {env:Vars} {tm:Array Value} (hV:VRel S env tm) {fi:Fi} {fn:Func} (hfi:fn.results.toList=fi.res) {v:AV} (h:Zff P fi env S.L=some v) :
  ∃ cv,(results fn tm).run (P ()) S.w = .ok cv S.w/\Rel S v cv:=by
 have hrun:∀ {cvs:List Value},(fi.res.mapM (resF tm)).run (P ()) S.w = .ok cvs S.w->(results fn tm).run (P ()) S.w = .ok (if h:cvs.length=1 then cvs[0] else .tuple ⟨cvs⟩) S.w:=by
  intro cvs h
  have hm:results fn tm=(do let vs <- fn.results.mapM (resF tm);pure (if h:vs.size=1 then vs[0] else .tuple vs)):=by
   unfold results
   congr 1
  rw [hm,Array.mapM_eq_mapM_toList,hfi]
  rw [map_eq_pure_bind]
  simp only [Sem.run_bind,h,Result.andThen_ok,Sem.run_pure]
  rfl
 unfold Zff at h
 split at h
 ·rename_i u hr
  simp only [Option.some.injEq] at h;subst h
  obtain ⟨cvs,h1,h2⟩:=Zcc hS hV _ hr
  have:=h1.1
  match cvs,this,h1,h2 with
  | [cv],_,h1,h2=>exact ⟨cv,by simpa using hrun h2,h1.head⟩
 ·rename_i vs hne hr
  simp only [Option.some.injEq] at h;subst h
  obtain ⟨cvs,h1,h2⟩:=Zcc hS hV _ hr
  have hl:cvs.length ≠ 1:=by
   rw [<- h1.1]
   intro e
   obtain ⟨x,rfl⟩:=List.length_eq_one_iff.1 e
   exact hne x rfl
  exact ⟨.tuple ⟨cvs⟩,by simpa [hl] using hrun h2,.tup vs cvs h1.1 h1.2⟩
 ·simp at h
theorem call_runs {P:Program} {f:FuncId} {fn:Func} {c:Code} {args:Array Value} (hf:P.funcs[f]? = some fn) (hb:fn.body=some c) (hn:(fn.name == "runtime.NumGoroutine")=false) (w:World) :
  (callFunc f args).run P w = .ok (.enter f args) w:=by
 have hn':fn.name ≠ "runtime.NumGoroutine":=by simpa using hn
 simp [callFunc,hf,hb,hn']
theorem weak_rel {S:St} {a d:AV} (h:Weak a d):∀ {v:Value},DRel S a v->DRel S d v:=by
 induction h with
 | refl a=>exact fun h=>h
 | vnil es=>intro v h;cases h;exact .vecE false es none 0 (by simp)
 | full es xs =>
  intro v h
  cases h with
  | vecE f es a cap hf=>exact .vecE false es a cap (by simp)
  | vec f es xs b off cap ho hf hl hc hr=>exact .vec false es xs b off cap ho (by simp) hl hc hr
 | tup xs ys hl _ ih =>
  intro v h
  cases h with
  | tup _ vs h1 h2 =>
   refine .tup ys vs (hl.symm.trans h1) fun i c v hc hv => ?_
   have hi:i<xs.length:=by rw [hl];exact (List.getElem?_eq_some_iff.1 hc).1
   exact ih i xs[i] c (List.getElem?_eq_getElem hi) hc (h2 i xs[i] v (List.getElem?_eq_getElem hi) hv)
 | agg xs ys hl _ ih =>
  intro v h
  cases h with
  | agg _ vs h1 h2 =>
   refine .agg ys vs (hl.symm.trans h1) fun i c v hc hv => ?_
   have hi:i<xs.length:=by rw [hl];exact (List.getElem?_eq_some_iff.1 hc).1
   exact ih i xs[i] c (List.getElem?_eq_getElem hi) hc (h2 i xs[i] v (List.getElem?_eq_getElem hi) hv)
def OwnQ (M:Mach) (f:FuncId) (args:List AV) (L:Heap) (Q:AV->Heap->Prop):Prop:=
 ∀ (S:St) (cargs:List Value),HeapOk S->S.L=L->RelL S args cargs ->
  (∀ w,(callFunc f ⟨cargs⟩).run (M.P ()) w = .ok (.enter f ⟨cargs⟩) w) /\
  Calls (M.P ()) f ⟨cargs⟩ S.w fun
   | .returned cv,w' => ∃ v L' β',Q v L'/\HeapOk ⟨S.base,S.acc,L',β',w'⟩/\Ext S ⟨S.base,S.acc,L',β',w'⟩/\Rel ⟨S.base,S.acc,L',β',w'⟩ v cv
   | _,_=>False
def PureR (M:Mach) (f:FuncId) (args:List AV) (Q:AV->Heap->Prop):Prop:=
 ∀ (base:Nat) (acc:Nat->Nat->Prop) (w:World) (cargs:List Value),base<=w.heap.size->(∀ b off,base<=b->acc b off)->RelL ⟨base,acc,[],[],w⟩ args cargs ->
  (∀ w,(callFunc f ⟨cargs⟩).run (M.P ()) w = .ok (.enter f ⟨cargs⟩) w) /\
  Calls (M.P ()) f ⟨cargs⟩ w fun
   | .returned cv,w' => ∃ d,Q d []/\Below base w w'/\DRel ⟨base,acc,[],[],w'⟩ d cv
   | _,_=>False
theorem OwnQ.snd {M:Mach} {f:FuncId} {args:List AV} {L L':Heap} {v:AV} (h:OwnQ M f args L (isR v L')):OwnSnd M f args L v L':=by
 intro S cargs h1 h2 h3
 obtain ⟨k1,k2⟩:=h S cargs h1 h2 h3
 refine ⟨k1,Calls.mono k2 fun e w' he => ?_⟩
 cases e with
 | returned cv =>
  obtain ⟨v',K,β',⟨rfl,rfl⟩,m1,m2,m3⟩:=he
  exact ⟨β',m1,m2,m3⟩
 | panicked c=>exact he.elim
 | outgrown=>exact he.elim
theorem PureR.snd {M:Mach} {f:FuncId} {args:List AV} {v:AV} (h:PureR M f args (isR v [])):Zhb M f args v:=by
 intro base acc w cargs h1 h2 h3
 obtain ⟨k1,k2⟩:=h base acc w cargs h1 h2 h3
 refine ⟨k1,Calls.mono k2 fun e w' he => ?_⟩
 cases e with
 | returned cv =>
  obtain ⟨d,⟨rfl,_⟩,m1,m2⟩:=he
  exact ⟨m1,m2⟩
 | panicked c=>exact he.elim
 | outgrown=>exact he.elim
def Means (M:Mach):Conf->(AV->Heap->Prop)->Prop
 | .run fi todo env L,Q=>Zcz M fi todo env L Q
 | .own f args L,Q=>OwnQ M f args L Q
 | .pure f args,Q=>PureR M f args Q
theorem Zcz.step {M:Mach} {fi:Fi} {k k':List Item} {env:Vars} {L:Heap} {Q:AV->Heap->Prop} (h:Zcz M fi k' env L Q)
  (hs:∀ (b:Frame) (a:Act) (cs:List Frame) (S:St),VRel S env a.tmps->step (M.P ()) (lone (b.at a k) cs S.w) = .next (lone (b.at a k') cs S.w)):Zcz M fi k env L Q:=by
 intro S b a cs fn h1 h2 h3 h4 h5 h6 h7 h8
 obtain ⟨fr,w',β',cv,v,L',hq,k1,k2⟩:=h S b a cs fn h1 h2 h3 h4 h5 h6 h7 h8
 exact ⟨fr,w',β',cv,v,L',hq,.head (hs b a cs S h7) k1,k2⟩
theorem run_eq_nil {P:Unit->Program} {d:Nat} {T e:TypeId} (hu:(P ()).underlying T=some (.slice e)) (a:Option Addr) (c:Nat) (w:World) :
  (Op.equalIn (d+1) T (.slice a 0 c) (.slice none 0 0)).run (P ()) w = .ok a.isNone w/\(Op.equalIn (d+1) T (.slice none 0 0) (.slice a 0 c)).run (P ()) w = .ok a.isNone w:=by
 constructor <;> cases a <;> simp [Op.equalIn,run_underlying hu]
theorem nilTest_runs {P:Unit->Program} {env:Env} {o:Oper} {d:Nat} (h:nilTest P env o=some d) {S:St} {ρ:Operand->Value} (hρ:∀ x,Rel S (ev env [] x) (ρ x)) :
  o.guard=none/\o.dst=some d /\ ∃ b,(execOp ρ o).run (P ()) S.w = .ok (.value (.bool b)) S.w:=by
 unfold nilTest at h
 split at h
 ·rename_i d' op T x y yT hg hd ho
  have hx:=hρ x
  have hy:=hρ y
  have emp:∀ {f:Bool} {es:Nat} {v:Value},Rel S (.vec f es []) v -> ∃ a c,v = .slice a 0 c:=by
   intro f es v hv
   have:=Zcr hv
   cases this with
   | vecE f es a cap _=>exact ⟨a,cap,rfl⟩
   | vec f es xs b off cap=>exact ⟨_,_,rfl⟩
  refine ⟨hg,?_⟩
  have eqn':∀ {e:TypeId},(P ()).underlying T=some (.slice e) -> ∀ (a:Option Addr) (c:Nat),(Op.equalIn Op.maxDepth T (.slice a 0 c) (.slice none 0 0)).run (P ()) S.w = .ok a.isNone S.w/\(Op.equalIn Op.maxDepth T (.slice none 0 0) (.slice a 0 c)).run (P ()) S.w = .ok a.isNone S.w:=
   fun hu a c=>run_eq_nil (d:=Op.maxDepth-1) hu a c S.w
  split at h
  ·rename_i e f es hu hvx hvy
   have eqn:=eqn' hu
   simp only [Option.some.injEq] at h;subst h
   rw [hvx] at hx;rw [hvy] at hy
   obtain ⟨a,c,ex⟩:=emp hx
   exact ⟨hd,a.isNone,by simp [execOp,ho,ex,Za0 hy,eqGuard,binOp,Op.equal,(eqn a c).1]⟩
  ·rename_i e f es hu hvx hvy
   have eqn:=eqn' hu
   simp only [Option.some.injEq] at h;subst h
   rw [hvx] at hx;rw [hvy] at hy
   obtain ⟨a,c,ey⟩:=emp hy
   exact ⟨hd,a.isNone,by simp [execOp,ho,ey,Za0 hx,eqGuard,binOp,Op.equal,(eqn a c).2]⟩
  ·rename_i e f es hu hvx hvy
   have eqn:=eqn' hu
   simp only [Option.some.injEq] at h;subst h
   rw [hvx] at hx;rw [hvy] at hy
   obtain ⟨a,c,ex⟩:=emp hx
   exact ⟨hd,!a.isNone,by simp [execOp,ho,ex,Za0 hy,eqGuard,binOp,Op.equal,(eqn a c).1]⟩
  ·rename_i e f es hu hvx hvy
   have eqn:=eqn' hu
   simp only [Option.some.injEq] at h;subst h
   rw [hvx] at hx;rw [hvy] at hy
   obtain ⟨a,c,ey⟩:=emp hy
   exact ⟨hd,!a.isNone,by simp [execOp,ho,ey,Za0 hx,eqGuard,binOp,Op.equal,(eqn a c).2]⟩
  ·simp at h
 ·simp at h
theorem rel_in {S:St} {a:AV} {v:Value} (h:Rel S a v):∀ r ∈ rowsA a,r<S.L.length:=by
 have lt:∀ {r:Nat} {row:Row},S.L[r]? = some row->r<S.L.length:=fun h=>(List.getElem?_eq_some_iff.1 h).1
 have all:∀ {cs:List AV} {vs:List Value},cs.length=vs.length->(∀ (i:Nat) c v,cs[i]? = some c->vs[i]? = some v -> ∀ r ∈ rowsA c,r<S.L.length) -> ∀ r ∈ rowsL cs,r<S.L.length:=by
  intro cs
  induction cs with
  | nil=>intro vs _ _ r hr;simp [rowsL] at hr
  | cons c cs ih =>
   intro vs hl h r hr
   cases vs with
   | nil=>simp at hl
   | cons u vs =>
    simp only [rowsL,List.mem_append] at hr
    rcases hr with hr | hr
    ·exact h 0 c u rfl rfl r hr
    ·exact ih (vs:=vs) (by simpa using hl) (fun i c v hc hv=>h (i+1) c v (by simpa using hc) (by simpa using hv)) r hr
 induction h with
 | any v=>intro r hr;simp [rowsA] at hr
 | data a v h =>
  intro r hr
  have h1:=rowsA_ren (fun _=>S.L.length) a
  have h2:=dren h (fun _=>S.L.length)
  have h3:=dren h (fun _=>S.L.length+1)
  have h4:=rowsA_ren (fun _=>S.L.length+1) a
  rw [h2] at h1
  rw [h3,h1] at h4
  cases hra:rowsA a with
  | nil=>rw [hra] at hr;simp at hr
  | cons q l=>rw [hra] at h4;simp at h4
 | agg cs vs hl _ ih=>exact all hl ih
 | tup cs vs hl _ ih=>exact all hl ih
 | func fn a b va vb ha hb _ _ ih1 ih2 =>
  intro r hr
  simp only [rowsA,List.mem_append] at hr
  rcases hr with hr | hr
  ·exact all ha ih1 r hr
  ·exact all hb ih2 r hr
 | ptr r0 ver i j row info v _ h1=>intro r hr;simp only [rowsA,List.mem_singleton] at hr;subst hr;exact lt h1
 | row r0 ver row info v _ h1=>intro r hr;simp only [rowsA,List.mem_singleton] at hr;subst hr;exact lt h1
 | ref r0 ver lo len row info v _ h1=>intro r hr;simp only [rowsA,List.mem_singleton] at hr;subst hr;exact lt h1
theorem refs_in {S:St} (hS:HeapOk S):∀ row ∈ S.L,∀ r ∈ ZaV row,r<S.L.length:=by
 intro row hm r hr
 obtain ⟨q,hq⟩:=List.getElem?_of_mem hm
 have hlt:q<S.β.length:=by rw [<- hS.len];exact (List.getElem?_eq_some_iff.1 hq).1
 obtain ⟨info,hi⟩:∃ info,S.β[q]? = some info:=⟨_,List.getElem?_eq_getElem hlt⟩
 obtain ⟨he,hle,cs,T,hb,hsz⟩:=hS.cells q row info hq hi
 unfold ZaV at hr
 cases hc:row.clean with
 | true=>rw [hc] at hr;simp at hr
 | false =>
  rw [hc] at hr
  simp only [cond_false] at hr
  have hx:∀ (l:List AV),r ∈ rowsL l -> ∃ (i:Nat) (x:AV),l[i]? = some x/\r ∈ rowsA x:=by
   intro l
   induction l with
   | nil=>intro h;simp [rowsL] at h
   | cons c l ih =>
    intro h
    simp only [rowsL,List.mem_append] at h
    rcases h with h | h
    ·exact ⟨0,c,rfl,h⟩
    ·obtain ⟨i,x,h1,h2⟩:=ih h
     exact ⟨i+1,x,by simpa using h1,h2⟩
  obtain ⟨i,x,h1,h2⟩:=hx _ hr
  have hcell:∃ (k:Nat) (c:AV),x.cells[k]? = some c/\r ∈ rowsA c:=by
   cases x with
   | agg cs=>exact hx cs h2
   | _=>exact ⟨0,_,rfl,h2⟩
  obtain ⟨k,c,h3,h4⟩:=hcell
  have hok:=hS.elems q row hq
  obtain ⟨cv,_,hcr⟩:=ZeO hS hq hi h1 k c h3
  exact rel_in hcr r h4
theorem get_renV (f:Nat->Nat) (env:Vars) (t:Nat):(renV f env).get t=renA f (env.get t):=by
 induction env with
 | nil=>rfl
 | cons e env ih =>
  obtain ⟨k,v⟩:=e
  simp only [renV,List.map_cons,Vars.get]
  cases k==t with
  | true=>rfl
  | false=>exact ih
theorem rows_get {env:Vars} {t r:Nat} (h:r ∈ rowsA (env.get t)):r ∈ rowsL (env.map (·.2)):=by
 induction env with
 | nil=>simp [Vars.get,rowsA] at h
 | cons e env ih =>
  obtain ⟨k,v⟩:=e
  simp only [Vars.get] at h
  simp only [List.map_cons,rowsL,List.mem_append]
  cases hk:k==t with
  | true=>rw [hk] at h;exact .inl h
  | false=>rw [hk] at h;exact .inr (ih h)
theorem ZfD (l:List Row):∀ n,n<=l.length->ZaQ l (List.range n)=some (l.take n):=by
 intro n hn
 have gen:∀ (k m:Nat),k+m<=l.length->ZaQ l (List.range' k m)=some ((l.drop k).take m):=by
  intro k m
  induction m generalizing k with
  | zero=>intro _;rfl
  | succ m ih =>
   intro h
   have hk:k<l.length:=by omega
   simp only [List.range'_succ,ZaQ,List.getElem?_eq_getElem hk,ih (k+1) (by omega)]
   rw [List.drop_eq_getElem_cons hk];rfl
 have:=gen 0 n (by omega)
 rw [List.range_eq_range'];simpa using this
theorem getRows_drop (l:List Row) (n:Nat) (hn:n<=l.length):ZaQ l (List.range' n (l.length-n))=some (l.drop n):=by
 have gen:∀ (k m:Nat),k+m<=l.length->ZaQ l (List.range' k m)=some ((l.drop k).take m):=by
  intro k m
  induction m generalizing k with
  | zero=>intro _;rfl
  | succ m ih =>
   intro h
   have hk:k<l.length:=by omega
   simp only [List.range'_succ,ZaQ,List.getElem?_eq_getElem hk,ih (k+1) (by omega)]
   rw [List.drop_eq_getElem_cons hk];rfl
 rw [gen n _ (by omega),List.take_of_length_le (by simp)]
theorem ZdS:∀ (m k i:Nat),k<=i->i<k+m->ZaF (List.range' k m) i=i-k
 | 0,k,i,h1,h2=>by omega
 | m+1,k,i,h1,h2=>by
  simp only [List.range'_succ,ZaF]
  by_cases he:k=i
  ·subst he;simp
  ·have:(k==i)=false:=by simpa using he
   rw [this,ZdS m (k+1) i (by omega) (by omega)]
   simp only [cond_false];omega
theorem narrow_sound {M:Mach} {fi:Fi} {k:List Item} {env env':Vars} {L Lc:Heap} {Q:AV->Heap->Prop} {rs:List Nat} (hn:Zdp L rs env=some (env',Lc))
  (ih:Zcz M fi k env' Lc fun v L1=>Q (renA (Zdj L.length rs) v) (Zfz L rs L1)):Zcz M fi k env L Q:=by
 unfold Zdp at hn
 split at hn
 ·rename_i rows hrows
  split at hn
  ·rename_i hc
   simp only [Option.some.injEq,Prod.mk.injEq] at hn
   obtain ⟨rfl,rfl⟩:=hn
   simp only [Bool.and_eq_true,List.all_eq_true,List.contains_iff_mem] at hc
   obtain ⟨hnd,ha,hcl⟩:=hc
   have hnd:=(Zdg rs).1 hnd
   intro S b a cs fn h1 h2 h3 h4 h5 h6 h7 h8
   subst h6
   obtain ⟨hSc,_,hrelc⟩:=sub_ok h5 hrows hnd hcl
   obtain ⟨gl,_⟩:=ZaK hrows
   have hV:VRel ⟨S.base,ZcZ S rs,rows.map (Zau (ZaF rs)),subβ S.β rs,S.w⟩ (renV (ZaF rs) env) a.tmps:=by
    intro t
    rw [get_renV]
    exact hrelc _ _ (h7 t) fun r hr=>ha r (rows_get hr)
   obtain ⟨fr,w',β',cv,v,L1,hq,k1,k2,k3,k4,k5,k6⟩:=ih _ b a cs fn h1 h2 h3 h4 hSc rfl hV h8
   have hle:rs.length<=L1.length:=by
    by_cases hz:rs.length=0
    ·omega
    ·have hlt:rs.length-1<(rows.map (Zau (ZaF rs))).length:=by simp;omega
     have hβ:rs.length-1<(subβ S.β rs).length:=by simp [subβ];omega
     obtain ⟨row',info',q1,_⟩:=k5.rows (rs.length-1) _ _ (List.getElem?_eq_getElem hlt) (List.getElem?_eq_getElem hβ)
     have:=(List.getElem?_eq_some_iff.1 q1).1
     simp only at this;omega
   let ns:=List.range' rs.length (L1.length-rs.length)
   have hmem:∀ i,i ∈ ns ↔ rs.length<=i/\i<L1.length:=by
    intro i;simp only [ns,List.mem_range'_1];omega
   have hrefs:=refs_in k4
   obtain ⟨m1,m2,m3⟩:=back_ok (S1:=⟨S.base,ZcZ S rs,L1,β',w'⟩) (ns:=ns) (old:=L1.take rs.length) (new:=L1.drop rs.length) h5 hrows hnd hcl k4 k5 List.nodup_range' (fun i hi=>((hmem i).1 hi).1)
    (ZfD L1 _ hle) (getRows_drop L1 _ hle) (fun row hr r hrr=>by
     have hm:row ∈ L1:=by
      rcases List.mem_append.1 hr with h | h
      ·exact List.mem_of_mem_take h
      ·exact List.mem_of_mem_drop h
     have:=hrefs row hm r hrr
     by_cases hlt:r<rs.length
     ·exact .inl hlt
     ·exact .inr ((hmem r).2 ⟨by omega,this⟩))
   have heq:∀ r,r<L1.length->Zbb S.L.length rs ns r=Zdj S.L.length rs r:=by
    intro r hr
    unfold Zbb Zdj
    cases hb:Nat.blt r rs.length with
    | true=>rfl
    | false =>
     have hge:rs.length<=r:=by
      rcases Nat.lt_or_ge r rs.length with h | h
      ·rw [Nat.blt_eq.mpr h] at hb;simp at hb
      ·exact h
     simp only [cond_false,ns]
     rw [ZdS _ _ _ hge (by omega)]
   have hrow:∀ row ∈ L1,Zau (Zbb S.L.length rs ns) row=Zau (Zdj S.L.length rs) row:=by
    intro row hm
    unfold Zau
    cases hcr:row.clean with
    | true=>rfl
    | false =>
     simp only [cond_false]
     rw [renL_ext _ fun r hr=>heq r (hrefs row hm r (by unfold ZaV;rw [hcr];exact hr))]
   have hLL:ZbA S.L rs ns (L1.take rs.length) (L1.drop rs.length)=Zfz S.L rs L1:=by
    unfold ZbA Zfz
    rw [List.map_congr_left fun row hm=>hrow row (List.mem_of_mem_take hm),List.map_congr_left fun row hm=>hrow row (List.mem_of_mem_drop hm)]
   have hin:=rel_in k6
   have m3':=m3 v cv k6 fun r hr=>by
    have:=hin r hr
    by_cases hlt:r<rs.length
    ·exact .inl hlt
    ·exact .inr ((hmem r).2 ⟨by omega,this⟩)
   rw [renA_ext v fun r hr=>heq r (hin r hr)] at m3'
   rw [hLL] at m1 m2 m3'
   exact ⟨fr,w',_,cv,_,_,hq,k1,k2,k3,m1,m2,m3'⟩
  ·simp at hn
 ·simp at hn
theorem Zgw {n i:Nat} (h:i<n):ZaF (List.range n) i=i:=by
 rw [List.range_eq_range',ZdS n 0 i (Nat.zero_le _) (by omega)];rfl
theorem Zgs {f:Nat->Nat} {row:Row} (h:∀ r ∈ ZaV row,f r=r):Zau f row=row:=by
 unfold Zau
 cases hc:row.clean with
 | true=>rfl
 | false =>
  simp only [cond_false]
  rw [renL_ext (g:=fun r=>r) row.elems (fun r hr=>h r (by unfold ZaV;rw [hc];exact hr)),renL_id,<- hc]
theorem renA_self {f:Nat->Nat} {a:AV} (h:∀ r ∈ rowsA a,f r=r):renA f a=a:=by
 rw [renA_ext (g:=fun r=>r) a h,renA_id]
theorem put_all {α:Type} (l xs:List α) (h:xs.length=l.length):Zep l (List.range l.length) xs=xs:=by
 apply List.ext_getElem?
 intro i
 by_cases hi:i<l.length
 ·rw [Ze2 (List.range l.length) l xs List.nodup_range i i xs[i] (by simp [hi]) (List.getElem?_eq_getElem (by omega)) hi,List.getElem?_eq_getElem (by omega)]
 ·rw [List.getElem?_eq_none (by rw [ZaN];omega),List.getElem?_eq_none (by omega)]
theorem keepV_rel {S:St} {env:Vars} {tm:Array Value} (h:VRel S env tm) (ks:List Nat):VRel S (keepV ks env) tm:=by
 intro t
 have key:∀ ks:List Nat,Vars.get (keepV ks env) t=env.get t\/Vars.get (keepV ks env) t = .any:=by
  intro ks
  induction ks with
  | nil=>exact .inr rfl
  | cons x ks ih =>
   show (bif x==t then env.get x else Vars.get (keepV ks env) t)=_\/(bif x==t then env.get x else Vars.get (keepV ks env) t)=_
   cases hx:x==t with
   | true =>
    have:x=t:=by simpa using hx
    subst this;exact .inl rfl
   | false=>exact ih
 rcases key ks with e | e
 ·rw [e];exact h t
 ·rw [e];exact .any _
theorem drop_sound {M:Mach} {f:FuncId} {args:List AV} {L:Heap} {v:AV} {K:Heap} (hk:Zcx L.length v K=true) (ih:OwnQ M f args L (ZbR v K)):OwnQ M f args L (isR v K):=by
 unfold Zcx at hk
 simp only [Bool.and_eq_true,List.all_eq_true,Nat.blt_eq,Nat.beq_eq] at hk
 obtain ⟨hKl,hv,hK⟩:=hk
 intro S cargs h1 h2 h3
 subst h2
 have hrows:=ZgQ S.L
 have hnd:(List.range S.L.length).Nodup:=List.nodup_range
 have hin:=refs_in h1
 have hcl:∀ row ∈ S.L,∀ r ∈ ZaV row,r ∈ List.range S.L.length:=fun row hr r hrr=>by simpa using hin row hr r hrr
 obtain ⟨hSc,_,hrelc⟩:=sub_ok h1 hrows hnd hcl
 have hself:S.L.map (Zau (ZaF (List.range S.L.length)))=S.L:=by
  have:S.L.map (Zau (ZaF (List.range S.L.length)))=S.L.map id:=List.map_congr_left fun row hr=>by
   rw [Zgs fun r hrr=>Zgw (hin row hr r hrr)];rfl
  rw [this,List.map_id]
 have hrel':RelL ⟨S.base,ZcZ S (List.range S.L.length),S.L.map (Zau (ZaF (List.range S.L.length))),subβ S.β (List.range S.L.length),S.w⟩ args cargs:=by
  refine ⟨h3.1,fun i c cv hc hcv => ?_⟩
  have hri:=rel_in (h3.2 i c cv hc hcv)
  have:=hrelc c cv (h3.2 i c cv hc hcv) fun r hr=>by simpa using hri r hr
  rwa [renA_self fun r hr=>Zgw (hri r hr)] at this
 obtain ⟨m1,m2⟩:=ih _ cargs hSc hself hrel'
 refine ⟨m1,Calls.mono m2 fun e w' he => ?_⟩
 cases e with
 | panicked c=>exact he.elim
 | outgrown=>exact he.elim
 | returned cv =>
  obtain ⟨v',L1,β1,⟨rfl,hq⟩,n1,n2,n3⟩:=he
  rw [hKl] at hq
  have hlen:(List.range S.L.length).length=S.L.length:=List.length_range
  have hle:S.L.length<=L1.length:=by
   have:=congrArg List.length hq
   rw [List.length_take,hKl] at this
   omega
  have ho:ZaQ L1 (List.range (List.range S.L.length).length)=some K:=by
   rw [hlen,<- hq]
   have:=ZfD L1 S.L.length hle
   rw [hq] at this ⊢
   exact this
  obtain ⟨k1,k2,k3⟩:=back_ok (S1:=⟨S.base,ZcZ S (List.range S.L.length),L1,β1,w'⟩) (ns:=[]) (new:=[]) h1 hrows hnd hcl n1 n2 List.nodup_nil (by simp) ho rfl
   (fun row hr r hrr => .inl (by rw [hlen];exact hK row (by simpa using hr) r hrr))
  have hb:∀ r,r<S.L.length->Zbb S.L.length (List.range S.L.length) [] r=r:=by
   intro r hr
   rw [Zg8 (by rw [hlen];exact hr)];simp
  have hKK:ZbA S.L (List.range S.L.length) [] K []=K:=by
   unfold ZbA
   rw [List.map_nil,List.append_nil]
   have:K.map (Zau (Zbb S.L.length (List.range S.L.length) []))=K.map id:=List.map_congr_left fun row hr=>by
    rw [Zgs fun r hrr=>hb r (hK row hr r hrr)];rfl
   rw [this,List.map_id,put_all _ _ hKl]
  have k3':=k3 v' cv n3 fun r hr => .inl (by rw [hlen];exact hv r hr)
  rw [renA_self fun r hr=>hb r (hv r hr)] at k3'
  rw [hKK] at k1 k2 k3'
  exact ⟨v',K,_,⟨rfl,rfl⟩,k1,k2,k3'⟩
theorem text_app {M:Mach} {call:Za6} {n:Nat} {ops:Array Oper} {ans:Nat->Option Ans} {hot:Nat->Nat} {Q:Exit->Act->World->Prop} (l2:List Nat):∀ (l:List Nat) {s sf:RS} {S:St} {a:Act},ZaJ M.P M.inl call n ops ans hot l s=some sf ->
  (∀ b ∈ sf.asm,b=true)->(∀ q ∈ sf.eqs,q)->(∀ c ∈ sf.calls,c.cond=true->Zdv M c) ->
  HeapOk S->S.L=s.L->TRel S s.env a.tmps->n<=a.tmps.size ->
  (∀ S' a',HeapOk S'->Ext S S'->S'.L=sf.L->TRel S' sf.env a'.tmps->a'.tmps.size=a.tmps.size->a'.defers=a.defers->wpOps (M.P ()) ops Q l2 a' S'.w) ->
  wpOps (M.P ()) ops Q (l++l2) a S.w
 | [],s,sf,S,a,h,_,_,_,hS,hL,hT,_,hK=>by
  simp only [ZaJ,Option.some.injEq] at h;subst h
  exact hK S a hS (Ext.refl S) hL hT rfl rfl
 | i::rest,s,sf,S,a,h,hA,hQ,hC,hS,hL,hT,hn,hK=>by
  rw [List.cons_append,wpOps_cons]
  simp only [ZaJ] at h
  cases ho:ops[i]? with
  | none =>
   rw [ho] at h
   unfold wpOp
   simp only [ho]
   exact text_app l2 rest h hA hQ hC hS hL hT hn hK
  | some o =>
   rw [ho] at h
   simp only at h
   cases h1:Zb1 M.P M.inl call n ops (ans i) (hot i) o s with
   | none=>rw [h1] at h;simp at h
   | some s1 =>
    rw [h1] at h
    simp only at h
    obtain ⟨env,L,x,y,z,rfl,_⟩:=Zbo _ h
    refine Zef hS hL hT hn ho h1 (fun b hb=>hA b (by simp [hb])) (fun b hb=>hQ b (by simp [hb])) (fun b hb=>hC b (by simp [hb])) fun S' a' k1 k2 k3 k4 k5 k6 => ?_
    exact text_app l2 rest h hA hQ hC k1 k3 k4 (by rw [k5];exact hn) fun S'' a'' m1 m2 m3 m4 m5 m6=>hK S'' a'' m1 (k2.trans m2) m3 m4 (m5.trans k5) (m6.trans k6)
theorem range_split {n i:Nat} (h:i<n):List.range n=List.range i++i::(List.range n).drop (i+1):=by
 have h1:List.range i=(List.range n).take i:=by rw [List.take_range,Nat.min_eq_left (by omega)]
 have h2:(List.range n).drop i=i::(List.range n).drop (i+1):=by
  have h3:i<(List.range n).length:=by simpa using h
  rw [List.drop_eq_getElem_cons h3];simp
 rw [h1,<- h2,List.take_append_drop]
theorem nil_sound {M:Mach} {fi:Fi} {id i:Nat} {ops:Array Oper} {k:List Item} {env:Vars} {L:Heap} {Q:AV->Heap->Prop} {keep:List Nat} {s:Bool->RS}
  (hr:∀ b,nilRun M.P M.inl fi.n ops i env L b=some (s b)) (hA:∀ b,(∀ x ∈ (s b).asm,x=true)/\(s b).eqs=[]/\(s b).calls=[])
  (ih:∀ b,Zcz M fi k (Zfd keep (s b).env) (s b).L Q):Zcz M fi (.code (.region id ops false)::k) env L Q:=by
 intro S b a cs fn h1 h2 h3 h4 h5 h6 h7 h8
 let Q':Exit->Act->World->Prop:=fun e a' w'=>match e with
  | .normal => ∃ (t:Bool) (S':St),S'.w=w'/\HeapOk S'/\Ext S S'/\S'.L=(s t).L/\TRel S' (s t).env a'.tmps/\a'.tmps.size=a.tmps.size/\a'.defers=a.defers
  | _=>False
 have hwp:(Code.region id ops false).wp (M.P ()) Q' a S.w:=by
  refine wp_region ?_
  have h0:=hr true
  unfold nilRun at h0
  cases ho:ops[i]? with
  | none=>simp [ho] at h0
  | some o =>
  cases hs1:ZaJ M.P M.inl (fun _ _ _=>none) fi.n ops (fun _=>none) (fun _=>2) (List.range i) ⟨lift env,L,[],[],[]⟩ with
  | none=>simp [hs1] at h0
  | some s1 =>
  simp only [ho,hs1] at h0
  cases hd:nilTest M.P s1.env o with
  | none=>simp [hd] at h0
  | some d =>
  have hb:∀ t,∃ env1,putE fi.n (some d) [] (.bool t) s1.env=some env1/\ZaJ M.P M.inl (fun _ _ _=>none) fi.n ops (fun _=>none) (fun _=>2) ((List.range ops.size).drop (i+1)) ⟨env1,s1.L,s1.asm,s1.eqs,s1.calls⟩=some (s t):=by
   intro t
   have ht:=hr t
   unfold nilRun at ht
   simp only [ho,hs1,hd] at ht
   split at ht
   ·rename_i env1 he;exact ⟨env1,he,ht⟩
   ·simp at ht
  have hin:(∀ x ∈ s1.asm,x=true)/\s1.eqs=[]/\s1.calls=[]:=by
   obtain ⟨env1,_,ht⟩:=hb true
   obtain ⟨e2,L2,x,y,z,he,_⟩:=Zbo _ ht
   have:=hA true
   rw [he] at this
   simp only [List.append_eq_nil_iff] at this
   exact ⟨fun w hw=>this.1 w (by simp [hw]),this.2.1.1,this.2.2.1⟩
  have hlt:i<ops.size:=(Array.getElem?_eq_some_iff.1 ho).1
  rw [range_split hlt]
  refine text_app _ (List.range i) hs1 hin.1 (by rw [hin.2.1];simp) (by rw [hin.2.2];simp) h5 h6 (Zf7 h7) h8 fun S' a' k1 k2 k3 k4 k5 k6 => ?_
  rw [wpOps_cons]
  have hρ:∀ x,Rel S' (ev s1.env [] x) (a'.eval x):=ev_rel k4 (by intro x hx;simp at hx)
  obtain ⟨n1,n2,t,n3⟩:=nilTest_runs hd (S:=S') hρ
  obtain ⟨env1,he,ht⟩:=hb t
  have hc:Zbn ops s1.env o=some (some []):=by unfold Zbn;rw [n1]
  obtain ⟨hco,hw⟩:=Zg2 k4 hc
  unfold wpOp
  simp only [ho]
  rw [hw]
  simp only [Zax,if_true]
  left
  unfold Oper.wp
  rw [n3,Oper.upon_value,n2]
  have hput:=Zgv (cv:=.bool t) k4 (by rw [k5];exact h8) hco he (fun _ => .data _ _ (.bool t)) (fun h=>by simp [Zax] at h)
  obtain ⟨p1,p2,p3⟩:=hA t
  refine Zd5 _ ht p1 (by rw [p2];simp) (by rw [p3];simp) k1 k3 hput (by rw [Zd6,k5];exact h8) fun S'' a'' m1 m2 m3 m4 m5 m6 => ?_
  exact ⟨t,S'',rfl,m1,k2.trans m2,m3,m4,by rw [m5,Zd6,k5],by rw [m6];simpa [Act.put] using k6⟩
 obtain ⟨e,a',w',hq,harr⟩:=hwp b k cs
 cases e with
 | normal =>
  obtain ⟨t,S',rfl,k1,k2,k3,k4,k5,k6⟩:=hq
  obtain ⟨fr,w'',β',cv,v,L',hq,m1,m2,m3,m4,m5,m6⟩:=ih t S' b a' cs fn h1 h2 h3 (k6.trans h4) k1 k3 (Zej k4 keep) (by rw [k5];exact h8)
  rw [k2.base,k2.acc] at m4 m5 m6
  exact ⟨fr,w'',β',cv,v,L',hq,Steps.trans harr m1,m2,m3,m4,k2.trans m5,m6⟩
 | exit=>exact hq.elim
 | goto=>exact hq.elim
 | ret=>exact hq.elim
 | panic=>exact hq.elim
 | outgrown=>exact hq.elim
theorem both_sound {M:Mach} (hm:(M.P ()).follows .mixedOrders=true) {fi:Fi} {id:Nat} {ops:Array Oper} {env:Vars} {L:Heap} {call:Za6} {ans:Nat->Option Ans} {hot:Bool->Nat->Nat} {keep rs:List Nat} {p:Nat} {e1:Vars} {L1:Heap} {asl:List Bool} {qs:List Prop} {cl:List CF}
  (hd:∀ t,Zds (hot t) ops p=true) (hr:∀ t,bothRun M.P M.inl call fi.n ops ans (hot t) keep rs p env L t=some (e1,L1,asl,qs,cl)) (hA:∀ b ∈ asl,b=true) (hQ:∀ q ∈ qs,q) (hC:∀ c ∈ cl,c.cond=true->Zdv M c)
  {S:St} {a:Act} (h5:HeapOk S) (h6:S.L=L) (h7:VRel S env a.tmps) (h8:fi.n<=a.tmps.size) :
  (Code.region id ops true).wp (M.P ()) (fun e a' w'=>match e with
   | .normal => ∃ S':St,S'.w=w'/\HeapOk S'/\Ext S S'/\S'.L=L1/\VRel S' e1 a'.tmps/\a'.tmps.size=a.tmps.size/\a'.defers=a.defers
   | _=>False) a S.w:=by
 refine wp_region_any hm ?_
 obtain ⟨n1,n2⟩:=ZdW h5 (w':={ S.w with drawn:=S.w.drawn+1 }) ⟨rfl,rfl,rfl,Nat.le_refl _,fun _ _=>rfl⟩ (fun _ _=>rfl)
 have hf:=hr false
 have ht:=hr true
 unfold bothRun at hf ht
 simp only at hf ht
 have hp1:p+1<ops.size:=by
  have hd:=hd false
  unfold Zds at hd
  simp only [Bool.and_eq_true] at hd
  have:=hd.2.1
  cases h:ops[p+1]? with
  | none=>rw [h] at this;simp at this
  | some o=>exact (Array.getElem?_eq_some_iff.1 h).1
 split at hf
 ·rename_i s1 hs1
  simp only [Option.some.injEq,Prod.mk.injEq] at hf
  obtain ⟨f1,f2,f3,f4,f5⟩:=hf
  split at ht
  ·rename_i s2 hs2
   split at ht
   ·rename_i e2 K hn hall
    simp only [Option.some.injEq,Prod.mk.injEq] at ht
    obtain ⟨g1,g2,g3,g4,g5⟩:=ht
    subst g1 g2
    have hclosed:∀ (j:Nat) (o:Oper),ops[j]? = some o->(Array.replicate ops.size false).getD j false=true -> ∀ e ∈ o.after,Region.binds .any e=true->(Array.replicate ops.size false).getD e.on false=true:=by
     intro j o _ hj
     by_cases hlt:j<ops.size <;> simp [hlt] at hj
    refine draw_two (hd false) (hd true) ops.size (Array.replicate ops.size false) (List.range ops.size) ((List.range ops.size).map (sw p)) (S:=⟨S.base,S.acc,S.L,S.β,{ S.w with drawn:=S.w.drawn+1 }⟩)
     ⟨by simp,List.pairwise_lt_range,fun i => ?_,hclosed,hs1⟩ ⟨by simp,?_,fun i => ?_,hclosed,hs2⟩ (by simp) (by simp)
     (by rw [f3];exact hA) (by rw [f4];exact hQ) (by rw [f5];exact hC) (by rw [g3];exact hA) (by rw [g4];exact hQ) (by rw [g5];exact hC) n1 h6 ((Zf7 h7).mono n2) h8
     (fun S' a' k1 k2 k3 k4 k5 k6=>⟨S',rfl,k1,n2.trans k2,k3.trans f2,f1 ▸ Zej k4 keep,k5,k6⟩)
     (fun S' a' k1 k2 k3 k4 k5 k6 => ?_)
    ·simp only [List.mem_range]
     constructor
     ·intro h;exact ⟨h,by simp [h]⟩
     ·intro h;exact h.1
    ·rw [List.pairwise_map]
     exact List.pairwise_lt_range.imp fun h=>by rw [sw_sw,sw_sw];exact h
    ·simp only [List.mem_map,List.mem_range]
     constructor
     ·rintro ⟨j,h,rfl⟩
      have:=(sw_lt (i:=j) hp1).2 h
      exact ⟨this,by simp [this]⟩
     ·intro h;exact ⟨sw p i,(sw_lt hp1).2 h.1,sw_sw p i⟩
    ·unfold Zdp at hn
     split at hn
     ·rename_i rows hrows
      split at hn
      ·rename_i hc
       simp only [Option.some.injEq,Prod.mk.injEq] at hn
       obtain ⟨rfl,rfl⟩:=hn
       simp only [Bool.and_eq_true,List.all_eq_true,List.contains_iff_mem] at hc
       obtain ⟨hnd,ha,hcl⟩:=hc
       have hnd:=(Zdg rs).1 hnd
       simp only [Bool.and_eq_true,List.all_eq_true,List.mem_range] at hall
       rw [<- k3] at hrows
       obtain ⟨p1,p2,p3⟩:=perm_ok k1 n1 k2 hrows hnd hcl (fun r hr=>by
        have:=hall.2 r (by rw [<- h6];exact hr)
        cases h:rs[r]? with
        | none=>rw [h] at this;simp at this
        | some q=>rw [h] at this;simp only [Nat.beq_eq] at this;rw [this])
       refine ⟨⟨S'.base,S'.acc,rows.map (Zau (ZaF rs)),subβ S'.β rs,S'.w⟩,rfl,p1,n2.trans p2,rfl,fun t => ?_,k5,k6⟩
       rw [get_renV]
       exact p3 _ _ (Zej k4 keep t) fun r hr=>ha r (rows_get hr)
      ·simp at hn
     ·simp at hn
   ·simp at ht
  ·simp at ht
 ·simp at hf
theorem wp_sound {M:Mach} (hm:(M.P ()).follows .mixedOrders=true) {c:Conf} {Q:AV->Heap->Prop} (h:Wp M c Q):Means M c Q:=by
 induction h with
 | skip _ ih=>exact Zcz.step ih fun b a cs S _=>step_skip
 | seq _ ih=>exact Zcz.step ih fun b a cs S _=>step_seq
 | @cond fi c x y k env L Q t ht _ ih =>
  refine Zcz.step ih fun b a cs S hV => ?_
  have:=vget_rel (a:=a) hV c
  rw [ht] at this
  have hc:=Zcd this
  cases t with
  | true=>exact step_cond (t:=true) hc
  | false=>exact step_cond (t:=false) hc
 | block _ ih=>exact Zcz.step ih fun b a cs S _=>step_block
 | inBlock _ ih=>exact Zcz.step ih fun b a cs S _=>step_inBlock
 | loop _ ih=>exact Zcz.step ih fun b a cs S _=>step_loop
 | inLoop _ ih=>exact Zcz.step ih fun b a cs S _=>step_inLoop
 | exit he _ ih=>exact Zcz.step ih fun b a cs S _=>step_exit he
 | @region fi id ops draw k env L Q0 call ans hot keep s hd hr hA hQ ho hp _ iho ihp ih =>
  intro S b a cs fn h1 h2 h3 h4 h5 h6 h7 h8
  have hC:∀ c ∈ s.calls,c.cond=true->Zdv M c:=by
   intro c hc hcc
   unfold Zdv
   cases hown:c.own with
   | true=>exact OwnQ.snd (iho c hc hcc hown)
   | false=>exact PureR.snd (ihp c hc hcc hown)
  let Q:Exit->Act->World->Prop:=fun e a' w'=>match e with
   | .normal => ∃ S':St,S'.w=w'/\HeapOk S'/\Ext S S'/\S'.L=s.L/\TRel S' s.env a'.tmps/\a'.tmps.size=a.tmps.size/\a'.defers=a.defers
   | _=>False
  have hwp:(Code.region id ops draw).wp (M.P ()) Q a S.w:=by
   cases draw with
   | false =>
    exact wp_region (Zd5 _ hr hA hQ hC h5 h6 (Zf7 h7) h8 fun S' a' k1 k2 k3 k4 k5 k6=>⟨S',rfl,k1,k2,k3,k4,k5,k6⟩)
   | true =>
    refine wp_region_any hm ?_
    obtain ⟨n1,n2⟩:=ZdW h5 (w':={ S.w with drawn:=S.w.drawn+1 }) ⟨rfl,rfl,rfl,Nat.le_refl _,fun _ _=>rfl⟩ (fun _ _=>rfl)
    refine draw_sound (hd rfl) ops.size (Array.replicate ops.size false) (List.range ops.size) (S:=⟨S.base,S.acc,S.L,S.β,{ S.w with drawn:=S.w.drawn+1 }⟩) (by simp) List.pairwise_lt_range (fun i => ?_) (fun j o _ hj => ?_) (by simp) hr hA hQ hC n1 h6 ((Zf7 h7).mono n2) h8 fun S' a' k1 k2 k3 k4 k5 k6=>⟨S',rfl,k1,n2.trans k2,k3,k4,k5,k6⟩
    ·simp only [List.mem_range]
     constructor
     ·intro h;exact ⟨h,by simp [h]⟩
     ·intro h;exact h.1
    ·by_cases hlt:j<ops.size <;> simp [hlt] at hj
  obtain ⟨e,a',w',hq,harr⟩:=hwp b k cs
  cases e with
  | normal =>
   obtain ⟨S',rfl,k1,k2,k3,k4,k5,k6⟩:=hq
   obtain ⟨fr,w'',β',cv,v,L',hq,m1,m2,m3,m4,m5,m6⟩:=ih S' b a' cs fn h1 h2 h3 (k6.trans h4) k1 k3 (Zej k4 keep) (by rw [k5];exact h8)
   rw [k2.base,k2.acc] at m4 m5 m6
   exact ⟨fr,w'',β',cv,v,L',hq,Steps.trans harr m1,m2,m3,m4,k2.trans m5,m6⟩
  | exit=>exact hq.elim
  | goto=>exact hq.elim
  | ret=>exact hq.elim
  | panic=>exact hq.elim
  | outgrown=>exact hq.elim
 | @both fi id ops k env L Q0 call ans hot keep rs p e1 L1 asl qs cl hd hr hA hQ ho hp _ iho ihp ih =>
  intro S b a cs fn h1 h2 h3 h4 h5 h6 h7 h8
  have hC:∀ c ∈ cl,c.cond=true->Zdv M c:=by
   intro c hc hcc
   unfold Zdv
   cases hown:c.own with
   | true=>exact OwnQ.snd (iho c hc hcc hown)
   | false=>exact PureR.snd (ihp c hc hcc hown)
  let Q:Exit->Act->World->Prop:=fun e a' w'=>match e with
   | .normal => ∃ S':St,S'.w=w'/\HeapOk S'/\Ext S S'/\S'.L=L1/\VRel S' e1 a'.tmps/\a'.tmps.size=a.tmps.size/\a'.defers=a.defers
   | _=>False
  have hwp:(Code.region id ops true).wp (M.P ()) Q a S.w:=both_sound hm hd hr hA hQ hC h5 h6 h7 h8
  obtain ⟨e,a',w',hq,harr⟩:=hwp b k cs
  cases e with
  | normal =>
   obtain ⟨S',rfl,k1,k2,k3,k4,k5,k6⟩:=hq
   obtain ⟨fr,w'',β',cv,v,L',hq,m1,m2,m3,m4,m5,m6⟩:=ih S' b a' cs fn h1 h2 h3 (k6.trans h4) k1 k3 k4 (by rw [k5];exact h8)
   rw [k2.base,k2.acc] at m4 m5 m6
   exact ⟨fr,w'',β',cv,v,L',hq,Steps.trans harr m1,m2,m3,m4,k2.trans m5,m6⟩
  | exit=>exact hq.elim
  | goto=>exact hq.elim
  | ret=>exact hq.elim
  | panic=>exact hq.elim
  | outgrown=>exact hq.elim
 | @ret fi k env L v Q hf hq =>
  intro S b a cs fn h1 h2 h3 h4 h5 h6 h7 h8
  subst h6
  obtain ⟨cv,r1,r2⟩:=ZfG h5 h7 h2 hf
  exact ⟨_,S.w,S.β,cv,v,_,hq,.one step_ret,rfl,⟨rfl,h4,h3,fn,h1,r1⟩,h5,Ext.refl S,r2⟩
 | @done fi env L v Q hf hq =>
  intro S b a cs fn h1 h2 h3 h4 h5 h6 h7 h8
  subst h6
  obtain ⟨cv,r1,r2⟩:=ZfG h5 h7 h2 hf
  exact ⟨_,S.w,S.β,cv,v,_,hq,.one step_end,rfl,⟨rfl,h4,h3,fn,h1,r1⟩,h5,Ext.refl S,r2⟩
 | @own f args L Q fn c hf hb hn _ ih =>
  intro S cargs hS hL hr
  refine ⟨call_runs hf hb hn,fun cs => ?_⟩
  have henter:Frame.enter (M.P ()) f ⟨cargs⟩ .normal =
    ({ (default:Frame) with fn:=f,kind:=.normal }:Frame).at { tmps:=⟨cargs⟩++Array.replicate (fn.ntmps-(⟨cargs⟩:Array Value).size) undef,defers:=[] } [.code c]:=by
   simp [Frame.enter,Frame.at,hf,hb]
  obtain ⟨fr,w',β',cv,v,L',hq,k1,k2,k3,k4,k5,k6⟩:=ih S { (default:Frame) with fn:=f,kind:=.normal } { tmps:=⟨cargs⟩++Array.replicate (fn.ntmps-(⟨cargs⟩:Array Value).size) undef,defers:=[] } cs fn hf rfl rfl rfl hS hL
   (enter_rel _ hr) (by simp;omega)
  rw [<- henter] at k1
  exact ⟨.returned cv,w',fr,⟨v,L',β',hq,k4,k5,k6⟩,k1,k2,k3⟩
 | @pure f args Q _ ih =>
  intro base acc w cargs hb hac hr
  have hS:HeapOk ⟨base,acc,[],[],w⟩:=⟨hb,rfl,by simp,by simp,by simp,by simp,by simp,by simp,by simp,fun b off h=>hac b off (Nat.le_trans hb h)⟩
  obtain ⟨k1,k2⟩:=ih ⟨base,acc,[],[],w⟩ cargs hS rfl hr
  refine ⟨k1,Calls.mono k2 fun e w' he => ?_⟩
  cases e with
  | returned cv =>
   obtain ⟨v,L',β',⟨d,d',hd,hv,hcl,hw,hq⟩,m1,m2,m3⟩:=he
   refine ⟨d',hq,m2.below,weak_rel hw (pure_rel (S:=⟨base,acc,L',β',w'⟩) (S':=⟨base,acc,[],[],w'⟩) m1 rfl (fun b off hi _ => ?_) v m3 hd hv fun r hr row info q1 q2 off _ _ => ?_)⟩
   ·exact ⟨hi.1,by simp⟩
   ·exact ⟨m1.acq r info off q2,by simp⟩
  | panicked c=>exact he.elim
  | outgrown=>exact he.elim
 | @narrow fi k env L Q rs env' Lc hn _ ih=>exact narrow_sound hn ih
 | @drop f args L v K hk _ ih=>exact drop_sound hk ih
 | @less fi k env L Q ks _ ih=>exact fun S b a cs fn h1 h2 h3 h4 h5 h6 h7 h8=>ih S b a cs fn h1 h2 h3 h4 h5 h6 (keepV_rel h7 ks) h8
 | @nilq fi id ops k env L Q i keep s hr hA _ ih=>exact nil_sound hr hA ih
 | @mono c Q Q' _ hq ih =>
  cases c with
  | run fi todo env L =>
   intro S b a cs fn h1 h2 h3 h4 h5 h6 h7 h8
   obtain ⟨fr,w',β',cv,v,L',hqq,k⟩:=ih S b a cs fn h1 h2 h3 h4 h5 h6 h7 h8
   exact ⟨fr,w',β',cv,v,L',hq v L' hqq,k⟩
  | own f args L =>
   intro S cargs h1 h2 h3
   obtain ⟨k1,k2⟩:=ih S cargs h1 h2 h3
   refine ⟨k1,Calls.mono k2 fun e w' he => ?_⟩
   cases e with
   | returned cv =>
    obtain ⟨v,L',β',hqq,m⟩:=he
    exact ⟨v,L',β',hq v L' hqq,m⟩
   | panicked c=>exact he.elim
   | outgrown=>exact he.elim
  | pure f args =>
   intro base acc w cargs h1 h2 h3
   obtain ⟨k1,k2⟩:=ih base acc w cargs h1 h2 h3
   refine ⟨k1,Calls.mono k2 fun e w' he => ?_⟩
   cases e with
   | returned cv =>
    obtain ⟨d,hqq,m⟩:=he
    exact ⟨d,hq d [] hqq,m⟩
   | panicked c=>exact he.elim
   | outgrown=>exact he.elim
 | @weak f args v d _ hw ih =>
  intro base acc w cargs hb hac hr
  obtain ⟨k1,k2⟩:=ih base acc w cargs hb hac hr
  refine ⟨k1,Calls.mono k2 fun e w' he => ?_⟩
  cases e with
  | returned cv =>
   obtain ⟨d0,⟨rfl,_⟩,m1,m2⟩:=he
   exact ⟨d,⟨rfl,rfl⟩,m1,weak_rel hw m2⟩
  | panicked c=>exact he.elim
  | outgrown=>exact he.elim
theorem ev_sound {M:Mach} (hm:(M.P ()).follows .mixedOrders=true) {f:FuncId} {args:List AV} {v:AV} (h:Ev M (.pure f args) v []):Zhb M f args v:=
 PureR.snd (wp_sound hm h)
end Go.Av

namespace Go.Av
open Go.RowKit Go.WideShapes Go.ChangeShapes
def TyL (R:TypeId->List AV->Prop):List TypeId->List AV->Prop
 | [],cs=>cs=[]
 | t::ts,cs => ∃ a b,cs=a++b/\R t a/\TyL R ts b
def aggT (P:Program) (t:TypeId):Bool:=
 match P.underlying t with
 | some (.struct _) | some (.array _ _)=>true
 | _=>false
def ZdT (P:Program) (t:TypeId) (cs:List AV):AV:=if aggT P t=true then .agg cs else cs.headD .any
def Ty (P:Program):Nat->TypeId->List AV->Prop
 | 0,_,_=>False
 | n+1,t,cs =>
  match P.underlying t with
  | some .bool => ∃ b,cs=[.bool b]
  | some (.int k) => ∃ m,cs=[.int k m]/\k.min<=m/\m<=k.max
  | some .string => ∃ s,cs=[.str s]/\s.length<=maxLen
  | some (.slice e) => ∃ xs,cs=[.vec false (P.cellsOf e) xs]/\xs.length<=maxLen /\ ∀ x ∈ xs,∃ ys,Ty P n e ys/\x=ZdT P e ys
  | some (.struct fs)=>TyL (Ty P n) (fs.toList.map (·.type)) cs
  | some (.array m e)=>TyL (Ty P n) (List.replicate m e) cs
  | _=>False
def Ze8 (P:Program):Nat->List Field->Nat->Bool
 | off,[],n=>off==n
 | off,f::fs,n=>f.offset==off&&Ze8 P (off+P.cellsOf f.type) fs n
def ZdM (P:Program):Nat->TypeId->Bool
 | 0,_=>false
 | n+1,t =>
  match P.underlying t with
  | some .bool | some (.int _) | some .string=>P.cellsOf t==1
  | some (.slice e)=>P.cellsOf t==1&&ZdM P n e&&Nat.blt 0 (P.cellsOf e)
  | some (.struct fs)=>(fs.toList.all fun f=>ZdM P n f.type)&&Ze8 P 0 fs.toList (P.cellsOf t)
  | some (.array m e)=>ZdM P n e&&P.cellsOf t==m*P.cellsOf e
  | _=>false
def S0 (w:World):St:=⟨w.heap.size,fun _ _=>True,[],[],w⟩
structure RelD (w:World) (axs:List AV) (cs:List Value):Prop where
 len:axs.length=cs.length
 plain:axs.all AV.plain=true
 rel:∀ (i:Nat) a c,axs[i]? = some a->cs[i]? = some c->DRel (S0 w) a c
theorem RelD.append {w:World} {axs bs:List AV} {cs ds:List Value} (h:RelD w axs cs) (k:RelD w bs ds):RelD w (axs++bs) (cs++ds):=by
 refine ⟨by simp [h.len,k.len],by simp [List.all_append,h.plain,k.plain],fun i a c ha hc => ?_⟩
 by_cases hi:i<axs.length
 ·rw [List.getElem?_append_left hi] at ha
  rw [List.getElem?_append_left (by rw [<- h.len];exact hi)] at hc
  exact h.rel i a c ha hc
 ·rw [List.getElem?_append_right (by omega)] at ha
  rw [List.getElem?_append_right (by have:=h.len;omega),<- h.len] at hc
  exact k.rel _ a c ha hc
theorem RelD.one {w:World} {a:AV} {c:Value} (hp:a.plain=true) (h:DRel (S0 w) a c):RelD w [a] [c]:=
 ⟨rfl,by simp [hp],fun i x y hx hy=>by cases i with
  | zero=>simp at hx hy;subst hx;subst hy;exact h
  | succ i=>simp at hx⟩
theorem list_of {α:Type} {R:Nat->α->Prop}:∀ (n:Nat),(∀ i,i<n -> ∃ x,R i x) -> ∃ xs:List α,xs.length=n /\ ∀ (i:Nat) x,xs[i]? = some x->R i x
 | 0,_=>⟨[],rfl,by simp⟩
 | n+1,h=>by
  obtain ⟨xs,h1,h2⟩:=list_of n (fun i hi=>h i (by omega))
  obtain ⟨x,hx⟩:=h n (by omega)
  refine ⟨xs++[x],by simp [h1],fun i y hy => ?_⟩
  by_cases hi:i<xs.length
  ·rw [List.getElem?_append_left hi] at hy;exact h2 i y hy
  ·rw [List.getElem?_append_right (by omega)] at hy
   have:i=n:=by
    have:=(List.getElem?_eq_some_iff.1 hy).1
    simp at this;omega
   subst this
   rw [h1] at hy
   simp at hy;subst hy;exact hx
section
variable {H:Type} {enc:TypeId × Value->H} {P:Program} {w:World} {sp:Nat->Bool} {held:Bool}
theorem ZhJ {R:TypeId->List AV->Prop}:∀ (fs:List Field) (off:Nat) (cs:List Value),Ze8 P off fs cs.length=true ->
  (∀ f ∈ fs,∃ axs,R f.type axs/\RelD w axs ((cs.drop f.offset).take (P.cellsOf f.type))/\((cs.drop f.offset).take (P.cellsOf f.type)).length=P.cellsOf f.type) ->
  ∃ axs,TyL R (fs.map (·.type)) axs/\RelD w axs (cs.drop off)
 | [],off,cs,hl,_=>by
  simp only [Ze8,beq_iff_eq] at hl
  refine ⟨[],rfl,?_⟩
  rw [List.drop_eq_nil_of_le (by omega)]
  exact ⟨rfl,rfl,by simp⟩
 | f::fs,off,cs,hl,h=>by
  simp only [Ze8,Bool.and_eq_true,beq_iff_eq] at hl
  obtain ⟨rfl,hl⟩:=hl
  obtain ⟨axs,h1,h2,h3⟩:=h f (List.mem_cons_self ..)
  obtain ⟨bs,k1,k2⟩:=ZhJ fs _ cs hl (fun g hg=>h g (List.mem_cons_of_mem _ hg))
  refine ⟨axs++bs,⟨axs,bs,rfl,h1,k1⟩,?_⟩
  have:=h2.append k2
  rwa [<- List.drop_drop,List.take_append_drop] at this
theorem read_same {R:TypeId->List AV->Prop} {e:TypeId} {z:Nat}:∀ (m:Nat) (cs:List Value),cs.length=m*z ->
  (∀ i,i<m -> ∃ axs,R e axs/\RelD w axs ((cs.drop (i*z)).take z)) -> ∃ axs,TyL R (List.replicate m e) axs/\RelD w axs cs
 | 0,cs,hl,_=>by
  have:cs=[]:=List.length_eq_zero_iff.1 (by simpa using hl)
  subst this
  exact ⟨[],rfl,rfl,rfl,by simp⟩
 | m+1,cs,hl,h=>by
  obtain ⟨axs,h1,h2⟩:=h 0 (by omega)
  simp only [Nat.zero_mul,List.drop_zero] at h2
  obtain ⟨bs,k1,k2⟩:=read_same (R:=R) (e:=e) (z:=z) m (cs.drop z) (by simp [hl,Nat.add_mul]) fun i hi=>by
   obtain ⟨axs,q1,q2⟩:=h (i+1) (by omega)
   refine ⟨axs,q1,?_⟩
   rw [List.drop_drop]
   have:z+i*z=(i+1)*z:=by rw [Nat.add_mul];omega
   rw [this];exact q2
  refine ⟨axs++bs,⟨axs,bs,rfl,h1,k1⟩,?_⟩
  have:=h2.append k2
  rwa [List.take_append_drop] at this
theorem Zd9:∀ (n:Nat) (t:TypeId) (cs:List Value) (x:DataW H × List MemPlace) (fuel:Nat),ZdM P n t=true->DataW.trod enc P w 0 sp held fuel t cs=some x ->
  ∃ axs,Ty P n t axs/\RelD w axs cs/\cs.length=P.cellsOf t
 | 0,t,cs,x,fuel,hs,_=>by simp [ZdM] at hs
 | n+1,t,cs,x,fuel,hs,hx=>by
  unfold ZdM at hs
  unfold Ty
  split at hs
  ·rename_i hu
   try simp only [hu]
   obtain ⟨b,rfl,_⟩:=DataW.trod_bool hu hx
   exact ⟨[.bool b],⟨b,rfl⟩,.one rfl (.bool b),by simp only [beq_iff_eq] at hs;exact hs.symm⟩
  ·rename_i k hu
   try simp only [hu]
   obtain ⟨m,rfl,_,hw⟩:=DataW.trod_int hu hx
   simp only [Lit.wf,Bool.and_eq_true,decide_eq_true_eq] at hw
   exact ⟨[.int k m],⟨m,rfl,hw.1,hw.2⟩,.one rfl (.int k m),by simp only [beq_iff_eq] at hs;exact hs.symm⟩
  ·rename_i hu
   try simp only [hu]
   obtain ⟨s,rfl,_,hw⟩:=DataW.trod_string hu hx
   obtain ⟨⟨l⟩⟩:=s
   exact ⟨[.str l],⟨l,rfl,hw⟩,.one rfl (.str l),by simp only [beq_iff_eq] at hs;exact hs.symm⟩
  ·rename_i e hu
   try simp only [hu]
   simp only [Bool.and_eq_true,beq_iff_eq,Nat.blt_eq] at hs
   obtain ⟨⟨hs1,hs2⟩,hs3⟩:=hs
   rcases DataW.trod_slice hu hx with ⟨rfl,_⟩ | ⟨a,len,cap,elems,rest,m,_,rfl,_,_,hlc,hcm,hel,hall,_,_⟩
   ·exact ⟨[.vec false (P.cellsOf e) []],⟨[],rfl,by simp,by simp⟩,.one rfl (.vecE _ _ _ _ (by simp)),hs1.symm⟩
   ·have hget:∀ i,i<len -> ∃ x:AV,∃ ys cs',Ty P n e ys/\x=ZdT P e ys/\RelD w ys cs'/\cs'.length=P.cellsOf e/\w.cells? 0 (a.add (i*P.cellsOf e)) (P.cellsOf e)=some cs':=by
     intro i hi
     have h1:=hall i hi
     rw [List.getElem?_eq_getElem (by omega)] at h1
     obtain ⟨cs',h2,h3⟩:=Option.bind_eq_some_iff.1 h1
     obtain ⟨ys,k1,k2,k3⟩:=Zd9 n e cs' _ m hs2 h3
     exact ⟨_,ys,cs',k1,rfl,k2,k3,h2⟩
    obtain ⟨xs,hxl,hxs⟩:=list_of len hget
    have hpack:∀ {ys:List AV} {cs':List Value},Ty P n e ys->RelD w ys cs'->cs'.length=P.cellsOf e->(ZdT P e ys).cells=ys:=by
     intro ys cs' hty hrd hl
     unfold ZdT
     split
     ·rfl
     ·rename_i hagg
      have h1:∃ y,ys=[y]:=by
       cases n with
       | zero=>simp [ZdM] at hs2
       | succ n =>
        unfold Ty at hty
        unfold aggT at hagg
        split at hty
        ·obtain ⟨b,rfl⟩:=hty;exact ⟨_,rfl⟩
        ·obtain ⟨b,rfl,_⟩:=hty;exact ⟨_,rfl⟩
        ·obtain ⟨b,rfl,_⟩:=hty;exact ⟨_,rfl⟩
        ·obtain ⟨b,rfl,_⟩:=hty;exact ⟨_,rfl⟩
        ·rename_i hu';simp [hu'] at hagg
        ·rename_i hu';simp [hu'] at hagg
        ·exact hty.elim
      obtain ⟨y,rfl⟩:=h1
      have:=hrd.plain
      simp only [List.all_cons,List.all_nil,Bool.and_true] at this
      simp only [List.headD_cons]
      cases y <;> first | rfl | simp [AV.plain] at this
    have hok:ZbO (P.cellsOf e) xs:=by
     intro i x hix
     obtain ⟨ys,cs',k1,rfl,k3,k4,_⟩:=hxs i x hix
     rw [hpack k1 k3 k4]
     exact ⟨k3.len.trans k4,k3.plain⟩
    refine ⟨[.vec false (P.cellsOf e) xs],⟨xs,rfl,by omega,fun x hx => ?_⟩,.one rfl ?_,hs1.symm⟩
    ·obtain ⟨i,hi⟩:=List.getElem?_of_mem hx
     obtain ⟨ys,cs',k1,k2,_⟩:=hxs i x hi
     exact ⟨ys,k1,k2⟩
    ·subst hxl
     cases hxe:xs with
     | nil=>exact .vecE _ _ _ _ (by simp)
     | cons x0 xs0 =>
      obtain ⟨b,off,spot⟩:=a
      have hlen0:0<xs.length:=by rw [hxe];simp
      obtain ⟨ys0,cs0,_,_,_,z4,z5⟩:=hxs 0 xs[0] (List.getElem?_eq_getElem hlen0)
      obtain ⟨_,_,z6⟩:=World.cells?_some z5
      have z7:=z6 0 hs3
      rw [List.getElem?_eq_getElem (by omega)] at z7
      have hspot:spot=none:=by simpa [Addr.add] using World.cell?_spot z7
      subst hspot
      have hcell:∀ (i:Nat) x (k:Nat) c,xs[i]? = some x->x.cells[k]? = some c -> ∃ cv,w.cell? ⟨b,off+i*P.cellsOf e+k,none⟩=some cv/\DRel (S0 w) c cv:=by
       intro i x k c hix hk
       obtain ⟨ys,cs',k1,rfl,k3,k4,k5⟩:=hxs i x hix
       rw [hpack k1 k3 k4] at hk
       obtain ⟨_,_,k6⟩:=World.cells?_some k5
       have hkl:k<ys.length:=(List.getElem?_eq_some_iff.1 hk).1
       have hkc:k<cs'.length:=by rw [<- k3.len];exact hkl
       have h1:=k6 k (by omega)
       rw [List.getElem?_eq_getElem hkc] at h1
       rw [Zbr,Zbr] at h1
       exact ⟨_,h1,k3.rel k c _ hk (List.getElem?_eq_getElem hkc)⟩
      rw [<- hxe]
      refine .vec false (P.cellsOf e) xs b off cap hok (by simp) hlc (fun i x k c hix hk => ?_) (fun i x k c cv hix hk hcv => ?_)
      ·obtain ⟨cv,h1,_⟩:=hcell i x k c hix hk
       exact ⟨⟨cv,h1⟩,⟨trivial,by simp [S0]⟩⟩
      ·obtain ⟨cv',h1,h2⟩:=hcell i x k c hix hk
       have:cv'=cv:=by
        have h3:w.cell? ⟨b,off+i*P.cellsOf e+k,none⟩=some cv:=hcv
        rw [h1] at h3;exact Option.some.inj h3
       subst this;exact h2
  ·rename_i fs hu
   try simp only [hu]
   simp only [Bool.and_eq_true,List.all_eq_true] at hs
   obtain ⟨hs1,hs2⟩:=hs
   obtain ⟨xs,m,_,_,hl,hxl,hf⟩:=DataW.trod_struct hu hx
   obtain ⟨axs,k1,k2⟩:=ZhJ (P:=P) (w:=w) (R:=Ty P n) fs.toList 0 cs (by rw [hl];exact hs2) fun f hfm=>by
    obtain ⟨i,hi⟩:=List.getElem?_of_mem hfm
    have hi':fs[i]? = some f:=by simpa using hi
    have h1:=hf i f hi'
    have hilt:i<xs.length:=by rw [hxl];exact (Array.getElem?_eq_some_iff.1 hi').1
    rw [List.getElem?_eq_getElem hilt] at h1
    obtain ⟨axs,q1,q2,q3⟩:=Zd9 n f.type _ _ m (hs1 f hfm) h1
    exact ⟨axs,q1,q2,q3⟩
   exact ⟨axs,k1,by simpa using k2,hl⟩
  ·rename_i m e hu
   try simp only [hu]
   simp only [Bool.and_eq_true,beq_iff_eq] at hs
   obtain ⟨hs1,hs2⟩:=hs
   obtain ⟨xs,q,_,_,hl,hxl,hf⟩:=DataW.trod_array hu hx
   obtain ⟨axs,k1,k2⟩:=read_same (w:=w) (R:=Ty P n) (e:=e) (z:=P.cellsOf e) m cs (by rw [hl,hs2]) fun i hi=>by
    have h1:=hf i hi
    rw [List.getElem?_eq_getElem (by omega)] at h1
    obtain ⟨axs,q1,q2,_⟩:=Zd9 n e _ _ q hs1 h1
    exact ⟨axs,q1,q2⟩
   exact ⟨axs,k1,k2,hl⟩
  ·simp at hs
theorem read_arg {n:Nat} {t:TypeId} {v:Value} {d:DataW H} {ps:List MemPlace} {r:Reach} {b0:Nat} (hs:ZdM P n t=true) (hval:Value.okWide P w r b0 t v) (hd:DataW.Trod enc P w 0 sp held t v d ps) :
  ∃ axs,Ty P n t axs/\DRel (S0 w) (ZdT P t axs) v:=by
 obtain ⟨fuel,hf⟩:=hd
 obtain ⟨axs,h1,h2,h3⟩:=Zd9 n t _ _ fuel hs hf
 refine ⟨axs,h1,?_⟩
 unfold ZdT
 cases n with
 | zero=>simp [ZdM] at hs
 | succ n =>
  have one:v.cells = #[v]->(∃ a,axs=[a])->DRel (S0 w) (axs.headD .any) v:=by
   rintro hc ⟨a,rfl⟩
   exact h2.rel 0 a v rfl (by rw [hc];rfl)
  unfold Ty at h1
  unfold aggT
  split at h1
  ·rename_i hu
   obtain ⟨b,rfl⟩:=h1
   obtain ⟨b',rfl⟩:=okWide_bool hu hval
   simp only [hu,Bool.false_eq_true,if_false]
   exact one rfl ⟨_,rfl⟩
  ·rename_i hu
   obtain ⟨b,rfl,_⟩:=h1
   obtain ⟨b',rfl⟩:=okWide_int hu hval
   simp only [hu,Bool.false_eq_true,if_false]
   exact one rfl ⟨_,rfl⟩
  ·rename_i hu
   obtain ⟨b,rfl,_⟩:=h1
   obtain ⟨b',rfl⟩:=okWide_string hu hval
   simp only [hu,Bool.false_eq_true,if_false]
   exact one rfl ⟨_,rfl⟩
  ·rename_i hu
   obtain ⟨b,rfl,_⟩:=h1
   obtain ⟨b1,b2,b3,rfl⟩:=okWide_slice hu hval
   simp only [hu,Bool.false_eq_true,if_false]
   exact one rfl ⟨_,rfl⟩
  ·rename_i fs hu
   obtain ⟨cs,rfl,_⟩:=okWide_struct hu hval
   simp only [hu,if_true]
   obtain ⟨cs⟩:=cs
   exact .agg axs cs h2.len h2.rel
  ·rename_i m e hu
   have:∃ cs,v = .agg cs:=by
    unfold Value.okWide at hval
    rw [hu] at hval
    obtain ⟨cs,rfl,_⟩:=hval
    exact ⟨cs,rfl⟩
   obtain ⟨⟨cs⟩,rfl⟩:=this
   simp only [hu,if_true]
   exact .agg axs cs h2.len h2.rel
  ·exact h1.elim
end
theorem Zgm {P:Program} {n:Nat} {t:TypeId} {fs:Array Field} {cs:List AV} (hu:P.underlying t=some (.struct fs)) (h:Ty P (n+1) t cs):TyL (Ty P n) (fs.toList.map (·.type)) cs:=by
 unfold Ty at h;rw [hu] at h;exact h
theorem Zcj {P:Program} {n:Nat} {t:TypeId} {k:IntKind} {cs:List AV} (hu:P.underlying t=some (.int k)) (h:Ty P (n+1) t cs):∃ m,cs=[.int k m]/\k.min<=m/\m<=k.max:=by
 unfold Ty at h;rw [hu] at h;exact h
theorem list_form {τ:Type} {enc:τ->AV}:∀ (xs:List AV),(∀ x ∈ xs,∃ a,x=enc a) -> ∃ X:List τ,xs=X.map enc
 | [],_=>⟨[],rfl⟩
 | x::xs,h=>by
  obtain ⟨a,rfl⟩:=h x (List.mem_cons_self ..)
  obtain ⟨X,rfl⟩:=list_form xs fun y hy=>h y (List.mem_cons_of_mem _ hy)
  exact ⟨a::X,rfl⟩
theorem ty_list {P:Program} {τ:Type} {enc:τ->AV} {n:Nat} {t e:TypeId} {cs:List AV} (hu:P.underlying t=some (.slice e)) (he:∀ ys,Ty P n e ys -> ∃ a,ZdT P e ys=enc a) (h:Ty P (n+1) t cs) :
  ∃ X:List τ,cs=[.vec false (P.cellsOf e) (X.map enc)]/\X.length<=maxLen:=by
 simp only [Ty,hu] at h
 obtain ⟨xs,rfl,hl,hx⟩:=h
 obtain ⟨X,rfl⟩:=list_form (enc:=enc) xs fun x hxm=>by
  obtain ⟨ys,h1,rfl⟩:=hx x hxm
  obtain ⟨a,ha⟩:=he ys h1
  exact ⟨a,ha⟩
 exact ⟨X,rfl,by simpa using hl⟩
end Go.Av

namespace Go.Av
open Go.RowKit Go.WideShapes Go.ChangeShapes
section
variable {H:Type} {enc:TypeId × Value->H} {P:Program}
theorem all_stays (hl:laidOutB P=true) {W W':World} {sp:Nat->Bool} (hb:Below W.heap.size W W'):∀ (ts:List TypeId) (vs:List Value) (ds:List (DataW H)) (ps:List MemPlace),
  (∀ t ∈ ts,P.readableRec t=true/\t<P.types.size)->(∀ x ∈ ps,x.block<W.heap.size)->(∀ x ∈ ps,sp x.block=true)->DataW.TrodAll enc P W 0 (fun _=>true) true ts vs ds ps->DataW.TrodAll enc P W' 0 sp true ts vs ds ps
 | [],vs,ds,ps,_,_,_,h=>by
  obtain ⟨rfl,rfl,rfl⟩:=trodAll_nil h
  rfl
 | t::ts,vs,ds,ps,ht,hlt,hsp,h=>by
  obtain ⟨v,vs,d,ds,p,q,rfl,rfl,rfl,h1,h2⟩:=trodAll_cons h
  obtain ⟨r1,r2⟩:=ht t (List.mem_cons_self ..)
  exact ⟨p,q,WideElems.Trod_stays hl r1 r2 h1 (fun x hx=>hb.same (hlt x (by simp [hx]))) (fun x hx=>hsp x (by simp [hx])),
   all_stays hl hb ts vs ds q (fun t ht'=>ht t (List.mem_cons_of_mem _ ht')) (fun x hx=>hlt x (by simp [hx])) (fun x hx=>hsp x (by simp [hx])) h2,rfl⟩
theorem args_read {W:World} {n base:Nat}:∀ (ts:List TypeId) (vs:List Value) (ds:List (DataW H)) (ps:List MemPlace),(∀ t ∈ ts,ZdM P n t=true) ->
  (∀ (j:Nat) t v,ts[j]? = some t->vs[j]? = some v->Value.okWide P W .any base t v)->DataW.TrodAll enc P W 0 (fun _=>true) true ts vs ds ps ->
  ∃ ass:List (List AV),ass.length=ts.length/\(∀ (j:Nat) t bs,ts[j]? = some t->ass[j]? = some bs->Ty P n t bs)/\RelL (S0 W) ((ts.zip ass).map fun x=>ZdT P x.1 x.2) vs/\ds.length=ts.length
 | [],vs,ds,ps,_,_,h=>by
  obtain ⟨rfl,rfl,rfl⟩:=trodAll_nil h
  exact ⟨[],rfl,by simp,.nil _,rfl⟩
 | t::ts,vs,ds,ps,hs,hv,h=>by
  obtain ⟨v,vs,d,ds,p,q,rfl,rfl,rfl,h1,h2⟩:=trodAll_cons h
  obtain ⟨bs,k1,k2⟩:=read_arg (hs t (List.mem_cons_self ..)) (hv 0 t v rfl rfl) h1
  obtain ⟨ass,m1,m2,m3,m4⟩:=args_read ts vs ds q (fun t ht=>hs t (List.mem_cons_of_mem _ ht)) (fun j t v hj hv'=>hv (j+1) t v (by simpa using hj) (by simpa using hv')) h2
  refine ⟨bs::ass,by simp [m1],fun j t' bs' hj ha => ?_,.cons (.data _ _ k2) m3,by simp [m4]⟩
  cases j with
  | zero=>simp at hj ha;subst hj;subst ha;exact k1
  | succ j=>exact m2 j t' bs' (by simpa using hj) (by simpa using ha)
theorem law_post {M:Mach} (hP:M.P ()=P) (hm:P.follows .mixedOrders=true) (hl:laidOutB P=true) {f:FuncId} {F:Func} {s:ChangeSpec} {n:Nat} {tb:TypeId} (hvars:s.vars=[]) (hrt:F.resultTypes = #[tb]) (htb:P.underlying tb=some .bool)
  (hserved:∀ t ∈ F.params.toList,ZdM P n t=true/\P.readableRec t=true/\t<P.types.size)
  (hs:∀ (ds:List (DataW H)),ds.length=F.params.toList.length->s.fn H ds = { results:=[.lit (.bool true)],args:=ds })
  (hev:∀ ass:List (List AV),ass.length=F.params.toList.length->(∀ (j:Nat) t bs,F.params.toList[j]? = some t->ass[j]? = some bs->Ty P n t bs) ->
   Ev M (.pure f ((F.params.toList.zip ass).map fun x=>ZdT P x.1 x.2)) (.bool true) [])
  {apart handsOn:Bool} {W:World} {base:Nat} {args:Array Value} {ds gs:List (DataW H)} {before:List MemPlace}
  (hval:∀ (j:Nat) t v,F.params[j]? = some t->args[j]? = some v->Value.okWide P W .any base t v) (hW:DataW.Whole enc P F.params.toList s.vars apart W args.toList ds gs before) :
  Calls P f args W fun e W' => ∃ v,e = .returned v/\s.post enc P F apart true handsOn false W args v W':=by
 have hW':=hW
 obtain ⟨p,q,hA,hV,rfl,hfz,hnd⟩:=hW
 rw [hvars] at hV
 obtain ⟨rfl,rfl⟩:=trodVars_none hV
 obtain ⟨ass,k1,k2,k3,k4⟩:=args_read F.params.toList args.toList ds p (fun t ht=>(hserved t ht).1) (fun j t v hj hv=>hval j t v (by simpa using hj) (by simpa using hv)) hA
 have hlt:∀ x ∈ p,x.block<W.heap.size:=fun x hx=>by simpa using hW'.lt x (by simpa using hx)
 obtain ⟨_,h2⟩:=(ev_sound (M:=M) (by rw [hP];exact hm) (hev ass k1 k2):Zhb M f _ _) W.heap.size (fun _ _=>True) W args.toList (Nat.le_refl _) (fun _ _ _=>trivial) k3
 rw [hP] at h2
 refine Calls.mono h2 fun e W' he => ?_
 cases e with
 | returned cv =>
  obtain ⟨hb,hd⟩:=he
  cases hd
  have hpl:∀ x ∈ p,decide (x.block<W.heap.size)=true:=fun x hx=>by simpa using hlt x hx
  refine ⟨_,rfl,ds,[],p++[],[],p,[],hW',?_,?_,?_,hb.frame _,fun h=>by simp at h⟩
  ·rw [List.append_nil,hs ds k4,hrt]
   exact trodAll_mk1 (shut_bool htb true)
  ·rw [List.append_nil,hs ds k4]
   exact all_stays hl hb _ _ _ _ (fun t ht=>(hserved t ht).2) hlt hpl hA
  ·rw [List.append_nil,hs ds k4,hvars];rfl
 | panicked c=>exact he.elim
 | outgrown=>exact he.elim
end
end Go.Av

namespace Go.Av
theorem w64 (n:Int) (h:-9223372036854775808<=n/\n<=9223372036854775807):IntKind.i64.wrap n=n:=by
 have e1:(2:Int) ^ IntKind.i64.bits=18446744073709551616:=rfl
 have e2:(2:Int) ^ (IntKind.i64.bits-1)=9223372036854775808:=rfl
 have e3:IntKind.i64.signed=true:=rfl
 simp only [IntKind.wrap,e1,e2,e3,Bool.true_and,decide_eq_true_eq]
 split <;> omega
theorem Zam {c:Bool} (h:c=true):(c==true)=true:=by simp [h]
theorem Zak {c:Bool} (h:¬c=true):(c==false)=true:=by simp at h;simp [h]
theorem Zbu (c:Bool):c=true ↔ c=true:=Iff.rfl
theorem Zac {p:Prop} [Decidable p]:decide p=true ↔ p:=decide_eq_true_iff
theorem Zbq {c:Bool} {C:Prop} (h:c=true ↔ C):(!c)=true ↔ ¬C:=by rw [<- h];cases c <;> simp
theorem Za4 {c d:Bool} {C D:Prop} (h:c=true ↔ C) (g:d=true ↔ D):(c&&d)=true ↔ (C/\D):=by rw [<- h,<- g];simp
theorem ZbP {c d:Bool} {C D:Prop} (h:c=true ↔ C) (g:d=true ↔ D):(bif c then true else d)=true ↔ (C\/D):=by rw [<- h,<- g];cases c <;> simp
theorem Za1 {c d:Bool} {C D:Prop} (h:c=true ↔ C) (g:d=true ↔ D):(bif c then d else false)=true ↔ (C/\D):=by rw [<- h,<- g];cases c <;> simp
theorem ZfO {c d:Bool} {C D:Prop} (h:c=true ↔ C) (g:d=true ↔ D):(!c||d)=true ↔ (C->D):=by rw [<- h,<- g];cases c <;> simp
theorem i_eq {α:Type} [BEq α] [LawfulBEq α] {a b:α}:(a==b)=true ↔ a=b:=beq_iff_eq
theorem i_ne {α:Type} [BEq α] [LawfulBEq α] {a b:α}:(a != b)=true ↔ ¬a=b:=by simp
theorem ZdC {α:Type} [BEq α] [LawfulBEq α] {a b:α}:(!(a==b))=true ↔ ¬a=b:=by simp
theorem i_bt {c:Bool} {C:Prop} (h:c=true ↔ C):(c==true)=true ↔ C:=by rw [<- h];simp
theorem i_bf {c:Bool} {C:Prop} (h:c=true ↔ C):(c==false)=true ↔ ¬C:=by rw [<- h];simp
theorem i_at {c:Bool} {C:Prop} (h:c=true ↔ C):(c&&true)=true ↔ C:=by rw [<- h];simp
theorem Zat {α:Type} [Inhabited α] {g:α->AV} {X:List α} {i:Nat} (h:i<X.length):(X.map g)[i]? = some (g (X.getD i default)):=by
 simp [h]
theorem ZbJ {α:Type} [Inhabited α] {d:List α} {i:Nat} (h:i<d.length):d.drop i=d.getD i default::d.drop (i+1):=by
 rw [List.drop_eq_getElem_cons h];simp [h]
theorem Zfa {α:Type} [Inhabited α] {d:List α} {i:Nat} (h:i<d.length):d.getD i default ∈ d:=by
 simp [h]
theorem ZdZ {α:Type} {g:α->AV} {A B:List AV} {X Y:List α} (h:A=X.map g) (k:B=Y.map g):A++B=(X++Y).map g:=by rw [h,k,List.map_append]
theorem Zbf {α:Type} {g:α->AV} {A:List AV} {X:List α} {i:Nat} {v:AV} {y:α} (h:A=X.map g) (k:v=g y):A.set i v=(X.set i y).map g:=by rw [h,k,List.map_set]
theorem Zfs {α:Type} {g:α->AV} {A:List AV} {X:List α} {n:Nat} (h:A=X.map g):A.take n=(X.take n).map g:=by rw [h,List.map_take]
theorem Zft {α:Type} {g:α->AV} {A:List AV} {X:List α} {n:Nat} (h:A=X.map g):A.drop n=(X.drop n).map g:=by rw [h,List.map_drop]
theorem ZdY {α:Type} {g:α->AV} {n:Nat} {v:AV} {y:α} (k:v=g y):List.replicate n v=(List.replicate n y).map g:=by rw [k,List.map_replicate]
theorem wI64 {n:Int} (h:-9223372036854775808<=n/\n<=9223372036854775807):IntKind.i64.wrap n=n:=w64 n h
theorem wU32 {n:Int} (h:0<=n/\n<=4294967295):IntKind.u32.wrap n=n:=by
 have e1:(2:Int) ^ IntKind.u32.bits=4294967296:=rfl
 have e3:IntKind.u32.signed=false:=rfl
 simp only [IntKind.wrap,e1,e3,Bool.false_and,Bool.false_eq_true,if_false]
 omega
theorem wU64 {n:Int} (h:0<=n/\n<=18446744073709551615):IntKind.u64.wrap n=n:=by
 have e1:(2:Int) ^ IntKind.u64.bits=18446744073709551616:=rfl
 have e3:IntKind.u64.signed=false:=rfl
 simp only [IntKind.wrap,e1,e3,Bool.false_and,Bool.false_eq_true,if_false]
 omega
theorem sc_int {k:IntKind} (l:List Int):scalarL (l.map (.int k))=true:=by
 induction l with
 | nil=>rfl
 | cons x l ih=>simp [scalarL,AV.scalar,ih]
theorem sc_bool (l:List Bool):scalarL (l.map .bool)=true:=by
 induction l with
 | nil=>rfl
 | cons x l ih=>simp [scalarL,AV.scalar,ih]
end Go.Av

namespace Go.Av
def Zag (d:AV):AV->Heap->Prop:=fun v L => ∃ d0,pureA L v=some d0/\allB (versA L v)/\d0.clean=true/\Weak d0 d
theorem ZbI {L:Heap} {v d dq:AV} {bs:List Bool} (h1:pureA L v=some d) (h2:versA L v=bs) (h3:allB bs) (h4:d.clean=true) (h:Weak d dq):Zag dq v L:=⟨d,h1,by rw [h2];exact h3,h4,h⟩
theorem pure_pq {M:Mach} {f:FuncId} {args:List AV} {d:AV} (fn:Func) (fi:Fi) (hf:(M.P ()).funcs[f]? = some fn) (hb:fn.body=some (cd fn)) (hn:(fn.name == "runtime.NumGoroutine")=false)
  (hi:(⟨fn.ntmps,fn.results.toList⟩:Fi)=fi) (h:Wp M (.run fi [.code (cd fn)] (Za2 0 args) []) (Zag d)):Ev M (.pure f args) d []:=
 .pure (.mono (ZdU fn fi hf hb hn hi h) fun _ _ ⟨d0,h1,h2,h3,h4⟩=>⟨d0,d,h1,(Zgc _).1 h2,h3,h4,rfl,rfl⟩)
mutual
theorem clean_ren (f:Nat->Nat):∀ (a:AV),a.clean=true->renA f a=a
 | .any,h=>by simp [AV.clean] at h
 | .bool _,_=>rfl
 | .int _ _,_=>rfl
 | .str _,_=>rfl
 | .nilp,_=>rfl
 | .nilf,_=>rfl
 | .vnil,_=>rfl
 | .eptr ..,_=>rfl
 | .vec ..,_=>rfl
 | .ptr ..,h=>by simp [AV.clean] at h
 | .row ..,h=>by simp [AV.clean] at h
 | .ref ..,h=>by simp [AV.clean] at h
 | .agg cs,h=>by simp only [renA,cleanL_ren f cs (by simpa [AV.clean] using h)]
 | .tup cs,h=>by simp only [renA,cleanL_ren f cs (by simpa [AV.clean] using h)]
 | .func fn a b,h=>by
  simp only [AV.clean,Bool.and_eq_true] at h
  simp only [renA,cleanL_ren f a h.1,cleanL_ren f b h.2]
theorem cleanL_ren (f:Nat->Nat):∀ (l:List AV),cleanL l=true->renL f l=l
 | [],_=>rfl
 | c::l,h=>by
  simp only [cleanL,Bool.and_eq_true] at h
  simp only [renL,clean_ren f c h.1,cleanL_ren f l h.2]
end
mutual
theorem pureA_ren {L K:Heap} {f:Nat->Nat} (hb:∀ (r:Nat) row,L[r]? = some row->K[f r]? = some (Zau f row)):∀ (a:AV) {d:AV},pureA L a=some d->pureA K (renA f a)=some d/\versA K (renA f a)=versA L a
 | .any,_,h=>by simp [pureA] at h
 | .bool b,_,h=>⟨h,rfl⟩
 | .int k n,_,h=>⟨h,rfl⟩
 | .str s,_,h=>⟨h,rfl⟩
 | .nilp,_,h=>⟨h,rfl⟩
 | .nilf,_,h=>⟨h,rfl⟩
 | .vnil,_,h=>⟨h,rfl⟩
 | .eptr ..,_,h=>⟨h,rfl⟩
 | .vec ..,_,h=>⟨h,rfl⟩
 | .row r v,_,h=>by
  cases hr:L[r]? with
  | none=>simp [pureA,hr] at h
  | some row =>
   have h2:=hb r row hr
   obtain ⟨_,s2,_,_,_⟩:=ZaW f row
   simp only [pureA,hr] at h
   split at h
   ·rename_i hc
    have e:Zau f row=row:=by simp [Zau,hc]
    exact ⟨by simp only [renA,pureA,h2,e,hc,if_true];exact h,by simp only [renA,versA,Zc3,h2,hr,s2]⟩
   ·simp at h
 | .ref r v lo len,_,h=>by
  cases hr:L[r]? with
  | none=>simp [pureA,hr] at h
  | some row =>
   have h2:=hb r row hr
   obtain ⟨_,s2,_,_,_⟩:=ZaW f row
   simp only [pureA,hr] at h
   split at h
   ·rename_i hc
    have e:Zau f row=row:=by simp [Zau,hc]
    exact ⟨by simp only [renA,pureA,h2,e,hc,if_true];exact h,by simp only [renA,versA,Zc3,h2,hr,s2]⟩
   ·simp at h
 | .ptr r v i j,_,h=>by
  cases hr:L[r]? with
  | none=>simp [pureA,hr] at h
  | some row =>
   have h2:=hb r row hr
   obtain ⟨s1,s2,_,_,_⟩:=ZaW f row
   simp only [pureA,hr] at h
   split at h
   ·rename_i x hx
    split at h
    ·rename_i hcx
     have e:(Zau f row).elems=[x]:=by
      unfold Zau
      cases hc:row.clean with
      | true=>simpa using hx
      | false=>simp only [cond_false,hx,renL,clean_ren f x hcx]
     exact ⟨by simp only [renA,pureA,h2,e,hcx,s1,if_true];exact h,by simp only [renA,versA,Zc3,h2,hr,s2]⟩
    ·simp at h
   ·simp at h
 | .agg cs,_,h=>by
  cases hr:pureL L cs with
  | none=>simp [pureA,hr] at h
  | some ds =>
   obtain ⟨h1,h2⟩:=pureL_ren hb cs hr
   exact ⟨by simpa only [renA,pureA,h1,hr] using h,by simp only [renA,versA,h2]⟩
 | .tup cs,_,h=>by
  cases hr:pureL L cs with
  | none=>simp [pureA,hr] at h
  | some ds =>
   obtain ⟨h1,h2⟩:=pureL_ren hb cs hr
   exact ⟨by simpa only [renA,pureA,h1,hr] using h,by simp only [renA,versA,h2]⟩
 | .func fn a b,_,h=>by
  cases hr:pureL L a with
  | none=>simp [pureA,hr] at h
  | some ds =>
   cases hr2:pureL L b with
   | none=>simp [pureA,hr,hr2] at h
   | some ds2 =>
    obtain ⟨h1,h2⟩:=pureL_ren hb a hr
    obtain ⟨h3,h4⟩:=pureL_ren hb b hr2
    exact ⟨by simpa only [renA,pureA,h1,h3,hr,hr2] using h,by simp only [renA,versA,h2,h4]⟩
theorem pureL_ren {L K:Heap} {f:Nat->Nat} (hb:∀ (r:Nat) row,L[r]? = some row->K[f r]? = some (Zau f row)):∀ (l:List AV) {ds:List AV},pureL L l=some ds->pureL K (renL f l)=some ds/\versL K (renL f l)=versL L l
 | [],_,h=>⟨h,rfl⟩
 | c::l,_,h=>by
  cases hr:pureA L c with
  | none=>simp [pureL,hr] at h
  | some d =>
   cases hr2:pureL L l with
   | none=>simp [pureL,hr,hr2] at h
   | some ds2 =>
    obtain ⟨h1,h2⟩:=pureA_ren hb c hr
    obtain ⟨h3,h4⟩:=pureL_ren hb l hr2
    exact ⟨by simpa only [renL,pureL,h1,h3,hr,hr2] using h,by simp only [renL,versL,h2,h4]⟩
end
theorem back_at {L L1:Heap} {rs:List Nat} {rows:List Row} (hrows:ZaQ L rs=some rows) (hnd:rs.Nodup) (r:Nat) (row:Row) (h:L1[r]? = some row) :
  (Zfz L rs L1)[Zdj L.length rs r]? = some (Zau (Zdj L.length rs) row):=by
 obtain ⟨g1,g2⟩:=ZaK hrows
 unfold Zfz
 by_cases hlt:r<rs.length
 ·have hb:Nat.blt r rs.length=true:=Nat.blt_eq.mpr hlt
  have e:Zdj L.length rs r=rs[r]:=by simp [Zdj,hb,hlt]
  obtain ⟨row0,k1,_⟩:=g2 r _ (List.getElem?_eq_getElem hlt)
  have hin:rs[r]<L.length:=(List.getElem?_eq_some_iff.1 k1).1
  rw [e,List.getElem?_append_left (by rw [ZaN];exact hin)]
  exact Ze2 rs _ _ hnd r _ _ (List.getElem?_eq_getElem hlt) (by rw [List.getElem?_map,List.getElem?_take_of_lt hlt,h];rfl) hin
 ·have hb:Nat.blt r rs.length=false:=by
   cases hb:Nat.blt r rs.length with
   | false=>rfl
   | true=>have:=Nat.blt_eq.mp hb;omega
  have e:Zdj L.length rs r=L.length+(r-rs.length):=by simp [Zdj,hb]
  rw [e,List.getElem?_append_right (by rw [ZaN];omega),ZaN,List.getElem?_map,List.getElem?_drop]
  have e2:rs.length+(L.length+(r-rs.length)-L.length)=r:=by omega
  rw [e2,h];rfl
theorem ZaA {M:Mach} {fi:Fi} {k:List Item} {env env':Vars} {L Lc:Heap} {d:AV} (rs:List Nat) (hn:Zdp L rs env=some (env',Lc)) (h:Wp M (.run fi k env' Lc) (Zag d)):Wp M (.run fi k env L) (Zag d):=by
 refine .narrow rs env' Lc hn (.mono h fun v L1 ⟨d0,hq1,hq2,hq3,hq4⟩ => ?_)
 unfold Zdp at hn
 split at hn
 ·rename_i rows hrows
  split at hn
  ·rename_i hc
   simp only [Bool.and_eq_true] at hc
   obtain ⟨p1,p2⟩:=pureA_ren (back_at (L1:=L1) hrows ((Zdg rs).1 hc.1)) v hq1
   exact ⟨d0,p1,by rw [p2];exact hq2,hq3,hq4⟩
  ·simp at hn
 ·simp at hn
theorem Zee {M:Mach} {f:FuncId} {args:List AV} {L:Heap} {v:AV} {K:Heap} (fn:Func) (fi:Fi) (hf:(M.P ()).funcs[f]? = some fn) (hb:fn.body=some (cd fn)) (hn:(fn.name == "runtime.NumGoroutine")=false)
  (hi:(⟨fn.ntmps,fn.results.toList⟩:Fi)=fi) (hk:Zcx L.length v K=true) (h:Wp M (.run fi [.code (cd fn)] (Za2 0 args) L) (ZbR v K)):Ev M (.own f args L) v K:=
 .drop hk (ZdU fn fi hf hb hn hi h)
end Go.Av

namespace Go.Av
namespace N
def Zav:Nat->Nat->List Int
 | 0,_=>[]
 | n+1,v=>((v % 1000000000:Nat):Int)::Zav n (v / 1000000000)
def cnt (v:Nat):Nat:=if h:v=0 then 0 else cnt (v / 1000000000)+1
termination_by v
decreasing_by omega
def lim (v:Nat):List Int:=Zav (cnt v) v
def fits (n v:Nat):Prop:=v<1000000000 ^ n
end N
theorem ZbF:N.cnt 0=0:=by rw [N.cnt];rfl
theorem cnt_pos {v:Nat} (h:v ≠ 0):N.cnt v=N.cnt (v / 1000000000)+1:=by
 conv=>lhs;rw [N.cnt]
 rw [dif_neg h]
theorem Zan (n:Nat):∀ v,(N.Zav n v).length=n:=by
 induction n with
 | zero=>intro v;rfl
 | succ n ih=>intro v;simp [N.Zav,ih]
theorem ZaC (n v:Nat):N.Zav (n+1) v=((v % 1000000000:Nat):Int)::N.Zav n (v / 1000000000):=rfl
theorem limN_ok (n:Nat):∀ v,∀ x ∈ N.Zav n v,0<=x/\x<1000000000:=by
 induction n with
 | zero=>intro v x h;simp [N.Zav] at h
 | succ n ih =>
  intro v x h
  rcases List.mem_cons.1 h with rfl | h
  ·omega
  ·exact ih _ x h
theorem ZaL (v:Nat):(N.lim v).length=N.cnt v:=Zan _ _
theorem Zbi {v:Nat}:N.fits 0 v ↔ v=0:=by unfold N.fits;simp
theorem ZbZ {n v:Nat}:N.fits (n+1) v ↔ N.fits n (v / 1000000000):=by
 unfold N.fits
 rw [Nat.pow_succ,Nat.div_lt_iff_lt_mul (by omega)]
theorem Zaz:∀ {n v:Nat},N.fits n v ↔ N.cnt v<=n
 | 0,v=>by
  rw [Zbi]
  by_cases h:v=0
  ·subst h;simp [ZbF]
  ·rw [cnt_pos h];omega
 | n+1,v=>by
  rw [ZbZ,Zaz]
  by_cases h:v=0
  ·subst h;simp [ZbF]
  ·rw [cnt_pos h];omega
theorem Zai (v:Nat):N.fits (N.cnt v) v:=Zaz.2 (Nat.le_refl _)
theorem ZaT {n m v:Nat} (h:N.fits n v) (hm:n<=m):N.fits m v:=Zaz.2 (Nat.le_trans (Zaz.1 h) hm)
theorem ZcU {n v w:Nat} (h:N.fits n v) (hw:w<=v):N.fits n w:=Nat.lt_of_le_of_lt hw h
theorem ZaP {v w:Nat} (h:v<=w):N.cnt v<=N.cnt w:=Zaz.1 (ZcU (Zai w) h)
theorem ZaE {v:Nat}:N.cnt v=0 ↔ v=0:=by
 constructor
 ·intro h
  have:=Zaz.2 (show N.cnt v<=0 by omega)
  exact Zbi.1 this
 ·rintro rfl;exact ZbF
theorem ZcD:N.lim 0=[]:=by unfold N.lim;rw [ZbF];rfl
def valL:List Int->Nat
 | []=>0
 | x::l=>x.toNat+1000000000*valL l
theorem val_limN:∀ (n v:Nat),N.fits n v->valL (N.Zav n v)=v
 | 0,v,h=>(Zbi.1 h).symm
 | n+1,v,h=>by
  rw [ZaC,valL,val_limN n _ (ZbZ.1 h)];omega
theorem Zf5:∀ (l:List Int),(∀ x ∈ l,0<=x/\x<1000000000)->l=N.Zav l.length (valL l)/\N.fits l.length (valL l)
 | [],_=>⟨rfl,Zbi.2 rfl⟩
 | x::l,h=>by
  obtain ⟨h1,h2⟩:=Zf5 l fun y hy=>h y (List.mem_cons_of_mem _ hy)
  have hx:=h x (by simp)
  have e1:valL (x::l) / 1000000000=valL l:=by rw [valL];omega
  have e2:((valL (x::l) % 1000000000:Nat):Int)=x:=by rw [valL];omega
  refine ⟨?_,?_⟩
  ·rw [List.length_cons,ZaC,e1,e2,<- h1]
  ·rw [List.length_cons,ZbZ,e1];exact h2
theorem Ze7:∀ (i n v:Nat),i<=n->(N.Zav n v).drop i=N.Zav (n-i) (v / 1000000000 ^ i)
 | 0,n,v,_=>by simp
 | i+1,0,v,h=>by omega
 | i+1,n+1,v,h=>by
  rw [ZaC,List.drop_succ_cons,Ze7 i n _ (by omega),Nat.div_div_eq_div_mul,Nat.pow_succ,Nat.mul_comm]
  congr 1;omega
theorem Zaw {i n:Nat} (v:Nat) (h:i<n):(N.Zav n v).getD i default=((v / 1000000000 ^ i % 1000000000:Nat):Int):=by
 have h1:=Ze7 i n v (by omega)
 rw [ZbJ (by rw [Zan];exact h)] at h1
 have e:n-i=(n-i-1)+1:=by omega
 rw [e,ZaC] at h1
 exact (List.cons.inj h1).1
theorem ZgI (n:Nat):N.Zav n 0=List.replicate n 0:=by
 induction n with
 | zero=>rfl
 | succ n ih=>rw [ZaC,List.replicate_succ,<- ih];rfl
theorem Zd0:∀ (n v:Nat),N.Zav (n+1) v=N.Zav n v++[((v / 1000000000 ^ n % 1000000000:Nat):Int)]
 | 0,v=>by simp [N.Zav]
 | n+1,v=>by
  rw [ZaC,Zd0 n,ZaC,List.cons_append,Nat.div_div_eq_div_mul,Nat.pow_succ,Nat.mul_comm (1000000000 ^ n)]
theorem ZbM {n v:Nat} (h:N.fits (n+1) v):v / 1000000000 ^ n<1000000000:=by
 unfold N.fits at h
 rw [Nat.pow_succ] at h
 exact Nat.div_lt_of_lt_mul h
theorem Zdi {n v:Nat}:N.fits n v ↔ v / 1000000000 ^ n=0:=by
 unfold N.fits
 rw [Nat.div_eq_zero_iff]
 have:0<1000000000 ^ n:=Nat.pow_pos (by omega)
 omega
theorem limN_take (n v:Nat):(N.Zav (n+1) v).take n=N.Zav n v:=by
 rw [Zd0,List.take_append_of_le_length (by rw [Zan];omega),List.take_of_length_le (by rw [Zan];omega)]
theorem lim_of {n v:Nat} (h:N.fits n v) (h2:n=0\/¬N.fits (n-1) v):N.Zav n v=N.lim v:=by
 have:N.cnt v=n:=by
  have h1:=Zaz.1 h
  rcases h2 with h2 | h2
  ·omega
  ·have h3:¬N.cnt v<=n-1:=fun k=>h2 (Zaz.2 k)
   omega
 unfold N.lim;rw [this]
end Go.Av

namespace Go.Av
theorem plus_step (k V W c:Nat):N.Zav (k+1) (V+W+c)=(((V % 1000000000+W % 1000000000+c) % 1000000000:Nat):Int)::N.Zav k (V / 1000000000+W / 1000000000+(V % 1000000000+W % 1000000000+c) / 1000000000):=by
 rw [ZaC]
 have e1:(V+W+c) % 1000000000=(V % 1000000000+W % 1000000000+c) % 1000000000:=by omega
 have e2:(V+W+c) / 1000000000=V / 1000000000+W / 1000000000+(V % 1000000000+W % 1000000000+c) / 1000000000:=by omega
 rw [e1,e2]
theorem ZhP (k V W c:Nat) (h:W+c<=V) (hc:c<=1) :
  (V % 1000000000<W % 1000000000+c->N.Zav (k+1) (V-W-c)=((V % 1000000000+1000000000-(W % 1000000000+c):Nat):Int)::N.Zav k (V / 1000000000-W / 1000000000-1)/\W / 1000000000+1<=V / 1000000000) /\
  (¬V % 1000000000<W % 1000000000+c->N.Zav (k+1) (V-W-c)=((V % 1000000000-(W % 1000000000+c):Nat):Int)::N.Zav k (V / 1000000000-W / 1000000000-0)/\W / 1000000000+0<=V / 1000000000):=by
 refine ⟨fun hl=>⟨?_,by omega⟩,fun hl=>⟨?_,by omega⟩⟩
 ·rw [ZaC]
  have e1:(V-W-c) % 1000000000=V % 1000000000+1000000000-(W % 1000000000+c):=by omega
  have e2:(V-W-c) / 1000000000=V / 1000000000-W / 1000000000-1:=by omega
  rw [e1,e2]
 ·rw [ZaC]
  have e1:(V-W-c) % 1000000000=V % 1000000000-(W % 1000000000+c):=by omega
  have e2:(V-W-c) / 1000000000=V / 1000000000-W / 1000000000-0:=by omega
  rw [e1,e2]
theorem Ze5 (x Y:Nat):x*Y=1000000000*(x*(Y / 1000000000))+x*(Y % 1000000000):=by
 conv=>lhs;rw [<- Nat.div_add_mod Y 1000000000]
 rw [Nat.mul_add,Nat.mul_left_comm]
theorem ZhC (k U x Y c:Nat):N.Zav (k+1) (U+x*Y+c)=(((U % 1000000000+x*(Y % 1000000000)+c) % 1000000000:Nat):Int)::N.Zav k (U / 1000000000+x*(Y / 1000000000)+(U % 1000000000+x*(Y % 1000000000)+c) / 1000000000):=by
 rw [ZaC]
 have h:=Ze5 x Y
 generalize x*Y=p at h
 generalize x*(Y / 1000000000)=q at h
 generalize x*(Y % 1000000000)=r at h
 have e1:(U+p+c) % 1000000000=(U % 1000000000+r+c) % 1000000000:=by omega
 have e2:(U+p+c) / 1000000000=U / 1000000000+q+(U % 1000000000+r+c) / 1000000000:=by omega
 rw [e1,e2]
theorem ZhB {u x y c:Nat} (hu:u<1000000000) (hx:x<1000000000) (hy:y<1000000000) (hc:c<1000000000):u+x*y+c<1000000000000000000/\(u+x*y+c) / 1000000000<1000000000:=by
 have h1:x*y<=999999999*y:=Nat.mul_le_mul_right _ (by omega)
 omega
theorem fits_mul {m P U w x:Nat} (hP:P=1000000000 ^ m) (hU:U<P) (hw:w<P) (hx:x<1000000000):N.fits (m+1) (U+x*w):=by
 unfold N.fits
 rw [Nat.pow_succ,<- hP]
 have h1:x*w<=999999999*w:=Nat.mul_le_mul_right _ (by omega)
 omega
theorem ZcX (U x b:Nat) (hx:x<1000000000) (hb:0<b):(x+1000000000*U) / b=1000000000*(U / b)+(U % b*1000000000+x) / b/\(x+1000000000*U) % b=(U % b*1000000000+x) % b/\(U % b*1000000000+x) / b<1000000000:=by
 have h:=Nat.div_add_mod U b
 have hm:=Nat.mod_lt U hb
 generalize U / b=q at h
 generalize U % b=r at h hm
 have e:x+1000000000*U=r*1000000000+x+b*(1000000000*q):=by
  rw [<- h];grind
 refine ⟨?_,?_,?_⟩
 ·rw [e,Nat.add_mul_div_left _ _ hb];omega
 ·rw [e,Nat.add_mul_mod_self_left]
 ·apply Nat.div_lt_of_lt_mul
  have:r*1000000000+1000000000<=b*1000000000:=by
   have:(r+1)*1000000000<=b*1000000000:=Nat.mul_le_mul_right _ (by omega)
   omega
  omega
theorem lim_limN {n v:Nat} (h:N.fits n v):(N.Zav n v).take (N.cnt v)=N.lim v:=by
 have hc:=Zaz.1 h
 obtain ⟨d,hd⟩:∃ d,n=N.cnt v+d:=⟨n-N.cnt v,by omega⟩
 subst hd
 clear h hc
 unfold N.lim
 induction d with
 | zero=>rw [Nat.add_zero,List.take_of_length_le (by rw [Zan];omega)]
 | succ d ih=>rw [<- Nat.add_assoc,Zd0,List.take_append_of_le_length (by rw [Zan];omega),ih]
def sgnI (n:Int):Int:=if n<0 then -1 else if n>0 then 1 else 0
theorem cmp_len {v w:Nat} (h:N.cnt v<N.cnt w):v<w:=by
 rcases Nat.lt_or_ge v w with h1 | h1
 ·exact h1
 ·have:=ZaP h1;omega
theorem ZaY (v i:Nat):v / 1000000000 ^ i=1000000000*(v / 1000000000 ^ (i+1))+v / 1000000000 ^ i % 1000000000:=by
 rw [Nat.pow_succ,<- Nat.div_div_eq_div_mul];omega
theorem Zf8 {v w i:Nat} (h:v / 1000000000 ^ i<w / 1000000000 ^ i):v<w:=by
 rcases Nat.lt_or_ge v w with h1 | h1
 ·exact h1
 ·have:=Nat.div_le_div_right (c:=1000000000 ^ i) h1;omega
end Go.Av

namespace Go.Av
def N.flo (a b:Int):Int:=if 0<b then a / b else (-a) / (-b)
def N.flr (a b:Int):Int:=a-b*N.flo a b
theorem Zek {a b q r:Int} (h:a=b*q+r) (hr:(0<=r/\r<b)\/(b<r/\r<=0)):N.flo a b=q/\N.flr a b=r:=by
 have h1:N.flo a b=q:=by
  unfold N.flo
  rcases hr with hr | hr
  ·rw [if_pos (by omega)]
   exact ((Int.ediv_emod_unique (by omega)).2 ⟨by omega,hr.1,hr.2⟩).1
  ·rw [if_neg (by omega)]
   refine ((Int.ediv_emod_unique (r:=-r) (by omega)).2 ⟨?_,by omega,by omega⟩).1
   rw [h,Int.neg_mul];omega
 refine ⟨h1,?_⟩
 unfold N.flr
 rw [h1];omega
end Go.Av

namespace Go.Av
structure Est (P W V:Nat):Prop where
 P0:0<P
 hV:1000000000<=V / P
 hW:W<V*1000000000
theorem Est.V0 {P W V:Nat} (h:Est P W V):0<V:=by
 rcases Nat.eq_zero_or_pos V with e | e
 ·have:=h.hW;subst e;omega
 ·exact e
theorem Est.q_lt {P W V:Nat} (h:Est P W V):W / V<1000000000:=Nat.div_lt_of_lt_mul h.hW
theorem Est.v1 {P W V:Nat} (h:Est P W V):0<V / P / 1000000000:=by have:=h.hV;omega
theorem Est.start {P W V:Nat} (h:Est P W V):W / V<=W / P / 1000000000 / (V / P / 1000000000):=by
 rw [Nat.le_div_iff_mul_le h.v1]
 have e1:W / V*V<=W:=Nat.div_mul_le_self W V
 have e2:V / P*P<=V:=Nat.div_mul_le_self V P
 have e3:W / V*(V / P)*P<=W:=by
  rw [Nat.mul_assoc]
  exact Nat.le_trans (Nat.mul_le_mul_left _ e2) e1
 have e4:W / V*(V / P)<=W / P:=(Nat.le_div_iff_mul_le h.P0).2 e3
 have e5:W / V*(V / P / 1000000000)*1000000000<=W / P:=by
  rw [Nat.mul_assoc]
  exact Nat.le_trans (Nat.mul_le_mul_left _ (Nat.div_mul_le_self _ _)) e4
 exact (Nat.le_div_iff_mul_le (by omega)).2 e5
theorem Est.more {P W V g r:Nat} (h:Est P W V) (hg:g*(V / P / 1000000000)+r=W / P / 1000000000) (ht:g>=1000000000\/g*(V / P % 1000000000)>r*1000000000+W / P % 1000000000):W / V<g:=by
 rcases ht with ht | ht
 ·have:=h.q_lt;omega
 ·have e1:g*(V / P)>W / P:=by
   have k:=Ze5 g (V / P)
   have k2:=Nat.div_add_mod (W / P) 1000000000
   rw [<- hg] at k2
   generalize g*(V / P)=x at k
   generalize g*(V / P / 1000000000)=y at k k2
   generalize g*(V / P % 1000000000)=z at k ht
   omega
  have e2:W<g*(V / P)*P:=by
   have:W / P+1<=g*(V / P):=e1
   have k:=Nat.mul_le_mul_right P this
   have k2:=Nat.lt_mul_div_succ W h.P0
   rw [Nat.mul_comm] at k2
   omega
  have e3:g*(V / P)*P<=g*V:=by
   rw [Nat.mul_assoc];exact Nat.mul_le_mul_left _ (Nat.div_mul_le_self V P)
  exact Nat.div_lt_of_lt_mul (by rw [Nat.mul_comm];omega)
theorem Est.less {P W V g r:Nat} (h:Est P W V) (hg:g*(V / P / 1000000000)+r=W / P / 1000000000) (ht:g*(V / P % 1000000000)<=r*1000000000+W / P % 1000000000):g<=W / V+1:=by
 have e1:g*(V / P)<=W / P:=by
  have k:=Ze5 g (V / P)
  have k2:=Nat.div_add_mod (W / P) 1000000000
  rw [<- hg] at k2
  generalize g*(V / P)=x at k
  generalize g*(V / P / 1000000000)=y at k k2
  generalize g*(V / P % 1000000000)=z at k ht
  omega
 have e2:g*(V / P)*P<=W:=Nat.le_trans (Nat.mul_le_mul_right P e1) (Nat.div_mul_le_self W P)
 have e3:W<(W / V+1)*V:=by
  have:=Nat.lt_mul_div_succ W h.V0
  rwa [Nat.mul_comm] at this
 have e4:V<(V / P+1)*P:=by
  have:=Nat.lt_mul_div_succ V h.P0
  rwa [Nat.mul_comm] at this
 have hq:=h.q_lt
 have hV:=h.hV
 generalize W / V=q at e3 hq
 generalize V / P=d at e1 e2 e4 hV
 have e5:g*d*P<(q+1)*(d+1)*P:=by
  have:(q+1)*V<=(q+1)*((d+1)*P):=Nat.mul_le_mul_left _ (by omega)
  rw [<- Nat.mul_assoc] at this
  omega
 have e6:g*d<(q+1)*(d+1):=Nat.lt_of_mul_lt_mul_right e5
 rcases Nat.lt_or_ge g (q+2) with k | k
 ·omega
 ·have e7:(q+2)*d<=g*d:=Nat.mul_le_mul_right _ k
  have e8:(q+1)*(d+1)=(q+1)*d+(q+1):=by rw [Nat.mul_succ]
  have e9:(q+2)*d=(q+1)*d+d:=Nat.succ_mul _ _
  omega
theorem Est.small {P W V g r:Nat} (h:Est P W V) (hg:g*(V / P / 1000000000)+r=W / P / 1000000000) (hr:r>=1000000000):g<1000000000:=by
 have hv:=h.v1
 have e1:W / P / 1000000000<(V / P / 1000000000)*1000000000+1000000000:=by
  have e4:V<(V / P+1)*P:=by
   have:=Nat.lt_mul_div_succ V h.P0
   rwa [Nat.mul_comm] at this
  have e5:W / P<(V / P+1)*1000000000:=by
   apply Nat.div_lt_of_lt_mul
   have:=h.hW
   have k:V*1000000000<=(V / P+1)*P*1000000000:=Nat.mul_le_mul_right _ (by omega)
   have k2:(V / P+1)*P*1000000000=P*((V / P+1)*1000000000):=by grind
   omega
  omega
 rw [<- hg] at e1
 rcases Nat.lt_or_ge g 1000000000 with k | k
 ·exact k
 ·have:1000000000*(V / P / 1000000000)<=g*(V / P / 1000000000):=Nat.mul_le_mul_right _ k
  omega
end Go.Av

namespace Go.Av
open Go.Proofs
noncomputable def M1:Mach:=⟨fun _=>Tryz.prog,fun f=>[129,130,999999,40,26,27,28,54,31,32,57].contains f⟩
abbrev usA (f:Bool) (l:List Int):AV:=.vec f 1 (l.map (.int .u32))
namespace N
def Zab (v:Int):Bool:=decide (v<0)
def Zad (v:Int):List Int:=lim v.natAbs
end N
abbrev bigA (f:Bool) (v:Int):AV:=.agg [.bool (N.Zab v),.vec f 1 ((N.Zad v).map (.int .u32))]
end Go.Av

namespace Go.Av
namespace N
structure Shr where
 num:Int
 den:Int
def less (s t:Shr):Bool:=decide (s.num*t.den<t.num*s.den)
def later (s t:Shr):Shr:=bif less s t then t else s
def earlier (s t:Shr):Shr:=bif less t s then t else s
def shIn (at_ way lo hi:Int):Shr:=if way<0 then ⟨at_-hi,-way⟩ else ⟨lo-at_,way⟩
def shOut (at_ way lo hi:Int):Shr:=if way<0 then ⟨at_-lo,-way⟩ else ⟨hi-at_,way⟩
def opnB (at_ way lo hi:Int):Bool:=if way=0 then decide (lo<at_/\at_<hi) else true
def opnL (at_ way lo hi:Int) (low:Shr):Shr:=if way=0 then low else later low (shIn at_ way lo hi)
def opnH (at_ way lo hi:Int) (high:Shr):Shr:=if way=0 then high else earlier high (shOut at_ way lo hi)
def entB (x0 y0 x1 y1 ax ay bx by_:Int):Bool:=
 if x0>=x1\/y0>=y1 then false
 else bif opnB ax (bx-ax) x0 x1 then (bif opnB ay (by_-ay) y0 y1 then
  less (opnL ay (by_-ay) y0 y1 (opnL ax (bx-ax) x0 x1 ⟨0,1⟩)) (opnH ay (by_-ay) y0 y1 (opnH ax (bx-ax) x0 x1 ⟨1,1⟩))
 else false) else false
def insB (x0 y0 x1 y1 x y:Int):Prop:=x0<x/\x<x1/\y0<y/\y<y1
end N
end Go.Av

namespace Go.Av
structure Gp where
 x:Int
 y:Int
 deriving DecidableEq
instance:Inhabited Gp:=⟨⟨0,0⟩⟩
namespace N
def gap (p q:Gp):Int:=max (max (max (p.x-q.x) (q.x-p.x)) (p.y-q.y)) (q.y-p.y)
def plen:List Gp->Int
 | p::q::l=>gap p q+plen (q::l)
 | _=>0
def chn (fr:Gp->Gp->Prop):List Gp->Prop
 | p::q::l=>fr p q/\chn fr (q::l)
 | _=>True
inductive Wk (nd:Gp->Prop) (fr:Gp->Gp->Prop) (a:Gp):Gp->Int->Prop
 | nil:Wk nd fr a a 0
 | snoc {p q:Gp} {d:Int}:Wk nd fr a p d->nd q->fr p q->Wk nd fr a q (d+gap p q)
end N
end Go.Av

namespace Go.Av
namespace N
structure Dj (at_:List Gp) (fr:Gp->Gp->Prop) (M:Int) (f b:List Int) (dn:List Bool) (c:Nat):Prop where
 pos:0<at_.length
 lf:f.length=at_.length
 lb:b.length=at_.length
 ld:dn.length=at_.length
 h0:f.getD 0 default=0
 cl:∀ i k,i<at_.length->k<at_.length->dn.getD i default=true->fr (at_.getD i default) (at_.getD k default)->0<=f.getD k default/\f.getD k default<=f.getD i default+gap (at_.getD i default) (at_.getD k default)
 mono:∀ i k,i<at_.length->k<at_.length->dn.getD i default=true->dn.getD k default=false->0<=f.getD k default->f.getD i default<=f.getD k default
 src:∀ i,i<at_.length->0<=f.getD i default->(i=0/\b.getD i default = -1) \/ ∃ p:Nat,p<at_.length/\b.getD i default=(p:Int)/\dn.getD p default=true/\fr (at_.getD p default) (at_.getD i default)/\f.getD i default=f.getD p default+gap (at_.getD p default) (at_.getD i default)
 dnn:∀ i,i<at_.length->dn.getD i default=true->0<=f.getD i default
 bd:∀ i,i<at_.length->f.getD i default<=(c:Int)*M
 cnt:dn.count false+c=at_.length
 rk:∃ r:Nat->Nat,(∀ i,i<at_.length->(dn.getD i default=true->r i<c)/\(dn.getD i default=false->r i=c)) /\ ∀ i,i<at_.length->0<=f.getD i default -> ∀ p:Nat,b.getD i default=(p:Int)->r p<r i
def upd (at_:List Gp) (fr:Gp->Gp->Prop) (m:Nat) (dn:List Bool) (f:List Int) (i:Nat):Prop:=
 dn.getD i default=false/\(f.getD i default<0\/f.getD m default+gap (at_.getD m default) (at_.getD i default)<f.getD i default)/\fr (at_.getD m default) (at_.getD i default)
structure Rlx (at_:List Gp) (fr:Gp->Gp->Prop) (m:Nat) (dn:List Bool) (f b:List Int) (k:Nat) (f' b':List Int):Prop where
 lf:f'.length=f.length
 lb:b'.length=b.length
 yes:∀ i,i<k->upd at_ fr m dn f i->f'.getD i default=f.getD m default+gap (at_.getD m default) (at_.getD i default)/\b'.getD i default=(m:Int)
 no:∀ i,¬(i<k/\upd at_ fr m dn f i)->f'.getD i default=f.getD i default/\b'.getD i default=b.getD i default
end N
end Go.Av

namespace Go.Av
def Gp.a (p:Gp):AV:=.agg [.int .i64 p.x,.int .i64 p.y]
structure Bx where
 x0:Int
 y0:Int
 x1:Int
 y1:Int
 top:Int
 deriving Inhabited
def Bx.a (c:Bx):AV:=.agg [.int .i64 c.x0,.int .i64 c.y0,.int .i64 c.x1,.int .i64 c.y1,.int .i64 c.top]
end Go.Av

namespace Go.Av
open Go.Proofs
theorem pack34 (cs:List AV):ZdT Tryz.prog 34 cs = .agg cs:=by
 simp [ZdT,aggT,Tryz.underlying34]
theorem pack24 (cs:List AV):ZdT Tryz.prog 24 cs = .agg cs:=by
 simp [ZdT,aggT,Tryz.underlying24]
theorem pack38 (cs:List AV):ZdT Tryz.prog 38 cs = .agg cs:=by
 simp [ZdT,aggT,Tryz.underlying38]
theorem pack28 (cs:List AV):ZdT Tryz.prog 28 cs = .agg cs:=by
 simp [ZdT,aggT,Tryz.underlying28]
theorem cells34:Tryz.prog.cellsOf 34=5:=by kernel_rfl
set_option maxRecDepth 100000 in
theorem clamp_ty {n:Nat} {cs:List AV} (h:Ty Tryz.prog (n+1+1) 34 cs):∃ x0 x1 x2 x3 x4:Int,cs=[.int .i64 x0,.int .i64 x1,.int .i64 x2,.int .i64 x3,.int .i64 x4]:=by
 have h:=Zgm Tryz.underlying34 h
 obtain ⟨a0,b0,rfl,h0,a1,b1,rfl,h1,a2,b2,rfl,h2,a3,b3,rfl,h3,a4,b4,rfl,h4,rfl⟩:=h
 obtain ⟨x0,rfl,_⟩:=Zcj Tryz.underlying2 h0
 obtain ⟨x1,rfl,_⟩:=Zcj Tryz.underlying2 h1
 obtain ⟨x2,rfl,_⟩:=Zcj Tryz.underlying2 h2
 obtain ⟨x3,rfl,_⟩:=Zcj Tryz.underlying2 h3
 obtain ⟨x4,rfl,_⟩:=Zcj Tryz.underlying2 h4
 exact ⟨x0,x1,x2,x3,x4,rfl⟩
set_option maxRecDepth 100000 in
theorem clamps_ty {n:Nat} {cs:List AV} (h:Ty Tryz.prog (n+1+1+1) 22 cs):∃ o:List Bx,cs=[.vec false 5 (o.map Bx.a)]:=by
 obtain ⟨o,rfl,_⟩:=ty_list (τ:=Bx) (enc:=Bx.a) Tryz.underlying22 (fun ys hy=>by
  obtain ⟨x0,x1,x2,x3,x4,rfl⟩:=clamp_ty hy
  exact ⟨⟨x0,x1,x2,x3,x4⟩,by rw [pack34];rfl⟩) h
 rw [cells34]
 exact ⟨o,rfl⟩
set_option maxRecDepth 100000 in
set_option maxRecDepth 100000 in
theorem pos_ty {n:Nat} {cs:List AV} (h:Ty Tryz.prog (n+1+1) 37 cs):∃ x0 x1 x2:Int,cs=[.int .i64 x0,.int .i64 x1,.int .i64 x2]:=by
 have h:=Zgm Tryz.underlying37 h
 obtain ⟨a0,b0,rfl,h0,a1,b1,rfl,h1,a2,b2,rfl,h2,rfl⟩:=h
 obtain ⟨x0,rfl,_⟩:=Zcj Tryz.underlying2 h0
 obtain ⟨x1,rfl,_⟩:=Zcj Tryz.underlying2 h1
 obtain ⟨x2,rfl,_⟩:=Zcj Tryz.underlying2 h2
 exact ⟨x0,x1,x2,rfl⟩
set_option maxRecDepth 100000 in
theorem pos2_ty {n:Nat} {cs:List AV} (h:Ty Tryz.prog (n+1+1+1) 38 cs):∃ x1 x2 x3 x4 x5 x6:Int,cs=[.int .i64 x1,.int .i64 x2,.int .i64 x3,.int .i64 x4,.int .i64 x5,.int .i64 x6]:=by
 unfold Ty at h
 rw [Tryz.underlying38] at h
 obtain ⟨a0,b0,rfl,h0,a1,b1,rfl,h1,rfl⟩:=h
 obtain ⟨x1,x2,x3,rfl⟩:=pos_ty h0
 obtain ⟨x4,x5,x6,rfl⟩:=pos_ty h1
 exact ⟨x1,x2,x3,x4,x5,x6,rfl⟩
set_option maxRecDepth 100000 in
theorem two_ty {n:Nat} {cs:List AV} (h:Ty Tryz.prog (n+1+1) 28 cs):∃ x y,cs=[.int .i64 x,.int .i64 y]:=by
 unfold Ty at h
 rw [Tryz.underlying28] at h
 obtain ⟨a0,b0,rfl,h0,a1,b1,rfl,h1,rfl⟩:=h
 obtain ⟨x,rfl,_⟩:=Zcj Tryz.underlying2 h0
 obtain ⟨y,rfl,_⟩:=Zcj Tryz.underlying2 h1
 exact ⟨x,y,rfl⟩
set_option maxRecDepth 100000 in
set_option maxRecDepth 100000 in
theorem setup_ty {n:Nat} {cs:List AV} (h:Ty Tryz.prog (n+1+1+1+1) 24 cs):∃ (u0 v0 u1 v1 th gp:Int) (o:List Bx) (sf:Int),cs=[.int .i64 u0,.int .i64 v0,.int .i64 u1,.int .i64 v1,.int .i64 th,.int .i64 gp,.vec false 5 (o.map Bx.a),.int .i64 sf]:=by
 have h:=Zgm Tryz.underlying24 h
 obtain ⟨a0,b0,rfl,h0,a1,b1,rfl,h1,a2,b2,rfl,h2,a3,b3,rfl,h3,a4,b4,rfl,h4,a5,b5,rfl,h5,a6,b6,rfl,h6,a7,b7,rfl,h7,rfl⟩:=h
 obtain ⟨x0,rfl,_⟩:=Zcj Tryz.underlying2 h0
 obtain ⟨x1,rfl,_⟩:=Zcj Tryz.underlying2 h1
 obtain ⟨x2,rfl,_⟩:=Zcj Tryz.underlying2 h2
 obtain ⟨x3,rfl,_⟩:=Zcj Tryz.underlying2 h3
 obtain ⟨x4,rfl,_⟩:=Zcj Tryz.underlying2 h4
 obtain ⟨x5,rfl,_⟩:=Zcj Tryz.underlying2 h5
 obtain ⟨o,rfl⟩:=clamps_ty h6
 obtain ⟨x7,rfl,_⟩:=Zcj Tryz.underlying2 h7
 exact ⟨x0,x1,x2,x3,x4,x5,o,x7,rfl⟩
theorem laidOut:laidOutB Tryz.prog=true:=by kernel_rfl
theorem ownGo:ownKnob Tryz.prog.godebug=none:=by kernel_rfl
end Go.Av

namespace Go.Av
abbrev vi:Int->AV:=AV.int .i64
abbrev vw:Int->AV:=AV.int .u64
abbrev vu:Int->AV:=AV.int .u32
abbrev us (l:List Int):List AV:=List.map (AV.int .u32) l
abbrev wi (x:Int):Int:=IntKind.i64.wrap x
abbrev wu (x:Int):Int:=IntKind.u64.wrap x
abbrev wv (x:Int):Int:=IntKind.u32.wrap x
abbrev vf (l:List AV):AV:=.vec false 1 l
abbrev ag (l:List AV):AV:=.agg l
abbrev tu (l:List AV):AV:=.tup l
abbrev vb (b:Bool):AV:=.bool b
abbrev gi {α:Type} (l:List α) (i:Nat):Option α:=l.get?Internal i
theorem b0:allB []:=trivial
theorem bc {b:Bool} {l:List Bool} (h:b=true) (r:allB l):allB (b::l):=⟨h,r⟩
theorem q0:allP []:=trivial
theorem qc {p:Prop} {l:List Prop} (h:p) (r:allP l):allP (p::l):=⟨h,r⟩
theorem c0 {M:Mach}:allC M []:=trivial
theorem cc {M:Mach} {c:CF} {l:List CF} (h:c.cond=true->c.ok M) (r:allC M l):allC M (c::l):=⟨h,r⟩
theorem xq {P A B : Prop} (H : (P -> A) /\ (¬P -> B)) : (P /\ A) \/ (¬P /\ B) := (Classical.em P).elim (fun k => .inl ⟨k, H.1 k⟩) fun k => .inr ⟨k, H.2 k⟩
theorem xm (p:Prop):p\/¬p:=Classical.em p
abbrev pc (f:Nat) (args:List AV) (v:AV):CF:=⟨true,false,f,args,[],v,[]⟩
theorem ce {M:Mach} {f:Nat} {args:List AV} {v:AV} {l:List CF} (h:Ev M (.pure f args) v []) (r:allC M l):allC M (pc f args v::l):=⟨fun _=>h,r⟩
def retP (M:Mach) (fi:Fi) (G:Given) (n:Nat) (ds:List Bool) (todo:List Item) (env:Vars) (L:Heap):Option (AV × List Bool × List Prop × List CF):=
 match path M fi G n ds ⟨todo,env,L,[],[],[]⟩ with
 | some ⟨.code .ret::_,env',L',asm,eqs,calls⟩=>match Zff M.P fi env' L' with
  | some v=>match pureA L' v with
   | some d=>bif (versA L' v).all id&&d.clean then some (d,asm,eqs,calls) else none
   | none=>none
  | none=>none
 | _=>none
theorem Zaj {M:Mach} {fi:Fi} {G:Given} (n:Nat) (ds:List Bool) {todo:List Item} {env:Vars} {L:Heap} {asm:List Bool} {eqs:List Prop} {calls:List CF} (d:AV) {dq:AV}
  (h:retP M fi G n ds todo env L=some (d,asm,eqs,calls)) (hA:allB asm) (hQ:allP eqs) (hC:allC M calls) (w:Weak d dq):Wp M (.run fi todo env L) (Zag dq):=by
 unfold retP at h
 split at h
 ·rename_i k env' L' asm' eqs' calls' hp
  split at h
  ·rename_i v hf
   split at h
   ·rename_i d' hd
    cases hb:((versA L' v).all id&&d'.clean) with
    | false=>rw [hb] at h;simp at h
    | true =>
     rw [hb] at h
     simp only [cond_true,Option.some.injEq,Prod.mk.injEq] at h
     obtain ⟨rfl,rfl,rfl,rfl⟩:=h
     rw [Bool.and_eq_true,List.all_eq_true] at hb
     exact Zaf n ds _ hp hA hQ hC (.ret hf ⟨_,hd,(Zgc _).2 hb.1,hb.2,w⟩)
   ·simp at h
  ·simp at h
 ·simp at h
theorem Zas {M:Mach} {fi:Fi} {G:Given} (n:Nat) (ds:List Bool) {todo:List Item} {env:Vars} {L:Heap} {asm:List Bool} {eqs:List Prop} {calls:List CF} (d:AV) {dq:AV}
  (h:retP M fi G n ds todo env L=some (d,asm,eqs,calls)) (hA:allB asm) (hQ:allP eqs) (hC:allC M calls) (w:d=dq):Wp M (.run fi todo env L) (Zag dq):=
 Zaj n ds d h hA hQ hC (by rw [w];exact .refl _)
theorem pcl {M:Mach} {f:FuncId} {args:List AV} {d:AV} (fn:Func) (fi:Fi) (h0:((M.P ()).funcs[f]?,fn.body,fn.name == "runtime.NumGoroutine",(⟨fn.ntmps,fn.results.toList⟩:Fi))=(some fn,some (cd fn),false,fi)) (h:Wp M (.run fi [.code (cd fn)] (Za2 0 args) []) (Zag d)):Ev M (.pure f args) d []:=
 pure_pq fn fi (congrArg (fun x=>x.1) h0) (congrArg (fun x=>x.2.1) h0) (congrArg (fun x=>x.2.2.1) h0) (congrArg (fun x=>x.2.2.2) h0) h
abbrev wc (M:Mach) (fi:Fi) (fn:Func) (args:List AV) (d:AV):Prop:=Wp M (.run fi [.code (cd fn)] (Za2 0 args) []) (Zag d)
end Go.Av

namespace Go.Av
open Go.Proofs
set_option maxRecDepth 100000
def fi24:Fi:=⟨18,[.tmp 2]⟩
def kp24:List (Nat × List Nat):=[(0,[0]),(1,[5,6,7]),(2,[5,6,7,8]),(3,[4,5,6,7]),(4,[5,6,7,16]),(5,[2]),(6,[5,6,7]),(7,[2])]
def fi25:Fi:=⟨8,[.cell 2 26]⟩
def kp25:List (Nat × List Nat):=[(0,[1,2]),(1,[2])]
def fi30:Fi:=⟨8,[.cell 2 26]⟩
def kp30:List (Nat × List Nat):=[(0,[1,2]),(1,[2])]
def fi55:Fi:=⟨9,[.tmp 2]⟩
def kp55:List (Nat × List Nat):=[(0,[0]),(1,[2])]
def qFlat_at (x y z:Int) (Q:AV->Heap->Prop):Prop:=Wp M1 (.run fi25 (atC (cd Tryz.f25) []) [(0,.agg [.int .i64 x,.int .i64 y,.int .i64 z])] []) Q
def qFlatR_at (x y z:Int) (Q:AV->Heap->Prop):Prop:=Wp M1 (.run fi30 (atC (cd Tryz.f30) []) [(0,.agg [.int .i64 x,.int .i64 y,.int .i64 z])] []) Q
def qFarR_at (n:Int) (Q:AV->Heap->Prop):Prop:=Wp M1 (.run fi55 (atC (cd Tryz.f55) []) [(0,.int .i64 n)] []) Q
def qFar_at (f:Bool) (l:List Int) (Q:AV->Heap->Prop):Prop:=Wp M1 (.run fi24 (atC (cd Tryz.f24) []) [(0,.vec f 1 (l.map (.int .i64)))] []) Q
def Ze1 (f:Bool) (l:List Int) (n i:Int) (Q:AV->Heap->Prop):Prop:=Wp M1 (.run fi24 (atC (cd Tryz.f24) [1,0,1,0,0]) [(5,.vec f 1 (l.map (.int .i64))),(6,.int .i64 n),(7,.int .i64 i)] []) Q
theorem call24 {args:List AV} {d:AV} (h:wc M1 fi24 Tryz.f24 args d):Ev M1 (.pure 24 args) d []:=pcl _ _ (by kernel_rfl) h
theorem call25 {args:List AV} {d:AV} (h:wc M1 fi25 Tryz.f25 args d):Ev M1 (.pure 25 args) d []:=pcl _ _ (by kernel_rfl) h
theorem call30 {args:List AV} {d:AV} (h:wc M1 fi30 Tryz.f30 args d):Ev M1 (.pure 30 args) d []:=pcl _ _ (by kernel_rfl) h
theorem call55 {args:List AV} {d:AV} (h:wc M1 fi55 Tryz.f55 args d):Ev M1 (.pure 55 args) d []:=pcl _ _ (by kernel_rfl) h
theorem qFlat (x y z:Int)  (dq:AV) (H :
  ag [vi x,vi y]=dq) :
 qFlat_at x y z (Zag dq):=by
 unfold qFlat_at
 exact Zas (G:=Zae kp25 [] []) 1000 [] (ag [vi x,vi y]) (by kernel_rfl) (bc rfl (bc rfl (bc rfl b0))) q0 c0 H
theorem qFlatR (x y z:Int)  (dq:AV) (H :
  ag [vi x,vi y]=dq) :
 qFlatR_at x y z (Zag dq):=by
 unfold qFlatR_at
 exact Zas (G:=Zae kp30 [] []) 1000 [] (ag [vi x,vi y]) (by kernel_rfl) (bc rfl (bc rfl (bc rfl b0))) q0 c0 H
theorem qFarR (n:Int)  (dq:AV) (H :
  vb (bif decide (n>10000000) then true else decide (n < -10000000))=dq) :
 qFarR_at n (Zag dq):=by
 unfold qFarR_at
 exact Zas (G:=Zae kp55 [] []) 1000 [] (vb (bif decide (n>10000000) then true else decide (n < -10000000))) (by kernel_rfl) b0 q0 c0 H
theorem qFar (f:Bool) (l:List Int)  (dq:AV) (H :
  Ze1 f l ((↑l.length:Int)) 0 (Zag dq)) :
 qFar_at f l (Zag dq):=by
 unfold qFar_at
 have w1:(List.map vi l).length=l.length:=List.length_map ..
 exact Zaf (G:=Zae kp24 [] []) 1000 [] ⟨(atC (cd Tryz.f24) [1,0,1,0,0]),[(5,AV.vec f 1 (List.map vi l)),(6,vi (↑(List.map vi l).length:Int)),(7,vi 0)],[],_,[],_⟩ (by kernel_rfl) b0 q0 c0 (by (try rw [w1]);all_goals exact H)
theorem qFarA (f:Bool) (l:List Int) (n i:Int)  (dq:AV) (H :
  ((i<n)->(0<=i) /\
   (i.toNat<l.length) /\
   (((l.getD i.toNat default>10000000)\/(l.getD i.toNat default < -10000000))->vb true=dq) /\
   (¬((l.getD i.toNat default>10000000)\/(l.getD i.toNat default < -10000000))->(-9223372036854775808<=i+1/\i+1<=9223372036854775807) /\
    Ze1 f l n (i+1) (Zag dq))) /\
  (¬(i<n)->vb false=dq)) :
 Ze1 f l n i (Zag dq):=by
 unfold Ze1
 rcases xq H with ⟨d2,H⟩|⟨d2,H⟩
 ·obtain ⟨k4,H⟩:=H
  have w5:(List.map vi l).length=l.length:=List.length_map ..
  have i6:(decide (i.toNat<(List.map vi l).length))=true ↔ (i.toNat<l.length):=(by (try rw [w5]);all_goals exact Zac)
  obtain ⟨k7,H⟩:=H
  refine Zaf (G:=Zae kp24 [(3,1,.elem (vi (l.getD i.toNat default)))] []) 11 [true] ⟨(atC (cd Tryz.f24) [1,0,1,0,0,1,1,0,0,1,1]),[(5,AV.vec f 1 (List.map vi l)),(6,vi n),(7,vi i),(16,vb (bif decide (l.getD i.toNat default>10000000) then true else decide (l.getD i.toNat default < -10000000)))],[],_,[((List.map vi l).get?Internal i.toNat=some (vi (l.getD i.toNat default)))],_⟩ (by kernel_rfl) (bc (Zam (Zac.2 d2)) (bc (Zac.2 k4) (bc (i6.2 k7) b0))) (qc (Zat k7) q0) c0 ?_
  rcases xq H with ⟨d9,H⟩|⟨d9,H⟩
  ·exact Zas (G:=Zae kp24 [] []) 1000 [true] (vb true) (by kernel_rfl) (bc (Zam ((ZbP Zac Zac).2 d9)) b0) q0 c0 H
  ·obtain ⟨k10,H⟩:=H
   have w11:wi (i+1)=i+1:=wI64 k10
   exact Zaf (G:=Zae kp24 [] []) 1000 [false] ⟨(atC (cd Tryz.f24) [1,0,1,0,0]),[(5,AV.vec f 1 (List.map vi l)),(6,vi n),(7,vi (wi (i+1)))],[],_,[],_⟩ (by kernel_rfl) (bc (Zak (fun h=>d9 ((ZbP Zac Zac).1 h))) b0) q0 c0 (by (try rw [w11]);all_goals exact H)
 ·exact Zas (G:=Zae kp24 [] []) 1000 [false] (vb false) (by kernel_rfl) (bc (Zak (fun h=>d2 (Zac.1 h))) b0) q0 c0 H
end Go.Av

namespace Go.Av
open Go.Proofs
set_option maxRecDepth 100000
def fi89:Fi:=⟨30,[.cell 4 85]⟩
def kp89:List (Nat × List Nat):=[(0,[0,1,4]),(1,[0,1,4,5]),(2,[0,1,4,5,17]),(3,[0,1,4,5]),(4,[4])]
def fi90:Fi:=⟨15,[.tmp 2]⟩
def kp90:List (Nat × List Nat):=[(0,[0]),(1,[2])]
def fi91:Fi:=⟨11,[.tmp 2]⟩
def kp91:List (Nat × List Nat):=[(0,[1]),(1,[1,3]),(2,[2]),(3,[6]),(4,[2]),(5,[2])]
def fi117:Fi:=⟨21,[.tmp 2]⟩
def kp117:List (Nat × List Nat):=[(0,[0]),(1,[0,14]),(2,[0]),(3,[2])]
def vTrim_at (fa:Bool) (a:List Int) (Q:AV->Heap->Prop):Prop:=Wp M1 (.run fi117 (atC (cd Tryz.f117) []) [(0,.vec fa 1 (a.map (.int .u32)))] []) Q
def ZdI (fa:Bool) (a:List Int) (Q:AV->Heap->Prop):Prop:=Wp M1 (.run fi117 (atC (cd Tryz.f117) [1,0,0,0]) [(0,.vec fa 1 (a.map (.int .u32)))] []) Q
def Zhw (s fa:Bool) (a:List Int) (Q:AV->Heap->Prop):Prop:=Wp M1 (.run fi89 (atC (cd Tryz.f89) []) [(0,.bool s),(1,.vec fa 1 (a.map (.int .u32)))] []) Q
def ZcP (s fa:Bool) (a:List Int) (n:Int) (Q:AV->Heap->Prop):Prop:=Wp M1 (.run fi89 (atC (cd Tryz.f89) [1,1,0,0,0]) [(0,.bool s),(1,.vec fa 1 (a.map (.int .u32))),(4,.ptr 0 0 0 0),(5,.int .i64 n)] [⟨[.agg [.bool false,.vnil]],2,0,false,false⟩]) Q
def Zgh (s:Bool) (Q:AV->Heap->Prop):Prop:=Wp M1 (.run fi89 (atC (cd Tryz.f89) []) [(0,.bool s),(1,.vnil)] []) Q
def ZdJ (s:Bool) (Q:AV->Heap->Prop):Prop:=Wp M1 (.run fi89 (atC (cd Tryz.f89) [1,1,0,0,0]) [(0,.bool s),(1,.vnil),(4,.ptr 0 0 0 0),(5,.int .i64 0)] [⟨[.agg [.bool false,.vnil]],2,0,false,false⟩]) Q
def vSplit_at (u:Int) (Q:AV->Heap->Prop):Prop:=Wp M1 (.run fi90 (atC (cd Tryz.f90) []) [(0,.int .u64 u)] []) Q
def vSign_at (fa:Bool) (v:Int) (Q:AV->Heap->Prop):Prop:=Wp M1 (.run fi91 (atC (cd Tryz.f91) []) [(0,bigA fa v)] []) Q
theorem call89 {args:List AV} {d:AV} (h:wc M1 fi89 Tryz.f89 args d):Ev M1 (.pure 89 args) d []:=pcl _ _ (by kernel_rfl) h
theorem call90 {args:List AV} {d:AV} (h:wc M1 fi90 Tryz.f90 args d):Ev M1 (.pure 90 args) d []:=pcl _ _ (by kernel_rfl) h
theorem call91 {args:List AV} {d:AV} (h:wc M1 fi91 Tryz.f91 args d):Ev M1 (.pure 91 args) d []:=pcl _ _ (by kernel_rfl) h
theorem call117 {args:List AV} {d:AV} (h:wc M1 fi117 Tryz.f117 args d):Ev M1 (.pure 117 args) d []:=pcl _ _ (by kernel_rfl) h
theorem vTrim (fa:Bool) (a:List Int)  (dq:AV) (H :
  ZdI fa a (Zag dq)) :
 vTrim_at fa a (Zag dq):=by
 unfold vTrim_at
 exact Zaf (G:=Zae kp117 [] []) 1000 [] ⟨(atC (cd Tryz.f117) [1,0,0,0]),[(0,AV.vec fa 1 (us a))],[],_,[],_⟩ (by kernel_rfl) b0 q0 c0 H
theorem vTrimA (fa:Bool) (a:List Int)  (dq:AV) (H :
  (-9223372036854775808<=(↑a.length:Int)-1/\(↑a.length:Int)-1<=9223372036854775807) /\
  (((↑a.length:Int)>0)->(0<=(↑a.length:Int)-1)) /\
  (((↑a.length:Int)>0)->(((↑a.length:Int)-1).toNat<a.length)) /\
  ((((↑a.length:Int)>0)/\(a.getD ((↑a.length:Int)-1).toNat default=0))->(0<=(↑a.length:Int)-1) /\
   (0<=((↑a.length:Int)-1).toNat) /\
   (((↑a.length:Int)-1).toNat<=a.length) /\
   ZdI (fa&&false) (List.drop 0 (List.take ((↑a.length:Int)-1).toNat a)) (Zag dq)) /\
  (¬(((↑a.length:Int)>0)/\(a.getD ((↑a.length:Int)-1).toNat default=0))->Weak (AV.vec fa 1 (us a)) dq)) :
 ZdI fa a (Zag dq):=by
 unfold ZdI
 have w1:(us a).length=a.length:=List.length_map ..
 obtain ⟨k2,H⟩:=H
 have w3:wi ((↑a.length:Int)-1)=(↑a.length:Int)-1:=wI64 k2
 have i4:(!(decide ((↑(us a).length:Int)>0)==true&&true)||decide (0<=wi ((↑(us a).length:Int)-1)))=true ↔ (((↑a.length:Int)>0)->(0<=(↑a.length:Int)-1)):=(by (try rw [w1]);(try rw [w3]);all_goals exact (ZfO (i_at (i_bt Zac)) Zac))
 obtain ⟨k5,H⟩:=H
 have i6:(!(decide ((↑(us a).length:Int)>0)==true&&true)||decide ((wi ((↑(us a).length:Int)-1)).toNat<(us a).length))=true ↔ (((↑a.length:Int)>0)->(((↑a.length:Int)-1).toNat<a.length)):=(by (try rw [w1]);(try rw [w3]);all_goals exact (ZfO (i_at (i_bt Zac)) Zac))
 obtain ⟨k7,H⟩:=H
 have i9:(bif decide ((↑(us a).length:Int)>0) then a.getD ((↑a.length:Int)-1).toNat default==0 else false)=true ↔ (((↑a.length:Int)>0)/\(a.getD ((↑a.length:Int)-1).toNat default=0)):=(by (try rw [w1]);all_goals exact (Za1 Zac i_eq))
 refine Zaf (G:=Zae kp117 [(1,9,.elem (vu (a.getD ((↑a.length:Int)-1).toNat default)))] []) 3 [] ⟨(atC (cd Tryz.f117) [1,0,0,0,0,1]),[(0,AV.vec fa 1 (us a)),(14,vb (bif decide ((↑(us a).length:Int)>0) then a.getD ((↑a.length:Int)-1).toNat default==0 else false))],[],_,[((decide ((↑(us a).length:Int)>0)==true&&true)=true->(us a).get?Internal (wi ((↑(us a).length:Int)-1)).toNat=some (vu (a.getD ((↑a.length:Int)-1).toNat default)))],_⟩ (by kernel_rfl) (bc (i4.2 k5) (bc (i6.2 k7) b0)) (qc (by (try rw [w1]);(try rw [w3]);all_goals exact (fun h=>Zat (k7 ((i_at (i_bt Zac)).1 h)))) q0) c0 ?_
 rcases xq H with ⟨d10,H⟩|⟨d10,H⟩
 ·have i11:(decide (0<=wi ((↑(us a).length:Int)-1)))=true ↔ (0<=(↑a.length:Int)-1):=(by (try rw [w1]);(try rw [w3]);all_goals exact Zac)
  obtain ⟨k12,H⟩:=H
  have i13:(decide (0<=(wi ((↑(us a).length:Int)-1)).toNat))=true ↔ (0<=((↑a.length:Int)-1).toNat):=(by (try rw [w1]);(try rw [w3]);all_goals exact Zac)
  obtain ⟨k14,H⟩:=H
  have i15:(decide ((wi ((↑(us a).length:Int)-1)).toNat<=(us a).length))=true ↔ (((↑a.length:Int)-1).toNat<=a.length):=(by (try rw [w1]);(try rw [w3]);all_goals exact Zac)
  obtain ⟨k16,H⟩:=H
  have w17:List.take ((↑a.length:Int)-1).toNat (us a)=us (List.take ((↑a.length:Int)-1).toNat a):=(Zfs rfl)
  have w18:List.drop 0 (us (List.take ((↑a.length:Int)-1).toNat a))=us (List.drop 0 (List.take ((↑a.length:Int)-1).toNat a)):=(Zft rfl)
  exact Zaf (G:=Zae kp117 [] []) 1000 [true] ⟨(atC (cd Tryz.f117) [1,0,0,0]),[(0,AV.vec (fa&&false) 1 (List.drop 0 (List.take (wi ((↑(us a).length:Int)-1)).toNat (us a))))],[],_,[],_⟩ (by kernel_rfl) (bc (Zam (i9.2 d10)) (bc (i11.2 k12) (bc (i13.2 k14) (bc (i15.2 k16) b0)))) q0 c0 (by (try rw [w1]);(try rw [w3]);(try rw [w17]);(try rw [w18]);all_goals exact H)
 ·exact Zaj (G:=Zae kp117 [] []) 1000 [false] (AV.vec fa 1 (us a)) (by kernel_rfl) (bc (Zak (fun h=>d10 (i9.1 h))) b0) q0 c0 H
theorem vSigned (s fa:Bool) (a:List Int)  (dq:AV) (H :
  ZcP s fa a ((↑a.length:Int)) (Zag dq)) :
 Zhw s fa a (Zag dq):=by
 unfold Zhw
 have w1:(us a).length=a.length:=List.length_map ..
 exact Zaf (G:=Zae kp89 [] []) 1000 [] ⟨(atC (cd Tryz.f89) [1,1,0,0,0]),[(0,vb s),(1,AV.vec fa 1 (us a)),(4,AV.ptr 0 0 0 0),(5,vi (↑(us a).length:Int))],[⟨[ag [vb false,AV.vnil]],2,0,false,false⟩],_,[],_⟩ (by kernel_rfl) b0 q0 c0 (by (try rw [w1]);all_goals exact H)
theorem vSignedA (s fa:Bool) (a:List Int) (n:Int)  (dq:AV) (H :
  (-9223372036854775808<=n-1/\n-1<=9223372036854775807) /\
  ((n>0)->(0<=n-1)) /\
  ((n>0)->((n-1).toNat<a.length)) /\
  (((n>0)/\(a.getD (n-1).toNat default=0))->ZcP s fa a (n-1) (Zag dq)) /\
  (¬((n>0)/\(a.getD (n-1).toNat default=0))->(0<=n) /\
   (0<=n.toNat) /\
   (n.toNat<=a.length) /\
   (n=(↑n.toNat:Int)) /\
   Weak (ag [vb (bif s then decide (n>0) else false),AV.vec true 1 (us (List.drop 0 (List.take n.toNat a)))]) dq)) :
 ZcP s fa a n (Zag dq):=by
 unfold ZcP
 obtain ⟨k1,H⟩:=H
 have w2:wi (n-1)=n-1:=wI64 k1
 have i3:(!(decide (n>0)==true&&true)||decide (0<=wi (n-1)))=true ↔ ((n>0)->(0<=n-1)):=(by (try rw [w2]);all_goals exact (ZfO (i_at (i_bt Zac)) Zac))
 obtain ⟨k4,H⟩:=H
 have w5:(us a).length=a.length:=List.length_map ..
 have i6:(!(decide (n>0)==true&&true)||decide ((wi (n-1)).toNat<(us a).length))=true ↔ ((n>0)->((n-1).toNat<a.length)):=(by (try rw [w2]);(try rw [w5]);all_goals exact (ZfO (i_at (i_bt Zac)) Zac))
 obtain ⟨k7,H⟩:=H
 refine Zaf (G:=Zae kp89 [(2,7,.elem (vu (a.getD (n-1).toNat default)))] []) 3 [] ⟨(atC (cd Tryz.f89) [1,1,0,0,0,0,1]),[(0,vb s),(1,AV.vec fa 1 (us a)),(4,AV.ptr 0 0 0 0),(5,vi n),(17,vb (bif decide (n>0) then a.getD (n-1).toNat default==0 else false))],[⟨[ag [vb false,AV.vnil]],2,0,false,false⟩],_,[((decide (n>0)==true&&true)=true->(us a).get?Internal (wi (n-1)).toNat=some (vu (a.getD (n-1).toNat default)))],_⟩ (by kernel_rfl) (bc (i3.2 k4) (bc (i6.2 k7) b0)) (qc (by (try rw [w2]);all_goals exact (fun h=>Zat (k7 ((i_at (i_bt Zac)).1 h)))) q0) c0 ?_
 rcases xq H with ⟨d10,H⟩|⟨d10,H⟩
 ·exact Zaf (G:=Zae kp89 [] []) 1000 [true] ⟨(atC (cd Tryz.f89) [1,1,0,0,0]),[(0,vb s),(1,AV.vec fa 1 (us a)),(4,AV.ptr 0 0 0 0),(5,vi (wi (n-1)))],[⟨[ag [vb false,AV.vnil]],2,0,false,false⟩],_,[],_⟩ (by kernel_rfl) (bc (Zam ((Za1 Zac i_eq).2 d10)) b0) q0 c0 (by (try rw [w2]);all_goals exact H)
 ·obtain ⟨k12,k14,H⟩:=H
  have i15:(decide (n.toNat<=(us a).length))=true ↔ (n.toNat<=a.length):=(by (try rw [w5]);all_goals exact Zac)
  obtain ⟨k16,k18,H⟩:=H
  have w19:List.take n.toNat (us a)=us (List.take n.toNat a):=(Zfs rfl)
  have w20:List.drop 0 (us (List.take n.toNat a))=us (List.drop 0 (List.take n.toNat a)):=(Zft rfl)
  exact Zaj (G:=Zae kp89 [] []) 1000 [false] (ag [vb (bif s then decide (n>0) else false),AV.vec true 1 (List.drop 0 (List.take n.toNat (us a)))]) (by kernel_rfl) (bc (Zak (fun h=>d10 ((Za1 Zac i_eq).1 h))) (bc (Zac.2 k12) (bc (Zac.2 k14) (bc (i15.2 k16) (bc (i_eq.2 k18) (bc rfl (bc rfl b0))))))) q0 c0 (by (try rw [w19]);(try rw [w20]);all_goals exact H)
theorem vSigned0 (s:Bool)  (dq:AV) (H :
  ZdJ s (Zag dq)) :
 Zgh s (Zag dq):=by
 unfold Zgh
 exact Zaf (G:=Zae kp89 [] []) 1000 [] ⟨(atC (cd Tryz.f89) [1,1,0,0,0]),[(0,vb s),(1,AV.vnil),(4,AV.ptr 0 0 0 0),(5,vi 0)],[⟨[ag [vb false,AV.vnil]],2,0,false,false⟩],_,[],_⟩ (by kernel_rfl) b0 q0 c0 H
theorem vSigned0A (s:Bool)  (dq:AV) (H :
  Weak (ag [vb (bif s then false else false),AV.vnil]) dq) :
 ZdJ s (Zag dq):=by
 unfold ZdJ
 exact Zaj (G:=Zae kp89 [] []) 1000 [false] (ag [vb (bif s then false else false),AV.vnil]) (by kernel_rfl) (bc rfl (bc rfl (bc rfl (bc rfl (bc rfl (bc rfl (bc rfl (bc rfl b0)))))))) q0 c0 H
theorem vSplit (u:Int)  (dq:AV) (H :
  (0<=u.tmod 1000000000/\u.tmod 1000000000<=4294967295) /\
  (0<=u.tdiv 1000000000/\u.tdiv 1000000000<=18446744073709551615) /\
  (0<=(u.tdiv 1000000000).tmod 1000000000/\(u.tdiv 1000000000).tmod 1000000000<=4294967295) /\
  (0<=(u.tdiv 1000000000).tdiv 1000000000/\(u.tdiv 1000000000).tdiv 1000000000<=18446744073709551615) /\
  (0<=(u.tdiv 1000000000).tdiv 1000000000/\(u.tdiv 1000000000).tdiv 1000000000<=4294967295) /\
  Weak (AV.vec true 1 [vu (u.tmod 1000000000),vu ((u.tdiv 1000000000).tmod 1000000000),vu ((u.tdiv 1000000000).tdiv 1000000000)]) dq) :
 vSplit_at u (Zag dq):=by
 unfold vSplit_at
 obtain ⟨k1,H⟩:=H
 have w2:wv (u.tmod 1000000000)=u.tmod 1000000000:=wU32 k1
 obtain ⟨k3,H⟩:=H
 have w4:wu (u.tdiv 1000000000)=u.tdiv 1000000000:=wU64 k3
 obtain ⟨k5,H⟩:=H
 have w6:wv ((u.tdiv 1000000000).tmod 1000000000)=(u.tdiv 1000000000).tmod 1000000000:=wU32 k5
 obtain ⟨k7,H⟩:=H
 have w8:wu ((u.tdiv 1000000000).tdiv 1000000000)=(u.tdiv 1000000000).tdiv 1000000000:=wU64 k7
 obtain ⟨k9,H⟩:=H
 have w10:wv ((u.tdiv 1000000000).tdiv 1000000000)=(u.tdiv 1000000000).tdiv 1000000000:=wU32 k9
 exact Zaj (G:=Zae kp90 [] []) 1000 [] (AV.vec true 1 [vu (wv (u.tmod 1000000000)),vu (wv ((wu (u.tdiv 1000000000)).tmod 1000000000)),vu (wv (wu ((wu (u.tdiv 1000000000)).tdiv 1000000000)))]) (by kernel_rfl) (bc rfl (bc rfl (bc rfl (bc rfl (bc rfl b0))))) q0 c0 (by (try rw [w2]);(try rw [w4]);(try rw [w6]);(try rw [w8]);(try rw [w10]);all_goals exact H)
theorem vSign (fa:Bool) (v:Int)  (dq:AV) (H :
  ((N.Zab v=true)->vi (-1)=dq) /\
  (¬(N.Zab v=true)->(((↑(N.Zad v).length:Int)>0)->vi 1=dq) /\
   (¬((↑(N.Zad v).length:Int)>0)->vi 0=dq))) :
 vSign_at fa v (Zag dq):=by
 unfold vSign_at
 rcases xq H with ⟨d2,H⟩|⟨d2,H⟩
 ·exact Zas (G:=Zae kp91 [] []) 1000 [true] (asm:=[true,(N.Zab v)==true]) (vi (-1)) (by kernel_rfl) (bc rfl (bc (Zam ((Zbu _).2 d2)) b0)) q0 c0 H
 ·have w3:(us (N.Zad v)).length=(N.Zad v).length:=List.length_map ..
  have i4:(decide ((↑(us (N.Zad v)).length:Int)>0))=true ↔ ((↑(N.Zad v).length:Int)>0):=(by (try rw [w3]);all_goals exact Zac)
  rcases xq H with ⟨d5,H⟩|⟨d5,H⟩
  ·exact Zas (G:=Zae kp91 [] []) 1000 [false,true] (asm:=[true,(N.Zab v)==false,true,(decide ((↑(us (N.Zad v)).length:Int)>0))==true]) (vi 1) (by kernel_rfl) (bc rfl (bc (Zak (fun h=>d2 ((Zbu _).1 h))) (bc rfl (bc (Zam (i4.2 d5)) b0)))) q0 c0 H
  ·exact Zas (G:=Zae kp91 [] []) 1000 [false,false] (asm:=[true,(N.Zab v)==false,true,(decide ((↑(us (N.Zad v)).length:Int)>0))==false]) (vi 0) (by kernel_rfl) (bc rfl (bc (Zak (fun h=>d2 ((Zbu _).1 h))) (bc rfl (bc (Zak (fun h=>d5 (i4.1 h))) b0)))) q0 c0 H
end Go.Av

namespace Go.Av
open Go.Proofs
namespace N
def sg (s:Bool) (v:Nat):Int:=if s=true then -(v:Int) else v
def sgnI (v:Int):Int:=if v<0 then -1 else if v>0 then 1 else 0
def Zay (k:Nat):Prop:=k<=1000000
def ok (v:Int):Prop:=cnt v.natAbs<=1000000
end N
theorem ZcB (f:Bool) (es:Nat) (xs:List AV):Weak (.vec f es xs) (.vec false es xs):=by
 cases f with
 | true=>exact .full es xs
 | false=>exact .refl _
theorem weak_big (b f:Bool) (xs:List AV):Weak (.agg [.bool b,.vec f 1 xs]) (.agg [.bool b,.vec false 1 xs]):=by
 refine .agg _ _ rfl fun i x y hx hy => ?_
 match i with
 | 0=>simp at hx hy;subst hx;subst hy;exact .refl _
 | 1=>simp at hx hy;subst hx;subst hy;exact ZcB _ _ _
 | i+2=>simp at hx
theorem Zbz (v:Int):(N.Zad v).length=N.cnt v.natAbs:=ZaL _
theorem Zar {v:Int}:N.Zab v=true ↔ v<0:=decide_eq_true_iff
theorem sg_limI (s:Bool) (v:Nat):N.Zad (N.sg s v)=N.lim v:=by
 unfold N.Zad N.sg
 cases s <;> simp
theorem sg_neg (s:Bool) (v:Nat):N.Zab (N.sg s v)=(bif s then decide (v ≠ 0) else false):=by
 unfold N.Zab N.sg
 cases s with
 | true =>
  rw [if_pos rfl,cond_true,decide_eq_decide];omega
 | false =>
  rw [if_neg (by simp),cond_false];simp
theorem big_sg (f s:Bool) (v:Nat):bigA f (N.sg s v) = .agg [.bool (bif s then decide (v ≠ 0) else false),.vec f 1 ((N.lim v).map (.int .u32))]:=by
 show AV.agg [.bool (N.Zab (N.sg s v)),.vec f 1 ((N.Zad (N.sg s v)).map (.int .u32))]=_
 rw [sg_limI,sg_neg]
theorem Zf6 {k v:Nat} (h:N.fits (k+1) v):(N.Zav (k+1) v).getD k default=0 ↔ N.fits k v:=by
 rw [Zaw v (by omega),Zdi]
 have:=ZbM h
 generalize v / 1000000000 ^ k=t at this
 omega
theorem loopTrim:∀ (k:Nat) (fa:Bool) (v:Nat),k<=1000000->N.fits k v->ZdI fa (N.Zav k v) (Zag (usA false (N.lim v)))
 | 0,fa,v,hk,hf=>by
  have h0:=Zbi.1 hf
  subst h0
  rw [ZcD]
  have hl:=Zan 0 0
  exact vTrimA _ _ _ ⟨by omega,fun h=>by omega,fun h=>by omega,fun h=>by omega,fun _=>ZcB _ _ _⟩
 | k+1,fa,v,hk,hf=>by
  have hl:=Zan (k+1) v
  have e1:(((N.Zav (k+1) v).length:Int)-1).toNat=k:=by omega
  refine vTrimA _ _ _ ⟨by omega,fun _=>by omega,fun _=>by omega,fun h => ?_,fun h => ?_⟩
  ·rw [e1] at h ⊢
   have h2:=(Zf6 hf).1 h.2
   refine ⟨by omega,by omega,by omega,?_⟩
   rw [List.drop_zero,limN_take]
   exact loopTrim k _ v (by omega) h2
  ·rw [e1] at h
   have h2:¬N.fits k v:=fun x=>h ⟨by omega,(Zf6 hf).2 x⟩
   rw [lim_of hf (.inr (by simpa using h2))]
   exact ZcB _ _ _
theorem trimN (fa:Bool) (k v:Nat) (h:N.Zay k/\N.fits k v):Ev M1 (.pure 117 [usA fa (N.Zav k v)]) (usA false (N.lim v)) []:=
 call117 (vTrim _ _ _ (loopTrim k fa v h.1 h.2))
theorem ZhS (s fa:Bool) (k v:Nat) (hk:k<=1000000):∀ (n:Nat),n<=k->N.fits n v->ZcP s fa (N.Zav k v) n (Zag (bigA false (N.sg s v)))
 | 0,hn,hf=>by
  have h0:=Zbi.1 hf
  subst h0
  refine vSignedA _ _ _ _ _ ⟨by omega,fun h=>by omega,fun h=>by omega,fun h=>by omega,fun _=>⟨by omega,by omega,by omega,by omega,?_⟩⟩
  rw [big_sg,ZcD]
  have e:(bif s then decide ((0:Int)>0) else false)=(bif s then decide (0 ≠ 0) else false):=by cases s <;> simp
  rw [show ((0:Nat):Int)=0 from rfl,e]
  exact weak_big _ _ _
 | n+1,hn,hf=>by
  have hl:=Zan k v
  have e1:(((n+1:Nat):Int)-1).toNat=n:=by omega
  have e2:((n+1:Nat):Int)-1=(n:Nat):=by omega
  have top:(N.Zav k v).getD n default=0 ↔ N.fits n v:=by
   rw [Zaw v (by omega),Zdi]
   have:=ZbM hf
   generalize v / 1000000000 ^ n=t at this
   omega
  refine vSignedA _ _ _ _ _ ⟨by omega,fun _=>by omega,fun _=>by omega,fun h => ?_,fun h => ?_⟩
  ·rw [e1] at h
   rw [e2]
   exact ZhS s fa k v hk n (by omega) (top.1 h.2)
  ·rw [e1] at h
   have h2:¬N.fits n v:=fun x=>h ⟨by omega,top.2 x⟩
   have hv:v ≠ 0:=by rintro rfl;exact h2 (Zaz.2 (by rw [ZbF];omega))
   refine ⟨by omega,by omega,by omega,by omega,?_⟩
   have hc:N.cnt v=n+1:=by
    have a:=Zaz.1 hf
    have b:¬N.cnt v<=n:=fun x=>h2 (Zaz.2 x)
    omega
   rw [big_sg,Int.toNat_natCast,List.drop_zero,<- hc,lim_limN (ZaT hf hn),hc]
   have e:(bif s then decide (((n+1:Nat):Int)>0) else false)=(bif s then decide (v ≠ 0) else false):=by
    have:((n+1:Nat):Int)>0:=by omega
    cases s <;> simp [hv]
   rw [e]
   exact weak_big _ _ _
theorem signedN (s fa:Bool) (k v:Nat) (h:N.Zay k/\N.fits k v):Ev M1 (.pure 89 [.bool s,usA fa (N.Zav k v)]) (bigA false (N.sg s v)) []:=by
 refine call89 (vSigned _ _ _ _ ?_)
 rw [Zan]
 exact ZhS s fa k v h.1 k (Nat.le_refl _) h.2
theorem ev89 (s fa:Bool) (k v:Nat) (h:N.Zay k/\N.fits k v):Ev M1 (.pure 89 [.bool s,usA fa (N.Zav k v)]) (bigA false (N.sg s v)) []:=signedN s fa k v h
theorem ev89_a (s fa:Bool) (v:Int) (h:N.ok v):Ev M1 (.pure 89 [.bool s,usA fa (N.Zad v)]) (bigA false (N.sg s v.natAbs)) []:=signedN s fa _ _ ⟨h,Zai _⟩
theorem ev90 (u:Int) (h:0<=u/\u<=18446744073709551615):Ev M1 (.pure 90 [.int .u64 u]) (usA false (N.Zav 3 u.toNat)) []:=by
 have e1:u.tmod 1000000000=u % 1000000000:=Int.tmod_eq_emod_of_nonneg h.1
 have e2:u.tdiv 1000000000=u / 1000000000:=Int.tdiv_eq_ediv_of_nonneg h.1
 have e3:(u / 1000000000).tmod 1000000000=(u / 1000000000) % 1000000000:=Int.tmod_eq_emod_of_nonneg (by omega)
 have e4:(u / 1000000000).tdiv 1000000000=(u / 1000000000) / 1000000000:=Int.tdiv_eq_ediv_of_nonneg (by omega)
 refine call90 (vSplit u _ ?_)
 rw [e1,e2,e3,e4]
 refine ⟨by omega,by omega,by omega,by omega,by omega,?_⟩
 have e:[AV.int .u32 (u % 1000000000),AV.int .u32 (u / 1000000000 % 1000000000),AV.int .u32 (u / 1000000000 / 1000000000)]=(N.Zav 3 u.toNat).map (.int .u32):=by
  simp only [N.Zav,List.map_cons,List.map_nil]
  have a1:((u.toNat % 1000000000:Nat):Int)=u % 1000000000:=by omega
  have a2:((u.toNat / 1000000000 % 1000000000:Nat):Int)=u / 1000000000 % 1000000000:=by omega
  have a3:((u.toNat / 1000000000 / 1000000000 % 1000000000:Nat):Int)=u / 1000000000 / 1000000000:=by omega
  rw [a1,a2,a3]
 rw [e]
 exact ZcB _ _ _
theorem ev91 (fa:Bool) (v:Int):Ev M1 (.pure 91 [bigA fa v]) (.int .i64 (N.sgnI v)) []:=by
 have hl:=Zbz v
 refine call91 (vSign fa v _ ⟨fun h => ?_,fun h=>⟨fun k => ?_,fun k => ?_⟩⟩)
 ·rw [Zar] at h
  rw [N.sgnI,if_pos h]
 ·rw [Zar] at h
  have:v.natAbs ≠ 0:=fun e=>by rw [hl,e,ZbF] at k;omega
  rw [N.sgnI,if_neg h,if_pos (by omega)]
 ·rw [Zar] at h
  have:v.natAbs=0:=ZaE.1 (by omega)
  rw [N.sgnI,if_neg h,if_neg (by omega)]
end Go.Av

namespace Go.Av
open Go.Proofs
namespace N
def fr1 (n:Int):Prop:=n>10000000\/n < -10000000
end N
instance (n:Int):Decidable (N.fr1 n):=by unfold N.fr1;infer_instance
instance (a b c d x y:Int):Decidable (N.insB a b c d x y):=by unfold N.insB;infer_instance
theorem ev25 (x y z:Int):Ev M1 (.pure 25 [.agg [.int .i64 x,.int .i64 y,.int .i64 z]]) (.agg [.int .i64 x,.int .i64 y]) []:=call25 (qFlat _ _ _ _ rfl)
theorem ev30 (x y z:Int):Ev M1 (.pure 30 [.agg [.int .i64 x,.int .i64 y,.int .i64 z]]) (.agg [.int .i64 x,.int .i64 y]) []:=call30 (qFlatR _ _ _ _ rfl)
theorem dec_or {p q:Prop} [Decidable p] [Decidable q] [Decidable (p\/q)]:(bif decide p then true else decide q)=decide (p\/q):=by
 by_cases h:p
 ·rw [decide_eq_true h,decide_eq_true (show p\/q from .inl h)];rfl
 ·by_cases k:q
  ·rw [decide_eq_false h,decide_eq_true k,decide_eq_true (show p\/q from .inr k)];rfl
  ·rw [decide_eq_false h,decide_eq_false k,decide_eq_false (show ¬(p\/q) from fun x=>x.elim h k)];rfl
theorem Za7 {p q:Prop} [Decidable p] [Decidable q] [Decidable (p/\q)]:(bif decide p then decide q else false)=decide (p/\q):=by
 by_cases h:p
 ·by_cases k:q
  ·rw [decide_eq_true h,decide_eq_true k,decide_eq_true (show p/\q from ⟨h,k⟩)];rfl
  ·rw [decide_eq_true h,decide_eq_false k,decide_eq_false (show ¬(p/\q) from fun x=>k x.2)];rfl
 ·rw [decide_eq_false h,decide_eq_false (show ¬(p/\q) from fun x=>h x.1)];rfl
theorem ZcW {p q:Prop} [Decidable p] [Decidable q] (h:p ↔ q):decide p=decide q:=by
 by_cases k:q
 ·rw [decide_eq_true k,decide_eq_true (h.2 k)]
 ·rw [decide_eq_false k,decide_eq_false fun x=>k (h.1 x)]
theorem ev55 (n:Int):Ev M1 (.pure 55 [.int .i64 n]) (.bool (decide (N.fr1 n))) []:=
 call55 (qFarR _ _ (congrArg AV.bool (by rw [dec_or];exact ZcW Iff.rfl)))
theorem far_loop {f:Bool} {l:List Int} (hn:l.length<=1000) (m:Nat):∀ i:Nat,i+m=l.length->Ze1 f l l.length i (Zag (.bool ((l.drop i).any fun n=>decide (N.fr1 n)))):=by
 induction m with
 | zero =>
  intro i e
  refine qFarA _ _ _ _ _ ⟨fun x=>by omega,fun _ => ?_⟩
  rw [List.drop_eq_nil_of_le (by omega)];rfl
 | succ m ih =>
  intro i e
  have hi:i<l.length:=by omega
  have nx:=ih (i+1) (by omega)
  refine qFarA _ _ _ _ _ ⟨fun x=>⟨by omega,by omega,fun k => ?_,fun k=>⟨by omega,?_⟩⟩,fun x=>by omega⟩
  ·rw [Int.toNat_natCast] at k
   rw [ZbJ hi,List.any_cons,show decide (N.fr1 (l.getD i default))=true from decide_eq_true k];rfl
  ·rw [Int.toNat_natCast] at k
   rw [ZbJ hi,List.any_cons,show decide (N.fr1 (l.getD i default))=false from decide_eq_false k,Bool.false_or]
   exact nx
theorem ev24 (f:Bool) (l:List Int) (h:l.length<=1000):Ev M1 (.pure 24 [.vec f 1 (l.map (.int .i64))]) (.bool (l.any fun n=>decide (N.fr1 n))) []:=by
 have:=far_loop (f:=f) h l.length 0 (by omega)
 exact call24 (qFar _ _ _ this)
theorem any_cons {p:Prop} [Decidable p] {l:List Int} {a:Int} (h:p ↔ N.fr1 a\/(l.any fun n=>decide (N.fr1 n))=true):decide p=(a::l).any fun n=>decide (N.fr1 n):=by
 rw [List.any_cons,Bool.eq_iff_iff,decide_eq_true_iff,h,Bool.or_eq_true,decide_eq_true_iff]
namespace N
def fr4 (a b c d:Int):Prop:=fr1 a\/fr1 b\/fr1 c\/fr1 d
def fr7 (a b c d e f g:Int):Prop:=fr4 a b c d\/fr1 e\/fr1 f\/fr1 g
def fr8 (a b c d e f g h:Int):Prop:=fr4 a b c d\/fr4 e f g h
end N
instance (a b c d:Int):Decidable (N.fr4 a b c d):=by unfold N.fr4;infer_instance
instance (a b c d e f g:Int):Decidable (N.fr7 a b c d e f g):=by unfold N.fr7;infer_instance
instance (a b c d e f g h:Int):Decidable (N.fr8 a b c d e f g h):=by unfold N.fr8;infer_instance
theorem ev24_g (v:Bool) (a b c d e f g:Int):Ev M1 (.pure 24 [.vec v 1 [.int .i64 a,.int .i64 b,.int .i64 c,.int .i64 d,.int .i64 e,.int .i64 f,.int .i64 g]]) (.bool (decide (N.fr7 a b c d e f g))) []:=by
 have k:=ev24 v [a,b,c,d,e,f,g] (by simp)
 rw [<- any_cons (p:=N.fr7 a b c d e f g) (by simp [N.fr7,N.fr4,or_assoc])] at k
 exact k
end Go.Av

namespace Go.Av
open Go.Proofs
set_option maxRecDepth 100000
def fi29:Fi:=⟨16,[.tmp 2]⟩
def kp29:List (Nat × List Nat):=[(0,[1]),(1,[2])]
def qOut_at (x y z:Int) (Q:AV->Heap->Prop):Prop:=Wp M1 (.run fi29 (atC (cd Tryz.f29) []) [(0,.agg [.int .i64 x,.int .i64 y,.int .i64 z])] []) Q
theorem call29 {args:List AV} {d:AV} (h:wc M1 fi29 Tryz.f29 args d):Ev M1 (.pure 29 args) d []:=pcl _ _ (by kernel_rfl) h
theorem qOut (x y z:Int)  (dq:AV) (H :
  vb (bif bif decide (N.fr1 x) then true else decide (N.fr1 y) then true else decide (N.fr1 z))=dq) :
 qOut_at x y z (Zag dq):=by
 unfold qOut_at
 exact Zas (G:=Zae kp29 [(1,2,.call (vb (decide (N.fr1 x))) none),(1,6,.call (vb (decide (N.fr1 y))) none),(1,11,.call (vb (decide (N.fr1 z))) none)] []) 1000 [] (asm:=[true,!(decide (N.fr1 x)==false&&true)||true,!((bif decide (N.fr1 x) then true else decide (N.fr1 y))==false&&true)||true]) (calls:=[⟨true,false,55,[vi x],[],vb (decide (N.fr1 x)),[]⟩,⟨decide (N.fr1 x)==false&&true&&true,false,55,[vi y],[],vb (decide (N.fr1 y)),[]⟩,⟨(bif decide (N.fr1 x) then true else decide (N.fr1 y))==false&&true&&true,false,55,[vi z],[],vb (decide (N.fr1 z)),[]⟩]) (vb (bif bif decide (N.fr1 x) then true else decide (N.fr1 y) then true else decide (N.fr1 z))) (by kernel_rfl) (bc rfl (bc (Bool.or_true _) (bc (Bool.or_true _) b0))) q0 (cc (fun _=>(@ev55 x)) (cc (fun hc=>((@ev55 y):Ev M1 (Conf.pure 55 [vi y]) (vb (decide (N.fr1 y))) [])) (cc (fun hc=>((@ev55 z):Ev M1 (Conf.pure 55 [vi z]) (vb (decide (N.fr1 z))) [])) c0))) H
end Go.Av

namespace Go.Av
open Go.Proofs
theorem ev29 (x y z:Int):Ev M1 (.pure 29 [.agg [.int .i64 x,.int .i64 y,.int .i64 z]]) (.bool (decide (N.fr1 x\/N.fr1 y\/N.fr1 z))) []:=
 call29 (qOut _ _ _ _ (congrArg AV.bool (by rw [dec_or,dec_or];exact ZcW or_assoc)))
namespace N
end N
end Go.Av

namespace Go.Av
open Go.Proofs
set_option maxRecDepth 100000
end Go.Av

namespace Go.Av
open Go.Proofs
namespace N
end N
end Go.Av

namespace Go.Av
open Go.Proofs
set_option maxRecDepth 100000
end Go.Av

namespace Go.Av
open Go.Proofs
namespace N
def cc (n:Int):Prop:=-20000000<=n/\n<=20000000
end N
namespace N
end N
end Go.Av

namespace Go.Av
open Go.Proofs
set_option maxRecDepth 100000
end Go.Av

namespace Go.Av
open Go.Proofs
namespace N
def entX (c:Bx) (p q:Gp):Bool:=entB c.x0 c.y0 c.x1 c.y1 p.x p.y q.x q.y
def free (bs:List Bx) (p q:Gp):Prop:=∀ c ∈ bs,entX c p q=false
def ccb (c:Bx):Prop:=cc c.x0/\cc c.y0/\cc c.x1/\cc c.y1
def bxI (c:Bx):Prop:=c.x0>c.x1\/c.y0>c.y1
def bxF (c:Bx):Prop:=fr4 c.x0 c.y0 c.x1 c.y1
end N
theorem dec_of {p:Prop} {inst:Decidable p} (h:(@decide p inst)=true):p:=of_decide_eq_true h
theorem dec_t {p:Prop} {inst:Decidable p} (h:p):(@decide p inst)=true:=decide_eq_true h
theorem ZgB {p:Nat->Prop} {i:Nat} (h:∀ j,j<i->p j) (k:p i):∀ j,j<i+1->p j:=fun j hj=>by
 by_cases e:j=i
 ·subst e;exact k
 ·exact h j (by omega)
end Go.Av

namespace Go.Av
open Go.Proofs
set_option maxRecDepth 100000
end Go.Av

namespace Go.Av
open Go.Proofs
instance (c:Bx):Decidable (N.bxI c):=by unfold N.bxI;infer_instance
instance (c:Bx):Decidable (N.bxF c):=by unfold N.bxF;infer_instance
end Go.Av

namespace Go.Av
open Go.Proofs
set_option maxRecDepth 100000
end Go.Av

namespace Go.Av
open Go.Proofs
namespace N
open Classical in
noncomputable def any (p:Bx->Prop) (bs:List Bx):Bool:=decide (∃ c ∈ bs,p c)
end N
end Go.Av

namespace Go.Av
open Go.Proofs
set_option maxRecDepth 100000
end Go.Av

namespace Go.Av
open Go.Proofs
end Go.Av

namespace Go.Av
open Go.Proofs
set_option maxRecDepth 100000
end Go.Av

namespace Go.Av
open Go.Proofs
namespace N
abbrev nd (l:List Gp) (p:Gp):Prop:=∃ i,i<l.length/\l.getD i default=p
structure Good (bs:List Bx) (l:List Gp) (P:List Gp):Prop where
 ne:P ≠ []
 head:P.getD 0 default=l.getD 0 default
 last:P.getD (P.length-1) default=l.getD (l.length-1) default
 mem:∀ p ∈ P,p ∈ l
 chn:N.chn (free bs) P
 walk:Wk (nd l) (free bs) (l.getD 0 default) (l.getD (l.length-1) default) (plen P)
 least:∀ d,Wk (nd l) (free bs) (l.getD 0 default) (l.getD (l.length-1) default) d->plen P<=d
 len:P.length<=l.length
end N
section
variable {f g:Bool} {bs:List Bx} {l:List Gp}
structure N.Tr (bs:List Bx) (l:List Gp) (fa:List Int) (gs:List Gp):Prop where
 len:0<gs.length
 first:gs.getD 0 default=l.getD (l.length-1) default
 mem:∀ p ∈ gs,p ∈ l
 chn:N.chn (N.free bs) gs.reverse
theorem rev_head {gs:List Gp} (h:0<gs.length):gs.reverse=gs.getD (gs.length-1) default::gs.reverse.tail:=by
 have hr:0<gs.reverse.length:=by rw [List.length_reverse];exact h
 have e:gs.reverse.getD 0 default=gs.getD (gs.length-1) default:=by
  rw [List.getD_eq_getElem?_getD,List.getD_eq_getElem?_getD,List.getElem?_reverse h];rfl
 rw [<- e]
 have:=ZbJ (d:=gs.reverse) (i:=0) hr
 rw [List.drop_zero] at this
 conv=>lhs;rw [this]
 rw [List.drop_one]
theorem N.Tr.cons {fa:List Int} {gs:List Gp} (t:N.Tr bs l fa gs) {q:Gp} (hq:q ∈ l) (h:N.free bs q (gs.getD (gs.length-1) default)):N.Tr bs l fa (gs++[q]):=by
 refine ⟨by simp,?_,fun p hp => ?_,?_⟩
 ·rw [<- t.first,List.getD_eq_getElem?_getD,List.getElem?_append_left t.len,List.getD_eq_getElem?_getD]
 ·rcases List.mem_append.1 hp with hp | hp
  ·exact t.mem p hp
  ·rw [List.mem_singleton.1 hp];exact hq
 ·rw [List.reverse_append,List.reverse_singleton,List.singleton_append]
  have e:=rev_head t.len
  have ch:=t.chn
  rw [e] at ch ⊢
  exact ⟨h,ch⟩
end
end Go.Av

namespace Go.Av
open Go.Proofs
namespace N
end N
end Go.Av

namespace Go.Av
open Go.Proofs
set_option maxRecDepth 100000
end Go.Av

namespace Go.Av
open Go.Proofs
namespace N
def cnn (be:List Int):Nat:=be.countP fun v=>decide (0<=v)
structure Lab (bs:List Bx) (l:List Gp) (be:List Int):Prop where
 len:be.length=l.length
 h0:be.getD 0 default=0
 neg:∀ i,i<l.length->be.getD i default<0->be.getD i default = -1
 snd:∀ i,i<l.length->0<=be.getD i default->Wk (nd l) (free bs) (l.getD 0 default) (l.getD i default) (be.getD i default)
 bd:∀ i,i<l.length->be.getD i default<=(cnn be:Int)*40000000
end N
section
variable {f g:Bool} {bs:List Bx} {l:List Gp}
end
namespace N
end N
namespace N
end N
end Go.Av

namespace Go.Av
open Go.Proofs
namespace N
end N
section
variable {f:Bool} {bs:List Bx} {a b:Gp}
end
end Go.Av
