/- PART 2 of the texts of a claim, joined by a program: what each part shows stands at its head. -/
import Derived.Test.YtmkjjnbbbabnhaaGreatPart37fdb15e49
import Derived.Test.YtmkjjnbbbabnhaaGreatProg

namespace Go.Av
open Go.RowKit
section
variable {S S1:St} {rs ns:List Nat} {rows old new:List Row}
def backOf (n:Nat) (rs ns:List Nat) (i:Nat):Nat:=bif Nat.blt i rs.length then rs.getD i 0 else n + posOf ns i
theorem back_lt {n i:Nat} (h:i < rs.length):backOf n rs ns i = rs[i]:=by
 have:Nat.blt i rs.length = true:=by simpa [Nat.blt_eq] using h
 simp [backOf,this,h]
theorem back_ge {n i:Nat} (h:rs.length <= i):backOf n rs ns i = n + posOf ns i:=by
 have:Nat.blt i rs.length = false:=by
  cases hb:Nat.blt i rs.length with
  | false => rfl
  | true => have:=Nat.blt_eq.mp hb;omega
 simp [backOf,this]
def backL (L:Heap) (rs ns:List Nat) (old new:List Row):Heap:=putAt L rs (old.map (renRow (backOf L.length rs ns))) ++ new.map (renRow (backOf L.length rs ns))
def backβ (β β1:List BI) (rs ns:List Nat):List BI:=putAt β rs (subβ β1 (List.range rs.length)) ++ subβ β1 ns
theorem sub_at {β:List BI} {l:List Nat} {j i:Nat} {info:BI} (h:l[j]? = some i) (hi:β[i]? = some info):(subβ β l)[j]? = some info:=by
 unfold subβ
 obtain ⟨h1,h2⟩:=List.getElem?_eq_some_iff.1 hi
 rw [List.getElem?_map,h]
 simp [h1,h2]
theorem back_in (hS:HeapOk S) (hlen:∀ r ∈ rs,r < S.L.length) (hnd:rs.Nodup) (ho:getRows S1.L (List.range rs.length) = some old) (hn:getRows S1.L ns = some new)
  {i:Nat} {row:Row} {info:BI} (hi:i < rs.length \/ i ∈ ns) (h1:S1.L[i]? = some row) (h2:S1.β[i]? = some info) :
  (backL S.L rs ns old new)[backOf S.L.length rs ns i]? = some (renRow (backOf S.L.length rs ns) row) /\ (backβ S.β S1.β rs ns)[backOf S.L.length rs ns i]? = some info:=by
 obtain ⟨o1,o2⟩:=getRows_spec ho
 obtain ⟨n1,n2⟩:=getRows_spec hn
 by_cases hlt:i < rs.length
 ·have hr:(List.range rs.length)[i]? = some i:=by simp [hlt]
  obtain ⟨row0,k1,k2⟩:=o2 i i hr
  rw [h1] at k1
  simp only [Option.some.injEq] at k1;subst k1
  rw [back_lt hlt]
  have hm:rs[i] < S.L.length:=hlen _ (List.getElem_mem hlt)
  have hm2:rs[i] < S.β.length:=by rw [<- hS.len];exact hm
  unfold backL backβ
  rw [List.getElem?_append_left (by rw [putAt_len];exact hm),List.getElem?_append_left (by rw [putAt_len];exact hm2)]
  exact ⟨putAt_at rs _ _ hnd i _ _ (List.getElem?_eq_getElem hlt) (by rw [List.getElem?_map,k2];rfl) hm,putAt_at rs _ _ hnd i _ _ (List.getElem?_eq_getElem hlt) (sub_at hr h2) hm2⟩
 ·have hm:i ∈ ns:=hi.resolve_left hlt
  have hp:=posOf_get hm
  obtain ⟨row0,k1,k2⟩:=n2 _ i hp
  rw [h1] at k1
  simp only [Option.some.injEq] at k1;subst k1
  rw [back_ge (by omega)]
  unfold backL backβ
  rw [List.getElem?_append_right (by rw [putAt_len];omega),List.getElem?_append_right (by rw [putAt_len,hS.len];omega),putAt_len,putAt_len]
  have e1:S.L.length + posOf ns i - S.L.length = posOf ns i:=by omega
  have e2:S.L.length + posOf ns i - S.β.length = posOf ns i:=by have:=hS.len;omega
  rw [e1,e2]
  exact ⟨by rw [List.getElem?_map,k2];rfl,sub_at hp h2⟩
theorem back_cases (hS:HeapOk S) (hS1:HeapOk S1) (hnd:rs.Nodup) (hns:ns.Nodup) (hge:∀ i ∈ ns,rs.length <= i) (ho:getRows S1.L (List.range rs.length) = some old) (hn:getRows S1.L ns = some new) (hlen:∀ r ∈ rs,r < S.L.length) {q:Nat}
  (hq:q < (backL S.L rs ns old new).length) :
  (q < S.L.length /\ q ∉ rs /\ (backL S.L rs ns old new)[q]? = S.L[q]? /\ (backβ S.β S1.β rs ns)[q]? = S.β[q]?) \/
  ∃ i row info,(i < rs.length \/ i ∈ ns) /\ q = backOf S.L.length rs ns i /\ S1.L[i]? = some row /\ S1.β[i]? = some info /\ (backL S.L rs ns old new)[q]? = some (renRow (backOf S.L.length rs ns) row) /\ (backβ S.β S1.β rs ns)[q]? = some info:=by
 obtain ⟨o1,o2⟩:=getRows_spec ho
 obtain ⟨n1,n2⟩:=getRows_spec hn
 have fin:∀ i row,(i < rs.length \/ i ∈ ns) -> q = backOf S.L.length rs ns i -> S1.L[i]? = some row -> ∃ i row info,(i < rs.length \/ i ∈ ns) /\ q = backOf S.L.length rs ns i /\ S1.L[i]? = some row /\ S1.β[i]? = some info /\ (backL S.L rs ns old new)[q]? = some (renRow (backOf S.L.length rs ns) row) /\ (backβ S.β S1.β rs ns)[q]? = some info:=by
  intro i row hi he h1
  have hlt:i < S1.β.length:=by rw [<- hS1.len];exact lt_of_get h1
  obtain ⟨k1,k2⟩:=back_in hS hlen hnd ho hn hi h1 (List.getElem?_eq_getElem hlt)
  exact ⟨i,row,_,hi,he,h1,List.getElem?_eq_getElem hlt,by rw [he];exact k1,by rw [he];exact k2⟩
 by_cases hlt:q < S.L.length
 ·by_cases hm:q ∈ rs
  ·right
   have hp:=posOf_get hm
   obtain ⟨h3,h4⟩:=List.getElem?_eq_some_iff.1 hp
   obtain ⟨row,k1,_⟩:=o2 (posOf rs q) (posOf rs q) (by simp [h3])
   exact fin (posOf rs q) row (.inl h3) (by rw [back_lt h3,h4]) k1
  ·left
   refine ⟨hlt,hm,?_,?_⟩
   ·unfold backL
    rw [List.getElem?_append_left (by rw [putAt_len];exact hlt),putAt_other _ _ _ _ hm]
   ·unfold backβ
    rw [List.getElem?_append_left (by rw [putAt_len,<- hS.len];exact hlt),putAt_other _ _ _ _ hm]
 ·right
  have hj:q - S.L.length < ns.length:=by
   unfold backL at hq
   rw [List.length_append,putAt_len,List.length_map,n1] at hq
   omega
  obtain ⟨row,k1,_⟩:=n2 (q - S.L.length) ns[q - S.L.length] (List.getElem?_eq_getElem hj)
  have hmem:ns[q - S.L.length] ∈ ns:=List.getElem_mem hj
  refine fin ns[q - S.L.length] row (.inr hmem) ?_ k1
  rw [back_ge (hge _ hmem),posOf_at hns (List.getElem?_eq_getElem hj)]
  omega
theorem back_ok (hS:HeapOk S) (hrows:getRows S.L rs = some rows) (hnd:rs.Nodup) (hcl:∀ row ∈ rows,∀ r ∈ rowRefs row,r ∈ rs)
  (hS1:HeapOk S1) (hE:Ext ⟨S.base,accOf S rs,rows.map (renRow (posOf rs)),subβ S.β rs,S.w⟩ S1)
  (hns:ns.Nodup) (hge:∀ i ∈ ns,rs.length <= i) (ho:getRows S1.L (List.range rs.length) = some old) (hn:getRows S1.L ns = some new)
  (href:∀ row ∈ old ++ new,∀ r ∈ rowRefs row,r < rs.length \/ r ∈ ns) :
  HeapOk ⟨S.base,S.acc,backL S.L rs ns old new,backβ S.β S1.β rs ns,S1.w⟩ /\ Ext S ⟨S.base,S.acc,backL S.L rs ns old new,backβ S.β S1.β rs ns,S1.w⟩ /\
  ∀ a v,Rel S1 a v -> (∀ r ∈ rowsA a,r < rs.length \/ r ∈ ns) -> Rel ⟨S.base,S.acc,backL S.L rs ns old new,backβ S.β S1.β rs ns,S1.w⟩ (renA (backOf S.L.length rs ns) a) v:=by
 obtain ⟨hSc,hic,_⟩:=sub_ok hS hrows hnd hcl
 obtain ⟨g1,g2⟩:=getRows_spec hrows
 obtain ⟨o1,o2⟩:=getRows_spec ho
 obtain ⟨n1,n2⟩:=getRows_spec hn
 have hlen:∀ r ∈ rs,r < S.L.length:=fun r hr => by
  obtain ⟨j,hj⟩:=List.getElem?_of_mem hr
  obtain ⟨row,k1,_⟩:=g2 j r hj
  exact lt_of_get k1
 have hbase:S1.base = S.base:=hE.base
 have hacc:S1.acc = accOf S rs:=hE.acc
 have hsize:S.w.heap.size <= S1.w.heap.size:=hE.below.size
 have hsub:∀ (j:Nat) info,(subβ S.β rs)[j]? = some info -> ∃ r,rs[j]? = some r /\ S.β[r]? = some info:=by
  intro j info h
  unfold subβ at h
  rw [List.getElem?_map] at h
  obtain ⟨r,h1,rfl⟩:=Option.map_eq_some_iff.1 h
  have hlt:r < S.β.length:=by rw [<- hS.len];exact hlen r (List.mem_of_getElem? h1)
  exact ⟨r,h1,by simp [hlt]⟩
 have hno:∀ (q:Nat) info,S.β[q]? = some info -> q ∉ rs -> ∀ (j:Nat) info',(subβ S.β rs)[j]? = some info' -> info'.blk ≠ info.blk:=by
  intro q info h1 h2 j info' h3 he
  obtain ⟨r,k1,k2⟩:=hsub j info' h3
  have:=hS.inj r q info' info k2 h1 he
  subst this
  exact h2 (List.mem_of_getElem? k1)
 have hstay:∀ (q:Nat) info,S.β[q]? = some info -> q ∉ rs -> S1.w.heap[info.blk]? = S.w.heap[info.blk]?:=by
  intro q info h1 h2
  obtain ⟨b1,b2⟩:=hS.blk q info h1
  exact hE.other info.blk b1 b2 fun j info' h3 => hno q info h1 h2 j info' h3
 have hfresh:∀ (i:Nat) info',S1.β[i]? = some info' -> (∃ (r:Nat) (info:BI),r ∈ rs /\ S.β[r]? = some info /\ info.blk = info'.blk) \/ S.w.heap.size <= info'.blk:=by
  intro i info' h
  rcases hE.fresh i info' h with ⟨j,info,h1,h2⟩ | h1
  ·obtain ⟨r,k1,k2⟩:=hsub j info h1
   exact .inl ⟨r,info,List.mem_of_getElem? k1,k2,h2⟩
  ·exact .inr h1
 have hqβ:∀ (q:Nat) info,(backβ S.β S1.β rs ns)[q]? = some info -> q < (backL S.L rs ns old new).length:=by
  intro q info h
  have:=lt_of_get h
  unfold backβ at this
  unfold backL
  rw [List.length_append,putAt_len] at this ⊢
  simp only [subβ,List.length_map] at this ⊢
  rw [n1,hS.len];exact this
 have hcases:∀ (q:Nat),q < (backL S.L rs ns old new).length -> _:=fun q hq => back_cases hS hS1 hnd hns hge ho hn hlen hq
 have himm:∀ b off,Imm S b off -> b < S.w.heap.size -> Imm ⟨S.base,S.acc,backL S.L rs ns old new,backβ S.β S1.β rs ns,S1.w⟩ b off /\ S1.w.cell? ⟨b,off,none⟩ = S.w.cell? ⟨b,off,none⟩:=by
  intro b off hi hb
  obtain ⟨i1,i2⟩:=hE.imm b off (hic b off hi) hb
  refine ⟨⟨hi.1,fun q info hq he => ?_⟩,i2⟩
  rcases hcases q (hqβ q info hq) with ⟨c1,c2,c3,c4⟩ | ⟨i,row,info',c1,c2,c3,c4,c5,c6⟩
  ·rw [c4] at hq
   obtain ⟨row,r1,r2⟩:=hi.2 q info hq he
   exact ⟨row,c3.trans r1,r2⟩
  ·rw [c6] at hq
   simp only [Option.some.injEq] at hq;subst hq
   obtain ⟨row',r1,r2,r3,r4⟩:=i1.2 i info' c4 he
   rw [c3] at r1
   simp only [Option.some.injEq] at r1;subst r1
   obtain ⟨_,_,s3,_,s5⟩:=renRow_spec (backOf S.L.length rs ns) row
   exact ⟨_,c5,by rw [s3];exact r2,r3,by rw [s5];exact r4⟩
 have hd:∀ a v,DRel S1 a v -> DRel ⟨S.base,S.acc,backL S.L rs ns old new,backβ S.β S1.β rs ns,S1.w⟩ a v:=by
  intro a v h
  refine DRel.shift (S:=S1) (S':=⟨S.base,S.acc,backL S.L rs ns old new,backβ S.β S1.β rs ns,S1.w⟩) rfl (fun b off hi hb => ?_) h
  obtain ⟨h1,h2⟩:=hi
  rw [hacc] at h1
  refine ⟨?_,fun q info hq he => ?_⟩
  ·rcases h1 with h1 | ⟨r,info,_,h3,rfl⟩ | h1
   ·exact hS.anew b off h1
   ·exact hS.acq r info off h3
   ·exact h1.1
  ·rcases hcases q (hqβ q info hq) with ⟨c1,c2,c3,c4⟩ | ⟨i,row,info',c1,c2,c3,c4,c5,c6⟩
   ·rw [c4] at hq
    rcases h1 with h1 | ⟨r,info',h3,h4,h5⟩ | h1
    ·have:=(hS.blk q info hq).2;omega
    ·have:=hS.inj r q info' info h4 hq (h5.trans he.symm)
     subst this
     exact absurd h3 c2
    ·obtain ⟨row,r1,r2⟩:=h1.2 q info hq he
     exact ⟨row,c3.trans r1,r2⟩
   ·rw [c6] at hq
    simp only [Option.some.injEq] at hq;subst hq
    obtain ⟨row',r1,r2,r3,r4⟩:=h2 i info' c4 he
    rw [c3] at r1
    simp only [Option.some.injEq] at r1;subst r1
    obtain ⟨_,_,s3,_,s5⟩:=renRow_spec (backOf S.L.length rs ns) row
    exact ⟨_,c5,by rw [s3];exact r2,r3,by rw [s5];exact r4⟩
 have hrow:∀ (r:Nat) row info,(r < rs.length \/ r ∈ ns) -> S1.L[r]? = some row -> S1.β[r]? = some info ->
   ∃ row',(backL S.L rs ns old new)[backOf S.L.length rs ns r]? = some row' /\ (backβ S.β S1.β rs ns)[backOf S.L.length rs ns r]? = some info /\ row'.ver = row.ver /\ row'.elems.length = row.elems.length:=by
  intro r row info hr h1 h2
  obtain ⟨k1,k2⟩:=back_in hS hlen hnd ho hn hr h1 h2
  obtain ⟨_,s2,_,_,s5⟩:=renRow_spec (backOf S.L.length rs ns) row
  exact ⟨_,k1,k2,s2,s5⟩
 have hex:Ext S ⟨S.base,S.acc,backL S.L rs ns old new,backβ S.β S1.β rs ns,S1.w⟩:=by
  refine ⟨rfl,rfl,himm,fun r row info h1 h2 => ?_,hE.below,fun q info hq => ?_,fun b hb hlt hnb => ?_⟩
  ·by_cases hm:r ∈ rs
   ·have hp:=posOf_get hm
    obtain ⟨p1,p2⟩:=List.getElem?_eq_some_iff.1 hp
    obtain ⟨row0,k1,k2⟩:=g2 _ r hp
    rw [h1] at k1
    simp only [Option.some.injEq] at k1;subst k1
    obtain ⟨_,s2,_,_,s5⟩:=renRow_spec (posOf rs) row
    obtain ⟨row1,info1,e1,e2,e3,e4⟩:=hE.rows (posOf rs r) (renRow (posOf rs) row) info (by show (rows.map _)[posOf rs r]? = _;rw [List.getElem?_map,k2];rfl) (sub_at hp h2)
    obtain ⟨b1,b2⟩:=back_in hS hlen hnd ho hn (.inl p1) e1 e2
    rw [back_lt p1,p2] at b1 b2
    obtain ⟨_,t2,_,_,t5⟩:=renRow_spec (backOf S.L.length rs ns) row1
    exact ⟨_,info1,b1,b2,by rw [t2,<- s2];exact e3,fun e => by rw [t5,<- s5];exact e4 (by rw [s2,<- t2];exact e)⟩
   ·have hq:r < (backL S.L rs ns old new).length:=by
     unfold backL;rw [List.length_append,putAt_len];have:=lt_of_get h1;omega
    refine ⟨row,info,?_,?_,Nat.le_refl _,fun _ => ⟨rfl,rfl⟩⟩
    ·show (backL S.L rs ns old new)[r]? = _
     unfold backL
     rw [List.getElem?_append_left (by rw [putAt_len];exact lt_of_get h1),putAt_other _ _ _ _ hm];exact h1
    ·show (backβ S.β S1.β rs ns)[r]? = _
     unfold backβ
     rw [List.getElem?_append_left (by rw [putAt_len];exact lt_of_get h2),putAt_other _ _ _ _ hm];exact h2
  ·rcases hcases q (hqβ q info hq) with ⟨c1,c2,c3,c4⟩ | ⟨i,row,info',c1,c2,c3,c4,c5,c6⟩
   ·have hq':(backβ S.β S1.β rs ns)[q]? = some info:=hq
    rw [c4] at hq'
    exact .inl ⟨q,info,hq',rfl⟩
   ·have hq':(backβ S.β S1.β rs ns)[q]? = some info:=hq
    rw [c6] at hq'
    simp only [Option.some.injEq] at hq';subst hq'
    rcases hfresh i info' c4 with ⟨r,inf,_,h3,h4⟩ | h
    ·exact .inl ⟨r,inf,h3,h4⟩
    ·exact .inr h
  ·refine hE.other b hb hlt fun j info h => ?_
   obtain ⟨r,_,h2⟩:=hsub j info h
   exact hnb r info h2
 refine ⟨?_,hex,fun a v h hr => ren_rel hrow hd h hr⟩
 have hboth:∀ (q:Nat) row' info,(backL S.L rs ns old new)[q]? = some row' -> (backβ S.β S1.β rs ns)[q]? = some info ->
   (q < S.L.length /\ q ∉ rs /\ S.L[q]? = some row' /\ S.β[q]? = some info) \/
   ∃ i row,(i < rs.length \/ i ∈ ns) /\ q = backOf S.L.length rs ns i /\ S1.L[i]? = some row /\ S1.β[i]? = some info /\ row' = renRow (backOf S.L.length rs ns) row:=by
  intro q row' info h1 h2
  rcases hcases q (lt_of_get h1) with ⟨c1,c2,c3,c4⟩ | ⟨i,row,info',c1,c2,c3,c4,c5,c6⟩
  ·exact .inl ⟨c1,c2,c3.symm.trans h1,c4.symm.trans h2⟩
  ·rw [c5] at h1;rw [c6] at h2
   simp only [Option.some.injEq] at h1 h2;subst h1;subst h2
   exact .inr ⟨i,row,c1,c2,c3,c4,rfl⟩
 have hβc:∀ (q:Nat) info,(backβ S.β S1.β rs ns)[q]? = some info -> (q ∉ rs /\ S.β[q]? = some info) \/ ∃ i,(i < rs.length \/ i ∈ ns) /\ q = backOf S.L.length rs ns i /\ S1.β[i]? = some info:=by
  intro q info h
  rcases hcases q (hqβ q info h) with ⟨c1,c2,c3,c4⟩ | ⟨i,row,info',c1,c2,c3,c4,c5,c6⟩
  ·exact .inl ⟨c2,c4.symm.trans h⟩
  ·rw [c6] at h
   simp only [Option.some.injEq] at h;subst h
   exact .inr ⟨i,c1,c2,c4⟩
 have hrefs:∀ i row,(i < rs.length \/ i ∈ ns) -> S1.L[i]? = some row -> ∀ r ∈ rowRefs row,r < rs.length \/ r ∈ ns:=by
  intro i row hi h1
  refine href row ?_
  rcases hi with hi | hi
  ·obtain ⟨row0,k1,k2⟩:=o2 i i (by simp [hi])
   rw [h1] at k1
   simp only [Option.some.injEq] at k1;subst k1
   exact List.mem_append_left _ (List.mem_of_getElem? k2)
  ·obtain ⟨row0,k1,k2⟩:=n2 _ i (posOf_get hi)
   rw [h1] at k1
   simp only [Option.some.injEq] at k1;subst k1
   exact List.mem_append_right _ (List.mem_of_getElem? k2)
 have hmixed:∀ (q i:Nat) info info',q ∉ rs -> S.β[q]? = some info -> S1.β[i]? = some info' -> info.blk ≠ info'.blk:=by
  intro q i info info' hq h1 h2 he
  rcases hfresh i info' h2 with ⟨r,inf,k1,k2,k3⟩ | k
  ·have:=hS.inj r q inf info k2 h1 (k3.trans he.symm)
   subst this
   exact hq k1
  ·have:=(hS.blk q info h1).2;omega
 refine ⟨Nat.le_trans hS.base hsize,?_,fun q info h => ?_,fun q q' info info' h h' he => ?_,fun q row' info h1 h2 => ?_,fun q row' h1 => ?_,fun q row' info i x k c cv h1 h2 hx hk hcv => ?_,fun q row' info i x k c cv h1 h2 hc hx hk hcv => ?_,fun q info off h => ?_,fun b off h => hS.anew b off (Nat.le_trans hsize h)⟩
 ·show (backL S.L rs ns old new).length = (backβ S.β S1.β rs ns).length
  unfold backL backβ subβ
  rw [List.length_append,List.length_append,putAt_len,putAt_len,List.length_map,List.length_map,n1,hS.len]
 ·rcases hβc q info h with ⟨_,h1⟩ | ⟨i,_,_,h1⟩
  ·exact ⟨(hS.blk q info h1).1,Nat.lt_of_lt_of_le (hS.blk q info h1).2 hsize⟩
  ·have:=hS1.blk i info h1
   rw [hbase] at this;exact this
 ·rcases hβc q info h with ⟨a1,a2⟩ | ⟨i,a1,a2,a3⟩
  ·rcases hβc q' info' h' with ⟨b1,b2⟩ | ⟨i',b1,b2,b3⟩
   ·exact hS.inj q q' info info' a2 b2 he
   ·exact absurd he (hmixed q i' info info' a1 a2 b3)
  ·rcases hβc q' info' h' with ⟨b1,b2⟩ | ⟨i',b1,b2,b3⟩
   ·exact absurd he.symm (hmixed q' i info' info b1 b2 a3)
   ·have:=hS1.inj i i' info info' a3 b3 he
    subst this
    rw [a2,b2]
 ·rcases hboth q row' info h1 h2 with ⟨_,a2,a3,a4⟩ | ⟨i,row,a1,a2,a3,a4,rfl⟩
  ·obtain ⟨b1,b2,cs,T,b3,b4⟩:=hS.cells q row' info a3 a4
   exact ⟨b1,b2,cs,T,(hstay q info a4 a2).trans b3,b4⟩
  ·obtain ⟨s1,_,_,_,s5⟩:=renRow_spec (backOf S.L.length rs ns) row
   rw [s1,s5]
   exact hS1.cells i row info a3 a4
 ·rcases hcases q (lt_of_get h1) with ⟨c1,c2,c3,c4⟩ | ⟨i,row,info',c1,c2,c3,c4,c5,c6⟩
  ·exact hS.elems q row' (c3.symm.trans h1)
  ·have h1':(backL S.L rs ns old new)[q]? = some row':=h1
   rw [c5] at h1'
   simp only [Option.some.injEq] at h1';subst h1'
   have:=hS1.elems i row c3
   unfold renRow
   cases row.clean with
   | true => exact this
   | false => exact ren_ok this
 ·rcases hboth q row' info h1 h2 with ⟨_,a2,a3,a4⟩ | ⟨j,row,a1,a2,a3,a4,rfl⟩
  ·exact (hS.rel q row' info i x k c cv a3 a4 hx hk (by rw [<- cell_of_heap (hstay q info a4 a2)];exact hcv)).mono hex
  ·exact (row_over (S:=S1) (S':=⟨S.base,S.acc,backL S.L rs ns old new,backβ S.β S1.β rs ns,S1.w⟩) (cellv:=fun i k => S1.w.cell? ⟨info.blk,info.off + i * info.es + k,none⟩) hrow hd (hrefs j row a1 a3)
    (fun i x k c cv hx hk hcv => hS1.rel j row info i x k c cv a3 a4 hx hk hcv) (fun hc i x k c cv hx hk hcv => hS1.clean j row info i x k c cv a3 a4 hc hx hk hcv)).1 i x k c cv hx hk hcv
 ·rcases hboth q row' info h1 h2 with ⟨_,a2,a3,a4⟩ | ⟨j,row,a1,a2,a3,a4,rfl⟩
  ·exact (hS.clean q row' info i x k c cv a3 a4 hc hx hk (by rw [<- cell_of_heap (hstay q info a4 a2)];exact hcv)).mono hex
  ·exact (row_over (S:=S1) (S':=⟨S.base,S.acc,backL S.L rs ns old new,backβ S.β S1.β rs ns,S1.w⟩) (cellv:=fun i k => S1.w.cell? ⟨info.blk,info.off + i * info.es + k,none⟩) hrow hd (hrefs j row a1 a3)
    (fun i x k c cv hx hk hcv => hS1.rel j row info i x k c cv a3 a4 hx hk hcv) (fun hc i x k c cv hx hk hcv => hS1.clean j row info i x k c cv a3 a4 hc hx hk hcv)).2 hc i x k c cv hx hk hcv
 ·rcases hβc q info h with ⟨_,h1⟩ | ⟨i,_,_,h1⟩
  ·exact hS.acq q info off h1
  ·have:=hS1.acq i info off h1
   rw [hacc] at this
   rcases this with h2 | ⟨r,inf,_,h3,h4⟩ | h2
   ·exact hS.anew _ off h2
   ·rw [<- h4];exact hS.acq r inf off h3
   ·exact h2.1
end
end Go.Av

namespace Go.Av
open Go.RowKit
mutual
theorem renA_ext {f g:Nat -> Nat}:∀ (a:AV),(∀ r ∈ rowsA a,f r = g r) -> renA f a = renA g a
 | .any,_ => rfl
 | .bool _,_ => rfl
 | .int _ _,_ => rfl
 | .str _,_ => rfl
 | .nilp,_ => rfl
 | .nilf,_ => rfl
 | .vnil,_ => rfl
 | .eptr ..,_ => rfl
 | .vec ..,_ => rfl
 | .row r v,h => by simp only [renA];rw [h r (by simp [rowsA])]
 | .ref r v lo n,h => by simp only [renA];rw [h r (by simp [rowsA])]
 | .ptr r v i j,h => by simp only [renA];rw [h r (by simp [rowsA])]
 | .agg cs,h => by simp only [renA];rw [renL_ext cs (by simpa [rowsA] using h)]
 | .tup cs,h => by simp only [renA];rw [renL_ext cs (by simpa [rowsA] using h)]
 | .func fn a b,h => by
  simp only [renA]
  rw [renL_ext a (fun r hr => h r (by simp [rowsA,hr])),renL_ext b (fun r hr => h r (by simp [rowsA,hr]))]
theorem renL_ext {f g:Nat -> Nat}:∀ (l:List AV),(∀ r ∈ rowsL l,f r = g r) -> renL f l = renL g l
 | [],_ => rfl
 | c :: l,h => by
  simp only [renL]
  rw [renA_ext c (fun r hr => h r (by simp [rowsL,hr])),renL_ext l (fun r hr => h r (by simp [rowsL,hr]))]
end
mutual
theorem renA_id:∀ (a:AV),renA (fun r => r) a = a
 | .any => rfl
 | .bool _ => rfl
 | .int _ _ => rfl
 | .str _ => rfl
 | .nilp => rfl
 | .nilf => rfl
 | .vnil => rfl
 | .eptr .. => rfl
 | .vec .. => rfl
 | .row r v => rfl
 | .ref r v lo n => rfl
 | .ptr r v i j => rfl
 | .agg cs => by simp only [renA];rw [renL_id cs]
 | .tup cs => by simp only [renA];rw [renL_id cs]
 | .func fn a b => by simp only [renA];rw [renL_id a,renL_id b]
theorem renL_id:∀ (l:List AV),renL (fun r => r) l = l
 | [] => rfl
 | c :: l => by simp only [renL];rw [renA_id c,renL_id l]
end
mutual
theorem renA_renA (f g:Nat -> Nat):∀ (a:AV),renA g (renA f a) = renA (fun r => g (f r)) a
 | .any => rfl
 | .bool _ => rfl
 | .int _ _ => rfl
 | .str _ => rfl
 | .nilp => rfl
 | .nilf => rfl
 | .vnil => rfl
 | .eptr .. => rfl
 | .vec .. => rfl
 | .row r v => rfl
 | .ref r v lo n => rfl
 | .ptr r v i j => rfl
 | .agg cs => by simp only [renA];rw [renL_renL f g cs]
 | .tup cs => by simp only [renA];rw [renL_renL f g cs]
 | .func fn a b => by simp only [renA];rw [renL_renL f g a,renL_renL f g b]
theorem renL_renL (f g:Nat -> Nat):∀ (l:List AV),renL g (renL f l) = renL (fun r => g (f r)) l
 | [] => rfl
 | c :: l => by simp only [renL];rw [renA_renA f g c,renL_renL f g l]
end
mutual
theorem rowsA_ren (f:Nat -> Nat):∀ (a:AV),rowsA (renA f a) = (rowsA a).map f
 | .any => rfl
 | .bool _ => rfl
 | .int _ _ => rfl
 | .str _ => rfl
 | .nilp => rfl
 | .nilf => rfl
 | .vnil => rfl
 | .eptr .. => rfl
 | .vec .. => rfl
 | .row r v => rfl
 | .ref r v lo n => rfl
 | .ptr r v i j => rfl
 | .agg cs => by simp only [renA,rowsA];exact rowsL_ren f cs
 | .tup cs => by simp only [renA,rowsA];exact rowsL_ren f cs
 | .func fn a b => by simp only [renA,rowsA,List.map_append];rw [rowsL_ren f a,rowsL_ren f b]
theorem rowsL_ren (f:Nat -> Nat):∀ (l:List AV),rowsL (renL f l) = (rowsL l).map f
 | [] => rfl
 | c :: l => by simp only [renL,rowsL,List.map_append];rw [rowsA_ren f c,rowsL_ren f l]
end
theorem refs_ren (f:Nat -> Nat) (row:Row):rowRefs (renRow f row) = (rowRefs row).map f:=by
 unfold rowRefs renRow
 cases hc:row.clean with
 | true => simp [hc]
 | false => simp [rowsL_ren]
theorem renRow_back {f g:Nat -> Nat} {row:Row} (h:∀ r ∈ rowRefs row,g (f r) = r):renRow g (renRow f row) = row:=by
 unfold renRow
 unfold rowRefs at h
 cases hc:row.clean with
 | true => simp [hc]
 | false =>
  rw [hc] at h
  simp only [cond_false] at h ⊢
  rw [renL_renL,renL_ext row.elems (g:=fun r => r) h,renL_id,<- hc]
theorem getRows_all (l:List Row):getRows l (List.range l.length) = some l:=by
 have:∀ (n k:Nat),n + k = l.length -> getRows l (List.range' k n) = some (l.drop k):=by
  intro n
  induction n with
  | zero => intro k hk;simp [getRows];omega
  | succ n ih =>
   intro k hk
   have hlt:k < l.length:=by omega
   rw [List.range'_succ,getRows,List.getElem?_eq_getElem hlt,ih (k + 1) (by omega),List.drop_eq_getElem_cons hlt]
 have h:=this l.length 0 (by omega)
 rw [<- List.range_eq_range'] at h
 simpa using h
theorem put_same {α:Type} {l:List α}:∀ (rs:List Nat) (xs:List α),(∀ (j:Nat) r x,rs[j]? = some r -> xs[j]? = some x -> l[r]? = some x) -> putAt l rs xs = l
 | [],xs,_ => by cases xs <;> rfl
 | r :: rs,[],_ => rfl
 | r :: rs,x :: xs,h => by
  have h0:=h 0 r x rfl rfl
  have hs:l.set r x = l:=set_self h0
  rw [putAt,hs]
  exact put_same rs xs fun j q y hj hy => h (j + 1) q y (by simpa using hj) (by simpa using hy)
theorem own_in {L Lc:Heap} {args args':List AV} {rs:List Nat} (h:ownIn L args = some (rs,args',Lc)) :
  ∃ rows,getRows L rs = some rows /\ rs.Nodup /\ (∀ r ∈ rowsL args,r ∈ rs) /\ (∀ row ∈ rows,∀ r ∈ rowRefs row,r ∈ rs) /\ args' = renL (posOf rs) args /\ Lc = rows.map (renRow (posOf rs)):=by
 unfold ownIn at h
 simp only at h
 split at h
 ·rename_i rows hr
  split at h
  ·rename_i hc
   simp only [Option.some.injEq,Prod.mk.injEq] at h
   obtain ⟨rfl,rfl,rfl⟩:=h
   simp only [Bool.and_eq_true,List.all_eq_true,List.contains_iff_mem] at hc
   exact ⟨rows,hr,(noDup_iff _).1 hc.1,hc.2.1,hc.2.2,rfl,rfl⟩
  ·simp at h
 ·simp at h
end Go.Av

namespace Go.Av
def PureQ (d:AV):AV -> Heap -> Prop:=fun v L => ∃ d0,pureA L v = some d0 /\ allB (versA L v) /\ d0.clean = true /\ Weak d0 d
theorem pq_of {L:Heap} {v d dq:AV} {bs:List Bool} (h1:pureA L v = some d) (h2:versA L v = bs) (h3:allB bs) (h4:d.clean = true) (h:d = dq):PureQ dq v L:=⟨d,h1,by rw [h2];exact h3,h4,by rw [h];exact .refl _⟩
theorem pq_weak {L:Heap} {v d dq:AV} {bs:List Bool} (h1:pureA L v = some d) (h2:versA L v = bs) (h3:allB bs) (h4:d.clean = true) (h:Weak d dq):PureQ dq v L:=⟨d,h1,by rw [h2];exact h3,h4,h⟩
theorem pure_pq {M:Mach} {f:FuncId} {args:List AV} {d:AV} (fn:Func) (fi:Fi) (hf:(M.P ()).funcs[f]? = some fn) (hb:fn.body = some (cd fn)) (hn:(fn.name == "runtime.NumGoroutine") = false)
  (hi:(⟨fn.ntmps,fn.results.toList⟩:Fi) = fi) (h:Wp M (.run fi [.code (cd fn)] (argVars 0 args) []) (PureQ d)):Ev M (.pure f args) d []:=
 .pure (.mono (own_wp fn fi hf hb hn hi h) fun _ _ ⟨d0,h1,h2,h3,h4⟩ => ⟨d0,d,h1,(allB_iff _).1 h2,h3,h4,rfl,rfl⟩)
mutual
theorem clean_ren (f:Nat -> Nat):∀ (a:AV),a.clean = true -> renA f a = a
 | .any,h => by simp [AV.clean] at h
 | .bool _,_ => rfl
 | .int _ _,_ => rfl
 | .str _,_ => rfl
 | .nilp,_ => rfl
 | .nilf,_ => rfl
 | .vnil,_ => rfl
 | .eptr ..,_ => rfl
 | .vec ..,_ => rfl
 | .ptr ..,h => by simp [AV.clean] at h
 | .row ..,h => by simp [AV.clean] at h
 | .ref ..,h => by simp [AV.clean] at h
 | .agg cs,h => by simp only [renA,cleanL_ren f cs (by simpa [AV.clean] using h)]
 | .tup cs,h => by simp only [renA,cleanL_ren f cs (by simpa [AV.clean] using h)]
 | .func fn a b,h => by
  simp only [AV.clean,Bool.and_eq_true] at h
  simp only [renA,cleanL_ren f a h.1,cleanL_ren f b h.2]
theorem cleanL_ren (f:Nat -> Nat):∀ (l:List AV),cleanL l = true -> renL f l = l
 | [],_ => rfl
 | c :: l,h => by
  simp only [cleanL,Bool.and_eq_true] at h
  simp only [renL,clean_ren f c h.1,cleanL_ren f l h.2]
end
mutual
theorem pureA_ren {L K:Heap} {f:Nat -> Nat} (hb:∀ (r:Nat) row,L[r]? = some row -> K[f r]? = some (renRow f row)):∀ (a:AV) {d:AV},pureA L a = some d -> pureA K (renA f a) = some d /\ versA K (renA f a) = versA L a
 | .any,_,h => by simp [pureA] at h
 | .bool b,_,h => ⟨h,rfl⟩
 | .int k n,_,h => ⟨h,rfl⟩
 | .str s,_,h => ⟨h,rfl⟩
 | .nilp,_,h => ⟨h,rfl⟩
 | .nilf,_,h => ⟨h,rfl⟩
 | .vnil,_,h => ⟨h,rfl⟩
 | .eptr ..,_,h => ⟨h,rfl⟩
 | .vec ..,_,h => ⟨h,rfl⟩
 | .row r v,_,h => by
  cases hr:L[r]? with
  | none => simp [pureA,hr] at h
  | some row =>
   have h2:=hb r row hr
   obtain ⟨_,s2,_,_,_⟩:=renRow_spec f row
   simp only [pureA,hr] at h
   split at h
   ·rename_i hc
    have e:renRow f row = row:=by simp [renRow,hc]
    exact ⟨by simp only [renA,pureA,h2,e,hc,if_true];exact h,by simp only [renA,versA,verOk,h2,hr,s2]⟩
   ·simp at h
 | .ref r v lo len,_,h => by
  cases hr:L[r]? with
  | none => simp [pureA,hr] at h
  | some row =>
   have h2:=hb r row hr
   obtain ⟨_,s2,_,_,_⟩:=renRow_spec f row
   simp only [pureA,hr] at h
   split at h
   ·rename_i hc
    have e:renRow f row = row:=by simp [renRow,hc]
    exact ⟨by simp only [renA,pureA,h2,e,hc,if_true];exact h,by simp only [renA,versA,verOk,h2,hr,s2]⟩
   ·simp at h
 | .ptr r v i j,_,h => by
  cases hr:L[r]? with
  | none => simp [pureA,hr] at h
  | some row =>
   have h2:=hb r row hr
   obtain ⟨s1,s2,_,_,_⟩:=renRow_spec f row
   simp only [pureA,hr] at h
   split at h
   ·rename_i x hx
    split at h
    ·rename_i hcx
     have e:(renRow f row).elems = [x]:=by
      unfold renRow
      cases hc:row.clean with
      | true => simpa using hx
      | false => simp only [cond_false,hx,renL,clean_ren f x hcx]
     exact ⟨by simp only [renA,pureA,h2,e,hcx,s1,if_true];exact h,by simp only [renA,versA,verOk,h2,hr,s2]⟩
    ·simp at h
   ·simp at h
 | .agg cs,_,h => by
  cases hr:pureL L cs with
  | none => simp [pureA,hr] at h
  | some ds =>
   obtain ⟨h1,h2⟩:=pureL_ren hb cs hr
   exact ⟨by simpa only [renA,pureA,h1,hr] using h,by simp only [renA,versA,h2]⟩
 | .tup cs,_,h => by
  cases hr:pureL L cs with
  | none => simp [pureA,hr] at h
  | some ds =>
   obtain ⟨h1,h2⟩:=pureL_ren hb cs hr
   exact ⟨by simpa only [renA,pureA,h1,hr] using h,by simp only [renA,versA,h2]⟩
 | .func fn a b,_,h => by
  cases hr:pureL L a with
  | none => simp [pureA,hr] at h
  | some ds =>
   cases hr2:pureL L b with
   | none => simp [pureA,hr,hr2] at h
   | some ds2 =>
    obtain ⟨h1,h2⟩:=pureL_ren hb a hr
    obtain ⟨h3,h4⟩:=pureL_ren hb b hr2
    exact ⟨by simpa only [renA,pureA,h1,h3,hr,hr2] using h,by simp only [renA,versA,h2,h4]⟩
theorem pureL_ren {L K:Heap} {f:Nat -> Nat} (hb:∀ (r:Nat) row,L[r]? = some row -> K[f r]? = some (renRow f row)):∀ (l:List AV) {ds:List AV},pureL L l = some ds -> pureL K (renL f l) = some ds /\ versL K (renL f l) = versL L l
 | [],_,h => ⟨h,rfl⟩
 | c :: l,_,h => by
  cases hr:pureA L c with
  | none => simp [pureL,hr] at h
  | some d =>
   cases hr2:pureL L l with
   | none => simp [pureL,hr,hr2] at h
   | some ds2 =>
    obtain ⟨h1,h2⟩:=pureA_ren hb c hr
    obtain ⟨h3,h4⟩:=pureL_ren hb l hr2
    exact ⟨by simpa only [renL,pureL,h1,h3,hr,hr2] using h,by simp only [renL,versL,h2,h4]⟩
end
theorem back_at {L L1:Heap} {rs:List Nat} {rows:List Row} (hrows:getRows L rs = some rows) (hnd:rs.Nodup) (r:Nat) (row:Row) (h:L1[r]? = some row) :
  (backAll L rs L1)[backAt L.length rs r]? = some (renRow (backAt L.length rs) row):=by
 obtain ⟨g1,g2⟩:=getRows_spec hrows
 unfold backAll
 by_cases hlt:r < rs.length
 ·have hb:Nat.blt r rs.length = true:=Nat.blt_eq.mpr hlt
  have e:backAt L.length rs r = rs[r]:=by simp [backAt,hb,hlt]
  obtain ⟨row0,k1,_⟩:=g2 r _ (List.getElem?_eq_getElem hlt)
  have hin:rs[r] < L.length:=(List.getElem?_eq_some_iff.1 k1).1
  rw [e,List.getElem?_append_left (by rw [putAt_len];exact hin)]
  exact putAt_at rs _ _ hnd r _ _ (List.getElem?_eq_getElem hlt) (by rw [List.getElem?_map,List.getElem?_take_of_lt hlt,h];rfl) hin
 ·have hb:Nat.blt r rs.length = false:=by
   cases hb:Nat.blt r rs.length with
   | false => rfl
   | true => have:=Nat.blt_eq.mp hb;omega
  have e:backAt L.length rs r = L.length + (r - rs.length):=by simp [backAt,hb]
  rw [e,List.getElem?_append_right (by rw [putAt_len];omega),putAt_len,List.getElem?_map,List.getElem?_drop]
  have e2:rs.length + (L.length + (r - rs.length) - L.length) = r:=by omega
  rw [e2,h];rfl
theorem wp_narrow {M:Mach} {fi:Fi} {k:List Item} {env env':Vars} {L Lc:Heap} {d:AV} (rs:List Nat) (hn:narrowIn L rs env = some (env',Lc)) (h:Wp M (.run fi k env' Lc) (PureQ d)):Wp M (.run fi k env L) (PureQ d):=by
 refine .narrow rs env' Lc hn (.mono h fun v L1 ⟨d0,hq1,hq2,hq3,hq4⟩ => ?_)
 unfold narrowIn at hn
 split at hn
 ·rename_i rows hrows
  split at hn
  ·rename_i hc
   simp only [Bool.and_eq_true] at hc
   obtain ⟨p1,p2⟩:=pureA_ren (back_at (L1:=L1) hrows ((noDup_iff rs).1 hc.1)) v hq1
   exact ⟨d0,p1,by rw [p2];exact hq2,hq3,hq4⟩
  ·simp at hn
 ·simp at hn
end Go.Av

namespace Go.Av
namespace Sp
def limN:Nat -> Nat -> List Int
 | 0,_ => []
 | n + 1,v => ((v % 1000000000:Nat):Int) :: limN n (v / 1000000000)
def cnt (v:Nat):Nat:=if h:v = 0 then 0 else cnt (v / 1000000000) + 1
termination_by v
decreasing_by omega
def lim (v:Nat):List Int:=limN (cnt v) v
def fits (n v:Nat):Prop:=v < 1000000000 ^ n
end Sp
theorem cnt_zero:Sp.cnt 0 = 0:=by rw [Sp.cnt];rfl
theorem cnt_pos {v:Nat} (h:v ≠ 0):Sp.cnt v = Sp.cnt (v / 1000000000) + 1:=by
 conv => lhs;rw [Sp.cnt]
 rw [dif_neg h]
theorem limN_len (n:Nat):∀ v,(Sp.limN n v).length = n:=by
 induction n with
 | zero => intro v;rfl
 | succ n ih => intro v;simp [Sp.limN,ih]
theorem limN_succ (n v:Nat):Sp.limN (n + 1) v = ((v % 1000000000:Nat):Int) :: Sp.limN n (v / 1000000000):=rfl
theorem limN_ok (n:Nat):∀ v,∀ x ∈ Sp.limN n v,0 <= x /\ x < 1000000000:=by
 induction n with
 | zero => intro v x h;simp [Sp.limN] at h
 | succ n ih =>
  intro v x h
  rcases List.mem_cons.1 h with rfl | h
  ·omega
  ·exact ih _ x h
theorem lim_len (v:Nat):(Sp.lim v).length = Sp.cnt v:=limN_len _ _
theorem fits_zero {v:Nat}:Sp.fits 0 v ↔ v = 0:=by unfold Sp.fits;simp
theorem fits_succ {n v:Nat}:Sp.fits (n + 1) v ↔ Sp.fits n (v / 1000000000):=by
 unfold Sp.fits
 rw [Nat.pow_succ,Nat.div_lt_iff_lt_mul (by omega)]
theorem fits_cnt:∀ {n v:Nat},Sp.fits n v ↔ Sp.cnt v <= n
 | 0,v => by
  rw [fits_zero]
  by_cases h:v = 0
  ·subst h;simp [cnt_zero]
  ·rw [cnt_pos h];omega
 | n + 1,v => by
  rw [fits_succ,fits_cnt]
  by_cases h:v = 0
  ·subst h;simp [cnt_zero]
  ·rw [cnt_pos h];omega
theorem fits_self (v:Nat):Sp.fits (Sp.cnt v) v:=fits_cnt.2 (Nat.le_refl _)
theorem fits_mono {n m v:Nat} (h:Sp.fits n v) (hm:n <= m):Sp.fits m v:=fits_cnt.2 (Nat.le_trans (fits_cnt.1 h) hm)
theorem fits_le {n v w:Nat} (h:Sp.fits n v) (hw:w <= v):Sp.fits n w:=Nat.lt_of_le_of_lt hw h
theorem cnt_mono {v w:Nat} (h:v <= w):Sp.cnt v <= Sp.cnt w:=fits_cnt.1 (fits_le (fits_self w) h)
theorem cnt_eq_zero {v:Nat}:Sp.cnt v = 0 ↔ v = 0:=by
 constructor
 ·intro h
  have:=fits_cnt.2 (show Sp.cnt v <= 0 by omega)
  exact fits_zero.1 this
 ·rintro rfl;exact cnt_zero
theorem lim_zero:Sp.lim 0 = []:=by unfold Sp.lim;rw [cnt_zero];rfl
def valL:List Int -> Nat
 | [] => 0
 | x :: l => x.toNat + 1000000000 * valL l
theorem val_limN:∀ (n v:Nat),Sp.fits n v -> valL (Sp.limN n v) = v
 | 0,v,h => (fits_zero.1 h).symm
 | n + 1,v,h => by
  rw [limN_succ,valL,val_limN n _ (fits_succ.1 h)];omega
theorem limN_val:∀ (l:List Int),(∀ x ∈ l,0 <= x /\ x < 1000000000) -> l = Sp.limN l.length (valL l) /\ Sp.fits l.length (valL l)
 | [],_ => ⟨rfl,fits_zero.2 rfl⟩
 | x :: l,h => by
  obtain ⟨h1,h2⟩:=limN_val l fun y hy => h y (List.mem_cons_of_mem _ hy)
  have hx:=h x (by simp)
  have e1:valL (x :: l) / 1000000000 = valL l:=by rw [valL];omega
  have e2:((valL (x :: l) % 1000000000:Nat):Int) = x:=by rw [valL];omega
  refine ⟨?_,?_⟩
  ·rw [List.length_cons,limN_succ,e1,e2,<- h1]
  ·rw [List.length_cons,fits_succ,e1];exact h2
theorem limN_drop:∀ (i n v:Nat),i <= n -> (Sp.limN n v).drop i = Sp.limN (n - i) (v / 1000000000 ^ i)
 | 0,n,v,_ => by simp
 | i + 1,0,v,h => by omega
 | i + 1,n + 1,v,h => by
  rw [limN_succ,List.drop_succ_cons,limN_drop i n _ (by omega),Nat.div_div_eq_div_mul,Nat.pow_succ,Nat.mul_comm]
  congr 1;omega
theorem limN_getD {i n:Nat} (v:Nat) (h:i < n):(Sp.limN n v).getD i default = ((v / 1000000000 ^ i % 1000000000:Nat):Int):=by
 have h1:=limN_drop i n v (by omega)
 rw [drop_getD (by rw [limN_len];exact h)] at h1
 have e:n - i = (n - i - 1) + 1:=by omega
 rw [e,limN_succ] at h1
 exact (List.cons.inj h1).1
theorem limN_zero (n:Nat):Sp.limN n 0 = List.replicate n 0:=by
 induction n with
 | zero => rfl
 | succ n ih => rw [limN_succ,List.replicate_succ,<- ih];rfl
theorem limN_snoc:∀ (n v:Nat),Sp.limN (n + 1) v = Sp.limN n v ++ [((v / 1000000000 ^ n % 1000000000:Nat):Int)]
 | 0,v => by simp [Sp.limN]
 | n + 1,v => by
  rw [limN_succ,limN_snoc n,limN_succ,List.cons_append,Nat.div_div_eq_div_mul,Nat.pow_succ,Nat.mul_comm (1000000000 ^ n)]
theorem fits_top {n v:Nat} (h:Sp.fits (n + 1) v):v / 1000000000 ^ n < 1000000000:=by
 unfold Sp.fits at h
 rw [Nat.pow_succ] at h
 exact Nat.div_lt_of_lt_mul h
theorem fits_top0 {n v:Nat}:Sp.fits n v ↔ v / 1000000000 ^ n = 0:=by
 unfold Sp.fits
 rw [Nat.div_eq_zero_iff]
 have:0 < 1000000000 ^ n:=Nat.pow_pos (by omega)
 omega
theorem limN_take (n v:Nat):(Sp.limN (n + 1) v).take n = Sp.limN n v:=by
 rw [limN_snoc,List.take_append_of_le_length (by rw [limN_len];omega),List.take_of_length_le (by rw [limN_len];omega)]
theorem lim_of {n v:Nat} (h:Sp.fits n v) (h2:n = 0 \/ ¬Sp.fits (n - 1) v):Sp.limN n v = Sp.lim v:=by
 have:Sp.cnt v = n:=by
  have h1:=fits_cnt.1 h
  rcases h2 with h2 | h2
  ·omega
  ·have h3:¬Sp.cnt v <= n - 1:=fun k => h2 (fits_cnt.2 k)
   omega
 unfold Sp.lim;rw [this]
end Go.Av

namespace Go.Av
theorem plus_step (k V W c:Nat):Sp.limN (k + 1) (V + W + c) = (((V % 1000000000 + W % 1000000000 + c) % 1000000000:Nat):Int) :: Sp.limN k (V / 1000000000 + W / 1000000000 + (V % 1000000000 + W % 1000000000 + c) / 1000000000):=by
 rw [limN_succ]
 have e1:(V + W + c) % 1000000000 = (V % 1000000000 + W % 1000000000 + c) % 1000000000:=by omega
 have e2:(V + W + c) / 1000000000 = V / 1000000000 + W / 1000000000 + (V % 1000000000 + W % 1000000000 + c) / 1000000000:=by omega
 rw [e1,e2]
theorem minus_step (k V W c:Nat) (h:W + c <= V) (hc:c <= 1) :
  (V % 1000000000 < W % 1000000000 + c -> Sp.limN (k + 1) (V - W - c) = ((V % 1000000000 + 1000000000 - (W % 1000000000 + c):Nat):Int) :: Sp.limN k (V / 1000000000 - W / 1000000000 - 1) /\ W / 1000000000 + 1 <= V / 1000000000) /\
  (¬V % 1000000000 < W % 1000000000 + c -> Sp.limN (k + 1) (V - W - c) = ((V % 1000000000 - (W % 1000000000 + c):Nat):Int) :: Sp.limN k (V / 1000000000 - W / 1000000000 - 0) /\ W / 1000000000 + 0 <= V / 1000000000):=by
 refine ⟨fun hl => ⟨?_,by omega⟩,fun hl => ⟨?_,by omega⟩⟩
 ·rw [limN_succ]
  have e1:(V - W - c) % 1000000000 = V % 1000000000 + 1000000000 - (W % 1000000000 + c):=by omega
  have e2:(V - W - c) / 1000000000 = V / 1000000000 - W / 1000000000 - 1:=by omega
  rw [e1,e2]
 ·rw [limN_succ]
  have e1:(V - W - c) % 1000000000 = V % 1000000000 - (W % 1000000000 + c):=by omega
  have e2:(V - W - c) / 1000000000 = V / 1000000000 - W / 1000000000 - 0:=by omega
  rw [e1,e2]
theorem mul_parts (x Y:Nat):x * Y = 1000000000 * (x * (Y / 1000000000)) + x * (Y % 1000000000):=by
 conv => lhs;rw [<- Nat.div_add_mod Y 1000000000]
 rw [Nat.mul_add,Nat.mul_left_comm]
theorem times_step (k U x Y c:Nat):Sp.limN (k + 1) (U + x * Y + c) = (((U % 1000000000 + x * (Y % 1000000000) + c) % 1000000000:Nat):Int) :: Sp.limN k (U / 1000000000 + x * (Y / 1000000000) + (U % 1000000000 + x * (Y % 1000000000) + c) / 1000000000):=by
 rw [limN_succ]
 have h:=mul_parts x Y
 generalize x * Y = p at h
 generalize x * (Y / 1000000000) = q at h
 generalize x * (Y % 1000000000) = r at h
 have e1:(U + p + c) % 1000000000 = (U % 1000000000 + r + c) % 1000000000:=by omega
 have e2:(U + p + c) / 1000000000 = U / 1000000000 + q + (U % 1000000000 + r + c) / 1000000000:=by omega
 rw [e1,e2]
theorem times_word {u x y c:Nat} (hu:u < 1000000000) (hx:x < 1000000000) (hy:y < 1000000000) (hc:c < 1000000000):u + x * y + c < 1000000000000000000 /\ (u + x * y + c) / 1000000000 < 1000000000:=by
 have h1:x * y <= 999999999 * y:=Nat.mul_le_mul_right _ (by omega)
 omega
theorem fits_mul {m P U w x:Nat} (hP:P = 1000000000 ^ m) (hU:U < P) (hw:w < P) (hx:x < 1000000000):Sp.fits (m + 1) (U + x * w):=by
 unfold Sp.fits
 rw [Nat.pow_succ,<- hP]
 have h1:x * w <= 999999999 * w:=Nat.mul_le_mul_right _ (by omega)
 omega
theorem byWord_step (U x b:Nat) (hx:x < 1000000000) (hb:0 < b):(x + 1000000000 * U) / b = 1000000000 * (U / b) + (U % b * 1000000000 + x) / b /\ (x + 1000000000 * U) % b = (U % b * 1000000000 + x) % b /\ (U % b * 1000000000 + x) / b < 1000000000:=by
 have h:=Nat.div_add_mod U b
 have hm:=Nat.mod_lt U hb
 generalize U / b = q at h
 generalize U % b = r at h hm
 have e:x + 1000000000 * U = r * 1000000000 + x + b * (1000000000 * q):=by
  rw [<- h];grind
 refine ⟨?_,?_,?_⟩
 ·rw [e,Nat.add_mul_div_left _ _ hb];omega
 ·rw [e,Nat.add_mul_mod_self_left]
 ·apply Nat.div_lt_of_lt_mul
  have:r * 1000000000 + 1000000000 <= b * 1000000000:=by
   have:(r + 1) * 1000000000 <= b * 1000000000:=Nat.mul_le_mul_right _ (by omega)
   omega
  omega
theorem lim_limN {n v:Nat} (h:Sp.fits n v):(Sp.limN n v).take (Sp.cnt v) = Sp.lim v:=by
 have hc:=fits_cnt.1 h
 obtain ⟨d,hd⟩:∃ d,n = Sp.cnt v + d:=⟨n - Sp.cnt v,by omega⟩
 subst hd
 clear h hc
 unfold Sp.lim
 induction d with
 | zero => rw [Nat.add_zero,List.take_of_length_le (by rw [limN_len];omega)]
 | succ d ih => rw [<- Nat.add_assoc,limN_snoc,List.take_append_of_le_length (by rw [limN_len];omega),ih]
def sgnI (n:Int):Int:=if n < 0 then -1 else if n > 0 then 1 else 0
theorem cmp_len {v w:Nat} (h:Sp.cnt v < Sp.cnt w):v < w:=by
 rcases Nat.lt_or_ge v w with h1 | h1
 ·exact h1
 ·have:=cnt_mono h1;omega
theorem digit_split (v i:Nat):v / 1000000000 ^ i = 1000000000 * (v / 1000000000 ^ (i + 1)) + v / 1000000000 ^ i % 1000000000:=by
 rw [Nat.pow_succ,<- Nat.div_div_eq_div_mul];omega
theorem digit_lt {v w i:Nat} (h:v / 1000000000 ^ i < w / 1000000000 ^ i):v < w:=by
 rcases Nat.lt_or_ge v w with h1 | h1
 ·exact h1
 ·have:=Nat.div_le_div_right (c:=1000000000 ^ i) h1;omega
end Go.Av

namespace Go.Av
def IsQ (a r:Nat):Prop:=r * r <= a /\ a < (r + 1) * (r + 1)
theorem isq_unique {a r r':Nat} (h:IsQ a r) (h':IsQ a r'):r = r':=by
 rcases Nat.lt_trichotomy r r' with k | k | k
 ·have:=Nat.mul_le_mul (show r + 1 <= r' from k) (show r + 1 <= r' from k)
  have:=h.2;have:=h'.1;omega
 ·exact k
 ·have:=Nat.mul_le_mul (show r' + 1 <= r from k) (show r' + 1 <= r from k)
  have:=h'.2;have:=h.1;omega
theorem isq_exists:∀ a,∃ r,IsQ a r
 | 0 => ⟨0,by simp [IsQ]⟩
 | a + 1 => by
  obtain ⟨r,h1,h2⟩:=isq_exists a
  by_cases h:a + 1 < (r + 1) * (r + 1)
  ·exact ⟨r,by omega,h⟩
  ·refine ⟨r + 1,by omega,?_⟩
   have:(r + 1) * (r + 1) < (r + 1 + 1) * (r + 1 + 1):=Nat.mul_lt_mul'' (by omega) (by omega)
   omega
noncomputable def Sp.isqrt (a:Nat):Nat:=Classical.epsilon (IsQ a)
theorem isqrt_spec (a:Nat):IsQ a (Sp.isqrt a):=Classical.epsilon_spec (isq_exists a)
theorem isqrt_eq {a r:Nat} (h:IsQ a r):Sp.isqrt a = r:=isq_unique (isqrt_spec a) h
theorem newton_above {a x:Nat} (hx:0 < x):a < ((x + a / x) / 2 + 1) * ((x + a / x) / 2 + 1):=by
 have h1:=Nat.lt_mul_div_succ a hx
 generalize a / x = q at h1
 have h2:x + q + 1 <= 2 * ((x + q) / 2 + 1):=by omega
 generalize (x + q) / 2 + 1 = y at h2
 have h3:(x + q + 1) * (x + q + 1) <= 2 * y * (2 * y):=Nat.mul_le_mul h2 h2
 have h4:4 * (x * (q + 1)) <= (x + q + 1) * (x + q + 1):=by
  rcases Nat.le_total x (q + 1) with k | k
  ·obtain ⟨d,hd⟩:=Nat.exists_eq_add_of_le k
   have e:x + q + 1 = 2 * x + d:=by omega
   have:(x + q + 1) * (x + q + 1) = 4 * (x * (q + 1)) + d * d:=by rw [e,hd];grind
   omega
  ·obtain ⟨d,hd⟩:=Nat.exists_eq_add_of_le k
   have e:x + q + 1 = 2 * (q + 1) + d:=by omega
   have:(x + q + 1) * (x + q + 1) = 4 * (x * (q + 1)) + d * d:=by rw [e,hd];grind
   omega
 have h5:2 * y * (2 * y) = 4 * (y * y):=by grind
 omega
theorem newton_done {a x:Nat} (_hx:0 < x) (ha:a < (x + 1) * (x + 1)) (h:x <= (x + a / x) / 2):Sp.isqrt a = x:=by
 refine isqrt_eq ⟨?_,ha⟩
 have h1:x <= a / x:=by omega
 exact Nat.le_trans (Nat.mul_le_mul_right x h1) (Nat.div_mul_le_self a x)
def Sp.flo (a b:Int):Int:=if 0 < b then a / b else (-a) / (-b)
def Sp.flr (a b:Int):Int:=a - b * Sp.flo a b
theorem flo_unique {a b q r:Int} (h:a = b * q + r) (hr:(0 <= r /\ r < b) \/ (b < r /\ r <= 0)):Sp.flo a b = q /\ Sp.flr a b = r:=by
 have h1:Sp.flo a b = q:=by
  unfold Sp.flo
  rcases hr with hr | hr
  ·rw [if_pos (by omega)]
   exact ((Int.ediv_emod_unique (by omega)).2 ⟨by omega,hr.1,hr.2⟩).1
  ·rw [if_neg (by omega)]
   refine ((Int.ediv_emod_unique (r:=-r) (by omega)).2 ⟨?_,by omega,by omega⟩).1
   rw [h,Int.neg_mul];omega
 refine ⟨h1,?_⟩
 unfold Sp.flr
 rw [h1];omega
end Go.Av

namespace Go.Av
structure Est (P W V:Nat):Prop where
 P0:0 < P
 hV:1000000000 <= V / P
 hW:W < V * 1000000000
theorem Est.V0 {P W V:Nat} (h:Est P W V):0 < V:=by
 rcases Nat.eq_zero_or_pos V with e | e
 ·have:=h.hW;subst e;omega
 ·exact e
theorem Est.q_lt {P W V:Nat} (h:Est P W V):W / V < 1000000000:=Nat.div_lt_of_lt_mul h.hW
theorem Est.v1 {P W V:Nat} (h:Est P W V):0 < V / P / 1000000000:=by have:=h.hV;omega
theorem Est.start {P W V:Nat} (h:Est P W V):W / V <= W / P / 1000000000 / (V / P / 1000000000):=by
 rw [Nat.le_div_iff_mul_le h.v1]
 have e1:W / V * V <= W:=Nat.div_mul_le_self W V
 have e2:V / P * P <= V:=Nat.div_mul_le_self V P
 have e3:W / V * (V / P) * P <= W:=by
  rw [Nat.mul_assoc]
  exact Nat.le_trans (Nat.mul_le_mul_left _ e2) e1
 have e4:W / V * (V / P) <= W / P:=(Nat.le_div_iff_mul_le h.P0).2 e3
 have e5:W / V * (V / P / 1000000000) * 1000000000 <= W / P:=by
  rw [Nat.mul_assoc]
  exact Nat.le_trans (Nat.mul_le_mul_left _ (Nat.div_mul_le_self _ _)) e4
 exact (Nat.le_div_iff_mul_le (by omega)).2 e5
theorem Est.more {P W V g r:Nat} (h:Est P W V) (hg:g * (V / P / 1000000000) + r = W / P / 1000000000) (ht:g >= 1000000000 \/ g * (V / P % 1000000000) > r * 1000000000 + W / P % 1000000000):W / V < g:=by
 rcases ht with ht | ht
 ·have:=h.q_lt;omega
 ·have e1:g * (V / P) > W / P:=by
   have k:=mul_parts g (V / P)
   have k2:=Nat.div_add_mod (W / P) 1000000000
   rw [<- hg] at k2
   generalize g * (V / P) = x at k
   generalize g * (V / P / 1000000000) = y at k k2
   generalize g * (V / P % 1000000000) = z at k ht
   omega
  have e2:W < g * (V / P) * P:=by
   have:W / P + 1 <= g * (V / P):=e1
   have k:=Nat.mul_le_mul_right P this
   have k2:=Nat.lt_mul_div_succ W h.P0
   rw [Nat.mul_comm] at k2
   omega
  have e3:g * (V / P) * P <= g * V:=by
   rw [Nat.mul_assoc];exact Nat.mul_le_mul_left _ (Nat.div_mul_le_self V P)
  exact Nat.div_lt_of_lt_mul (by rw [Nat.mul_comm];omega)
theorem Est.less {P W V g r:Nat} (h:Est P W V) (hg:g * (V / P / 1000000000) + r = W / P / 1000000000) (ht:g * (V / P % 1000000000) <= r * 1000000000 + W / P % 1000000000):g <= W / V + 1:=by
 have e1:g * (V / P) <= W / P:=by
  have k:=mul_parts g (V / P)
  have k2:=Nat.div_add_mod (W / P) 1000000000
  rw [<- hg] at k2
  generalize g * (V / P) = x at k
  generalize g * (V / P / 1000000000) = y at k k2
  generalize g * (V / P % 1000000000) = z at k ht
  omega
 have e2:g * (V / P) * P <= W:=Nat.le_trans (Nat.mul_le_mul_right P e1) (Nat.div_mul_le_self W P)
 have e3:W < (W / V + 1) * V:=by
  have:=Nat.lt_mul_div_succ W h.V0
  rwa [Nat.mul_comm] at this
 have e4:V < (V / P + 1) * P:=by
  have:=Nat.lt_mul_div_succ V h.P0
  rwa [Nat.mul_comm] at this
 have hq:=h.q_lt
 have hV:=h.hV
 generalize W / V = q at e3 hq
 generalize V / P = d at e1 e2 e4 hV
 have e5:g * d * P < (q + 1) * (d + 1) * P:=by
  have:(q + 1) * V <= (q + 1) * ((d + 1) * P):=Nat.mul_le_mul_left _ (by omega)
  rw [<- Nat.mul_assoc] at this
  omega
 have e6:g * d < (q + 1) * (d + 1):=Nat.lt_of_mul_lt_mul_right e5
 rcases Nat.lt_or_ge g (q + 2) with k | k
 ·omega
 ·have e7:(q + 2) * d <= g * d:=Nat.mul_le_mul_right _ k
  have e8:(q + 1) * (d + 1) = (q + 1) * d + (q + 1):=by rw [Nat.mul_succ]
  have e9:(q + 2) * d = (q + 1) * d + d:=Nat.succ_mul _ _
  omega
theorem Est.small {P W V g r:Nat} (h:Est P W V) (hg:g * (V / P / 1000000000) + r = W / P / 1000000000) (hr:r >= 1000000000):g < 1000000000:=by
 have hv:=h.v1
 have e1:W / P / 1000000000 < (V / P / 1000000000) * 1000000000 + 1000000000:=by
  have e4:V < (V / P + 1) * P:=by
   have:=Nat.lt_mul_div_succ V h.P0
   rwa [Nat.mul_comm] at this
  have e5:W / P < (V / P + 1) * 1000000000:=by
   apply Nat.div_lt_of_lt_mul
   have:=h.hW
   have k:V * 1000000000 <= (V / P + 1) * P * 1000000000:=Nat.mul_le_mul_right _ (by omega)
   have k2:(V / P + 1) * P * 1000000000 = P * ((V / P + 1) * 1000000000):=by grind
   omega
  omega
 rw [<- hg] at e1
 rcases Nat.lt_or_ge g 1000000000 with k | k
 ·exact k
 ·have:1000000000 * (V / P / 1000000000) <= g * (V / P / 1000000000):=Nat.mul_le_mul_right _ k
  omega
end Go.Av

namespace Go.Av
open Go.Proofs
noncomputable def M1:Mach:=⟨fun _ => Tryz.prog,fun f => [134,135].contains f⟩
abbrev usA (f:Bool) (l:List Int):AV:=.vec f 1 (l.map (.int .u32))
namespace Sp
def isNeg (v:Int):Bool:=decide (v < 0)
def limI (v:Int):List Int:=lim v.natAbs
end Sp
abbrev bigA (f:Bool) (v:Int):AV:=.agg [.bool (Sp.isNeg v),.vec f 1 ((Sp.limI v).map (.int .u32))]
end Go.Av

namespace Go.Av
open Go.Proofs
structure Pt where
 len:Int
 spd:Int
 cor:Int
 deriving Inhabited
def Pt.a (p:Pt):AV:=.agg [.int .i64 p.len,.int .i64 p.spd,.int .i64 p.cor]
end Go.Av

namespace Go.Av
abbrev vi:Int -> AV:=AV.int .i64
abbrev vw:Int -> AV:=AV.int .u64
abbrev vu:Int -> AV:=AV.int .u32
abbrev us (l:List Int):List AV:=List.map (AV.int .u32) l
abbrev wi (x:Int):Int:=IntKind.i64.wrap x
abbrev wu (x:Int):Int:=IntKind.u64.wrap x
abbrev wv (x:Int):Int:=IntKind.u32.wrap x
abbrev vf (l:List AV):AV:=.vec false 1 l
abbrev ag (l:List AV):AV:=.agg l
abbrev tu (l:List AV):AV:=.tup l
abbrev vb (b:Bool):AV:=.bool b
abbrev gi {α:Type} (l:List α) (i:Nat):Option α:=l.get?Internal i
theorem b0:allB []:=trivial
theorem bc {b:Bool} {l:List Bool} (h:b = true) (r:allB l):allB (b :: l):=⟨h,r⟩
theorem q0:allP []:=trivial
theorem qc {p:Prop} {l:List Prop} (h:p) (r:allP l):allP (p :: l):=⟨h,r⟩
theorem c0 {M:Mach}:allC M []:=trivial
theorem cc {M:Mach} {c:CF} {l:List CF} (h:c.cond = true -> c.ok M) (r:allC M l):allC M (c :: l):=⟨h,r⟩
theorem xm (p:Prop):p \/ ¬p:=Classical.em p
abbrev pc (f:Nat) (args:List AV) (v:AV):CF:=⟨true,false,f,args,[],v,[]⟩
theorem ce {M:Mach} {f:Nat} {args:List AV} {v:AV} {l:List CF} (h:Ev M (.pure f args) v []) (r:allC M l):allC M (pc f args v :: l):=⟨fun _ => h,r⟩
def retP (M:Mach) (fi:Fi) (G:Given) (n:Nat) (ds:List Bool) (todo:List Item) (env:Vars) (L:Heap):Option (AV × List Bool × List Prop × List CF):=
 match path M fi G n ds ⟨todo,env,L,[],[],[]⟩ with
 | some ⟨.code .ret :: _,env',L',asm,eqs,calls⟩ => match finish M.P fi env' L' with
  | some v => match pureA L' v with
   | some d => bif (versA L' v).all id && d.clean then some (d,asm,eqs,calls) else none
   | none => none
  | none => none
 | _ => none
theorem path_rq {M:Mach} {fi:Fi} {G:Given} (n:Nat) (ds:List Bool) {todo:List Item} {env:Vars} {L:Heap} {asm:List Bool} {eqs:List Prop} {calls:List CF} (d:AV) {dq:AV}
  (h:retP M fi G n ds todo env L = some (d,asm,eqs,calls)) (hA:allB asm) (hQ:allP eqs) (hC:allC M calls) (w:Weak d dq):Wp M (.run fi todo env L) (PureQ dq):=by
 unfold retP at h
 split at h
 ·rename_i k env' L' asm' eqs' calls' hp
  split at h
  ·rename_i v hf
   split at h
   ·rename_i d' hd
    cases hb:((versA L' v).all id && d'.clean) with
    | false => rw [hb] at h;simp at h
    | true =>
     rw [hb] at h
     simp only [cond_true,Option.some.injEq,Prod.mk.injEq] at h
     obtain ⟨rfl,rfl,rfl,rfl⟩:=h
     rw [Bool.and_eq_true,List.all_eq_true] at hb
     exact path_wp n ds _ hp hA hQ hC (.ret hf ⟨_,hd,(allB_iff _).2 hb.1,hb.2,w⟩)
   ·simp at h
  ·simp at h
 ·simp at h
theorem path_re {M:Mach} {fi:Fi} {G:Given} (n:Nat) (ds:List Bool) {todo:List Item} {env:Vars} {L:Heap} {asm:List Bool} {eqs:List Prop} {calls:List CF} (d:AV) {dq:AV}
  (h:retP M fi G n ds todo env L = some (d,asm,eqs,calls)) (hA:allB asm) (hQ:allP eqs) (hC:allC M calls) (w:d = dq):Wp M (.run fi todo env L) (PureQ dq):=
 path_rq n ds d h hA hQ hC (by rw [w];exact .refl _)
theorem pcl {M:Mach} {f:FuncId} {args:List AV} {d:AV} (fn:Func) (fi:Fi) (h0:((M.P ()).funcs[f]?,fn.body,fn.name == "runtime.NumGoroutine",(⟨fn.ntmps,fn.results.toList⟩:Fi)) = (some fn,some (cd fn),false,fi)) (h:Wp M (.run fi [.code (cd fn)] (argVars 0 args) []) (PureQ d)):Ev M (.pure f args) d []:=
 pure_pq fn fi (congrArg (fun x => x.1) h0) (congrArg (fun x => x.2.1) h0) (congrArg (fun x => x.2.2.1) h0) (congrArg (fun x => x.2.2.2) h0) h
abbrev wc (M:Mach) (fi:Fi) (fn:Func) (args:List AV) (d:AV):Prop:=Wp M (.run fi [.code (cd fn)] (argVars 0 args) []) (PureQ d)
end Go.Av

namespace Go.Av
open Go.Proofs
set_option maxRecDepth 100000
def fi10:Fi:=⟨9,[.tmp 2]⟩
def kp10:List (Nat × List Nat):=[(0,[0]),(1,[2])]
def fi25:Fi:=⟨15,[.tmp 6]⟩
def kp25:List (Nat × List Nat):=[(0,[0,1,2]),(1,[6])]
def fi27:Fi:=⟨20,[.tmp 2]⟩
def kp27:List (Nat × List Nat):=[(0,[1]),(1,[2])]
def fi31:Fi:=⟨41,[.tmp 2]⟩
def kp31:List (Nat × List Nat):=[(0,[1]),(1,[1,3]),(2,[2])]
def fi32:Fi:=⟨20,[.tmp 2]⟩
def kp32:List (Nat × List Nat):=[(0,[1]),(1,[2])]
def fi40:Fi:=⟨9,[.tmp 2]⟩
def kp40:List (Nat × List Nat):=[(0,[0]),(1,[2])]
def fi50:Fi:=⟨9,[.tmp 2]⟩
def kp50:List (Nat × List Nat):=[(0,[0]),(1,[2])]
def fi88:Fi:=⟨23,[.tmp 2]⟩
def kp88:List (Nat × List Nat):=[(0,[0]),(1,[0,3,4]),(2,[0,3,4,8]),(3,[0,3,4,5]),(4,[0,3,4,5,18]),(5,[0,3,4]),(6,[0,3,4]),(7,[2])]
def kWithin_at (n u v:Int) (Q:AV -> Heap -> Prop):Prop:=Wp M1 (.run fi25 (atC (cd Tryz.f25) []) [(0,.int .i64 n),(1,.int .i64 u),(2,.int .i64 v)] []) Q
def kAccel_at (n:Int) (Q:AV -> Heap -> Prop):Prop:=Wp M1 (.run fi40 (atC (cd Tryz.f40) []) [(0,.int .i64 n)] []) Q
def kLong_at (n:Int) (Q:AV -> Heap -> Prop):Prop:=Wp M1 (.run fi50 (atC (cd Tryz.f50) []) [(0,.int .i64 n)] []) Q
def kSpeed_at (n:Int) (Q:AV -> Heap -> Prop):Prop:=Wp M1 (.run fi10 (atC (cd Tryz.f10) []) [(0,.int .i64 n)] []) Q
def kSquare_at (x y z:Int) (Q:AV -> Heap -> Prop):Prop:=Wp M1 (.run fi27 (atC (cd Tryz.f27) []) [(0,.agg [.int .i64 x,.int .i64 y,.int .i64 z])] []) Q
def kSquareR_at (x y z:Int) (Q:AV -> Heap -> Prop):Prop:=Wp M1 (.run fi32 (atC (cd Tryz.f32) []) [(0,.agg [.int .i64 x,.int .i64 y,.int .i64 z])] []) Q
def kInside_at (x y z:Int) (Q:AV -> Heap -> Prop):Prop:=Wp M1 (.run fi31 (atC (cd Tryz.f31) []) [(0,.agg [.int .i64 x,.int .i64 y,.int .i64 z])] []) Q
def kRoot_at (n:Int) (Q:AV -> Heap -> Prop):Prop:=Wp M1 (.run fi88 (atC (cd Tryz.f88) []) [(0,.int .i64 n)] []) Q
def kRootA_at (n u v:Int) (Q:AV -> Heap -> Prop):Prop:=Wp M1 (.run fi88 (atC (cd Tryz.f88) [1,1,0,0,0]) [(0,.int .i64 n),(3,.int .i64 u),(4,.int .i64 v)] []) Q
theorem call10 {args:List AV} {d:AV} (h:wc M1 fi10 Tryz.f10 args d):Ev M1 (.pure 10 args) d []:=pcl _ _ (by kernel_rfl) h
theorem call25 {args:List AV} {d:AV} (h:wc M1 fi25 Tryz.f25 args d):Ev M1 (.pure 25 args) d []:=pcl _ _ (by kernel_rfl) h
theorem call27 {args:List AV} {d:AV} (h:wc M1 fi27 Tryz.f27 args d):Ev M1 (.pure 27 args) d []:=pcl _ _ (by kernel_rfl) h
theorem call31 {args:List AV} {d:AV} (h:wc M1 fi31 Tryz.f31 args d):Ev M1 (.pure 31 args) d []:=pcl _ _ (by kernel_rfl) h
theorem call32 {args:List AV} {d:AV} (h:wc M1 fi32 Tryz.f32 args d):Ev M1 (.pure 32 args) d []:=pcl _ _ (by kernel_rfl) h
theorem call40 {args:List AV} {d:AV} (h:wc M1 fi40 Tryz.f40 args d):Ev M1 (.pure 40 args) d []:=pcl _ _ (by kernel_rfl) h
theorem call50 {args:List AV} {d:AV} (h:wc M1 fi50 Tryz.f50 args d):Ev M1 (.pure 50 args) d []:=pcl _ _ (by kernel_rfl) h
theorem call88 {args:List AV} {d:AV} (h:wc M1 fi88 Tryz.f88 args d):Ev M1 (.pure 88 args) d []:=pcl _ _ (by kernel_rfl) h
theorem kWithin (n u v:Int)  (dq:AV) (H :
  vb (bif decide (n >= u) then decide (n <= v) else false) = dq) :
 kWithin_at n u v (PureQ dq):=by
 unfold kWithin_at
 exact path_re (G:=given kp25 [] []) 1000 [] (vb (bif decide (n >= u) then decide (n <= v) else false)) (by kernel_rfl) b0 q0 c0 H
theorem kAccel (n:Int)  (dq:AV) (H :
  vb (bif decide (n >= 1) then decide (n <= 100000000) else false) = dq) :
 kAccel_at n (PureQ dq):=by
 unfold kAccel_at
 exact path_re (G:=given kp40 [] []) 1000 [] (vb (bif decide (n >= 1) then decide (n <= 100000000) else false)) (by kernel_rfl) b0 q0 c0 H
theorem kLong (n:Int)  (dq:AV) (H :
  vb (bif decide (n >= 0) then decide (n <= 100000000) else false) = dq) :
 kLong_at n (PureQ dq):=by
 unfold kLong_at
 exact path_re (G:=given kp50 [] []) 1000 [] (vb (bif decide (n >= 0) then decide (n <= 100000000) else false)) (by kernel_rfl) b0 q0 c0 H
theorem kSpeed (n:Int)  (dq:AV) (H :
  vb (bif decide (n >= 0) then decide (n <= 1000000) else false) = dq) :
 kSpeed_at n (PureQ dq):=by
 unfold kSpeed_at
 exact path_re (G:=given kp10 [] []) 1000 [] (vb (bif decide (n >= 0) then decide (n <= 1000000) else false)) (by kernel_rfl) b0 q0 c0 H
theorem kSquare (x y z:Int)  (dq:AV) (H :
  (-9223372036854775808 <= x * x /\ x * x <= 9223372036854775807) /\
  (-9223372036854775808 <= y * y /\ y * y <= 9223372036854775807) /\
  (-9223372036854775808 <= x * x + y * y /\ x * x + y * y <= 9223372036854775807) /\
  (-9223372036854775808 <= z * z /\ z * z <= 9223372036854775807) /\
  (-9223372036854775808 <= x * x + y * y + z * z /\ x * x + y * y + z * z <= 9223372036854775807) /\
  vi (x * x + y * y + z * z) = dq) :
 kSquare_at x y z (PureQ dq):=by
 unfold kSquare_at
 obtain ⟨k1,H⟩:=H
 have w2:wi (x * x) = x * x:=wI64 k1
 obtain ⟨k3,H⟩:=H
 have w4:wi (y * y) = y * y:=wI64 k3
 obtain ⟨k5,H⟩:=H
 have w6:wi (x * x + y * y) = x * x + y * y:=wI64 k5
 obtain ⟨k7,H⟩:=H
 have w8:wi (z * z) = z * z:=wI64 k7
 obtain ⟨k9,H⟩:=H
 have w10:wi (x * x + y * y + z * z) = x * x + y * y + z * z:=wI64 k9
 exact path_re (G:=given kp27 [] []) 1000 [] (vi (wi (wi (wi (x * x) + wi (y * y)) + wi (z * z)))) (by kernel_rfl) (bc rfl (bc rfl (bc rfl (bc rfl (bc rfl (bc rfl b0)))))) q0 c0 (by (try rw [w2]);(try rw [w4]);(try rw [w6]);(try rw [w8]);(try rw [w10]);all_goals exact H)
theorem kSquareR (x y z:Int)  (dq:AV) (H :
  (-9223372036854775808 <= x * x /\ x * x <= 9223372036854775807) /\
  (-9223372036854775808 <= y * y /\ y * y <= 9223372036854775807) /\
  (-9223372036854775808 <= x * x + y * y /\ x * x + y * y <= 9223372036854775807) /\
  (-9223372036854775808 <= z * z /\ z * z <= 9223372036854775807) /\
  (-9223372036854775808 <= x * x + y * y + z * z /\ x * x + y * y + z * z <= 9223372036854775807) /\
  vi (x * x + y * y + z * z) = dq) :
 kSquareR_at x y z (PureQ dq):=by
 unfold kSquareR_at
 obtain ⟨k1,H⟩:=H
 have w2:wi (x * x) = x * x:=wI64 k1
 obtain ⟨k3,H⟩:=H
 have w4:wi (y * y) = y * y:=wI64 k3
 obtain ⟨k5,H⟩:=H
 have w6:wi (x * x + y * y) = x * x + y * y:=wI64 k5
 obtain ⟨k7,H⟩:=H
 have w8:wi (z * z) = z * z:=wI64 k7
 obtain ⟨k9,H⟩:=H
 have w10:wi (x * x + y * y + z * z) = x * x + y * y + z * z:=wI64 k9
 exact path_re (G:=given kp32 [] []) 1000 [] (vi (wi (wi (wi (x * x) + wi (y * y)) + wi (z * z)))) (by kernel_rfl) (bc rfl (bc rfl (bc rfl (bc rfl (bc rfl (bc rfl b0)))))) q0 c0 (by (try rw [w2]);(try rw [w4]);(try rw [w6]);(try rw [w8]);(try rw [w10]);all_goals exact H)
theorem kInside (x y z:Int)  (dq:AV) (H :
  vb (bif bif bif bif bif decide (x >= -10000000) then decide (x <= 10000000) else false then decide (y >= -10000000) else false then decide (y <= 10000000) else false then decide (z >= -10000000) else false then decide (z <= 10000000) else false) = dq) :
 kInside_at x y z (PureQ dq):=by
 unfold kInside_at
 exact path_re (G:=given kp31 [] []) 1000 [] (asm:=[true,!(decide (x >= -10000000) == true && true) || true,!((bif decide (x >= -10000000) then decide (x <= 10000000) else false) == true && true) || true,!((bif bif decide (x >= -10000000) then decide (x <= 10000000) else false then decide (y >= -10000000) else false) == true && true) || true,!((bif bif bif decide (x >= -10000000) then decide (x <= 10000000) else false then decide (y >= -10000000) else false then decide (y <= 10000000) else false) == true && true) || true,!((bif bif bif bif decide (x >= -10000000) then decide (x <= 10000000) else false then decide (y >= -10000000) else false then decide (y <= 10000000) else false then decide (z >= -10000000) else false) == true && true) || true]) (vb (bif bif bif bif bif decide (x >= -10000000) then decide (x <= 10000000) else false then decide (y >= -10000000) else false then decide (y <= 10000000) else false then decide (z >= -10000000) else false then decide (z <= 10000000) else false)) (by kernel_rfl) (bc rfl (bc (Bool.or_true _) (bc (Bool.or_true _) (bc (Bool.or_true _) (bc (Bool.or_true _) (bc (Bool.or_true _) b0)))))) q0 c0 H
theorem kRoot (n:Int)  (dq:AV) (H :
  kRootA_at (n) (0) (3000000000) (PureQ dq)) :
 kRoot_at n (PureQ dq):=by
 unfold kRoot_at
 exact path_wp (G:=given kp88 [] []) 1000 [] ⟨(atC (cd Tryz.f88) [1,1,0,0,0]),[(0,vi n),(3,vi 0),(4,vi 3000000000)],[],_,[],_⟩ (by kernel_rfl) b0 q0 c0 (H)
theorem kRootA (n u v:Int)  (dq:AV) (H :
  ((u < v) -> (-9223372036854775808 <= u + v /\ u + v <= 9223372036854775807) /\
   (-9223372036854775808 <= u + v + 1 /\ u + v + 1 <= 9223372036854775807) /\
   (-9223372036854775808 <= (u + v + 1).tdiv 2 /\ (u + v + 1).tdiv 2 <= 9223372036854775807) /\
   (-9223372036854775808 <= (u + v + 1).tdiv 2 * (u + v + 1).tdiv 2 /\ (u + v + 1).tdiv 2 * (u + v + 1).tdiv 2 <= 9223372036854775807) /\
   (((u + v + 1).tdiv 2 * (u + v + 1).tdiv 2 <= n) -> kRootA_at (n) ((u + v + 1).tdiv 2) (v) (PureQ dq)) /\
   (¬((u + v + 1).tdiv 2 * (u + v + 1).tdiv 2 <= n) -> (-9223372036854775808 <= (u + v + 1).tdiv 2 - 1 /\ (u + v + 1).tdiv 2 - 1 <= 9223372036854775807) /\
    kRootA_at (n) (u) ((u + v + 1).tdiv 2 - 1) (PureQ dq))) /\
  (¬(u < v) -> vi u = dq)) :
 kRootA_at n u v (PureQ dq):=by
 unfold kRootA_at
 rcases xm (u < v) with d2 | d2
 ·have H:=H.1 d2
  obtain ⟨k3,H⟩:=H
  have w4:wi (u + v) = u + v:=wI64 k3
  obtain ⟨k5,H⟩:=H
  have w6:wi (u + v + 1) = u + v + 1:=wI64 k5
  obtain ⟨k7,H⟩:=H
  have w8:wi ((u + v + 1).tdiv 2) = (u + v + 1).tdiv 2:=wI64 k7
  obtain ⟨k9,H⟩:=H
  have w10:wi ((u + v + 1).tdiv 2 * (u + v + 1).tdiv 2) = (u + v + 1).tdiv 2 * (u + v + 1).tdiv 2:=wI64 k9
  have i11:(decide (wi (wi ((wi (wi (u + v) + 1)).tdiv 2) * wi ((wi (wi (u + v) + 1)).tdiv 2)) <= n)) = true ↔ ((u + v + 1).tdiv 2 * (u + v + 1).tdiv 2 <= n):=(by (try rw [w4]);(try rw [w6]);(try rw [w8]);(try rw [w10]);all_goals exact i_dec)
  rcases xm ((u + v + 1).tdiv 2 * (u + v + 1).tdiv 2 <= n) with d12 | d12
  ·have H:=H.1 d12
   exact path_wp (G:=given kp88 [] []) 1000 [true,true] ⟨(atC (cd Tryz.f88) [1,1,0,0,0]),[(0,vi n),(3,vi (wi ((wi (wi (u + v) + 1)).tdiv 2))),(4,vi v)],[],_,[],_⟩ (by kernel_rfl) (bc (beq_t (i_dec.2 d2)) (bc rfl (bc (beq_t (i11.2 d12)) b0))) q0 c0 (by (try rw [w4]);(try rw [w6]);(try rw [w8]);all_goals exact H)
  ·have H:=H.2 d12
   obtain ⟨k13,H⟩:=H
   have w14:wi ((u + v + 1).tdiv 2 - 1) = (u + v + 1).tdiv 2 - 1:=wI64 k13
   exact path_wp (G:=given kp88 [] []) 1000 [true,false] ⟨(atC (cd Tryz.f88) [1,1,0,0,0]),[(0,vi n),(3,vi u),(4,vi (wi (wi ((wi (wi (u + v) + 1)).tdiv 2) - 1)))],[],_,[],_⟩ (by kernel_rfl) (bc (beq_t (i_dec.2 d2)) (bc rfl (bc (beq_f (fun h => d12 (i11.1 h))) b0))) q0 c0 (by (try rw [w4]);(try rw [w6]);(try rw [w8]);(try rw [w14]);all_goals exact H)
 ·have H:=H.2 d2
  exact path_re (G:=given kp88 [] []) 1000 [false] (vi u) (by kernel_rfl) (bc (beq_f (fun h => d2 (i_dec.1 h))) b0) q0 c0 H
end Go.Av

namespace Go.Av
open Go.Proofs
set_option maxRecDepth 100000
def fi104:Fi:=⟨11,[.tmp 2]⟩
def kp104:List (Nat × List Nat):=[(0,[1]),(1,[1,3]),(2,[2]),(3,[6]),(4,[2]),(5,[2])]
def fi108:Fi:=⟨30,[.cell 4 34]⟩
def kp108:List (Nat × List Nat):=[(0,[0,1,4]),(1,[0,1,4,5]),(2,[0,1,4,5,17]),(3,[0,1,4,5]),(4,[4])]
def fi109:Fi:=⟨15,[.tmp 2]⟩
def kp109:List (Nat × List Nat):=[(0,[0]),(1,[2])]
def fi130:Fi:=⟨21,[.tmp 2]⟩
def kp130:List (Nat × List Nat):=[(0,[0]),(1,[0,14]),(2,[0]),(3,[2])]
def vTrim_at (fa:Bool) (a:List Int) (Q:AV -> Heap -> Prop):Prop:=Wp M1 (.run fi130 (atC (cd Tryz.f130) []) [(0,.vec fa 1 (a.map (.int .u32)))] []) Q
def vTrimA_at (fa:Bool) (a:List Int) (Q:AV -> Heap -> Prop):Prop:=Wp M1 (.run fi130 (atC (cd Tryz.f130) [1,0,0,0]) [(0,.vec fa 1 (a.map (.int .u32)))] []) Q
def vSigned_at (s fa:Bool) (a:List Int) (Q:AV -> Heap -> Prop):Prop:=Wp M1 (.run fi108 (atC (cd Tryz.f108) []) [(0,.bool s),(1,.vec fa 1 (a.map (.int .u32)))] []) Q
def vSignedA_at (s fa:Bool) (a:List Int) (n:Int) (Q:AV -> Heap -> Prop):Prop:=Wp M1 (.run fi108 (atC (cd Tryz.f108) [1,1,0,0,0]) [(0,.bool s),(1,.vec fa 1 (a.map (.int .u32))),(4,.ptr 0 0 0 0),(5,.int .i64 n)] [⟨[.agg [.bool false,.vnil]],2,0,false,false⟩]) Q
def vSigned0_at (s:Bool) (Q:AV -> Heap -> Prop):Prop:=Wp M1 (.run fi108 (atC (cd Tryz.f108) []) [(0,.bool s),(1,.vnil)] []) Q
def vSigned0A_at (s:Bool) (Q:AV -> Heap -> Prop):Prop:=Wp M1 (.run fi108 (atC (cd Tryz.f108) [1,1,0,0,0]) [(0,.bool s),(1,.vnil),(4,.ptr 0 0 0 0),(5,.int .i64 0)] [⟨[.agg [.bool false,.vnil]],2,0,false,false⟩]) Q
def vSplit_at (u:Int) (Q:AV -> Heap -> Prop):Prop:=Wp M1 (.run fi109 (atC (cd Tryz.f109) []) [(0,.int .u64 u)] []) Q
def vSign_at (fa:Bool) (v:Int) (Q:AV -> Heap -> Prop):Prop:=Wp M1 (.run fi104 (atC (cd Tryz.f104) []) [(0,bigA fa v)] []) Q
theorem call104 {args:List AV} {d:AV} (h:wc M1 fi104 Tryz.f104 args d):Ev M1 (.pure 104 args) d []:=pcl _ _ (by kernel_rfl) h
theorem call108 {args:List AV} {d:AV} (h:wc M1 fi108 Tryz.f108 args d):Ev M1 (.pure 108 args) d []:=pcl _ _ (by kernel_rfl) h
theorem call109 {args:List AV} {d:AV} (h:wc M1 fi109 Tryz.f109 args d):Ev M1 (.pure 109 args) d []:=pcl _ _ (by kernel_rfl) h
theorem call130 {args:List AV} {d:AV} (h:wc M1 fi130 Tryz.f130 args d):Ev M1 (.pure 130 args) d []:=pcl _ _ (by kernel_rfl) h
theorem vTrim (fa:Bool) (a:List Int)  (dq:AV) (H :
  vTrimA_at (fa) (a) (PureQ dq)) :
 vTrim_at fa a (PureQ dq):=by
 unfold vTrim_at
 exact path_wp (G:=given kp130 [] []) 1000 [] ⟨(atC (cd Tryz.f130) [1,0,0,0]),[(0,AV.vec fa 1 (us a))],[],_,[],_⟩ (by kernel_rfl) b0 q0 c0 (H)
theorem vTrimA (fa:Bool) (a:List Int)  (dq:AV) (H :
  (-9223372036854775808 <= (↑a.length:Int) - 1 /\ (↑a.length:Int) - 1 <= 9223372036854775807) /\
  (((↑a.length:Int) > 0) -> (0 <= (↑a.length:Int) - 1)) /\
  (((↑a.length:Int) > 0) -> (((↑a.length:Int) - 1).toNat < a.length)) /\
  ((((↑a.length:Int) > 0) /\ (a.getD ((↑a.length:Int) - 1).toNat default = 0)) -> (0 <= (↑a.length:Int) - 1) /\
   (0 <= ((↑a.length:Int) - 1).toNat) /\
   (((↑a.length:Int) - 1).toNat <= a.length) /\
   vTrimA_at (fa && false) (List.drop 0 (List.take ((↑a.length:Int) - 1).toNat a)) (PureQ dq)) /\
  (¬(((↑a.length:Int) > 0) /\ (a.getD ((↑a.length:Int) - 1).toNat default = 0)) -> Weak (AV.vec fa 1 (us a)) dq)) :
 vTrimA_at fa a (PureQ dq):=by
 unfold vTrimA_at
 have w1:(us a).length = a.length:=List.length_map ..
 obtain ⟨k2,H⟩:=H
 have w3:wi ((↑a.length:Int) - 1) = (↑a.length:Int) - 1:=wI64 k2
 have i4:(!(decide ((↑(us a).length:Int) > 0) == true && true) || decide (0 <= wi ((↑(us a).length:Int) - 1))) = true ↔ (((↑a.length:Int) > 0) -> (0 <= (↑a.length:Int) - 1)):=(by (try rw [w1]);(try rw [w3]);all_goals exact (i_imp (i_at (i_bt i_dec)) i_dec))
 obtain ⟨k5,H⟩:=H
 have i6:(!(decide ((↑(us a).length:Int) > 0) == true && true) || decide ((wi ((↑(us a).length:Int) - 1)).toNat < (us a).length)) = true ↔ (((↑a.length:Int) > 0) -> (((↑a.length:Int) - 1).toNat < a.length)):=(by (try rw [w1]);(try rw [w3]);all_goals exact (i_imp (i_at (i_bt i_dec)) i_dec))
 obtain ⟨k7,H⟩:=H
 have i9:(bif decide ((↑(us a).length:Int) > 0) then a.getD ((↑a.length:Int) - 1).toNat default == 0 else false) = true ↔ (((↑a.length:Int) > 0) /\ (a.getD ((↑a.length:Int) - 1).toNat default = 0)):=(by (try rw [w1]);all_goals exact (i_band i_dec i_eq))
 refine path_wp (G:=given kp130 [(1,9,.elem (vu (a.getD ((↑a.length:Int) - 1).toNat default)))] []) 3 [] ⟨(atC (cd Tryz.f130) [1,0,0,0,0,1]),[(0,AV.vec fa 1 (us a)),(14,vb (bif decide ((↑(us a).length:Int) > 0) then a.getD ((↑a.length:Int) - 1).toNat default == 0 else false))],[],_,[((decide ((↑(us a).length:Int) > 0) == true && true) = true -> (us a).get?Internal (wi ((↑(us a).length:Int) - 1)).toNat = some (vu (a.getD ((↑a.length:Int) - 1).toNat default)))],_⟩ (by kernel_rfl) (bc (i4.2 k5) (bc (i6.2 k7) b0)) (qc (by (try rw [w1]);(try rw [w3]);all_goals exact (fun h => el_map (k7 ((i_at (i_bt i_dec)).1 h)))) q0) c0 ?_
 rcases xm (((↑a.length:Int) > 0) /\ (a.getD ((↑a.length:Int) - 1).toNat default = 0)) with d10 | d10
 ·have H:=H.1 d10
  have i11:(decide (0 <= wi ((↑(us a).length:Int) - 1))) = true ↔ (0 <= (↑a.length:Int) - 1):=(by (try rw [w1]);(try rw [w3]);all_goals exact i_dec)
  obtain ⟨k12,H⟩:=H
  have i13:(decide (0 <= (wi ((↑(us a).length:Int) - 1)).toNat)) = true ↔ (0 <= ((↑a.length:Int) - 1).toNat):=(by (try rw [w1]);(try rw [w3]);all_goals exact i_dec)
  obtain ⟨k14,H⟩:=H
  have i15:(decide ((wi ((↑(us a).length:Int) - 1)).toNat <= (us a).length)) = true ↔ (((↑a.length:Int) - 1).toNat <= a.length):=(by (try rw [w1]);(try rw [w3]);all_goals exact i_dec)
  obtain ⟨k16,H⟩:=H
  have w17:List.take ((↑a.length:Int) - 1).toNat (us a) = us (List.take ((↑a.length:Int) - 1).toNat a):=(lm_take rfl)
  have w18:List.drop 0 (us (List.take ((↑a.length:Int) - 1).toNat a)) = us (List.drop 0 (List.take ((↑a.length:Int) - 1).toNat a)):=(lm_drop rfl)
  exact path_wp (G:=given kp130 [] []) 1000 [true] ⟨(atC (cd Tryz.f130) [1,0,0,0]),[(0,AV.vec (fa && false) 1 (List.drop 0 (List.take (wi ((↑(us a).length:Int) - 1)).toNat (us a))))],[],_,[],_⟩ (by kernel_rfl) (bc (beq_t (i9.2 d10)) (bc (i11.2 k12) (bc (i13.2 k14) (bc (i15.2 k16) b0)))) q0 c0 (by (try rw [w1]);(try rw [w3]);(try rw [w17]);(try rw [w18]);all_goals exact H)
 ·have H:=H.2 d10
  exact path_rq (G:=given kp130 [] []) 1000 [false] (AV.vec fa 1 (us a)) (by kernel_rfl) (bc (beq_f (fun h => d10 (i9.1 h))) b0) q0 c0 H
theorem vSigned (s fa:Bool) (a:List Int)  (dq:AV) (H :
  vSignedA_at (s) (fa) (a) ((↑a.length:Int)) (PureQ dq)) :
 vSigned_at s fa a (PureQ dq):=by
 unfold vSigned_at
 have w1:(us a).length = a.length:=List.length_map ..
 exact path_wp (G:=given kp108 [] []) 1000 [] ⟨(atC (cd Tryz.f108) [1,1,0,0,0]),[(0,vb s),(1,AV.vec fa 1 (us a)),(4,AV.ptr 0 0 0 0),(5,vi (↑(us a).length:Int))],[⟨[ag [vb false,AV.vnil]],2,0,false,false⟩],_,[],_⟩ (by kernel_rfl) b0 q0 c0 (by (try rw [w1]);all_goals exact H)
theorem vSignedA (s fa:Bool) (a:List Int) (n:Int)  (dq:AV) (H :
  (-9223372036854775808 <= n - 1 /\ n - 1 <= 9223372036854775807) /\
  ((n > 0) -> (0 <= n - 1)) /\
  ((n > 0) -> ((n - 1).toNat < a.length)) /\
  (((n > 0) /\ (a.getD (n - 1).toNat default = 0)) -> vSignedA_at (s) (fa) (a) (n - 1) (PureQ dq)) /\
  (¬((n > 0) /\ (a.getD (n - 1).toNat default = 0)) -> (0 <= n) /\
   (0 <= n.toNat) /\
   (n.toNat <= a.length) /\
   (n = (↑n.toNat:Int)) /\
   Weak (ag [vb (bif s then decide (n > 0) else false),AV.vec true 1 (us (List.drop 0 (List.take n.toNat a)))]) dq)) :
 vSignedA_at s fa a n (PureQ dq):=by
 unfold vSignedA_at
 obtain ⟨k1,H⟩:=H
 have w2:wi (n - 1) = n - 1:=wI64 k1
 have i3:(!(decide (n > 0) == true && true) || decide (0 <= wi (n - 1))) = true ↔ ((n > 0) -> (0 <= n - 1)):=(by (try rw [w2]);all_goals exact (i_imp (i_at (i_bt i_dec)) i_dec))
 obtain ⟨k4,H⟩:=H
 have w5:(us a).length = a.length:=List.length_map ..
 have i6:(!(decide (n > 0) == true && true) || decide ((wi (n - 1)).toNat < (us a).length)) = true ↔ ((n > 0) -> ((n - 1).toNat < a.length)):=(by (try rw [w2]);(try rw [w5]);all_goals exact (i_imp (i_at (i_bt i_dec)) i_dec))
 obtain ⟨k7,H⟩:=H
 refine path_wp (G:=given kp108 [(2,7,.elem (vu (a.getD (n - 1).toNat default)))] []) 3 [] ⟨(atC (cd Tryz.f108) [1,1,0,0,0,0,1]),[(0,vb s),(1,AV.vec fa 1 (us a)),(4,AV.ptr 0 0 0 0),(5,vi n),(17,vb (bif decide (n > 0) then a.getD (n - 1).toNat default == 0 else false))],[⟨[ag [vb false,AV.vnil]],2,0,false,false⟩],_,[((decide (n > 0) == true && true) = true -> (us a).get?Internal (wi (n - 1)).toNat = some (vu (a.getD (n - 1).toNat default)))],_⟩ (by kernel_rfl) (bc (i3.2 k4) (bc (i6.2 k7) b0)) (qc (by (try rw [w2]);all_goals exact (fun h => el_map (k7 ((i_at (i_bt i_dec)).1 h)))) q0) c0 ?_
 rcases xm ((n > 0) /\ (a.getD (n - 1).toNat default = 0)) with d10 | d10
 ·have H:=H.1 d10
  exact path_wp (G:=given kp108 [] []) 1000 [true] ⟨(atC (cd Tryz.f108) [1,1,0,0,0]),[(0,vb s),(1,AV.vec fa 1 (us a)),(4,AV.ptr 0 0 0 0),(5,vi (wi (n - 1)))],[⟨[ag [vb false,AV.vnil]],2,0,false,false⟩],_,[],_⟩ (by kernel_rfl) (bc (beq_t ((i_band i_dec i_eq).2 d10)) b0) q0 c0 (by (try rw [w2]);all_goals exact H)
 ·have H:=H.2 d10
  obtain ⟨k12,H⟩:=H
  obtain ⟨k14,H⟩:=H
  have i15:(decide (n.toNat <= (us a).length)) = true ↔ (n.toNat <= a.length):=(by (try rw [w5]);all_goals exact i_dec)
  obtain ⟨k16,H⟩:=H
  obtain ⟨k18,H⟩:=H
  have w19:List.take n.toNat (us a) = us (List.take n.toNat a):=(lm_take rfl)
  have w20:List.drop 0 (us (List.take n.toNat a)) = us (List.drop 0 (List.take n.toNat a)):=(lm_drop rfl)
  exact path_rq (G:=given kp108 [] []) 1000 [false] (ag [vb (bif s then decide (n > 0) else false),AV.vec true 1 (List.drop 0 (List.take n.toNat (us a)))]) (by kernel_rfl) (bc (beq_f (fun h => d10 ((i_band i_dec i_eq).1 h))) (bc (i_dec.2 k12) (bc (i_dec.2 k14) (bc (i15.2 k16) (bc (i_eq.2 k18) (bc rfl (bc rfl b0))))))) q0 c0 (by (try rw [w19]);(try rw [w20]);all_goals exact H)
theorem vSigned0 (s:Bool)  (dq:AV) (H :
  vSigned0A_at (s) (PureQ dq)) :
 vSigned0_at s (PureQ dq):=by
 unfold vSigned0_at
 exact path_wp (G:=given kp108 [] []) 1000 [] ⟨(atC (cd Tryz.f108) [1,1,0,0,0]),[(0,vb s),(1,AV.vnil),(4,AV.ptr 0 0 0 0),(5,vi 0)],[⟨[ag [vb false,AV.vnil]],2,0,false,false⟩],_,[],_⟩ (by kernel_rfl) b0 q0 c0 (H)
theorem vSigned0A (s:Bool)  (dq:AV) (H :
  Weak (ag [vb (bif s then false else false),AV.vnil]) dq) :
 vSigned0A_at s (PureQ dq):=by
 unfold vSigned0A_at
 exact path_rq (G:=given kp108 [] []) 1000 [false] (ag [vb (bif s then false else false),AV.vnil]) (by kernel_rfl) (bc rfl (bc rfl (bc rfl (bc rfl (bc rfl (bc rfl (bc rfl (bc rfl b0)))))))) q0 c0 H
theorem vSplit (u:Int)  (dq:AV) (H :
  (0 <= u.tmod 1000000000 /\ u.tmod 1000000000 <= 4294967295) /\
  (0 <= u.tdiv 1000000000 /\ u.tdiv 1000000000 <= 18446744073709551615) /\
  (0 <= (u.tdiv 1000000000).tmod 1000000000 /\ (u.tdiv 1000000000).tmod 1000000000 <= 4294967295) /\
  (0 <= (u.tdiv 1000000000).tdiv 1000000000 /\ (u.tdiv 1000000000).tdiv 1000000000 <= 18446744073709551615) /\
  (0 <= (u.tdiv 1000000000).tdiv 1000000000 /\ (u.tdiv 1000000000).tdiv 1000000000 <= 4294967295) /\
  Weak (AV.vec true 1 [vu (u.tmod 1000000000),vu ((u.tdiv 1000000000).tmod 1000000000),vu ((u.tdiv 1000000000).tdiv 1000000000)]) dq) :
 vSplit_at u (PureQ dq):=by
 unfold vSplit_at
 obtain ⟨k1,H⟩:=H
 have w2:wv (u.tmod 1000000000) = u.tmod 1000000000:=wU32 k1
 obtain ⟨k3,H⟩:=H
 have w4:wu (u.tdiv 1000000000) = u.tdiv 1000000000:=wU64 k3
 obtain ⟨k5,H⟩:=H
 have w6:wv ((u.tdiv 1000000000).tmod 1000000000) = (u.tdiv 1000000000).tmod 1000000000:=wU32 k5
 obtain ⟨k7,H⟩:=H
 have w8:wu ((u.tdiv 1000000000).tdiv 1000000000) = (u.tdiv 1000000000).tdiv 1000000000:=wU64 k7
 obtain ⟨k9,H⟩:=H
 have w10:wv ((u.tdiv 1000000000).tdiv 1000000000) = (u.tdiv 1000000000).tdiv 1000000000:=wU32 k9
 exact path_rq (G:=given kp109 [] []) 1000 [] (AV.vec true 1 [vu (wv (u.tmod 1000000000)),vu (wv ((wu (u.tdiv 1000000000)).tmod 1000000000)),vu (wv (wu ((wu (u.tdiv 1000000000)).tdiv 1000000000)))]) (by kernel_rfl) (bc rfl (bc rfl (bc rfl (bc rfl (bc rfl b0))))) q0 c0 (by (try rw [w2]);(try rw [w4]);(try rw [w6]);(try rw [w8]);(try rw [w10]);all_goals exact H)
theorem vSign (fa:Bool) (v:Int)  (dq:AV) (H :
  ((Sp.isNeg v = true) -> vi (-1) = dq) /\
  (¬(Sp.isNeg v = true) -> (((↑(Sp.limI v).length:Int) > 0) -> vi 1 = dq) /\
   (¬((↑(Sp.limI v).length:Int) > 0) -> vi 0 = dq))) :
 vSign_at fa v (PureQ dq):=by
 unfold vSign_at
 rcases xm (Sp.isNeg v = true) with d2 | d2
 ·have H:=H.1 d2
  exact path_re (G:=given kp104 [] []) 1000 [true] (asm:=[true,(Sp.isNeg v) == true]) (vi (-1)) (by kernel_rfl) (bc rfl (bc (beq_t ((i_var _).2 d2)) b0)) q0 c0 H
 ·have H:=H.2 d2
  have w3:(us (Sp.limI v)).length = (Sp.limI v).length:=List.length_map ..
  have i4:(decide ((↑(us (Sp.limI v)).length:Int) > 0)) = true ↔ ((↑(Sp.limI v).length:Int) > 0):=(by (try rw [w3]);all_goals exact i_dec)
  rcases xm ((↑(Sp.limI v).length:Int) > 0) with d5 | d5
  ·have H:=H.1 d5
   exact path_re (G:=given kp104 [] []) 1000 [false,true] (asm:=[true,(Sp.isNeg v) == false,true,(decide ((↑(us (Sp.limI v)).length:Int) > 0)) == true]) (vi 1) (by kernel_rfl) (bc rfl (bc (beq_f (fun h => d2 ((i_var _).1 h))) (bc rfl (bc (beq_t (i4.2 d5)) b0)))) q0 c0 H
  ·have H:=H.2 d5
   exact path_re (G:=given kp104 [] []) 1000 [false,false] (asm:=[true,(Sp.isNeg v) == false,true,(decide ((↑(us (Sp.limI v)).length:Int) > 0)) == false]) (vi 0) (by kernel_rfl) (bc rfl (bc (beq_f (fun h => d2 ((i_var _).1 h))) (bc rfl (bc (beq_f (fun h => d5 (i4.1 h))) b0)))) q0 c0 H
end Go.Av

namespace Go.Av
open Go.Proofs
namespace Sp
def sg (s:Bool) (v:Nat):Int:=if s = true then -(v:Int) else v
def sgnI (v:Int):Int:=if v < 0 then -1 else if v > 0 then 1 else 0
def short (k:Nat):Prop:=k <= 1000000
def ok (v:Int):Prop:=cnt v.natAbs <= 1000000
end Sp
theorem weak_vec (f:Bool) (es:Nat) (xs:List AV):Weak (.vec f es xs) (.vec false es xs):=by
 cases f with
 | true => exact .full es xs
 | false => exact .refl _
theorem weak_big (b f:Bool) (xs:List AV):Weak (.agg [.bool b,.vec f 1 xs]) (.agg [.bool b,.vec false 1 xs]):=by
 refine .agg _ _ rfl fun i x y hx hy => ?_
 match i with
 | 0 => simp at hx hy;subst hx;subst hy;exact .refl _
 | 1 => simp at hx hy;subst hx;subst hy;exact weak_vec _ _ _
 | i + 2 => simp at hx
theorem limI_len (v:Int):(Sp.limI v).length = Sp.cnt v.natAbs:=lim_len _
theorem isNeg_iff {v:Int}:Sp.isNeg v = true ↔ v < 0:=decide_eq_true_iff
theorem sg_limI (s:Bool) (v:Nat):Sp.limI (Sp.sg s v) = Sp.lim v:=by
 unfold Sp.limI Sp.sg
 cases s <;> simp
theorem sg_neg (s:Bool) (v:Nat):Sp.isNeg (Sp.sg s v) = (bif s then decide (v ≠ 0) else false):=by
 unfold Sp.isNeg Sp.sg
 cases s with
 | true =>
  rw [if_pos rfl,cond_true,decide_eq_decide];omega
 | false =>
  rw [if_neg (by simp),cond_false];simp
theorem big_sg (f s:Bool) (v:Nat):bigA f (Sp.sg s v) = .agg [.bool (bif s then decide (v ≠ 0) else false),.vec f 1 ((Sp.lim v).map (.int .u32))]:=by
 show AV.agg [.bool (Sp.isNeg (Sp.sg s v)),.vec f 1 ((Sp.limI (Sp.sg s v)).map (.int .u32))] = _
 rw [sg_limI,sg_neg]
theorem limN_top {k v:Nat} (h:Sp.fits (k + 1) v):(Sp.limN (k + 1) v).getD k default = 0 ↔ Sp.fits k v:=by
 rw [limN_getD v (by omega),fits_top0]
 have:=fits_top h
 generalize v / 1000000000 ^ k = t at this
 omega
theorem loopTrim:∀ (k:Nat) (fa:Bool) (v:Nat),k <= 1000000 -> Sp.fits k v -> vTrimA_at fa (Sp.limN k v) (PureQ (usA false (Sp.lim v)))
 | 0,fa,v,hk,hf => by
  have h0:=fits_zero.1 hf
  subst h0
  rw [lim_zero]
  have hl:=limN_len 0 0
  exact vTrimA _ _ _ ⟨by omega,fun h => by omega,fun h => by omega,fun h => by omega,fun _ => weak_vec _ _ _⟩
 | k + 1,fa,v,hk,hf => by
  have hl:=limN_len (k + 1) v
  have e1:(((Sp.limN (k + 1) v).length:Int) - 1).toNat = k:=by omega
  refine vTrimA _ _ _ ⟨by omega,fun _ => by omega,fun _ => by omega,fun h => ?_,fun h => ?_⟩
  ·rw [e1] at h ⊢
   have h2:=(limN_top hf).1 h.2
   refine ⟨by omega,by omega,by omega,?_⟩
   rw [List.drop_zero,limN_take]
   exact loopTrim k _ v (by omega) h2
  ·rw [e1] at h
   have h2:¬Sp.fits k v:=fun x => h ⟨by omega,(limN_top hf).2 x⟩
   rw [lim_of hf (.inr (by simpa using h2))]
   exact weak_vec _ _ _
theorem trimN (fa:Bool) (k v:Nat) (h:Sp.short k /\ Sp.fits k v):Ev M1 (.pure 130 [usA fa (Sp.limN k v)]) (usA false (Sp.lim v)) []:=
 call130 (vTrim _ _ _ (loopTrim k fa v h.1 h.2))
theorem loopSigned (s fa:Bool) (k v:Nat) (hk:k <= 1000000):∀ (n:Nat),n <= k -> Sp.fits n v -> vSignedA_at s fa (Sp.limN k v) n (PureQ (bigA false (Sp.sg s v)))
 | 0,hn,hf => by
  have h0:=fits_zero.1 hf
  subst h0
  refine vSignedA _ _ _ _ _ ⟨by omega,fun h => by omega,fun h => by omega,fun h => by omega,fun _ => ⟨by omega,by omega,by omega,by omega,?_⟩⟩
  rw [big_sg,lim_zero]
  have e:(bif s then decide ((0:Int) > 0) else false) = (bif s then decide (0 ≠ 0) else false):=by cases s <;> simp
  rw [show ((0:Nat):Int) = 0 from rfl,e]
  exact weak_big _ _ _
 | n + 1,hn,hf => by
  have hl:=limN_len k v
  have e1:(((n + 1:Nat):Int) - 1).toNat = n:=by omega
  have e2:((n + 1:Nat):Int) - 1 = (n:Nat):=by omega
  have top:(Sp.limN k v).getD n default = 0 ↔ Sp.fits n v:=by
   rw [limN_getD v (by omega),fits_top0]
   have:=fits_top hf
   generalize v / 1000000000 ^ n = t at this
   omega
  refine vSignedA _ _ _ _ _ ⟨by omega,fun _ => by omega,fun _ => by omega,fun h => ?_,fun h => ?_⟩
  ·rw [e1] at h
   rw [e2]
   exact loopSigned s fa k v hk n (by omega) (top.1 h.2)
  ·rw [e1] at h
   have h2:¬Sp.fits n v:=fun x => h ⟨by omega,top.2 x⟩
   have hv:v ≠ 0:=by rintro rfl;exact h2 (fits_cnt.2 (by rw [cnt_zero];omega))
   refine ⟨by omega,by omega,by omega,by omega,?_⟩
   have hc:Sp.cnt v = n + 1:=by
    have a:=fits_cnt.1 hf
    have b:¬Sp.cnt v <= n:=fun x => h2 (fits_cnt.2 x)
    omega
   rw [big_sg,Int.toNat_natCast,List.drop_zero,<- hc,lim_limN (fits_mono hf hn),hc]
   have e:(bif s then decide (((n + 1:Nat):Int) > 0) else false) = (bif s then decide (v ≠ 0) else false):=by
    have:((n + 1:Nat):Int) > 0:=by omega
    cases s <;> simp [hv]
   rw [e]
   exact weak_big _ _ _
theorem signedN (s fa:Bool) (k v:Nat) (h:Sp.short k /\ Sp.fits k v):Ev M1 (.pure 108 [.bool s,usA fa (Sp.limN k v)]) (bigA false (Sp.sg s v)) []:=by
 refine call108 (vSigned _ _ _ _ ?_)
 rw [limN_len]
 exact loopSigned s fa k v h.1 k (Nat.le_refl _) h.2
theorem ev108 (s fa:Bool) (k v:Nat) (h:Sp.short k /\ Sp.fits k v):Ev M1 (.pure 108 [.bool s,usA fa (Sp.limN k v)]) (bigA false (Sp.sg s v)) []:=signedN s fa k v h
theorem ev108_a (s fa:Bool) (v:Int) (h:Sp.ok v):Ev M1 (.pure 108 [.bool s,usA fa (Sp.limI v)]) (bigA false (Sp.sg s v.natAbs)) []:=signedN s fa _ _ ⟨h,fits_self _⟩
theorem ev109 (u:Int) (h:0 <= u /\ u <= 18446744073709551615):Ev M1 (.pure 109 [.int .u64 u]) (usA false (Sp.limN 3 u.toNat)) []:=by
 have e1:u.tmod 1000000000 = u % 1000000000:=Int.tmod_eq_emod_of_nonneg h.1
 have e2:u.tdiv 1000000000 = u / 1000000000:=Int.tdiv_eq_ediv_of_nonneg h.1
 have e3:(u / 1000000000).tmod 1000000000 = (u / 1000000000) % 1000000000:=Int.tmod_eq_emod_of_nonneg (by omega)
 have e4:(u / 1000000000).tdiv 1000000000 = (u / 1000000000) / 1000000000:=Int.tdiv_eq_ediv_of_nonneg (by omega)
 refine call109 (vSplit u _ ?_)
 rw [e1,e2,e3,e4]
 refine ⟨by omega,by omega,by omega,by omega,by omega,?_⟩
 have e:[AV.int .u32 (u % 1000000000),AV.int .u32 (u / 1000000000 % 1000000000),AV.int .u32 (u / 1000000000 / 1000000000)] = (Sp.limN 3 u.toNat).map (.int .u32):=by
  simp only [Sp.limN,List.map_cons,List.map_nil]
  have a1:((u.toNat % 1000000000:Nat):Int) = u % 1000000000:=by omega
  have a2:((u.toNat / 1000000000 % 1000000000:Nat):Int) = u / 1000000000 % 1000000000:=by omega
  have a3:((u.toNat / 1000000000 / 1000000000 % 1000000000:Nat):Int) = u / 1000000000 / 1000000000:=by omega
  rw [a1,a2,a3]
 rw [e]
 exact weak_vec _ _ _
theorem ev104 (fa:Bool) (v:Int):Ev M1 (.pure 104 [bigA fa v]) (.int .i64 (Sp.sgnI v)) []:=by
 have hl:=limI_len v
 refine call104 (vSign fa v _ ⟨fun h => ?_,fun h => ⟨fun k => ?_,fun k => ?_⟩⟩)
 ·rw [isNeg_iff] at h
  rw [Sp.sgnI,if_pos h]
 ·rw [isNeg_iff] at h
  have:v.natAbs ≠ 0:=fun e => by rw [hl,e,cnt_zero] at k;omega
  rw [Sp.sgnI,if_neg h,if_pos (by omega)]
 ·rw [isNeg_iff] at h
  have:v.natAbs = 0:=cnt_eq_zero.1 (by omega)
  rw [Sp.sgnI,if_neg h,if_neg (by omega)]
end Go.Av

namespace Go.Av
open Go.Proofs
set_option maxRecDepth 100000
def fi112:Fi:=⟨68,[.tmp 4]⟩
def kp112:List (Nat × List Nat):=[(0,[0,1]),(1,[0,1,5]),(2,[1,5,18,19,20]),(3,[1,5,18,19,20,21]),(4,[1,5,6,7,18,19,20]),(5,[1,5,6,7,8,18,19,20]),(6,[1,5,6,7,8,18,19,20,25,26,27]),(7,[1,5,6,7,8,18,19,20,25,26,27,28]),(8,[1,5,6,7,8,9,10,18,19,20,25,26,27]),(9,[1,5,6,7,9,11,18,19,20,25,26,27]),(10,[1,5,6,7,8,18,19,20,25,26,27]),(11,[1,5,6,7,8,18,19,20,25,26,27]),(12,[1,5,18,19,20]),(13,[1,5,18,19,20]),(14,[4])]
def vTimes_at (fa fb:Bool) (a b:List Int) (Q:AV -> Heap -> Prop):Prop:=Wp M1 (.run fi112 (atC (cd Tryz.f112) []) [(0,.vec fa 1 (a.map (.int .u32))),(1,.vec fb 1 (b.map (.int .u32)))] []) Q
def vTimesA_at (fb fx:Bool) (b x o:List Int) (n i:Int) (Q:AV -> Heap -> Prop):Prop:=Wp M1 (.run fi112 (atC (cd Tryz.f112) [1,1,0,1,0,0]) [(1,.vec fb 1 (b.map (.int .u32))),(5,.row 0 0),(18,.vec fx 1 (x.map (.int .u32))),(19,.int .i64 n),(20,.int .i64 i)] [⟨o.map (.int .u32),1,0,false,true⟩]) Q
def vTimesB_at (fb fx fy:Bool) (b x y o:List Int) (i0 x0 c n i m k:Int) (Q:AV -> Heap -> Prop):Prop:=Wp M1 (.run fi112 (atC (cd Tryz.f112) [1,1,0,1,0,0,1,1,0,0,1,1,0,1,0,0]) [(1,.vec fb 1 (b.map (.int .u32))),(5,.row 0 0),(6,.int .i64 i0),(7,.int .u32 x0),(8,.int .u64 c),(18,.vec fx 1 (x.map (.int .u32))),(19,.int .i64 n),(20,.int .i64 i),(25,.vec fy 1 (y.map (.int .u32))),(26,.int .i64 m),(27,.int .i64 k)] [⟨o.map (.int .u32),1,0,false,true⟩]) Q
theorem call112 {args:List AV} {d:AV} (h:wc M1 fi112 Tryz.f112 args d):Ev M1 (.pure 112 args) d []:=pcl _ _ (by kernel_rfl) h
theorem owncall112 {args:List AV} {L:Heap} {Q:AV -> Heap -> Prop} (h:Wp M1 (.run fi112 [.code (cd Tryz.f112)] (argVars 0 args) L) Q):Wp M1 (.own 112 args L) Q:=
 own_wp Tryz.f112 fi112 (by kernel_rfl) (by kernel_rfl) (by kernel_rfl) (by kernel_rfl) h
theorem vTimes (fa fb:Bool) (a b:List Int)  (Q:AV -> Heap -> Prop) (H :
  (-9223372036854775808 <= (↑a.length:Int) + (↑b.length:Int) /\ (↑a.length:Int) + (↑b.length:Int) <= 9223372036854775807) /\
  (0 <= (↑a.length:Int) + (↑b.length:Int)) /\
  (((↑a.length:Int) + (↑b.length:Int)) * 4 <= 1099511627776) /\
  ((↑a.length:Int) + (↑b.length:Int) <= 1099511627776) /\
  vTimesA_at (fb) (fa) (b) (a) (List.replicate ((↑a.length:Int) + (↑b.length:Int)).toNat (0:Int)) ((↑a.length:Int)) (0) Q) :
 vTimes_at fa fb a b Q:=by
 unfold vTimes_at
 have w1:(us a).length = a.length:=List.length_map ..
 have w2:(us b).length = b.length:=List.length_map ..
 obtain ⟨k3,H⟩:=H
 have w4:wi ((↑a.length:Int) + (↑b.length:Int)) = (↑a.length:Int) + (↑b.length:Int):=wI64 k3
 have i5:(decide (0 <= wi ((↑(us a).length:Int) + (↑(us b).length:Int)))) = true ↔ (0 <= (↑a.length:Int) + (↑b.length:Int)):=(by (try rw [w1]);(try rw [w2]);(try rw [w4]);all_goals exact i_dec)
 obtain ⟨k6,H⟩:=H
 have i7:(decide (wi ((↑(us a).length:Int) + (↑(us b).length:Int)) <= wi ((↑(us a).length:Int) + (↑(us b).length:Int)))) = true ↔ ((↑a.length:Int) + (↑b.length:Int) <= (↑a.length:Int) + (↑b.length:Int)):=(by (try rw [w1]);(try rw [w2]);(try rw [w4]);all_goals exact i_dec)
 have i8:(decide (wi ((↑(us a).length:Int) + (↑(us b).length:Int)) * 4 <= 1099511627776)) = true ↔ (((↑a.length:Int) + (↑b.length:Int)) * 4 <= 1099511627776):=(by (try rw [w1]);(try rw [w2]);(try rw [w4]);all_goals exact i_dec)
 obtain ⟨k9,H⟩:=H
 have i10:(decide (wi ((↑(us a).length:Int) + (↑(us b).length:Int)) <= 1099511627776)) = true ↔ ((↑a.length:Int) + (↑b.length:Int) <= 1099511627776):=(by (try rw [w1]);(try rw [w2]);(try rw [w4]);all_goals exact i_dec)
 obtain ⟨k11,H⟩:=H
 have w12:List.replicate ((↑a.length:Int) + (↑b.length:Int)).toNat (vu 0) = us (List.replicate ((↑a.length:Int) + (↑b.length:Int)).toNat (0:Int)):=(lm_rep rfl)
 exact path_wp (G:=given kp112 [] []) 1000 [] ⟨(atC (cd Tryz.f112) [1,1,0,1,0,0]),[(1,AV.vec fb 1 (us b)),(5,AV.row 0 0),(18,AV.vec fa 1 (us a)),(19,vi (↑(us a).length:Int)),(20,vi 0)],[⟨List.replicate (wi ((↑(us a).length:Int) + (↑(us b).length:Int))).toNat (vu 0),1,0,false,true⟩],[decide (0 <= wi ((↑(us a).length:Int) + (↑(us b).length:Int))),decide (wi ((↑(us a).length:Int) + (↑(us b).length:Int)) <= wi ((↑(us a).length:Int) + (↑(us b).length:Int))),decide (wi ((↑(us a).length:Int) + (↑(us b).length:Int)) * 4 <= 1099511627776),decide (wi ((↑(us a).length:Int) + (↑(us b).length:Int)) <= 1099511627776)],[],_⟩ (by kernel_rfl) (bc (i5.2 k6) (bc (i7.2 (by omega)) (bc (i8.2 k9) (bc (i10.2 k11) b0)))) q0 c0 (by (try rw [w1]);(try rw [w2]);(try rw [w4]);(try rw [w12]);all_goals exact H)
theorem vTimesA (fb fx:Bool) (b x o:List Int) (n i:Int)  (Q:AV -> Heap -> Prop) (H :
  ((i < n) -> (0 <= i) /\
   (i.toNat < x.length) /\
   vTimesB_at (fb) (fx) (fb) (b) (x) (b) (o) (i) (x.getD i.toNat default) (0) (n) (i) ((↑b.length:Int)) (0) Q) /\
  (¬(i < n) -> Q (AV.row 0 0) [{ elems:=us o,es:=1,ver:=0,frozen:=false,clean:=true }])) :
 vTimesA_at fb fx b x o n i Q:=by
 unfold vTimesA_at
 rcases xm (i < n) with d2 | d2
 ·have H:=H.1 d2
  obtain ⟨k4,H⟩:=H
  have w5:(us x).length = x.length:=List.length_map ..
  have i6:(decide (i.toNat < (us x).length)) = true ↔ (i.toNat < x.length):=(by (try rw [w5]);all_goals exact i_dec)
  obtain ⟨k7,H⟩:=H
  have w8:(us b).length = b.length:=List.length_map ..
  exact path_wp (G:=given kp112 [(4,2,.elem (vu (x.getD i.toNat default)))] []) 1000 [true] ⟨(atC (cd Tryz.f112) [1,1,0,1,0,0,1,1,0,0,1,1,0,1,0,0]),[(1,AV.vec fb 1 (us b)),(5,AV.row 0 0),(6,vi i),(7,vu (x.getD i.toNat default)),(8,vw 0),(18,AV.vec fx 1 (us x)),(19,vi n),(20,vi i),(25,AV.vec fb 1 (us b)),(26,vi (↑(us b).length:Int)),(27,vi 0)],[⟨us o,1,0,false,true⟩],_,[((us x).get?Internal i.toNat = some (vu (x.getD i.toNat default)))],_⟩ (by kernel_rfl) (bc (beq_t (i_dec.2 d2)) (bc (i_dec.2 k4) (bc (i6.2 k7) b0))) (qc (el_map k7) q0) c0 (by (try rw [w8]);all_goals exact H)
 ·have H:=H.2 d2
  exact path_ret (G:=given kp112 [] []) 1000 [false] (k:=((atC (cd Tryz.f112) [1,1,1,1])).tail) (env':=[(4,AV.row 0 0)]) (L':=[⟨us o,1,0,false,true⟩]) (asm:=[(decide (i < n)) == false]) (eqs:=[]) (calls:=[]) (AV.row 0 0) (by kernel_rfl) (by kernel_rfl) (allB_cons (beq_f (fun h => d2 (i_dec.1 h))) allB_nil) allP_nil allC_nil H
theorem vTimesB (fb fx fy:Bool) (b x y o:List Int) (i0 x0 c n i m k:Int)  (Q:AV -> Heap -> Prop) (H :
  ((k < m) -> (0 <= k) /\
   (k.toNat < y.length) /\
   (-9223372036854775808 <= i0 + k /\ i0 + k <= 9223372036854775807) /\
   (0 <= i0 + k) /\
   ((i0 + k).toNat < o.length) /\
   (0 <= o.getD (i0 + k).toNat default /\ o.getD (i0 + k).toNat default <= 18446744073709551615) /\
   (0 <= x0 /\ x0 <= 18446744073709551615) /\
   (0 <= y.getD k.toNat default /\ y.getD k.toNat default <= 18446744073709551615) /\
   (0 <= x0 * y.getD k.toNat default /\ x0 * y.getD k.toNat default <= 18446744073709551615) /\
   (0 <= o.getD (i0 + k).toNat default + x0 * y.getD k.toNat default /\ o.getD (i0 + k).toNat default + x0 * y.getD k.toNat default <= 18446744073709551615) /\
   (0 <= o.getD (i0 + k).toNat default + x0 * y.getD k.toNat default + c /\ o.getD (i0 + k).toNat default + x0 * y.getD k.toNat default + c <= 18446744073709551615) /\
   (0 <= (o.getD (i0 + k).toNat default + x0 * y.getD k.toNat default + c).tdiv 1000000000 /\ (o.getD (i0 + k).toNat default + x0 * y.getD k.toNat default + c).tdiv 1000000000 <= 18446744073709551615) /\
   (0 <= (o.getD (i0 + k).toNat default + x0 * y.getD k.toNat default + c).tmod 1000000000 /\ (o.getD (i0 + k).toNat default + x0 * y.getD k.toNat default + c).tmod 1000000000 <= 4294967295) /\
   (-9223372036854775808 <= k + 1 /\ k + 1 <= 9223372036854775807) /\
   vTimesB_at (fb) (fx) (fy) (b) (x) (y) (o.set (i0 + k).toNat ((o.getD (i0 + k).toNat default + x0 * y.getD k.toNat default + c).tmod 1000000000)) (i0) (x0) ((o.getD (i0 + k).toNat default + x0 * y.getD k.toNat default + c).tdiv 1000000000) (n) (i) (m) (k + 1) Q) /\
  (¬(k < m) -> (-9223372036854775808 <= i0 + (↑b.length:Int) /\ i0 + (↑b.length:Int) <= 9223372036854775807) /\
   (0 <= i0 + (↑b.length:Int)) /\
   ((i0 + (↑b.length:Int)).toNat < o.length) /\
   (0 <= c /\ c <= 4294967295) /\
   (-9223372036854775808 <= i + 1 /\ i + 1 <= 9223372036854775807) /\
   vTimesA_at (fb) (fx) (b) (x) (o.set (i0 + (↑b.length:Int)).toNat c) (n) (i + 1) Q)) :
 vTimesB_at fb fx fy b x y o i0 x0 c n i m k Q:=by
 unfold vTimesB_at
 rcases xm (k < m) with d2 | d2
 ·have H:=H.1 d2
  obtain ⟨k4,H⟩:=H
  have w5:(us y).length = y.length:=List.length_map ..
  have i6:(decide (k.toNat < (us y).length)) = true ↔ (k.toNat < y.length):=(by (try rw [w5]);all_goals exact i_dec)
  obtain ⟨k7,H⟩:=H
  obtain ⟨k8,H⟩:=H
  have w9:wi (i0 + k) = i0 + k:=wI64 k8
  have i10:(decide (0 <= wi (i0 + k))) = true ↔ (0 <= i0 + k):=(by (try rw [w9]);all_goals exact i_dec)
  obtain ⟨k11,H⟩:=H
  have w12:(us o).length = o.length:=List.length_map ..
  have i13:(decide ((wi (i0 + k)).toNat < (us o).length)) = true ↔ ((i0 + k).toNat < o.length):=(by (try rw [w9]);(try rw [w12]);all_goals exact i_dec)
  obtain ⟨k14,H⟩:=H
  obtain ⟨k15,H⟩:=H
  have w16:wu (o.getD (i0 + k).toNat default) = o.getD (i0 + k).toNat default:=wU64 k15
  obtain ⟨k17,H⟩:=H
  have w18:wu x0 = x0:=wU64 k17
  obtain ⟨k19,H⟩:=H
  have w20:wu (y.getD k.toNat default) = y.getD k.toNat default:=wU64 k19
  obtain ⟨k21,H⟩:=H
  have w22:wu (x0 * y.getD k.toNat default) = x0 * y.getD k.toNat default:=wU64 k21
  obtain ⟨k23,H⟩:=H
  have w24:wu (o.getD (i0 + k).toNat default + x0 * y.getD k.toNat default) = o.getD (i0 + k).toNat default + x0 * y.getD k.toNat default:=wU64 k23
  obtain ⟨k25,H⟩:=H
  have w26:wu (o.getD (i0 + k).toNat default + x0 * y.getD k.toNat default + c) = o.getD (i0 + k).toNat default + x0 * y.getD k.toNat default + c:=wU64 k25
  have i27:(decide (0 <= wi (i0 + k))) = true ↔ (0 <= i0 + k):=(by (try rw [w9]);all_goals exact i_dec)
  have i28:(decide ((wi (i0 + k)).toNat < (us o).length)) = true ↔ ((i0 + k).toNat < o.length):=(by (try rw [w9]);(try rw [w12]);all_goals exact i_dec)
  obtain ⟨k29,H⟩:=H
  have w30:wu ((o.getD (i0 + k).toNat default + x0 * y.getD k.toNat default + c).tdiv 1000000000) = (o.getD (i0 + k).toNat default + x0 * y.getD k.toNat default + c).tdiv 1000000000:=wU64 k29
  obtain ⟨k31,H⟩:=H
  have w32:wv ((o.getD (i0 + k).toNat default + x0 * y.getD k.toNat default + c).tmod 1000000000) = (o.getD (i0 + k).toNat default + x0 * y.getD k.toNat default + c).tmod 1000000000:=wU32 k31
  have w33:(us o).set (i0 + k).toNat (vu ((o.getD (i0 + k).toNat default + x0 * y.getD k.toNat default + c).tmod 1000000000)) = us (o.set (i0 + k).toNat ((o.getD (i0 + k).toNat default + x0 * y.getD k.toNat default + c).tmod 1000000000)):=(lm_set rfl rfl)
  obtain ⟨k34,H⟩:=H
  have w35:wi (k + 1) = k + 1:=wI64 k34
  exact path_wp (G:=given kp112 [(8,2,.elem (vu (y.getD k.toNat default))),(9,5,.elem (vu (o.getD (i0 + k).toNat default))),(10,10,.elem (vu (o.getD (i0 + k).toNat default)))] []) 1000 [true] ⟨(atC (cd Tryz.f112) [1,1,0,1,0,0,1,1,0,0,1,1,0,1,0,0]),[(1,AV.vec fb 1 (us b)),(5,AV.row 0 0),(6,vi i0),(7,vu x0),(8,vw (wu ((wu (wu (wu (o.getD (i0 + k).toNat default) + wu (wu x0 * wu (y.getD k.toNat default))) + c)).tdiv 1000000000))),(18,AV.vec fx 1 (us x)),(19,vi n),(20,vi i),(25,AV.vec fy 1 (us y)),(26,vi m),(27,vi (wi (k + 1)))],[⟨(us o).set (wi (i0 + k)).toNat (vu (wv ((wu (wu (wu (o.getD (i0 + k).toNat default) + wu (wu x0 * wu (y.getD k.toNat default))) + c)).tmod 1000000000))),1,0,false,true⟩],_,[((us y).get?Internal k.toNat = some (vu (y.getD k.toNat default))),((us o).get?Internal (wi (i0 + k)).toNat = some (vu (o.getD (i0 + k).toNat default))),((us o).get?Internal (wi (i0 + k)).toNat = some (vu (o.getD (i0 + k).toNat default)))],_⟩ (by kernel_rfl) (bc (beq_t (i_dec.2 d2)) (bc (i_dec.2 k4) (bc (i6.2 k7) (bc rfl (bc (i10.2 k11) (bc (i13.2 k14) (bc rfl (bc rfl (bc rfl (bc rfl (bc (i27.2 k11) (bc (i28.2 k14) (bc rfl b0))))))))))))) (qc (el_map k7) (qc (by (try rw [w9]);all_goals exact (el_map k14)) (qc (by (try rw [w9]);all_goals exact (el_map k14)) q0))) c0 (by (try rw [w9]);(try rw [w16]);(try rw [w18]);(try rw [w20]);(try rw [w22]);(try rw [w24]);(try rw [w26]);(try rw [w30]);(try rw [w32]);(try rw [w33]);(try rw [w35]);all_goals exact H)
 ·have H:=H.2 d2
  have w36:(us b).length = b.length:=List.length_map ..
  obtain ⟨k37,H⟩:=H
  have w38:wi (i0 + (↑b.length:Int)) = i0 + (↑b.length:Int):=wI64 k37
  have i39:(decide (0 <= wi (i0 + (↑(us b).length:Int)))) = true ↔ (0 <= i0 + (↑b.length:Int)):=(by (try rw [w36]);(try rw [w38]);all_goals exact i_dec)
  obtain ⟨k40,H⟩:=H
  have w41:(us o).length = o.length:=List.length_map ..
  have i42:(decide ((wi (i0 + (↑(us b).length:Int))).toNat < (us o).length)) = true ↔ ((i0 + (↑b.length:Int)).toNat < o.length):=(by (try rw [w36]);(try rw [w38]);(try rw [w41]);all_goals exact i_dec)
  obtain ⟨k43,H⟩:=H
  obtain ⟨k44,H⟩:=H
  have w45:wv c = c:=wU32 k44
  have w46:(us o).set (i0 + (↑b.length:Int)).toNat (vu c) = us (o.set (i0 + (↑b.length:Int)).toNat c):=(lm_set rfl rfl)
  obtain ⟨k47,H⟩:=H
  have w48:wi (i + 1) = i + 1:=wI64 k47
  exact path_wp (G:=given kp112 [(12,8,.elem (vu (o.getD (i0 + (↑b.length:Int)).toNat default)))] []) 1000 [false] ⟨(atC (cd Tryz.f112) [1,1,0,1,0,0]),[(1,AV.vec fb 1 (us b)),(5,AV.row 0 0),(18,AV.vec fx 1 (us x)),(19,vi n),(20,vi (wi (i + 1)))],[⟨(us o).set (wi (i0 + (↑(us b).length:Int))).toNat (vu (wv c)),1,0,false,true⟩],_,[((us o).get?Internal (wi (i0 + (↑(us b).length:Int))).toNat = some (vu (o.getD (i0 + (↑b.length:Int)).toNat default)))],_⟩ (by kernel_rfl) (bc (beq_f (fun h => d2 (i_dec.1 h))) (bc rfl (bc (i39.2 k40) (bc (i42.2 k43) (bc rfl b0))))) (qc (by (try rw [w36]);(try rw [w38]);all_goals exact (el_map k43)) q0) c0 (by (try rw [w36]);(try rw [w38]);(try rw [w45]);(try rw [w46]);(try rw [w48]);all_goals exact H)
end Go.Av

namespace Go.Av
open Go.Proofs
set_option maxRecDepth 100000
def fi111:Fi:=⟨45,[.tmp 4]⟩
def kp111:List (Nat × List Nat):=[(0,[0,1]),(1,[0,1]),(2,[0,1,14]),(3,[19]),(4,[4]),(5,[4]),(6,[0,1,5]),(7,[0,1,5,24]),(8,[0,1,5]),(9,[0,1,5,35]),(10,[4]),(11,[0,1,5,44]),(12,[4]),(13,[4])]
def fi113:Fi:=⟨53,[.tmp 4]⟩
def kp113:List (Nat × List Nat):=[(0,[0,1]),(1,[0,1,13]),(2,[0,1]),(3,[0,1,5]),(4,[0,1,5,6]),(5,[1,5,6,20,21,22]),(6,[1,5,6,20,21,22,23]),(7,[1,5,6,7,8,20,21,22]),(8,[1,5,7,8,20,21,22]),(9,[1,5,7,8,20,21,22,33]),(10,[1,5,8,20,21,22]),(11,[1,5,6,8,20,21,22]),(12,[1,5,6,8,20,21,22,41]),(13,[1,5,6,8,20,21,22]),(14,[1,5,6,20,21,22]),(15,[1,5,6,20,21,22]),(16,[4])]
def fi114:Fi:=⟨44,[.tmp 4]⟩
def kp114:List (Nat × List Nat):=[(0,[0,1]),(1,[0,1,5]),(2,[0,1,5,6]),(3,[1,5,6,13,14,15]),(4,[1,5,6,13,14,15,16]),(5,[1,5,6,7,8,13,14,15]),(6,[1,5,7,8,9,13,14,15]),(7,[1,5,7,8,9,13,14,15,24]),(8,[1,5,7,8,9,13,14,15]),(9,[1,5,6,7,8,9,13,14,15]),(10,[1,5,6,7,8,9,13,14,15,33]),(11,[1,5,6,7,8,9,13,14,15]),(12,[1,5,6,13,14,15]),(13,[1,5,6,13,14,15]),(14,[4])]
def fi133:Fi:=⟨44,[.tmp 4,.tmp 5]⟩
def kp133:List (Nat × List Nat):=[(0,[0,1]),(1,[0,1,6]),(2,[0,1,6,7]),(3,[0,1,6,7,8]),(4,[0,1,6,7,8,17]),(5,[0,1,6,7,8]),(6,[0,1,6,8,9]),(7,[0,1,6,7,8]),(8,[4,5])]
def vCompare_at (fa fb:Bool) (a b:List Int) (Q:AV -> Heap -> Prop):Prop:=Wp M1 (.run fi111 (atC (cd Tryz.f111) []) [(0,.vec fa 1 (a.map (.int .u32))),(1,.vec fb 1 (b.map (.int .u32)))] []) Q
def vCompareA_at (fa fb:Bool) (a b:List Int) (i:Int) (Q:AV -> Heap -> Prop):Prop:=Wp M1 (.run fi111 (atC (cd Tryz.f111) [1,1,1,0,1,0,0]) [(0,.vec fa 1 (a.map (.int .u32))),(1,.vec fb 1 (b.map (.int .u32))),(5,.int .i64 i)] []) Q
def vPlus_at (fa fb:Bool) (a b:List Int) (Q:AV -> Heap -> Prop):Prop:=Wp M1 (.run fi113 (atC (cd Tryz.f113) []) [(0,.vec fa 1 (a.map (.int .u32))),(1,.vec fb 1 (b.map (.int .u32)))] []) Q
def vPlusA_at (fb fx:Bool) (b x o:List Int) (c n i:Int) (v:Nat) (Q:AV -> Heap -> Prop):Prop:=Wp M1 (.run fi113 (atC (cd Tryz.f113) [1,1,1,1,0,1,0,0]) [(1,.vec fb 1 (b.map (.int .u32))),(5,.row 0 v),(6,.int .u32 c),(20,.vec fx 1 (x.map (.int .u32))),(21,.int .i64 n),(22,.int .i64 i)] [⟨o.map (.int .u32),1,v,false,true⟩]) Q
def vMinus_at (fa fb:Bool) (a b:List Int) (Q:AV -> Heap -> Prop):Prop:=Wp M1 (.run fi114 (atC (cd Tryz.f114) []) [(0,.vec fa 1 (a.map (.int .u32))),(1,.vec fb 1 (b.map (.int .u32)))] []) Q
def vMinusA_at (fb fx:Bool) (b x o:List Int) (c n i:Int) (Q:AV -> Heap -> Prop):Prop:=Wp M1 (.run fi114 (atC (cd Tryz.f114) [1,1,1,0,1,0,0]) [(1,.vec fb 1 (b.map (.int .u32))),(5,.row 0 0),(6,.int .u32 c),(13,.vec fx 1 (x.map (.int .u32))),(14,.int .i64 n),(15,.int .i64 i)] [⟨o.map (.int .u32),1,0,false,true⟩]) Q
def vByWord_at (fa:Bool) (a:List Int) (d:Int) (Q:AV -> Heap -> Prop):Prop:=Wp M1 (.run fi133 (atC (cd Tryz.f133) []) [(0,.vec fa 1 (a.map (.int .u32))),(1,.int .u32 d)] []) Q
def vByWordA_at (fa:Bool) (a o:List Int) (d r i:Int) (Q:AV -> Heap -> Prop):Prop:=Wp M1 (.run fi133 (atC (cd Tryz.f133) [1,1,1,0,1,0,0]) [(0,.vec fa 1 (a.map (.int .u32))),(1,.int .u32 d),(6,.row 0 0),(7,.int .u64 r),(8,.int .i64 i)] [⟨o.map (.int .u32),1,0,false,true⟩]) Q
theorem call111 {args:List AV} {d:AV} (h:wc M1 fi111 Tryz.f111 args d):Ev M1 (.pure 111 args) d []:=pcl _ _ (by kernel_rfl) h
theorem call113 {args:List AV} {d:AV} (h:wc M1 fi113 Tryz.f113 args d):Ev M1 (.pure 113 args) d []:=pcl _ _ (by kernel_rfl) h
theorem call114 {args:List AV} {d:AV} (h:wc M1 fi114 Tryz.f114 args d):Ev M1 (.pure 114 args) d []:=pcl _ _ (by kernel_rfl) h
theorem call133 {args:List AV} {d:AV} (h:wc M1 fi133 Tryz.f133 args d):Ev M1 (.pure 133 args) d []:=pcl _ _ (by kernel_rfl) h
theorem vCompare (fa fb:Bool) (a b:List Int)  (dq:AV) (H :
  ∃ (l1:List (Int)),
  (Ev M1 (Conf.pure 130 [AV.vec fa 1 (us a)]) (vf (us l1)) []) /\
  ∃ (l2:List (Int)),
  (Ev M1 (Conf.pure 130 [AV.vec fb 1 (us b)]) (vf (us l2)) []) /\
  ((¬(↑l1.length:Int) = (↑l2.length:Int)) -> (((↑l1.length:Int) < (↑l2.length:Int)) -> vi (-1) = dq) /\
   (¬((↑l1.length:Int) < (↑l2.length:Int)) -> vi 1 = dq)) /\
  (¬(¬(↑l1.length:Int) = (↑l2.length:Int)) -> (-9223372036854775808 <= (↑l1.length:Int) - 1 /\ (↑l1.length:Int) - 1 <= 9223372036854775807) /\
   vCompareA_at (false) (false) (l1) (l2) ((↑l1.length:Int) - 1) (PureQ dq))) :
 vCompare_at fa fb a b (PureQ dq):=by
 unfold vCompare_at
 obtain ⟨l1,H⟩:=H
 obtain ⟨k1,H⟩:=H
 obtain ⟨l2,H⟩:=H
 obtain ⟨k2,H⟩:=H
 have w3:(us l1).length = l1.length:=List.length_map ..
 have w4:(us l2).length = l2.length:=List.length_map ..
 have i5:((↑(us l1).length:Int) != (↑(us l2).length:Int)) = true ↔ (¬(↑l1.length:Int) = (↑l2.length:Int)):=(by (try rw [w3]);(try rw [w4]);all_goals exact i_ne)
 refine path_wp (G:=given kp111 [(1,1,.call (vf (us l1)) none),(1,3,.call (vf (us l2)) none)] []) 7 [] ⟨(atC (cd Tryz.f111) [1,1,0,1]),[(0,vf (us l1)),(1,vf (us l2)),(14,vb ((↑(us l1).length:Int) != (↑(us l2).length:Int)))],[],_,[],_⟩ (by kernel_rfl) b0 q0 (ce k1 (ce k2 c0)) ?_
 rcases xm (¬(↑l1.length:Int) = (↑l2.length:Int)) with d6 | d6
 ·have H:=H.1 d6
  have i7:(decide ((↑(us l1).length:Int) < (↑(us l2).length:Int))) = true ↔ ((↑l1.length:Int) < (↑l2.length:Int)):=(by (try rw [w3]);(try rw [w4]);all_goals exact i_dec)
  rcases xm ((↑l1.length:Int) < (↑l2.length:Int)) with d8 | d8
  ·have H:=H.1 d8
   exact path_re (G:=given kp111 [] []) 1000 [true,true] (vi (-1)) (by kernel_rfl) (bc (beq_t (i5.2 d6)) (bc (beq_t (i7.2 d8)) b0)) q0 c0 H
  ·have H:=H.2 d8
   exact path_re (G:=given kp111 [] []) 1000 [true,false] (vi 1) (by kernel_rfl) (bc (beq_t (i5.2 d6)) (bc (beq_f (fun h => d8 (i7.1 h))) b0)) q0 c0 H
 ·have H:=H.2 d6
  obtain ⟨k9,H⟩:=H
  have w10:wi ((↑l1.length:Int) - 1) = (↑l1.length:Int) - 1:=wI64 k9
  exact path_wp (G:=given kp111 [] []) 1000 [false] ⟨(atC (cd Tryz.f111) [1,1,1,0,1,0,0]),[(0,vf (us l1)),(1,vf (us l2)),(5,vi (wi ((↑(us l1).length:Int) - 1)))],[],_,[],_⟩ (by kernel_rfl) (bc (beq_f (fun h => d6 (i5.1 h))) b0) q0 c0 (by (try rw [w3]);(try rw [w10]);all_goals exact H)
theorem vCompareA (fa fb:Bool) (a b:List Int) (i:Int)  (dq:AV) (H :
  ((i >= 0) -> (0 <= i) /\
   (i.toNat < a.length) /\
   (i.toNat < b.length) /\
   ((a.getD i.toNat default < b.getD i.toNat default) -> vi (-1) = dq) /\
   (¬(a.getD i.toNat default < b.getD i.toNat default) -> ((a.getD i.toNat default > b.getD i.toNat default) -> vi 1 = dq) /\
    (¬(a.getD i.toNat default > b.getD i.toNat default) -> (-9223372036854775808 <= i - 1 /\ i - 1 <= 9223372036854775807) /\
     vCompareA_at (fa) (fb) (a) (b) (i - 1) (PureQ dq)))) /\
  (¬(i >= 0) -> vi 0 = dq)) :
 vCompareA_at fa fb a b i (PureQ dq):=by
 unfold vCompareA_at
 rcases xm (i >= 0) with d2 | d2
 ·have H:=H.1 d2
  obtain ⟨k4,H⟩:=H
  have w5:(us a).length = a.length:=List.length_map ..
  have i6:(decide (i.toNat < (us a).length)) = true ↔ (i.toNat < a.length):=(by (try rw [w5]);all_goals exact i_dec)
  obtain ⟨k7,H⟩:=H
  have w9:(us b).length = b.length:=List.length_map ..
  have i10:(decide (i.toNat < (us b).length)) = true ↔ (i.toNat < b.length):=(by (try rw [w9]);all_goals exact i_dec)
  obtain ⟨k11,H⟩:=H
  refine path_wp (G:=given kp111 [(9,3,.elem (vu (a.getD i.toNat default))),(9,7,.elem (vu (b.getD i.toNat default)))] []) 10 [true] ⟨(atC (cd Tryz.f111) [1,1,1,0,1,0,0,1,0,0,0,1]),[(0,AV.vec fa 1 (us a)),(1,AV.vec fb 1 (us b)),(5,vi i),(35,vb (decide (a.getD i.toNat default < b.getD i.toNat default)))],[],_,[((us a).get?Internal i.toNat = some (vu (a.getD i.toNat default))),((us b).get?Internal i.toNat = some (vu (b.getD i.toNat default)))],_⟩ (by kernel_rfl) (bc (beq_t (i_dec.2 d2)) (bc (i_dec.2 k4) (bc (i6.2 k7) (bc (i_dec.2 k4) (bc (i10.2 k11) b0))))) (qc (el_map k7) (qc (el_map k11) q0)) c0 ?_
  rcases xm (a.getD i.toNat default < b.getD i.toNat default) with d13 | d13
  ·have H:=H.1 d13
   exact path_re (G:=given kp111 [] []) 1000 [true] (vi (-1)) (by kernel_rfl) (bc (beq_t (i_dec.2 d13)) b0) q0 c0 H
  ·have H:=H.2 d13
   have i15:(decide (i.toNat < (us a).length)) = true ↔ (i.toNat < a.length):=(by (try rw [w5]);all_goals exact i_dec)
   have i17:(decide (i.toNat < (us b).length)) = true ↔ (i.toNat < b.length):=(by (try rw [w9]);all_goals exact i_dec)
   refine path_wp (G:=given kp111 [(11,3,.elem (vu (a.getD i.toNat default))),(11,7,.elem (vu (b.getD i.toNat default)))] []) 4 [false] ⟨(atC (cd Tryz.f111) [1,1,1,0,1,0,0,1,0,0,1,1]),[(0,AV.vec fa 1 (us a)),(1,AV.vec fb 1 (us b)),(5,vi i),(44,vb (decide (a.getD i.toNat default > b.getD i.toNat default)))],[],_,[((us a).get?Internal i.toNat = some (vu (a.getD i.toNat default))),((us b).get?Internal i.toNat = some (vu (b.getD i.toNat default)))],_⟩ (by kernel_rfl) (bc (beq_f (fun h => d13 (i_dec.1 h))) (bc (i_dec.2 k4) (bc (i15.2 k7) (bc (i_dec.2 k4) (bc (i17.2 k11) b0))))) (qc (el_map k7) (qc (el_map k11) q0)) c0 ?_
   rcases xm (a.getD i.toNat default > b.getD i.toNat default) with d19 | d19
   ·have H:=H.1 d19
    exact path_re (G:=given kp111 [] []) 1000 [true] (vi 1) (by kernel_rfl) (bc (beq_t (i_dec.2 d19)) b0) q0 c0 H
   ·have H:=H.2 d19
    obtain ⟨k20,H⟩:=H
    have w21:wi (i - 1) = i - 1:=wI64 k20
    exact path_wp (G:=given kp111 [] []) 1000 [false] ⟨(atC (cd Tryz.f111) [1,1,1,0,1,0,0]),[(0,AV.vec fa 1 (us a)),(1,AV.vec fb 1 (us b)),(5,vi (wi (i - 1)))],[],_,[],_⟩ (by kernel_rfl) (bc (beq_f (fun h => d19 (i_dec.1 h))) b0) q0 c0 (by (try rw [w21]);all_goals exact H)
 ·have H:=H.2 d2
  exact path_re (G:=given kp111 [] []) 1000 [false] (vi 0) (by kernel_rfl) (bc (beq_f (fun h => d2 (i_dec.1 h))) b0) q0 c0 H
theorem vPlus (fa fb:Bool) (a b:List Int)  (dq:AV) (H :
  (((↑a.length:Int) < (↑b.length:Int)) -> (-9223372036854775808 <= (↑b.length:Int) + 1 /\ (↑b.length:Int) + 1 <= 9223372036854775807) /\
   (0 <= (↑b.length:Int) + 1) /\
   (((↑b.length:Int) + 1) * 4 <= 1099511627776) /\
   ((↑b.length:Int) + 1 <= 1099511627776) /\
   Wp M1 (.run fi113 (atC (cd Tryz.f113) [1,1,1,1,0,1,0,0]) [(1,AV.vec fa 1 (us a)),(5,AV.row 0 0),(6,vu 0),(20,AV.vec fb 1 (us b)),(21,vi (↑b.length:Int)),(22,vi 0)] [{ elems:=[],es:=1,ver:=0,frozen:=false,clean:=true }]) (PureQ dq)) /\
  (¬((↑a.length:Int) < (↑b.length:Int)) -> (-9223372036854775808 <= (↑a.length:Int) + 1 /\ (↑a.length:Int) + 1 <= 9223372036854775807) /\
   (0 <= (↑a.length:Int) + 1) /\
   (((↑a.length:Int) + 1) * 4 <= 1099511627776) /\
   ((↑a.length:Int) + 1 <= 1099511627776) /\
   Wp M1 (.run fi113 (atC (cd Tryz.f113) [1,1,1,1,0,1,0,0]) [(1,AV.vec fb 1 (us b)),(5,AV.row 0 0),(6,vu 0),(20,AV.vec fa 1 (us a)),(21,vi (↑a.length:Int)),(22,vi 0)] [{ elems:=[],es:=1,ver:=0,frozen:=false,clean:=true }]) (PureQ dq))) :
 vPlus_at fa fb a b (PureQ dq):=by
 unfold vPlus_at
 have w1:(us a).length = a.length:=List.length_map ..
 have w2:(us b).length = b.length:=List.length_map ..
 have i3:(decide ((↑(us a).length:Int) < (↑(us b).length:Int))) = true ↔ ((↑a.length:Int) < (↑b.length:Int)):=(by (try rw [w1]);(try rw [w2]);all_goals exact i_dec)
 rcases xm ((↑a.length:Int) < (↑b.length:Int)) with d4 | d4
 ·have H:=H.1 d4
  obtain ⟨k5,H⟩:=H
  have w6:wi ((↑b.length:Int) + 1) = (↑b.length:Int) + 1:=wI64 k5
  have i7:(decide (0 <= wi ((↑(us b).length:Int) + 1))) = true ↔ (0 <= (↑b.length:Int) + 1):=(by (try rw [w2]);(try rw [w6]);all_goals exact i_dec)
  obtain ⟨k8,H⟩:=H
  have i9:(decide (wi ((↑(us b).length:Int) + 1) * 4 <= 1099511627776)) = true ↔ (((↑b.length:Int) + 1) * 4 <= 1099511627776):=(by (try rw [w2]);(try rw [w6]);all_goals exact i_dec)
  obtain ⟨k10,H⟩:=H
  have i11:(decide (wi ((↑(us b).length:Int) + 1) <= 1099511627776)) = true ↔ ((↑b.length:Int) + 1 <= 1099511627776):=(by (try rw [w2]);(try rw [w6]);all_goals exact i_dec)
  obtain ⟨k12,H⟩:=H
  have w13:[] = us []:=rfl
  exact path_wp (G:=given kp113 [] []) 1000 [true] ⟨(atC (cd Tryz.f113) [1,1,1,1,0,1,0,0]),[(1,AV.vec fa 1 (us a)),(5,AV.row 0 0),(6,vu 0),(20,AV.vec fb 1 (us b)),(21,vi (↑(us b).length:Int)),(22,vi 0)],[⟨[],1,0,false,true⟩],_,[],_⟩ (by kernel_rfl) (bc (beq_t (i3.2 d4)) (bc rfl (bc (i7.2 k8) (bc (i9.2 k10) (bc (i11.2 k12) b0))))) q0 c0 (by (try rw [w2]);(try rw [w13]);all_goals exact H)
 ·have H:=H.2 d4
  obtain ⟨k14,H⟩:=H
  have w15:wi ((↑a.length:Int) + 1) = (↑a.length:Int) + 1:=wI64 k14
  have i16:(decide (0 <= wi ((↑(us a).length:Int) + 1))) = true ↔ (0 <= (↑a.length:Int) + 1):=(by (try rw [w1]);(try rw [w15]);all_goals exact i_dec)
  obtain ⟨k17,H⟩:=H
  have i18:(decide (wi ((↑(us a).length:Int) + 1) * 4 <= 1099511627776)) = true ↔ (((↑a.length:Int) + 1) * 4 <= 1099511627776):=(by (try rw [w1]);(try rw [w15]);all_goals exact i_dec)
  obtain ⟨k19,H⟩:=H
  have i20:(decide (wi ((↑(us a).length:Int) + 1) <= 1099511627776)) = true ↔ ((↑a.length:Int) + 1 <= 1099511627776):=(by (try rw [w1]);(try rw [w15]);all_goals exact i_dec)
  obtain ⟨k21,H⟩:=H
  have w22:[] = us []:=rfl
  exact path_wp (G:=given kp113 [] []) 1000 [false] ⟨(atC (cd Tryz.f113) [1,1,1,1,0,1,0,0]),[(1,AV.vec fb 1 (us b)),(5,AV.row 0 0),(6,vu 0),(20,AV.vec fa 1 (us a)),(21,vi (↑(us a).length:Int)),(22,vi 0)],[⟨[],1,0,false,true⟩],_,[],_⟩ (by kernel_rfl) (bc (beq_f (fun h => d4 (i3.1 h))) (bc rfl (bc (i16.2 k17) (bc (i18.2 k19) (bc (i20.2 k21) b0))))) q0 c0 (by (try rw [w1]);(try rw [w22]);all_goals exact H)
theorem vPlusA (fb fx:Bool) (b x o:List Int) (c n i:Int) (v:Nat)  (dq:AV) (H :
  ((i < n) -> (0 <= i) /\
   (i.toNat < x.length) /\
   (0 <= x.getD i.toNat default + c /\ x.getD i.toNat default + c <= 4294967295) /\
   ((i < (↑b.length:Int)) -> (i.toNat < b.length) /\
    (0 <= x.getD i.toNat default + c + b.getD i.toNat default /\ x.getD i.toNat default + c + b.getD i.toNat default <= 4294967295) /\
    ((x.getD i.toNat default + c + b.getD i.toNat default >= 1000000000) -> (0 <= x.getD i.toNat default + c + b.getD i.toNat default - 1000000000 /\ x.getD i.toNat default + c + b.getD i.toNat default - 1000000000 <= 4294967295) /\
     ((o.length + 1) * 4 <= 1099511627776) /\
     (-9223372036854775808 <= i + 1 /\ i + 1 <= 9223372036854775807) /\
     vPlusA_at (fb) (fx) (b) (x) (o ++ [x.getD i.toNat default + c + b.getD i.toNat default - 1000000000]) (1) (n) (i + 1) (v + 1) (PureQ dq)) /\
    (¬(x.getD i.toNat default + c + b.getD i.toNat default >= 1000000000) -> ((o.length + 1) * 4 <= 1099511627776) /\
     (-9223372036854775808 <= i + 1 /\ i + 1 <= 9223372036854775807) /\
     vPlusA_at (fb) (fx) (b) (x) (o ++ [x.getD i.toNat default + c + b.getD i.toNat default]) (0) (n) (i + 1) (v + 1) (PureQ dq))) /\
   (¬(i < (↑b.length:Int)) -> ((x.getD i.toNat default + c >= 1000000000) -> (0 <= x.getD i.toNat default + c - 1000000000 /\ x.getD i.toNat default + c - 1000000000 <= 4294967295) /\
     ((o.length + 1) * 4 <= 1099511627776) /\
     (-9223372036854775808 <= i + 1 /\ i + 1 <= 9223372036854775807) /\
     vPlusA_at (fb) (fx) (b) (x) (o ++ [x.getD i.toNat default + c - 1000000000]) (1) (n) (i + 1) (v + 1) (PureQ dq)) /\
    (¬(x.getD i.toNat default + c >= 1000000000) -> ((o.length + 1) * 4 <= 1099511627776) /\
     (-9223372036854775808 <= i + 1 /\ i + 1 <= 9223372036854775807) /\
     vPlusA_at (fb) (fx) (b) (x) (o ++ [x.getD i.toNat default + c]) (0) (n) (i + 1) (v + 1) (PureQ dq)))) /\
  (¬(i < n) -> ((o.length + 1) * 4 <= 1099511627776) /\
   Weak (vf (us (o ++ [c]))) dq)) :
 vPlusA_at fb fx b x o c n i v (PureQ dq):=by
 unfold vPlusA_at
 rcases xm (i < n) with d2 | d2
 ·have H:=H.1 d2
  obtain ⟨k4,H⟩:=H
  have w5:(us x).length = x.length:=List.length_map ..
  have i6:(decide (i.toNat < (us x).length)) = true ↔ (i.toNat < x.length):=(by (try rw [w5]);all_goals exact i_dec)
  obtain ⟨k7,H⟩:=H
  obtain ⟨k8,H⟩:=H
  have w9:wv (x.getD i.toNat default + c) = x.getD i.toNat default + c:=wU32 k8
  have w10:(us b).length = b.length:=List.length_map ..
  have i11:(decide (i < (↑(us b).length:Int))) = true ↔ (i < (↑b.length:Int)):=(by (try rw [w10]);all_goals exact i_dec)
  refine path_wp (G:=given kp113 [(7,2,.elem (vu (x.getD i.toNat default)))] []) 14 [true] ⟨(atC (cd Tryz.f113) [1,1,1,1,0,1,0,0,1,1,0,0,1,1,0,1]),[(1,AV.vec fb 1 (us b)),(5,AV.row 0 v),(7,vi i),(8,vu (wv (x.getD i.toNat default + c))),(20,AV.vec fx 1 (us x)),(21,vi n),(22,vi i),(33,vb (decide (i < (↑(us b).length:Int))))],[⟨us o,1,v,false,true⟩],_,[((us x).get?Internal i.toNat = some (vu (x.getD i.toNat default)))],_⟩ (by kernel_rfl) (bc (beq_t (i_dec.2 d2)) (bc (i_dec.2 k4) (bc (i6.2 k7) b0))) (qc (el_map k7) q0) c0 ?_
  rcases xm (i < (↑b.length:Int)) with d12 | d12
  ·have H:=H.1 d12
   have i14:(decide (i.toNat < (us b).length)) = true ↔ (i.toNat < b.length):=(by (try rw [w10]);all_goals exact i_dec)
   obtain ⟨k15,H⟩:=H
   obtain ⟨k16,H⟩:=H
   have w17:wv (x.getD i.toNat default + c + b.getD i.toNat default) = x.getD i.toNat default + c + b.getD i.toNat default:=wU32 k16
   have i18:(decide (wv (wv (x.getD i.toNat default + c) + b.getD i.toNat default) >= 1000000000)) = true ↔ (x.getD i.toNat default + c + b.getD i.toNat default >= 1000000000):=(by (try rw [w9]);(try rw [w17]);all_goals exact i_dec)
   refine path_wp (G:=given kp113 [(10,4,.elem (vu (b.getD i.toNat default)))] []) 7 [true] ⟨(atC (cd Tryz.f113) [1,1,1,1,0,1,0,0,1,1,0,0,1,1,1,1,0,1]),[(1,AV.vec fb 1 (us b)),(5,AV.row 0 v),(6,vu 0),(8,vu (wv (wv (x.getD i.toNat default + c) + b.getD i.toNat default))),(20,AV.vec fx 1 (us x)),(21,vi n),(22,vi i),(41,vb (decide (wv (wv (x.getD i.toNat default + c) + b.getD i.toNat default) >= 1000000000)))],[⟨us o,1,v,false,true⟩],_,[((us b).get?Internal i.toNat = some (vu (b.getD i.toNat default)))],_⟩ (by kernel_rfl) (bc (beq_t (i11.2 d12)) (bc (i_dec.2 k4) (bc (i14.2 k15) b0))) (qc (el_map k15) q0) c0 ?_
   rcases xm (x.getD i.toNat default + c + b.getD i.toNat default >= 1000000000) with d19 | d19
   ·have H:=H.1 d19
    obtain ⟨k20,H⟩:=H
    have w21:wv (x.getD i.toNat default + c + b.getD i.toNat default - 1000000000) = x.getD i.toNat default + c + b.getD i.toNat default - 1000000000:=wU32 k20
    have w22:(us o).length = o.length:=List.length_map ..
    have i23:(decide (((us o).length + 1) * 4 <= 1099511627776)) = true ↔ ((o.length + 1) * 4 <= 1099511627776):=(by (try rw [w9]);(try rw [w17]);(try rw [w21]);(try rw [w22]);all_goals exact i_dec)
    obtain ⟨k24,H⟩:=H
    have w25:us o ++ [vu (x.getD i.toNat default + c + b.getD i.toNat default - 1000000000)] = us (o ++ [x.getD i.toNat default + c + b.getD i.toNat default - 1000000000]):=(lm_app rfl rfl)
    obtain ⟨k26,H⟩:=H
    have w27:wi (i + 1) = i + 1:=wI64 k26
    exact path_wp (G:=given kp113 [] []) 1000 [true] ⟨(atC (cd Tryz.f113) [1,1,1,1,0,1,0,0]),[(1,AV.vec fb 1 (us b)),(5,AV.row 0 (v + 1)),(6,vu 1),(20,AV.vec fx 1 (us x)),(21,vi n),(22,vi (wi (i + 1)))],[⟨us o ++ [vu (wv (wv (wv (x.getD i.toNat default + c) + b.getD i.toNat default) - 1000000000))],1,v + 1,false,true⟩],[(decide (wv (wv (x.getD i.toNat default + c) + b.getD i.toNat default) >= 1000000000)) == true,v == v,decide (((us o).length + 1) * 4 <= 1099511627776)],[],_⟩ (by kernel_rfl) (bc (beq_t (i18.2 d19)) (bc (beq_self_eq_true _) (bc (i23.2 k24) b0))) q0 c0 (by (try rw [w9]);(try rw [w17]);(try rw [w21]);(try rw [w25]);(try rw [w27]);all_goals exact H)
   ·have H:=H.2 d19
    have w28:(us o).length = o.length:=List.length_map ..
    have i29:(decide (((us o).length + 1) * 4 <= 1099511627776)) = true ↔ ((o.length + 1) * 4 <= 1099511627776):=(by (try rw [w9]);(try rw [w17]);(try rw [w28]);all_goals exact i_dec)
    obtain ⟨k30,H⟩:=H
    have w31:us o ++ [vu (x.getD i.toNat default + c + b.getD i.toNat default)] = us (o ++ [x.getD i.toNat default + c + b.getD i.toNat default]):=(lm_app rfl rfl)
    obtain ⟨k32,H⟩:=H
    have w33:wi (i + 1) = i + 1:=wI64 k32
    exact path_wp (G:=given kp113 [] []) 1000 [false] ⟨(atC (cd Tryz.f113) [1,1,1,1,0,1,0,0]),[(1,AV.vec fb 1 (us b)),(5,AV.row 0 (v + 1)),(6,vu 0),(20,AV.vec fx 1 (us x)),(21,vi n),(22,vi (wi (i + 1)))],[⟨us o ++ [vu (wv (wv (x.getD i.toNat default + c) + b.getD i.toNat default))],1,v + 1,false,true⟩],[(decide (wv (wv (x.getD i.toNat default + c) + b.getD i.toNat default) >= 1000000000)) == false,v == v,decide (((us o).length + 1) * 4 <= 1099511627776)],[],_⟩ (by kernel_rfl) (bc (beq_f (fun h => d19 (i18.1 h))) (bc (beq_self_eq_true _) (bc (i29.2 k30) b0))) q0 c0 (by (try rw [w9]);(try rw [w17]);(try rw [w31]);(try rw [w33]);all_goals exact H)
  ·have H:=H.2 d12
   have i34:(decide (wv (x.getD i.toNat default + c) >= 1000000000)) = true ↔ (x.getD i.toNat default + c >= 1000000000):=(by (try rw [w9]);all_goals exact i_dec)
   rcases xm (x.getD i.toNat default + c >= 1000000000) with d35 | d35
   ·have H:=H.1 d35
    obtain ⟨k36,H⟩:=H
    have w37:wv (x.getD i.toNat default + c - 1000000000) = x.getD i.toNat default + c - 1000000000:=wU32 k36
    have w38:(us o).length = o.length:=List.length_map ..
    have i39:(decide (((us o).length + 1) * 4 <= 1099511627776)) = true ↔ ((o.length + 1) * 4 <= 1099511627776):=(by (try rw [w9]);(try rw [w37]);(try rw [w38]);all_goals exact i_dec)
    obtain ⟨k40,H⟩:=H
    have w41:us o ++ [vu (x.getD i.toNat default + c - 1000000000)] = us (o ++ [x.getD i.toNat default + c - 1000000000]):=(lm_app rfl rfl)
    obtain ⟨k42,H⟩:=H
    have w43:wi (i + 1) = i + 1:=wI64 k42
    exact path_wp (G:=given kp113 [] []) 1000 [false,true] ⟨(atC (cd Tryz.f113) [1,1,1,1,0,1,0,0]),[(1,AV.vec fb 1 (us b)),(5,AV.row 0 (v + 1)),(6,vu 1),(20,AV.vec fx 1 (us x)),(21,vi n),(22,vi (wi (i + 1)))],[⟨us o ++ [vu (wv (wv (x.getD i.toNat default + c) - 1000000000))],1,v + 1,false,true⟩],[(decide (i < (↑(us b).length:Int))) == false,(decide (wv (x.getD i.toNat default + c) >= 1000000000)) == true,v == v,decide (((us o).length + 1) * 4 <= 1099511627776)],[],_⟩ (by kernel_rfl) (bc (beq_f (fun h => d12 (i11.1 h))) (bc (beq_t (i34.2 d35)) (bc (beq_self_eq_true _) (bc (i39.2 k40) b0)))) q0 c0 (by (try rw [w9]);(try rw [w37]);(try rw [w41]);(try rw [w43]);all_goals exact H)
   ·have H:=H.2 d35
    have w44:(us o).length = o.length:=List.length_map ..
    have i45:(decide (((us o).length + 1) * 4 <= 1099511627776)) = true ↔ ((o.length + 1) * 4 <= 1099511627776):=(by (try rw [w9]);(try rw [w44]);all_goals exact i_dec)
    obtain ⟨k46,H⟩:=H
    have w47:us o ++ [vu (x.getD i.toNat default + c)] = us (o ++ [x.getD i.toNat default + c]):=(lm_app rfl rfl)
    obtain ⟨k48,H⟩:=H
    have w49:wi (i + 1) = i + 1:=wI64 k48
    exact path_wp (G:=given kp113 [] []) 1000 [false,false] ⟨(atC (cd Tryz.f113) [1,1,1,1,0,1,0,0]),[(1,AV.vec fb 1 (us b)),(5,AV.row 0 (v + 1)),(6,vu 0),(20,AV.vec fx 1 (us x)),(21,vi n),(22,vi (wi (i + 1)))],[⟨us o ++ [vu (wv (x.getD i.toNat default + c))],1,v + 1,false,true⟩],[(decide (i < (↑(us b).length:Int))) == false,(decide (wv (x.getD i.toNat default + c) >= 1000000000)) == false,v == v,decide (((us o).length + 1) * 4 <= 1099511627776)],[],_⟩ (by kernel_rfl) (bc (beq_f (fun h => d12 (i11.1 h))) (bc (beq_f (fun h => d35 (i34.1 h))) (bc (beq_self_eq_true _) (bc (i45.2 k46) b0)))) q0 c0 (by (try rw [w9]);(try rw [w47]);(try rw [w49]);all_goals exact H)
 ·have H:=H.2 d2
  have w50:(us o).length = o.length:=List.length_map ..
  have i51:(decide (((us o).length + 1) * 4 <= 1099511627776)) = true ↔ ((o.length + 1) * 4 <= 1099511627776):=(by (try rw [w50]);all_goals exact i_dec)
  obtain ⟨k52,H⟩:=H
  have w53:us o ++ [vu c] = us (o ++ [c]):=(lm_app rfl rfl)
  exact path_ret (G:=given kp113 [] []) 1000 [false] (k:=((atC (cd Tryz.f113) [1,1,1,1,1,1])).tail) (env':=[(4,AV.row 0 (v + 1))]) (L':=[⟨us o ++ [vu c],1,v + 1,false,true⟩]) (asm:=[(decide (i < n)) == false,v == v,decide (((us o).length + 1) * 4 <= 1099511627776)]) (eqs:=[]) (calls:=[]) (AV.row 0 (v + 1)) (by kernel_rfl) (by kernel_rfl) (allB_cons (beq_f (fun h => d2 (i_dec.1 h))) (allB_cons (beq_self_eq_true _) (allB_cons (i51.2 k52) allB_nil))) allP_nil allC_nil (pq_weak (d:=(vf (us o ++ [vu c]))) (bs:=[v + 1 == v + 1]) (by kernel_rfl) (by kernel_rfl) (allB_cons (beq_self_eq_true _) allB_nil) (by kernel_rfl) (by (try rw [w53]);all_goals exact H))
theorem vMinus (fa fb:Bool) (a b:List Int)  (dq:AV) (H :
  (0 <= (↑a.length:Int)) /\
  ((↑a.length:Int) * 4 <= 1099511627776) /\
  ((↑a.length:Int) <= 1099511627776) /\
  vMinusA_at (fb) (fa) (b) (a) (List.replicate (↑a.length:Int).toNat (0:Int)) (0) ((↑a.length:Int)) (0) (PureQ dq)) :
 vMinus_at fa fb a b (PureQ dq):=by
 unfold vMinus_at
 have w1:(us a).length = a.length:=List.length_map ..
 have i2:(decide (0 <= (↑(us a).length:Int))) = true ↔ (0 <= (↑a.length:Int)):=(by (try rw [w1]);all_goals exact i_dec)
 obtain ⟨k3,H⟩:=H
 have i4:(decide ((↑(us a).length:Int) <= (↑(us a).length:Int))) = true ↔ ((↑a.length:Int) <= (↑a.length:Int)):=(by (try rw [w1]);all_goals exact i_dec)
 have i5:(decide ((↑(us a).length:Int) * 4 <= 1099511627776)) = true ↔ ((↑a.length:Int) * 4 <= 1099511627776):=(by (try rw [w1]);all_goals exact i_dec)
 obtain ⟨k6,H⟩:=H
 have i7:(decide ((↑(us a).length:Int) <= 1099511627776)) = true ↔ ((↑a.length:Int) <= 1099511627776):=(by (try rw [w1]);all_goals exact i_dec)
 obtain ⟨k8,H⟩:=H
 have w9:List.replicate (↑a.length:Int).toNat (vu 0) = us (List.replicate (↑a.length:Int).toNat (0:Int)):=(lm_rep rfl)
 exact path_wp (G:=given kp114 [] []) 1000 [] ⟨(atC (cd Tryz.f114) [1,1,1,0,1,0,0]),[(1,AV.vec fb 1 (us b)),(5,AV.row 0 0),(6,vu 0),(13,AV.vec fa 1 (us a)),(14,vi (↑(us a).length:Int)),(15,vi 0)],[⟨List.replicate (↑(us a).length:Int).toNat (vu 0),1,0,false,true⟩],[decide (0 <= (↑(us a).length:Int)),decide ((↑(us a).length:Int) <= (↑(us a).length:Int)),decide ((↑(us a).length:Int) * 4 <= 1099511627776),decide ((↑(us a).length:Int) <= 1099511627776)],[],_⟩ (by kernel_rfl) (bc (i2.2 k3) (bc (i4.2 (by omega)) (bc (i5.2 k6) (bc (i7.2 k8) b0)))) q0 c0 (by (try rw [w1]);(try rw [w9]);all_goals exact H)
theorem vMinusA (fb fx:Bool) (b x o:List Int) (c n i:Int)  (dq:AV) (H :
  ((i < n) -> (0 <= i) /\
   (i.toNat < x.length) /\
   ((i < (↑b.length:Int)) -> (i.toNat < b.length) /\
    (0 <= c + b.getD i.toNat default /\ c + b.getD i.toNat default <= 4294967295) /\
    ((x.getD i.toNat default < c + b.getD i.toNat default) -> (0 <= x.getD i.toNat default + 1000000000 /\ x.getD i.toNat default + 1000000000 <= 4294967295) /\
     (i.toNat < o.length) /\
     (0 <= x.getD i.toNat default + 1000000000 - (c + b.getD i.toNat default) /\ x.getD i.toNat default + 1000000000 - (c + b.getD i.toNat default) <= 4294967295) /\
     (-9223372036854775808 <= i + 1 /\ i + 1 <= 9223372036854775807) /\
     vMinusA_at (fb) (fx) (b) (x) (o.set i.toNat (x.getD i.toNat default + 1000000000 - (c + b.getD i.toNat default))) (1) (n) (i + 1) (PureQ dq)) /\
    (¬(x.getD i.toNat default < c + b.getD i.toNat default) -> (i.toNat < o.length) /\
     (0 <= x.getD i.toNat default - (c + b.getD i.toNat default) /\ x.getD i.toNat default - (c + b.getD i.toNat default) <= 4294967295) /\
     (-9223372036854775808 <= i + 1 /\ i + 1 <= 9223372036854775807) /\
     vMinusA_at (fb) (fx) (b) (x) (o.set i.toNat (x.getD i.toNat default - (c + b.getD i.toNat default))) (0) (n) (i + 1) (PureQ dq))) /\
   (¬(i < (↑b.length:Int)) -> ((x.getD i.toNat default < c) -> (0 <= x.getD i.toNat default + 1000000000 /\ x.getD i.toNat default + 1000000000 <= 4294967295) /\
     (i.toNat < o.length) /\
     (0 <= x.getD i.toNat default + 1000000000 - c /\ x.getD i.toNat default + 1000000000 - c <= 4294967295) /\
     (-9223372036854775808 <= i + 1 /\ i + 1 <= 9223372036854775807) /\
     vMinusA_at (fb) (fx) (b) (x) (o.set i.toNat (x.getD i.toNat default + 1000000000 - c)) (1) (n) (i + 1) (PureQ dq)) /\
    (¬(x.getD i.toNat default < c) -> (i.toNat < o.length) /\
     (0 <= x.getD i.toNat default - c /\ x.getD i.toNat default - c <= 4294967295) /\
     (-9223372036854775808 <= i + 1 /\ i + 1 <= 9223372036854775807) /\
     vMinusA_at (fb) (fx) (b) (x) (o.set i.toNat (x.getD i.toNat default - c)) (0) (n) (i + 1) (PureQ dq)))) /\
  (¬(i < n) -> Weak (vf (us o)) dq)) :
 vMinusA_at fb fx b x o c n i (PureQ dq):=by
 unfold vMinusA_at
 rcases xm (i < n) with d2 | d2
 ·have H:=H.1 d2
  obtain ⟨k4,H⟩:=H
  have w5:(us x).length = x.length:=List.length_map ..
  have i6:(decide (i.toNat < (us x).length)) = true ↔ (i.toNat < x.length):=(by (try rw [w5]);all_goals exact i_dec)
  obtain ⟨k7,H⟩:=H
  have w8:(us b).length = b.length:=List.length_map ..
  have i9:(decide (i < (↑(us b).length:Int))) = true ↔ (i < (↑b.length:Int)):=(by (try rw [w8]);all_goals exact i_dec)
  refine path_wp (G:=given kp114 [(5,2,.elem (vu (x.getD i.toNat default)))] []) 14 [true] ⟨(atC (cd Tryz.f114) [1,1,1,0,1,0,0,1,1,0,0,1,1,0,1]),[(1,AV.vec fb 1 (us b)),(5,AV.row 0 0),(7,vi i),(8,vu (x.getD i.toNat default)),(9,vu c),(13,AV.vec fx 1 (us x)),(14,vi n),(15,vi i),(24,vb (decide (i < (↑(us b).length:Int))))],[⟨us o,1,0,false,true⟩],_,[((us x).get?Internal i.toNat = some (vu (x.getD i.toNat default)))],_⟩ (by kernel_rfl) (bc (beq_t (i_dec.2 d2)) (bc (i_dec.2 k4) (bc (i6.2 k7) b0))) (qc (el_map k7) q0) c0 ?_
  rcases xm (i < (↑b.length:Int)) with d10 | d10
  ·have H:=H.1 d10
   have i12:(decide (i.toNat < (us b).length)) = true ↔ (i.toNat < b.length):=(by (try rw [w8]);all_goals exact i_dec)
   obtain ⟨k13,H⟩:=H
   obtain ⟨k14,H⟩:=H
   have w15:wv (c + b.getD i.toNat default) = c + b.getD i.toNat default:=wU32 k14
   have i16:(decide (x.getD i.toNat default < wv (c + b.getD i.toNat default))) = true ↔ (x.getD i.toNat default < c + b.getD i.toNat default):=(by (try rw [w15]);all_goals exact i_dec)
   refine path_wp (G:=given kp114 [(8,4,.elem (vu (b.getD i.toNat default)))] []) 7 [true] ⟨(atC (cd Tryz.f114) [1,1,1,0,1,0,0,1,1,0,0,1,1,1,1,0,1]),[(1,AV.vec fb 1 (us b)),(5,AV.row 0 0),(6,vu 0),(7,vi i),(8,vu (x.getD i.toNat default)),(9,vu (wv (c + b.getD i.toNat default))),(13,AV.vec fx 1 (us x)),(14,vi n),(15,vi i),(33,vb (decide (x.getD i.toNat default < wv (c + b.getD i.toNat default))))],[⟨us o,1,0,false,true⟩],_,[((us b).get?Internal i.toNat = some (vu (b.getD i.toNat default)))],_⟩ (by kernel_rfl) (bc (beq_t (i9.2 d10)) (bc (i_dec.2 k4) (bc (i12.2 k13) b0))) (qc (el_map k13) q0) c0 ?_
   rcases xm (x.getD i.toNat default < c + b.getD i.toNat default) with d17 | d17
   ·have H:=H.1 d17
    obtain ⟨k18,H⟩:=H
    have w19:wv (x.getD i.toNat default + 1000000000) = x.getD i.toNat default + 1000000000:=wU32 k18
    have w21:(us o).length = o.length:=List.length_map ..
    have i22:(decide (i.toNat < (us o).length)) = true ↔ (i.toNat < o.length):=(by (try rw [w21]);all_goals exact i_dec)
    obtain ⟨k23,H⟩:=H
    obtain ⟨k24,H⟩:=H
    have w25:wv (x.getD i.toNat default + 1000000000 - (c + b.getD i.toNat default)) = x.getD i.toNat default + 1000000000 - (c + b.getD i.toNat default):=wU32 k24
    have w26:(us o).set i.toNat (vu (x.getD i.toNat default + 1000000000 - (c + b.getD i.toNat default))) = us (o.set i.toNat (x.getD i.toNat default + 1000000000 - (c + b.getD i.toNat default))):=(lm_set rfl rfl)
    obtain ⟨k27,H⟩:=H
    have w28:wi (i + 1) = i + 1:=wI64 k27
    exact path_wp (G:=given kp114 [(12,6,.elem (vu (o.getD i.toNat default)))] []) 1000 [true] ⟨(atC (cd Tryz.f114) [1,1,1,0,1,0,0]),[(1,AV.vec fb 1 (us b)),(5,AV.row 0 0),(6,vu 1),(13,AV.vec fx 1 (us x)),(14,vi n),(15,vi (wi (i + 1)))],[⟨(us o).set i.toNat (vu (wv (wv (x.getD i.toNat default + 1000000000) - wv (c + b.getD i.toNat default)))),1,0,false,true⟩],_,[((us o).get?Internal i.toNat = some (vu (o.getD i.toNat default)))],_⟩ (by kernel_rfl) (bc (beq_t (i16.2 d17)) (bc rfl (bc (i_dec.2 k4) (bc (i22.2 k23) (bc rfl b0))))) (qc (el_map k23) q0) c0 (by (try rw [w15]);(try rw [w19]);(try rw [w25]);(try rw [w26]);(try rw [w28]);all_goals exact H)
   ·have H:=H.2 d17
    have w30:(us o).length = o.length:=List.length_map ..
    have i31:(decide (i.toNat < (us o).length)) = true ↔ (i.toNat < o.length):=(by (try rw [w30]);all_goals exact i_dec)
    obtain ⟨k32,H⟩:=H
    obtain ⟨k33,H⟩:=H
    have w34:wv (x.getD i.toNat default - (c + b.getD i.toNat default)) = x.getD i.toNat default - (c + b.getD i.toNat default):=wU32 k33
    have w35:(us o).set i.toNat (vu (x.getD i.toNat default - (c + b.getD i.toNat default))) = us (o.set i.toNat (x.getD i.toNat default - (c + b.getD i.toNat default))):=(lm_set rfl rfl)
    obtain ⟨k36,H⟩:=H
    have w37:wi (i + 1) = i + 1:=wI64 k36
    exact path_wp (G:=given kp114 [(12,6,.elem (vu (o.getD i.toNat default)))] []) 1000 [false] ⟨(atC (cd Tryz.f114) [1,1,1,0,1,0,0]),[(1,AV.vec fb 1 (us b)),(5,AV.row 0 0),(6,vu 0),(13,AV.vec fx 1 (us x)),(14,vi n),(15,vi (wi (i + 1)))],[⟨(us o).set i.toNat (vu (wv (x.getD i.toNat default - wv (c + b.getD i.toNat default)))),1,0,false,true⟩],_,[((us o).get?Internal i.toNat = some (vu (o.getD i.toNat default)))],_⟩ (by kernel_rfl) (bc (beq_f (fun h => d17 (i16.1 h))) (bc rfl (bc (i_dec.2 k4) (bc (i31.2 k32) (bc rfl b0))))) (qc (el_map k32) q0) c0 (by (try rw [w15]);(try rw [w34]);(try rw [w35]);(try rw [w37]);all_goals exact H)
  ·have H:=H.2 d10
   rcases xm (x.getD i.toNat default < c) with d39 | d39
   ·have H:=H.1 d39
    obtain ⟨k40,H⟩:=H
    have w41:wv (x.getD i.toNat default + 1000000000) = x.getD i.toNat default + 1000000000:=wU32 k40
    have w43:(us o).length = o.length:=List.length_map ..
    have i44:(decide (i.toNat < (us o).length)) = true ↔ (i.toNat < o.length):=(by (try rw [w43]);all_goals exact i_dec)
    obtain ⟨k45,H⟩:=H
    obtain ⟨k46,H⟩:=H
    have w47:wv (x.getD i.toNat default + 1000000000 - c) = x.getD i.toNat default + 1000000000 - c:=wU32 k46
    have w48:(us o).set i.toNat (vu (x.getD i.toNat default + 1000000000 - c)) = us (o.set i.toNat (x.getD i.toNat default + 1000000000 - c)):=(lm_set rfl rfl)
    obtain ⟨k49,H⟩:=H
    have w50:wi (i + 1) = i + 1:=wI64 k49
    exact path_wp (G:=given kp114 [(12,6,.elem (vu (o.getD i.toNat default)))] []) 1000 [false,true] ⟨(atC (cd Tryz.f114) [1,1,1,0,1,0,0]),[(1,AV.vec fb 1 (us b)),(5,AV.row 0 0),(6,vu 1),(13,AV.vec fx 1 (us x)),(14,vi n),(15,vi (wi (i + 1)))],[⟨(us o).set i.toNat (vu (wv (wv (x.getD i.toNat default + 1000000000) - c))),1,0,false,true⟩],_,[((us o).get?Internal i.toNat = some (vu (o.getD i.toNat default)))],_⟩ (by kernel_rfl) (bc (beq_f (fun h => d10 (i9.1 h))) (bc (beq_t (i_dec.2 d39)) (bc rfl (bc (i_dec.2 k4) (bc (i44.2 k45) (bc rfl b0)))))) (qc (el_map k45) q0) c0 (by (try rw [w41]);(try rw [w47]);(try rw [w48]);(try rw [w50]);all_goals exact H)
   ·have H:=H.2 d39
    have w52:(us o).length = o.length:=List.length_map ..
    have i53:(decide (i.toNat < (us o).length)) = true ↔ (i.toNat < o.length):=(by (try rw [w52]);all_goals exact i_dec)
    obtain ⟨k54,H⟩:=H
    obtain ⟨k55,H⟩:=H
    have w56:wv (x.getD i.toNat default - c) = x.getD i.toNat default - c:=wU32 k55
    have w57:(us o).set i.toNat (vu (x.getD i.toNat default - c)) = us (o.set i.toNat (x.getD i.toNat default - c)):=(lm_set rfl rfl)
    obtain ⟨k58,H⟩:=H
    have w59:wi (i + 1) = i + 1:=wI64 k58
    exact path_wp (G:=given kp114 [(12,6,.elem (vu (o.getD i.toNat default)))] []) 1000 [false,false] ⟨(atC (cd Tryz.f114) [1,1,1,0,1,0,0]),[(1,AV.vec fb 1 (us b)),(5,AV.row 0 0),(6,vu 0),(13,AV.vec fx 1 (us x)),(14,vi n),(15,vi (wi (i + 1)))],[⟨(us o).set i.toNat (vu (wv (x.getD i.toNat default - c))),1,0,false,true⟩],_,[((us o).get?Internal i.toNat = some (vu (o.getD i.toNat default)))],_⟩ (by kernel_rfl) (bc (beq_f (fun h => d10 (i9.1 h))) (bc (beq_f (fun h => d39 (i_dec.1 h))) (bc rfl (bc (i_dec.2 k4) (bc (i53.2 k54) (bc rfl b0)))))) (qc (el_map k54) q0) c0 (by (try rw [w56]);(try rw [w57]);(try rw [w59]);all_goals exact H)
 ·have H:=H.2 d2
  exact path_ret (G:=given kp114 [] []) 1000 [false] (k:=((atC (cd Tryz.f114) [1,1,1,1,1])).tail) (env':=[(4,AV.row 0 0)]) (L':=[⟨us o,1,0,false,true⟩]) (asm:=[(decide (i < n)) == false]) (eqs:=[]) (calls:=[]) (AV.row 0 0) (by kernel_rfl) (by kernel_rfl) (allB_cons (beq_f (fun h => d2 (i_dec.1 h))) allB_nil) allP_nil allC_nil (pq_weak (d:=(vf (us o))) (bs:=[0 == 0]) (by kernel_rfl) (by kernel_rfl) (allB_cons (beq_self_eq_true _) allB_nil) (by kernel_rfl) H)
theorem vByWord (fa:Bool) (a:List Int) (d:Int)  (dq:AV) (H :
  (0 <= (↑a.length:Int)) /\
  ((↑a.length:Int) * 4 <= 1099511627776) /\
  ((↑a.length:Int) <= 1099511627776) /\
  (-9223372036854775808 <= (↑a.length:Int) - 1 /\ (↑a.length:Int) - 1 <= 9223372036854775807) /\
  vByWordA_at (fa) (a) (List.replicate (↑a.length:Int).toNat (0:Int)) (d) (0) ((↑a.length:Int) - 1) (PureQ dq)) :
 vByWord_at fa a d (PureQ dq):=by
 unfold vByWord_at
 have w1:(us a).length = a.length:=List.length_map ..
 have i2:(decide (0 <= (↑(us a).length:Int))) = true ↔ (0 <= (↑a.length:Int)):=(by (try rw [w1]);all_goals exact i_dec)
 obtain ⟨k3,H⟩:=H
 have i4:(decide ((↑(us a).length:Int) <= (↑(us a).length:Int))) = true ↔ ((↑a.length:Int) <= (↑a.length:Int)):=(by (try rw [w1]);all_goals exact i_dec)
 have i5:(decide ((↑(us a).length:Int) * 4 <= 1099511627776)) = true ↔ ((↑a.length:Int) * 4 <= 1099511627776):=(by (try rw [w1]);all_goals exact i_dec)
 obtain ⟨k6,H⟩:=H
 have i7:(decide ((↑(us a).length:Int) <= 1099511627776)) = true ↔ ((↑a.length:Int) <= 1099511627776):=(by (try rw [w1]);all_goals exact i_dec)
 obtain ⟨k8,H⟩:=H
 have w9:List.replicate (↑a.length:Int).toNat (vu 0) = us (List.replicate (↑a.length:Int).toNat (0:Int)):=(lm_rep rfl)
 obtain ⟨k10,H⟩:=H
 have w11:wi ((↑a.length:Int) - 1) = (↑a.length:Int) - 1:=wI64 k10
 exact path_wp (G:=given kp133 [] []) 1000 [] ⟨(atC (cd Tryz.f133) [1,1,1,0,1,0,0]),[(0,AV.vec fa 1 (us a)),(1,vu d),(6,AV.row 0 0),(7,vw 0),(8,vi (wi ((↑(us a).length:Int) - 1)))],[⟨List.replicate (↑(us a).length:Int).toNat (vu 0),1,0,false,true⟩],[decide (0 <= (↑(us a).length:Int)),decide ((↑(us a).length:Int) <= (↑(us a).length:Int)),decide ((↑(us a).length:Int) * 4 <= 1099511627776),decide ((↑(us a).length:Int) <= 1099511627776)],[],_⟩ (by kernel_rfl) (bc (i2.2 k3) (bc (i4.2 (by omega)) (bc (i5.2 k6) (bc (i7.2 k8) b0)))) q0 c0 (by (try rw [w1]);(try rw [w9]);(try rw [w11]);all_goals exact H)
theorem vByWordA (fa:Bool) (a o:List Int) (d r i:Int)  (dq:AV) (H :
  ((i >= 0) -> (0 <= i) /\
   (i.toNat < a.length) /\
   (0 <= r * 1000000000 /\ r * 1000000000 <= 18446744073709551615) /\
   (0 <= a.getD i.toNat default /\ a.getD i.toNat default <= 18446744073709551615) /\
   (0 <= r * 1000000000 + a.getD i.toNat default /\ r * 1000000000 + a.getD i.toNat default <= 18446744073709551615) /\
   (0 <= d /\ d <= 18446744073709551615) /\
   (¬d = 0) /\
   (i.toNat < o.length) /\
   (0 <= (r * 1000000000 + a.getD i.toNat default).tdiv d /\ (r * 1000000000 + a.getD i.toNat default).tdiv d <= 18446744073709551615) /\
   (0 <= (r * 1000000000 + a.getD i.toNat default).tdiv d /\ (r * 1000000000 + a.getD i.toNat default).tdiv d <= 4294967295) /\
   (-9223372036854775808 <= i - 1 /\ i - 1 <= 9223372036854775807) /\
   vByWordA_at (fa) (a) (o.set i.toNat ((r * 1000000000 + a.getD i.toNat default).tdiv d)) (d) ((r * 1000000000 + a.getD i.toNat default).tmod d) (i - 1) (PureQ dq)) /\
  (¬(i >= 0) -> (0 <= r /\ r <= 4294967295) /\
   Weak (tu [vf (us o),AV.vec true 1 [vu r]]) dq)) :
 vByWordA_at fa a o d r i (PureQ dq):=by
 unfold vByWordA_at
 rcases xm (i >= 0) with d2 | d2
 ·have H:=H.1 d2
  obtain ⟨k4,H⟩:=H
  have w5:(us a).length = a.length:=List.length_map ..
  have i6:(decide (i.toNat < (us a).length)) = true ↔ (i.toNat < a.length):=(by (try rw [w5]);all_goals exact i_dec)
  obtain ⟨k7,H⟩:=H
  obtain ⟨k8,H⟩:=H
  have w9:wu (r * 1000000000) = r * 1000000000:=wU64 k8
  obtain ⟨k10,H⟩:=H
  have w11:wu (a.getD i.toNat default) = a.getD i.toNat default:=wU64 k10
  obtain ⟨k12,H⟩:=H
  have w13:wu (r * 1000000000 + a.getD i.toNat default) = r * 1000000000 + a.getD i.toNat default:=wU64 k12
  obtain ⟨k14,H⟩:=H
  have w15:wu d = d:=wU64 k14
  have i16:(!wu d == 0) = true ↔ (¬d = 0):=(by (try rw [w15]);all_goals exact i_neq)
  obtain ⟨k17,H⟩:=H
  have i18:(!wu d == 0) = true ↔ (¬d = 0):=(by (try rw [w15]);all_goals exact i_neq)
  have w20:(us o).length = o.length:=List.length_map ..
  have i21:(decide (i.toNat < (us o).length)) = true ↔ (i.toNat < o.length):=(by (try rw [w20]);all_goals exact i_dec)
  obtain ⟨k22,H⟩:=H
  obtain ⟨k23,H⟩:=H
  have w24:wu ((r * 1000000000 + a.getD i.toNat default).tdiv d) = (r * 1000000000 + a.getD i.toNat default).tdiv d:=wU64 k23
  obtain ⟨k25,H⟩:=H
  have w26:wv ((r * 1000000000 + a.getD i.toNat default).tdiv d) = (r * 1000000000 + a.getD i.toNat default).tdiv d:=wU32 k25
  have w27:(us o).set i.toNat (vu ((r * 1000000000 + a.getD i.toNat default).tdiv d)) = us (o.set i.toNat ((r * 1000000000 + a.getD i.toNat default).tdiv d)):=(lm_set rfl rfl)
  obtain ⟨k28,H⟩:=H
  have w29:wi (i - 1) = i - 1:=wI64 k28
  exact path_wp (G:=given kp133 [(6,5,.elem (vu (a.getD i.toNat default))),(7,12,.elem (vu (o.getD i.toNat default)))] []) 1000 [true] ⟨(atC (cd Tryz.f133) [1,1,1,0,1,0,0]),[(0,AV.vec fa 1 (us a)),(1,vu d),(6,AV.row 0 0),(7,vw ((wu (wu (r * 1000000000) + wu (a.getD i.toNat default))).tmod (wu d))),(8,vi (wi (i - 1)))],[⟨(us o).set i.toNat (vu (wv (wu ((wu (wu (r * 1000000000) + wu (a.getD i.toNat default))).tdiv (wu d))))),1,0,false,true⟩],_,[((us a).get?Internal i.toNat = some (vu (a.getD i.toNat default))),((us o).get?Internal i.toNat = some (vu (o.getD i.toNat default)))],_⟩ (by kernel_rfl) (bc (beq_t (i_dec.2 d2)) (bc (i_dec.2 k4) (bc (i6.2 k7) (bc (i16.2 k17) (bc (i18.2 k17) (bc rfl (bc (i_dec.2 k4) (bc (i21.2 k22) (bc rfl b0))))))))) (qc (el_map k7) (qc (el_map k22) q0)) c0 (by (try rw [w9]);(try rw [w11]);(try rw [w13]);(try rw [w15]);(try rw [w24]);(try rw [w26]);(try rw [w27]);(try rw [w29]);all_goals exact H)
 ·have H:=H.2 d2
  obtain ⟨k30,H⟩:=H
  have w31:wv r = r:=wU32 k30
  exact path_ret (G:=given kp133 [] []) 1000 [false] (k:=((atC (cd Tryz.f133) [1,1,1,1,1])).tail) (env':=[(4,AV.row 0 0),(5,AV.vec true 1 [vu (wv r)])]) (L':=[⟨us o,1,0,false,true⟩]) (asm:=[(decide (i >= 0)) == false]) (eqs:=[]) (calls:=[]) (tu [AV.row 0 0,AV.vec true 1 [vu (wv r)]]) (by kernel_rfl) (by kernel_rfl) (allB_cons (beq_f (fun h => d2 (i_dec.1 h))) allB_nil) allP_nil allC_nil (pq_weak (d:=(tu [vf (us o),AV.vec true 1 [vu (wv r)]])) (bs:=[0 == 0]) (by kernel_rfl) (by kernel_rfl) (allB_cons (beq_self_eq_true _) allB_nil) (by kernel_rfl) (by (try rw [w31]);all_goals exact H))
end Go.Av

namespace Go.Av
open Go.Proofs
theorem div_next (v i:Nat):v / 1000000000 ^ i / 1000000000 = v / 1000000000 ^ (i + 1):=by rw [Nat.div_div_eq_div_mul,Nat.pow_succ]
theorem fits_div {n v i:Nat} (h:Sp.fits n v) (hi:n <= i):v / 1000000000 ^ i = 0:=fits_top0.1 (fits_mono h hi)
theorem loopCompare {fa fb:Bool} {n v w:Nat} {dq:AV} (hn:n <= 1000000) (hq:AV.int .i64 (Sp.sgnI ((v:Int) - w)) = dq):∀ (k:Nat),k <= n -> v / 1000000000 ^ k = w / 1000000000 ^ k -> vCompareA_at fa fb (Sp.limN n v) (Sp.limN n w) ((k:Int) - 1) (PureQ dq)
 | 0,hk,he => by
  have e:v = w:=by simpa using he
  refine vCompareA _ _ _ _ _ _ ⟨fun h => by omega,fun _ => ?_⟩
  rw [<- hq,e]
  congr 1
  unfold Sp.sgnI
  rw [if_neg (by omega),if_neg (by omega)]
 | k + 1,hk,he => by
  have e1:(((k + 1:Nat):Int) - 1) = (k:Nat):=by omega
  rw [e1]
  refine vCompareA _ _ _ _ _ _ ⟨fun _ => ?_,fun h => by omega⟩
  rw [Int.toNat_natCast,limN_getD v (show k < n by omega),limN_getD w (show k < n by omega),limN_len,limN_len]
  have s1:=digit_split v k
  have s2:=digit_split w k
  rw [<- he] at s2
  refine ⟨by omega,by omega,by omega,fun h => ?_,fun h => ⟨fun h2 => ?_,fun h2 => ⟨by omega,?_⟩⟩⟩
  ·have:=digit_lt (v:=v) (w:=w) (i:=k) (by omega)
   rw [<- hq];congr 1
   unfold Sp.sgnI
   rw [if_pos (by omega)]
  ·have:=digit_lt (v:=w) (w:=v) (i:=k) (by omega)
   rw [<- hq];congr 1
   unfold Sp.sgnI
   rw [if_neg (by omega),if_pos (by omega)]
  ·exact loopCompare hn hq k (by omega) (by omega)
theorem compareN (fa fb:Bool) (n v m w:Nat) (h:Sp.short n /\ Sp.short m /\ Sp.fits n v /\ Sp.fits m w):Ev M1 (.pure 111 [usA fa (Sp.limN n v),usA fb (Sp.limN m w)]) (.int .i64 (Sp.sgnI ((v:Int) - w))) []:=by
 obtain ⟨h1,h2,h3,h4⟩:=h
 have c1:=fits_cnt.1 h3
 have c2:=fits_cnt.1 h4
 have h1':n <= 1000000:=h1
 have h2':m <= 1000000:=h2
 refine call111 (vCompare _ _ _ _ _ ⟨Sp.lim v,trimN fa n v ⟨h1,h3⟩,Sp.lim w,trimN fb m w ⟨h2,h4⟩,?_⟩)
 rw [lim_len,lim_len]
 refine ⟨fun h => ⟨fun k => ?_,fun k => ?_⟩,fun h => ⟨by omega,?_⟩⟩
 ·have:=cmp_len (v:=v) (w:=w) (by omega)
  congr 1
  unfold Sp.sgnI
  rw [if_pos (by omega)]
 ·have:=cmp_len (v:=w) (w:=v) (by omega)
  congr 1
  unfold Sp.sgnI
  rw [if_neg (by omega),if_pos (by omega)]
 ·have e:Sp.cnt w = Sp.cnt v:=by omega
  have hw:Sp.lim w = Sp.limN (Sp.cnt v) w:=by unfold Sp.lim;rw [e]
  rw [hw]
  refine loopCompare (by omega) rfl (Sp.cnt v) (Nat.le_refl _) ?_
  rw [fits_div (fits_self v) (Nat.le_refl _),fits_div (fits_self w) (by omega)]
theorem ev111 (fa fb:Bool) (v w:Int) (h:Sp.ok v /\ Sp.ok w):Ev M1 (.pure 111 [usA fa (Sp.limI v),usA fb (Sp.limI w)]) (.int .i64 (Sp.sgnI ((v.natAbs:Int) - w.natAbs))) []:=compareN fa fb _ _ _ _ ⟨h.1,h.2,fits_self _,fits_self _⟩
theorem loopPlus {fb fx:Bool} {n m v w:Nat} {dq:AV} (hn:n <= 1000000) (hmn:m <= n) (hv:Sp.fits n v) (hw:Sp.fits m w):∀ (k i:Nat) (o:List Int) (c:Nat) (r:Nat),i + k = n -> c <= 1 -> o.length <= 1000000 + i ->
  usA false (o ++ Sp.limN (k + 1) (v / 1000000000 ^ i + w / 1000000000 ^ i + c)) = dq -> vPlusA_at fb fx (Sp.limN m w) (Sp.limN n v) o c n i r (PureQ dq)
 | 0,i,o,c,r,hi,hc,hol,hq => by
  rw [fits_div hv (by omega),fits_div hw (by omega)] at hq
  have e:Sp.limN 1 (0 + 0 + c) = [(c:Int)]:=by simp [Sp.limN];omega
  rw [Nat.zero_add,e] at hq
  exact vPlusA _ _ _ _ _ _ _ _ _ _ ⟨fun h => by omega,fun _ => ⟨by omega,by rw [<- hq];exact .refl _⟩⟩
 | k + 1,i,o,c,r,hi,hc,hol,hq => by
  have gx:=limN_getD v (show i < n by omega)
  rw [plus_step,div_next,div_next] at hq
  have nxt:∀ (d:Int) (c':Nat),((v / 1000000000 ^ i % 1000000000 + w / 1000000000 ^ i % 1000000000 + c) % 1000000000:Nat) = d -> (v / 1000000000 ^ i % 1000000000 + w / 1000000000 ^ i % 1000000000 + c) / 1000000000 = c' -> c' <= 1 -> vPlusA_at fb fx (Sp.limN m w) (Sp.limN n v) (o ++ [d]) c' n ((i:Int) + 1) (r + 1) (PureQ dq):=by
   intro d c' hd hc' hc1
   refine loopPlus hn hmn hv hw k (i + 1) (o ++ [d]) c' (r + 1) (by omega) hc1 (by simp;omega) ?_
   rw [<- hq,hd,hc',List.append_assoc];rfl
  refine vPlusA _ _ _ _ _ _ _ _ _ _ ⟨fun _ => ?_,fun h => by omega⟩
  rw [Int.toNat_natCast,gx,limN_len,limN_len]
  by_cases him:i < m
  ·rw [limN_getD w him]
   generalize v / 1000000000 ^ i = V at nxt
   generalize w / 1000000000 ^ i = W at nxt
   refine ⟨by omega,by omega,by omega,fun _ => ⟨by omega,by omega,fun h => ⟨by omega,by omega,by omega,nxt _ 1 (by omega) (by omega) (by omega)⟩,fun h => ⟨by omega,by omega,nxt _ 0 (by omega) (by omega) (by omega)⟩⟩,fun h => by omega⟩
  ·have hW:=fits_div hw (show m <= i by omega)
   rw [hW] at nxt
   generalize v / 1000000000 ^ i = V at nxt
   refine ⟨by omega,by omega,by omega,fun h => by omega,fun _ => ⟨fun h => ⟨by omega,by omega,by omega,nxt _ 1 (by omega) (by omega) (by omega)⟩,fun h => ⟨by omega,by omega,nxt _ 0 (by omega) (by omega) (by omega)⟩⟩⟩
theorem ev113 (fa fb:Bool) (v w:Int) (h:Sp.ok v /\ Sp.ok w):Ev M1 (.pure 113 [usA fa (Sp.limI v),usA fb (Sp.limI w)]) (usA false (Sp.limN (max (Sp.cnt v.natAbs) (Sp.cnt w.natAbs) + 1) (v.natAbs + w.natAbs))) []:=by
 have h1:Sp.cnt v.natAbs <= 1000000:=h.1
 have h2:Sp.cnt w.natAbs <= 1000000:=h.2
 refine call113 (vPlus _ _ _ _ _ ?_)
 rw [limI_len,limI_len]
 refine ⟨fun k => ⟨by omega,by omega,by omega,by omega,?_⟩,fun k => ⟨by omega,by omega,by omega,by omega,?_⟩⟩
 ·have:=loopPlus (fb:=fa) (fx:=fb) (v:=w.natAbs) (w:=v.natAbs) (dq:=usA false (Sp.limN (max (Sp.cnt v.natAbs) (Sp.cnt w.natAbs) + 1) (v.natAbs + w.natAbs))) h2 (show Sp.cnt v.natAbs <= Sp.cnt w.natAbs by omega) (fits_self _) (fits_self _) (Sp.cnt w.natAbs) 0 [] 0 0 (by omega) (by omega) (by simp) (by
   rw [Nat.max_eq_right (by omega)];simp [Nat.add_comm])
  exact this
 ·have:=loopPlus (fb:=fb) (fx:=fa) (v:=v.natAbs) (w:=w.natAbs) (dq:=usA false (Sp.limN (max (Sp.cnt v.natAbs) (Sp.cnt w.natAbs) + 1) (v.natAbs + w.natAbs))) h1 (show Sp.cnt w.natAbs <= Sp.cnt v.natAbs by omega) (fits_self _) (fits_self _) (Sp.cnt v.natAbs) 0 [] 0 0 (by omega) (by omega) (by simp) (by
   rw [Nat.max_eq_left (by omega)];simp)
  exact this
theorem take_set_succ {o:List Int} {i:Nat} {d:Int} (h:i < o.length):(o.set i d).take (i + 1) = o.take i ++ [d]:=by
 rw [List.take_add_one,List.take_set_of_le (Nat.le_refl _),List.getElem?_set_self h];rfl
theorem loopMinus {fb fx:Bool} {n m v w:Nat} {dq:AV} (hn:n <= 1000000) (hv:Sp.fits n v) (hw:Sp.fits m w) (hm:m <= 1000000):∀ (k i:Nat) (o:List Int) (c:Nat),i + k = n -> c <= 1 -> o.length = n -> w / 1000000000 ^ i + c <= v / 1000000000 ^ i ->
  usA false (o.take i ++ Sp.limN k (v / 1000000000 ^ i - w / 1000000000 ^ i - c)) = dq -> vMinusA_at fb fx (Sp.limN m w) (Sp.limN n v) o c n i (PureQ dq)
 | 0,i,o,c,hi,hc,hol,hle,hq => by
  rw [List.take_of_length_le (by omega),Sp.limN,List.append_nil] at hq
  exact vMinusA _ _ _ _ _ _ _ _ _ ⟨fun h => by omega,fun _ => by rw [<- hq];exact .refl _⟩
 | k + 1,i,o,c,hi,hc,hol,hle,hq => by
  have gx:=limN_getD v (show i < n by omega)
  obtain ⟨s1,s2⟩:=minus_step k (v / 1000000000 ^ i) (w / 1000000000 ^ i) c hle hc
  rw [div_next,div_next] at s1 s2
  have nxt1:v / 1000000000 ^ i % 1000000000 < w / 1000000000 ^ i % 1000000000 + c -> ∀ d:Int,((v / 1000000000 ^ i % 1000000000 + 1000000000 - (w / 1000000000 ^ i % 1000000000 + c):Nat):Int) = d -> vMinusA_at fb fx (Sp.limN m w) (Sp.limN n v) (o.set i d) (1:Nat) n ((i:Int) + 1) (PureQ dq):=by
   intro hlt d hd
   obtain ⟨t1,t2⟩:=s1 hlt
   refine loopMinus hn hv hw hm k (i + 1) (o.set i d) 1 (by omega) (by omega) (by simpa using hol) t2 ?_
   rw [take_set_succ (by omega),<- hq,t1,hd,List.append_assoc];rfl
  have nxt0:¬v / 1000000000 ^ i % 1000000000 < w / 1000000000 ^ i % 1000000000 + c -> ∀ d:Int,((v / 1000000000 ^ i % 1000000000 - (w / 1000000000 ^ i % 1000000000 + c):Nat):Int) = d -> vMinusA_at fb fx (Sp.limN m w) (Sp.limN n v) (o.set i d) (0:Nat) n ((i:Int) + 1) (PureQ dq):=by
   intro hlt d hd
   obtain ⟨t1,t2⟩:=s2 hlt
   refine loopMinus hn hv hw hm k (i + 1) (o.set i d) 0 (by omega) (by omega) (by simpa using hol) t2 ?_
   rw [take_set_succ (by omega),<- hq,t1,hd,List.append_assoc];rfl
  refine vMinusA _ _ _ _ _ _ _ _ _ ⟨fun _ => ?_,fun h => by omega⟩
  rw [Int.toNat_natCast,gx,limN_len,limN_len]
  by_cases him:i < m
  ·rw [limN_getD w him]
   generalize v / 1000000000 ^ i = V at nxt0 nxt1
   generalize w / 1000000000 ^ i = W at nxt0 nxt1
   exact ⟨by omega,by omega,fun _ => ⟨by omega,by omega,fun h => ⟨by omega,by omega,by omega,by omega,nxt1 (by omega) _ (by omega)⟩,fun h => ⟨by omega,by omega,by omega,nxt0 (by omega) _ (by omega)⟩⟩,fun h => by omega⟩
  ·have hW:=fits_div hw (show m <= i by omega)
   rw [hW] at nxt0 nxt1
   generalize v / 1000000000 ^ i = V at nxt0 nxt1
   exact ⟨by omega,by omega,fun h => by omega,fun _ => ⟨fun h => ⟨by omega,by omega,by omega,by omega,nxt1 (by omega) _ (by omega)⟩,fun h => ⟨by omega,by omega,by omega,nxt0 (by omega) _ (by omega)⟩⟩⟩
theorem ev114 (fa fb:Bool) (v w:Int) (h:Sp.ok v /\ Sp.ok w /\ w.natAbs <= v.natAbs):Ev M1 (.pure 114 [usA fa (Sp.limI v),usA fb (Sp.limI w)]) (usA false (Sp.limN (Sp.cnt v.natAbs) (v.natAbs - w.natAbs))) []:=by
 obtain ⟨h1,h2,h3⟩:=h
 have h1':Sp.cnt v.natAbs <= 1000000:=h1
 refine call114 (vMinus _ _ _ _ _ ?_)
 rw [limI_len,Int.toNat_natCast]
 refine ⟨by omega,by omega,by omega,?_⟩
 have:=loopMinus (fb:=fb) (fx:=fa) (v:=v.natAbs) (w:=w.natAbs) (dq:=usA false (Sp.limN (Sp.cnt v.natAbs) (v.natAbs - w.natAbs))) h1' (fits_self _) (fits_self _) h2 (Sp.cnt v.natAbs) 0 (List.replicate (Sp.cnt v.natAbs) 0) 0 (by omega) (by omega) (by simp) (by simpa using h3) (by simp)
 exact this
theorem drop_set_self {o:List Int} {i:Nat} {d:Int} (h:i < o.length):(o.set i d).drop i = d :: o.drop (i + 1):=by
 rw [drop_getD (by simpa using h),List.drop_set_of_lt (by omega)]
 congr 1
 rw [List.getD_eq_getElem?_getD,List.getElem?_set_self h];rfl
theorem loopByWord {fa:Bool} {n v d:Nat} {dq:AV} (hn:n <= 1000000) (hd:0 < d /\ d < 1000000000) (hq:AV.tup [usA false (Sp.limN n (v / d)),usA false [((v % d:Nat):Int)]] = dq):∀ (i k:Nat) (o:List Int),i + k = n -> o.length = n -> o.drop i = Sp.limN k (v / 1000000000 ^ i / d) -> vByWordA_at fa (Sp.limN n v) o d ((v / 1000000000 ^ i % d:Nat):Int) ((i:Int) - 1) (PureQ dq)
 | 0,k,o,hi,hol,ho => by
  have hk:k = n:=by omega
  subst hk
  rw [List.drop_zero] at ho
  simp only [Nat.pow_zero,Nat.div_one] at ho ⊢
  have hm:=Nat.mod_lt v hd.1
  refine vByWordA _ _ _ _ _ _ _ ⟨fun h => by omega,fun _ => ⟨by omega,?_⟩⟩
  rw [ho,<- hq]
  refine .tup _ _ rfl fun i x y hx hy => ?_
  match i with
  | 0 => simp at hx hy;subst hx;subst hy;exact .refl _
  | 1 => simp at hx hy;subst hx;subst hy;exact weak_vec _ _ _
  | i + 2 => simp at hx
 | i + 1,k,o,hi,hol,ho => by
  have gx:=limN_getD v (show i < n by omega)
  have e1:(((i + 1:Nat):Int) - 1) = (i:Nat):=by omega
  have hs:=digit_split v i
  have hx:v / 1000000000 ^ i % 1000000000 < 1000000000:=Nat.mod_lt _ (by omega)
  obtain ⟨b1,b2,b3⟩:=byWord_step (v / 1000000000 ^ (i + 1)) (v / 1000000000 ^ i % 1000000000) d hx hd.1
  have hs':v / 1000000000 ^ i % 1000000000 + 1000000000 * (v / 1000000000 ^ (i + 1)) = v / 1000000000 ^ i:=by omega
  rw [hs'] at b1 b2
  have hr:=Nat.mod_lt (v / 1000000000 ^ (i + 1)) hd.1
  rw [e1]
  refine vByWordA _ _ _ _ _ _ _ ⟨fun _ => ?_,fun h => by omega⟩
  rw [Int.toNat_natCast,gx,limN_len]
  have c1:((v / 1000000000 ^ (i + 1) % d:Nat):Int) * 1000000000 + ((v / 1000000000 ^ i % 1000000000:Nat):Int) = ((v / 1000000000 ^ (i + 1) % d * 1000000000 + v / 1000000000 ^ i % 1000000000:Nat):Int):=by omega
  obtain ⟨q0,hq0⟩:∃ q0,q0 = (v / 1000000000 ^ (i + 1) % d * 1000000000 + v / 1000000000 ^ i % 1000000000) / d:=⟨_,rfl⟩
  have c2:(((v / 1000000000 ^ (i + 1) % d * 1000000000 + v / 1000000000 ^ i % 1000000000:Nat):Int)).tdiv d = (q0:Nat):=by rw [hq0];exact (Int.ofNat_tdiv _ _).symm
  have c3:(((v / 1000000000 ^ (i + 1) % d * 1000000000 + v / 1000000000 ^ i % 1000000000:Nat):Int)).tmod d = ((v / 1000000000 ^ i % d:Nat):Int):=by rw [b2];exact (Int.ofNat_tmod _ _).symm
  rw [<- hq0] at b1 b3
  rw [c1,c2,c3]
  have main:vByWordA_at fa (Sp.limN n v) (o.set i (q0:Nat)) d ((v / 1000000000 ^ i % d:Nat):Int) ((i:Int) - 1) (PureQ dq):=by
   refine loopByWord hn hd hq i (k + 1) _ (by omega) (by simpa using hol) ?_
   rw [drop_set_self (by omega),ho,limN_succ,b1]
   generalize v / 1000000000 ^ (i + 1) / d = z
   have e2:(1000000000 * z + q0) % 1000000000 = q0:=by omega
   have e3:(1000000000 * z + q0) / 1000000000 = z:=by omega
   rw [e2,e3]
  have hx':((v / 1000000000 ^ i % 1000000000:Nat):Int) < 1000000000:=by omega
  have hr':((v / 1000000000 ^ (i + 1) % d:Nat):Int) < d:=by exact_mod_cast hr
  refine ⟨by omega,by omega,?_,by omega,?_,by omega,by omega,by omega,by omega,by omega,by omega,main⟩
  ·generalize v / 1000000000 ^ (i + 1) % d = R at hr'
   omega
  ·generalize v / 1000000000 ^ (i + 1) % d = R at hr'
   omega
theorem byWordN (fa:Bool) (n v d:Nat) (h:Sp.short n /\ Sp.fits n v /\ 0 < d /\ d < 1000000000):Ev M1 (.pure 133 [usA fa (Sp.limN n v),.int .u32 d]) (.tup [usA false (Sp.limN n (v / d)),usA false [((v % d:Nat):Int)]]) []:=by
 obtain ⟨h1,h2,h3,h4⟩:=h
 have h1':n <= 1000000:=h1
 refine call133 (vByWord _ _ _ _ ?_)
 rw [limN_len,Int.toNat_natCast]
 refine ⟨by omega,by omega,by omega,by omega,?_⟩
 have e0:=fits_div h2 (Nat.le_refl n)
 have:=loopByWord (fa:=fa) (v:=v) (dq:=.tup [usA false (Sp.limN n (v / d)),usA false [((v % d:Nat):Int)]]) h1' ⟨h3,h4⟩ rfl n 0 (List.replicate n 0) (by omega) (by simp) (by simp [Sp.limN])
 rw [e0,Nat.zero_mod] at this
 exact this
end Go.Av

namespace Go.Av
open Go.Proofs
namespace Sp
def zs (n:Nat):List Int:=List.replicate n 0
end Sp
theorem limN_more:∀ (n k v:Nat),Sp.fits n v -> Sp.limN (n + k) v = Sp.limN n v ++ Sp.zs k
 | n,0,v,_ => by simp [Sp.zs]
 | n,k + 1,v,h => by
  rw [<- Nat.add_assoc,limN_snoc,limN_more n k v h,List.append_assoc]
  congr 1
  have e:v / 1000000000 ^ (n + k) = 0:=fits_div h (by omega)
  rw [e]
  unfold Sp.zs
  rw [<- List.replicate_append_replicate (n:=k) (m:=1)];rfl
theorem loopTimesB {fb fx fy:Bool} {b x:List Int} {m w xd n i K:Nat} {Q0:List Int} {Q:AV -> Heap -> Prop} (hm:m <= 1000000) (hi:i <= 1000000) (hK:K <= 1000000) (hb:b.length = m) (hx:xd < 1000000000) (hw:Sp.fits m w)
  (hq:∀ o:List Int,o = Q0 ++ Sp.zs K -> vTimesA_at fb fx b x o n ((i:Int) + 1) Q) :
  ∀ (r j:Nat) (o:List Int) (U c:Nat),j + r = m -> o.length = i + m + 1 + K -> c < 1000000000 -> Sp.fits r U -> o.drop (i + j) = Sp.limN r U ++ Sp.zs (K + 1) -> o.take (i + j) ++ Sp.limN (r + 1) (U + xd * (w / 1000000000 ^ j) + c) = Q0 ->
   vTimesB_at fb fx fy b x (Sp.limN m w) o i xd c n i m j Q
 | 0,j,o,U,c,hj,hol,hc,hU,ho,hQ => by
  have hU0:=fits_zero.1 hU
  have hj':j = m:=by omega
  subst hj'
  rw [fits_div hw (Nat.le_refl _),hU0,Nat.mul_zero] at hQ
  have e:Sp.limN 1 (0 + 0 + c) = [(c:Int)]:=by simp [Sp.limN];omega
  rw [Nat.zero_add,e] at hQ
  rw [hU0,Sp.limN,List.nil_append] at ho
  refine vTimesB _ _ _ _ _ _ _ _ _ _ _ _ _ _ _ ⟨fun h => by omega,fun _ => ?_⟩
  rw [hb]
  have e1:((i:Int) + (j:Int)).toNat = i + j:=by omega
  rw [e1]
  refine ⟨by omega,by omega,by omega,by omega,by omega,hq _ ?_⟩
  have ho2:o.drop (i + j + 1) = Sp.zs K:=by
   rw [show i + j + 1 = 1 + (i + j) by omega,Nat.add_comm 1,<- List.drop_drop,ho];rfl
  rw [<- hQ,<- ho2]
  rw [List.set_eq_take_append_cons_drop,if_pos (by omega),List.append_assoc];rfl
 | r + 1,j,o,U,c,hj,hol,hc,hU,ho,hQ => by
  have gy:=limN_getD w (show j < m by omega)
  have e1:((i:Int) + (j:Int)).toNat = i + j:=by omega
  have hod:=drop_getD (d:=o) (i:=i + j) (by omega)
  rw [ho,limN_succ,List.cons_append] at hod
  obtain ⟨g1,g2⟩:=List.cons.inj hod
  have hu:U % 1000000000 < 1000000000:=Nat.mod_lt _ (by omega)
  have hy:w / 1000000000 ^ j % 1000000000 < 1000000000:=Nat.mod_lt _ (by omega)
  obtain ⟨w1,w2⟩:=times_word hu hx hy hc
  rw [times_step,div_next] at hQ
  refine vTimesB _ _ _ _ _ _ _ _ _ _ _ _ _ _ _ ⟨fun _ => ?_,fun h => by omega⟩
  rw [Int.toNat_natCast,e1,gy,limN_len,<- g1]
  have c1:((xd:Nat):Int) * ((w / 1000000000 ^ j % 1000000000:Nat):Int) = ((xd * (w / 1000000000 ^ j % 1000000000):Nat):Int):=(Int.natCast_mul _ _).symm
  rw [c1]
  have main:∀ d c':Int,d = (((U % 1000000000 + xd * (w / 1000000000 ^ j % 1000000000) + c) % 1000000000:Nat):Int) -> c' = (((U % 1000000000 + xd * (w / 1000000000 ^ j % 1000000000) + c) / 1000000000:Nat):Int) ->
    vTimesB_at fb fx fy b x (Sp.limN m w) (o.set (i + j) d) i xd c' n i m ((j:Int) + 1) Q:=by
   intro d c' hd hc'
   subst hc'
   refine loopTimesB hm hi hK hb hx hw hq r (j + 1) _ (U / 1000000000) _ (by omega) (by simpa using hol) w2 (fits_succ.1 hU) ?_ ?_
   ·rw [show i + (j + 1) = i + j + 1 by omega,List.drop_set_of_lt (by omega),<- g2]
   ·rw [show i + (j + 1) = i + j + 1 by omega,take_set_succ (by omega),<- hQ,hd,List.append_assoc];rfl
  generalize xd * (w / 1000000000 ^ j % 1000000000) = p at w1 w2 main
  have hu':((U % 1000000000:Nat):Int) < 1000000000:=by omega
  generalize U % 1000000000 = u at w1 w2 main hu'
  have c2:((u:Nat):Int) + ((p:Nat):Int) + ((c:Nat):Int) = ((u + p + c:Nat):Int):=by omega
  have c3:(((u + p + c:Nat):Int)).tdiv 1000000000 = (((u + p + c) / 1000000000:Nat):Int):=by
   rw [Int.tdiv_eq_ediv_of_nonneg (by omega)];omega
  have c4:(((u + p + c:Nat):Int)).tmod 1000000000 = (((u + p + c) % 1000000000:Nat):Int):=by
   rw [Int.tmod_eq_emod_of_nonneg (by omega)];omega
  rw [c2,c3,c4]
  exact ⟨by omega,by omega,by omega,by omega,by omega,by omega,by omega,by omega,by omega,by omega,by omega,by omega,by omega,by omega,main _ _ rfl rfl⟩
theorem loopTimesA {fb fx:Bool} {n m v w:Nat} {R:List Int} {Q:AV -> Heap -> Prop} (hn:n <= 1000000) (hm:m <= 1000000) (hv:Sp.fits n v) (hw:Sp.fits m w) (hq:Q (.row 0 0) [⟨R.map (.int .u32),1,0,false,true⟩]) :
  ∀ (k i:Nat) (o:List Int) (U:Nat),i + k = n -> o.length = n + m -> Sp.fits m U -> o.drop i = Sp.limN m U ++ Sp.zs k -> o.take i ++ Sp.limN (m + k) (U + v / 1000000000 ^ i * w) = R -> vTimesA_at fb fx (Sp.limN m w) (Sp.limN n v) o n i Q
 | 0,i,o,U,hi,hol,hU,ho,hR => by
  have hi':i = n:=by omega
  subst hi'
  rw [fits_div hv (Nat.le_refl _),Nat.zero_mul,Nat.add_zero,Nat.add_zero] at hR
  have e:Sp.limN m U ++ Sp.zs 0 = Sp.limN m U:=by simp [Sp.zs]
  rw [e] at ho
  rw [<- ho,List.take_append_drop] at hR
  exact vTimesA _ _ _ _ _ _ _ _ ⟨fun h => by omega,fun _ => by rw [hR];exact hq⟩
 | k + 1,i,o,U,hi,hol,hU,ho,hR => by
  have gx:=limN_getD v (show i < n by omega)
  have hx:v / 1000000000 ^ i % 1000000000 < 1000000000:=Nat.mod_lt _ (by omega)
  refine vTimesA _ _ _ _ _ _ _ _ ⟨fun _ => ?_,fun h => by omega⟩
  rw [Int.toNat_natCast,gx,limN_len,limN_len]
  refine ⟨by omega,by omega,?_⟩
  have hf:Sp.fits (m + 1) (U + v / 1000000000 ^ i % 1000000000 * w):=fits_mul rfl hU hw hx
  have hP:1000000000 ^ m = 1000000000 ^ m:=rfl
  have step:U + v / 1000000000 ^ i * w = U + v / 1000000000 ^ i % 1000000000 * w + 1000000000 * (v / 1000000000 ^ (i + 1) * w):=by
   have hs:=digit_split v i
   generalize v / 1000000000 ^ (i + 1) = V' at hs ⊢
   generalize v / 1000000000 ^ i % 1000000000 = d at hs ⊢
   rw [hs];grind
  refine loopTimesB (Q0:=o.take i ++ Sp.limN (m + 1) (U + v / 1000000000 ^ i % 1000000000 * w)) (K:=k) hm (by omega) (by omega) (limN_len _ _) hx hw (fun o' ho' => ?_) m 0 o U 0 (by omega) (by omega) (by omega) hU ho (by simp)
  have hlen:(o.take i).length = i:=by rw [List.length_take];omega
  refine loopTimesA hn hm hv hw hq k (i + 1) o' ((U + v / 1000000000 ^ i % 1000000000 * w) / 1000000000) (by omega) ?_ (fits_succ.1 hf) ?_ ?_
  ·rw [ho']
   simp only [List.length_append,hlen,limN_len,Sp.zs,List.length_replicate]
   omega
  ·rw [ho',limN_succ]
   have e1:i + 1 = (o.take i ++ [(((U + v / 1000000000 ^ i % 1000000000 * w) % 1000000000:Nat):Int)]).length:=by simp [hlen]
   rw [e1]
   have e2:o.take i ++ ((((U + v / 1000000000 ^ i % 1000000000 * w) % 1000000000:Nat):Int) :: Sp.limN m ((U + v / 1000000000 ^ i % 1000000000 * w) / 1000000000)) ++ Sp.zs k
     = (o.take i ++ [(((U + v / 1000000000 ^ i % 1000000000 * w) % 1000000000:Nat):Int)]) ++ (Sp.limN m ((U + v / 1000000000 ^ i % 1000000000 * w) / 1000000000) ++ Sp.zs k):=by simp
   rw [e2,List.drop_left]
  ·rw [<- hR,ho',limN_succ,show m + (k + 1) = (m + k) + 1 by omega,limN_succ (m + k)]
   have e1:i + 1 = (o.take i ++ [(((U + v / 1000000000 ^ i % 1000000000 * w) % 1000000000:Nat):Int)]).length:=by simp [hlen]
   have e2:o.take i ++ ((((U + v / 1000000000 ^ i % 1000000000 * w) % 1000000000:Nat):Int) :: Sp.limN m ((U + v / 1000000000 ^ i % 1000000000 * w) / 1000000000)) ++ Sp.zs k
     = (o.take i ++ [(((U + v / 1000000000 ^ i % 1000000000 * w) % 1000000000:Nat):Int)]) ++ (Sp.limN m ((U + v / 1000000000 ^ i % 1000000000 * w) / 1000000000) ++ Sp.zs k):=by simp
   rw [e2,e1,List.take_left,List.append_assoc]
   have e3:(U + v / 1000000000 ^ i * w) % 1000000000 = (U + v / 1000000000 ^ i % 1000000000 * w) % 1000000000:=by rw [step];omega
   have e4:(U + v / 1000000000 ^ i * w) / 1000000000 = (U + v / 1000000000 ^ i % 1000000000 * w) / 1000000000 + v / 1000000000 ^ (i + 1) * w:=by rw [step];omega
   rw [e3,e4,<- e1];rfl
theorem timesQ {Q:AV -> Heap -> Prop} (fa fb:Bool) (n v m w:Nat) (h:Sp.short n /\ Sp.short m /\ Sp.fits n v /\ Sp.fits m w) (hq:Q (.row 0 0) [⟨(Sp.limN (n + m) (v * w)).map (.int .u32),1,0,false,true⟩]):vTimes_at fa fb (Sp.limN n v) (Sp.limN m w) Q:=by
 obtain ⟨h1,h2,h3,h4⟩:=h
 have h1':n <= 1000000:=h1
 have h2':m <= 1000000:=h2
 refine vTimes _ _ _ _ _ ?_
 rw [limN_len,limN_len]
 have e:((n:Int) + (m:Int)).toNat = n + m:=by omega
 rw [e]
 refine ⟨by omega,by omega,by omega,by omega,?_⟩
 have:=loopTimesA (fb:=fb) (fx:=fa) (R:=Sp.limN (n + m) (v * w)) (Q:=Q) h1' h2' h3 h4 hq n 0 (List.replicate (n + m) 0) 0 (by omega) (by simp) (fits_cnt.2 (by rw [cnt_zero];omega)) (by
  rw [List.drop_zero,limN_zero];unfold Sp.zs;rw [List.replicate_append_replicate,Nat.add_comm]) (by simp [Nat.add_comm])
 exact this
theorem timesN (fa fb:Bool) (n v m w:Nat) (h:Sp.short n /\ Sp.short m /\ Sp.fits n v /\ Sp.fits m w):Ev M1 (.pure 112 [usA fa (Sp.limN n v),usA fb (Sp.limN m w)]) (usA false (Sp.limN (n + m) (v * w))) []:=
 call112 (timesQ fa fb n v m w h ⟨_,rfl,⟨rfl,trivial⟩,rfl,.refl _⟩)
theorem evf112 (fa fb:Bool) (v:Nat) (s:Int) (h:Sp.short (Sp.cnt v) /\ 0 <= s /\ s < 1000000000):Ev M1 (.own 112 [usA fa (Sp.lim v),.vec fb 1 [.int .u32 s]] []) (.row 0 0) [⟨(Sp.limN (Sp.cnt v + 1) (v * s.toNat)).map (.int .u32),1,0,false,true⟩]:=by
 have e:[AV.int .u32 s] = (Sp.limN 1 s.toNat).map (.int .u32):=by
  simp only [Sp.limN,List.map_cons,List.map_nil]
  have:((s.toNat % 1000000000:Nat):Int) = s:=by omega
  rw [this]
 rw [e]
 exact owncall112 (timesQ fa fb _ v 1 s.toNat ⟨h.1,by unfold Sp.short;omega,fits_self _,by unfold Sp.fits;omega⟩ ⟨rfl,rfl⟩)
theorem ev112 (fa fb:Bool) (v w:Int) (h:Sp.ok v /\ Sp.ok w):Ev M1 (.pure 112 [usA fa (Sp.limI v),usA fb (Sp.limI w)]) (usA false (Sp.limN (Sp.cnt v.natAbs + Sp.cnt w.natAbs) (v.natAbs * w.natAbs))) []:=timesN fa fb _ _ _ _ ⟨h.1,h.2,fits_self _,fits_self _⟩
theorem fits_prod {n m v w:Nat} (hv:Sp.fits n v) (hw:Sp.fits m w):Sp.fits (n + m) (v * w):=by
 unfold Sp.fits at *
 rw [Nat.pow_add]
 exact Nat.mul_lt_mul'' hv hw
theorem fits_sum {n v w:Nat} (hv:Sp.fits n v) (hw:Sp.fits n w):Sp.fits (n + 1) (v + w):=by
 unfold Sp.fits at *
 rw [Nat.pow_succ];omega
end Go.Av

namespace Go.Av
open Go.Proofs
set_option maxRecDepth 100000
def fi72:Fi:=⟨15,[.cell 2 34]⟩
def kp72:List (Nat × List Nat):=[(0,[0,2]),(1,[0,2,3]),(2,[0,2,3,7]),(3,[0,2,3]),(4,[2])]
def fi76:Fi:=⟨24,[.tmp 4]⟩
def kp76:List (Nat × List Nat):=[(0,[2,3]),(1,[2,3,9]),(2,[11]),(3,[4]),(4,[4]),(5,[2,3,13]),(6,[4]),(7,[4])]
def fi77:Fi:=⟨16,[.cell 4 34]⟩
def kp77:List (Nat × List Nat):=[(0,[2,3,4]),(1,[4])]
def fi78:Fi:=⟨34,[.cell 4 34]⟩
def kp78:List (Nat × List Nat):=[(0,[2,3,4]),(1,[2,3,4,9]),(2,[4]),(3,[2,3,4,23]),(4,[2,3,4]),(5,[4])]
def fi93:Fi:=⟨10,[.cell 2 34]⟩
def kp93:List (Nat × List Nat):=[(0,[1,2]),(1,[2])]
def fi127:Fi:=⟨30,[.tmp 2,.tmp 3]⟩
def kp127:List (Nat × List Nat):=[(0,[1]),(1,[1,6]),(2,[1,6,7]),(3,[2,3]),(4,[1,6,9]),(5,[2,3]),(6,[1,16]),(7,[2,3]),(8,[2,3])]
def fi136:Fi:=⟨18,[.cell 4 34]⟩
def kp136:List (Nat × List Nat):=[(0,[2,3,4]),(1,[2,3,4]),(2,[4])]
def vWord_at (fa s:Bool) (a:List Int) (Q:AV -> Heap -> Prop):Prop:=Wp M1 (.run fi127 (atC (cd Tryz.f127) []) [(0,.agg [.bool s,.vec fa 1 (a.map (.int .u32))])] []) Q
def vFromInt64_at (n:Int) (Q:AV -> Heap -> Prop):Prop:=Wp M1 (.run fi72 (atC (cd Tryz.f72) []) [(0,.int .i64 n)] []) Q
def vSub_at (fa fb:Bool) (a b:Int) (Q:AV -> Heap -> Prop):Prop:=Wp M1 (.run fi136 (atC (cd Tryz.f136) []) [(0,bigA fa a),(1,bigA fb b)] []) Q
def vAdd_at (fa fb:Bool) (a b:Int) (Q:AV -> Heap -> Prop):Prop:=Wp M1 (.run fi78 (atC (cd Tryz.f78) []) [(0,bigA fa a),(1,bigA fb b)] []) Q
def vMul_at (fa fb:Bool) (a b:Int) (Q:AV -> Heap -> Prop):Prop:=Wp M1 (.run fi77 (atC (cd Tryz.f77) []) [(0,bigA fa a),(1,bigA fb b)] []) Q
def vNeg0_at (fa:Bool) (Q:AV -> Heap -> Prop):Prop:=Wp M1 (.run fi93 (atC (cd Tryz.f93) []) [(0,.agg [.bool false,.vec fa 1 []])] []) Q
def vNeg_at (s fa:Bool) (x:Int) (a:List Int) (Q:AV -> Heap -> Prop):Prop:=Wp M1 (.run fi93 (atC (cd Tryz.f93) []) [(0,.agg [.bool s,.vec fa 1 ((x :: a).map (.int .u32))])] []) Q
def vCmp_at (fa fb:Bool) (a b:Int) (Q:AV -> Heap -> Prop):Prop:=Wp M1 (.run fi76 (atC (cd Tryz.f76) []) [(0,bigA fa a),(1,bigA fb b)] []) Q
theorem call72 {args:List AV} {d:AV} (h:wc M1 fi72 Tryz.f72 args d):Ev M1 (.pure 72 args) d []:=pcl _ _ (by kernel_rfl) h
theorem call76 {args:List AV} {d:AV} (h:wc M1 fi76 Tryz.f76 args d):Ev M1 (.pure 76 args) d []:=pcl _ _ (by kernel_rfl) h
theorem call77 {args:List AV} {d:AV} (h:wc M1 fi77 Tryz.f77 args d):Ev M1 (.pure 77 args) d []:=pcl _ _ (by kernel_rfl) h
theorem call78 {args:List AV} {d:AV} (h:wc M1 fi78 Tryz.f78 args d):Ev M1 (.pure 78 args) d []:=pcl _ _ (by kernel_rfl) h
theorem call93 {args:List AV} {d:AV} (h:wc M1 fi93 Tryz.f93 args d):Ev M1 (.pure 93 args) d []:=pcl _ _ (by kernel_rfl) h
theorem call127 {args:List AV} {d:AV} (h:wc M1 fi127 Tryz.f127 args d):Ev M1 (.pure 127 args) d []:=pcl _ _ (by kernel_rfl) h
theorem call136 {args:List AV} {d:AV} (h:wc M1 fi136 Tryz.f136 args d):Ev M1 (.pure 136 args) d []:=pcl _ _ (by kernel_rfl) h
theorem vWord (fa s:Bool) (a:List Int)  (dq:AV) (H :
  (((↑a.length:Int) = 0) -> tu [vw 0,vb true] = dq) /\
  (¬((↑a.length:Int) = 0) -> (((↑a.length:Int) = 1) -> (0 < a.length) /\
    (0 <= a.getD 0 default /\ a.getD 0 default <= 18446744073709551615) /\
    tu [vw (a.getD 0 default),vb true] = dq) /\
   (¬((↑a.length:Int) = 1) -> (((↑a.length:Int) = 2) -> (1 < a.length) /\
     (0 < a.length) /\
     (0 <= a.getD 1 default /\ a.getD 1 default <= 18446744073709551615) /\
     (0 <= a.getD 1 default * 1000000000 /\ a.getD 1 default * 1000000000 <= 18446744073709551615) /\
     (0 <= a.getD 0 default /\ a.getD 0 default <= 18446744073709551615) /\
     (0 <= a.getD 1 default * 1000000000 + a.getD 0 default /\ a.getD 1 default * 1000000000 + a.getD 0 default <= 18446744073709551615) /\
     tu [vw (a.getD 1 default * 1000000000 + a.getD 0 default),vb true] = dq) /\
    (¬((↑a.length:Int) = 2) -> tu [vw 0,vb false] = dq)))) :
 vWord_at fa s a (PureQ dq):=by
 unfold vWord_at
 have w1:(us a).length = a.length:=List.length_map ..
 have i2:((↑(us a).length:Int) == 0) = true ↔ ((↑a.length:Int) = 0):=(by (try rw [w1]);all_goals exact i_eq)
 rcases xm ((↑a.length:Int) = 0) with d3 | d3
 ·have H:=H.1 d3
  exact path_re (G:=given kp127 [] []) 1000 [true] (tu [vw 0,vb true]) (by kernel_rfl) (bc rfl (bc (beq_t (i2.2 d3)) b0)) q0 c0 H
 ·have H:=H.2 d3
  have i4:((↑(us a).length:Int) == 1) = true ↔ ((↑a.length:Int) = 1):=(by (try rw [w1]);all_goals exact i_eq)
  rcases xm ((↑a.length:Int) = 1) with d5 | d5
  ·have H:=H.1 d5
   have i6:(decide (0 < (us a).length)) = true ↔ (0 < a.length):=(by (try rw [w1]);all_goals exact i_dec)
   obtain ⟨k7,H⟩:=H
   obtain ⟨k8,H⟩:=H
   have w9:wu (a.getD 0 default) = a.getD 0 default:=wU64 k8
   exact path_re (G:=given kp127 [(5,3,.elem (vu (a.getD 0 default)))] []) 1000 [false,true] (eqs:=[((us a).get?Internal 0 = some (vu (a.getD 0 default)))]) (tu [vw (wu (a.getD 0 default)),vb true]) (by kernel_rfl) (bc rfl (bc (beq_f (fun h => d3 (i2.1 h))) (bc (beq_t (i4.2 d5)) (bc rfl (bc rfl (bc (i6.2 k7) b0)))))) (qc (el_map k7) q0) c0 (by (try rw [w9]);all_goals exact H)
  ·have H:=H.2 d5
   have i10:((↑(us a).length:Int) == 2) = true ↔ ((↑a.length:Int) = 2):=(by (try rw [w1]);all_goals exact i_eq)
   rcases xm ((↑a.length:Int) = 2) with d11 | d11
   ·have H:=H.1 d11
    have i12:(decide (1 < (us a).length)) = true ↔ (1 < a.length):=(by (try rw [w1]);all_goals exact i_dec)
    obtain ⟨k13,H⟩:=H
    have i14:(decide (0 < (us a).length)) = true ↔ (0 < a.length):=(by (try rw [w1]);all_goals exact i_dec)
    obtain ⟨k15,H⟩:=H
    obtain ⟨k16,H⟩:=H
    have w17:wu (a.getD 1 default) = a.getD 1 default:=wU64 k16
    obtain ⟨k18,H⟩:=H
    have w19:wu (a.getD 1 default * 1000000000) = a.getD 1 default * 1000000000:=wU64 k18
    obtain ⟨k20,H⟩:=H
    have w21:wu (a.getD 0 default) = a.getD 0 default:=wU64 k20
    obtain ⟨k22,H⟩:=H
    have w23:wu (a.getD 1 default * 1000000000 + a.getD 0 default) = a.getD 1 default * 1000000000 + a.getD 0 default:=wU64 k22
    exact path_re (G:=given kp127 [(7,3,.elem (vu (a.getD 1 default))),(7,9,.elem (vu (a.getD 0 default)))] []) 1000 [false,false,true] (eqs:=[((us a).get?Internal 1 = some (vu (a.getD 1 default))),((us a).get?Internal 0 = some (vu (a.getD 0 default)))]) (tu [vw (wu (wu (wu (a.getD 1 default) * 1000000000) + wu (a.getD 0 default))),vb true]) (by kernel_rfl) (bc rfl (bc (beq_f (fun h => d3 (i2.1 h))) (bc (beq_f (fun h => d5 (i4.1 h))) (bc (beq_t (i10.2 d11)) (bc rfl (bc rfl (bc (i12.2 k13) (bc rfl (bc rfl (bc (i14.2 k15) b0)))))))))) (qc (el_map k13) (qc (el_map k15) q0)) c0 (by (try rw [w17]);(try rw [w19]);(try rw [w21]);(try rw [w23]);all_goals exact H)
   ·have H:=H.2 d11
    exact path_re (G:=given kp127 [] []) 1000 [false,false,false] (tu [vw 0,vb false]) (by kernel_rfl) (bc rfl (bc (beq_f (fun h => d3 (i2.1 h))) (bc (beq_f (fun h => d5 (i4.1 h))) (bc (beq_f (fun h => d11 (i10.1 h))) b0)))) q0 c0 H
theorem vFromInt64 (n:Int)  (dq:AV) (H :
  ((n < 0) -> (0 <= IntKind.u64.wrap (0 - IntKind.u64.wrap n) /\ IntKind.u64.wrap (0 - IntKind.u64.wrap n) <= 18446744073709551615) /\
   (Sp.short 3 /\ Sp.fits 3 (IntKind.u64.wrap (0 - IntKind.u64.wrap n)).toNat) /\
   Weak (bigA false (Sp.sg (decide (n < 0)) (IntKind.u64.wrap (0 - IntKind.u64.wrap n)).toNat)) dq) /\
  (¬(n < 0) -> (0 <= IntKind.u64.wrap n /\ IntKind.u64.wrap n <= 18446744073709551615) /\
   (Sp.short 3 /\ Sp.fits 3 (IntKind.u64.wrap n).toNat) /\
   Weak (bigA false (Sp.sg (decide (n < 0)) (IntKind.u64.wrap n).toNat)) dq)) :
 vFromInt64_at n (PureQ dq):=by
 unfold vFromInt64_at
 rcases xm (n < 0) with d2 | d2
 ·have H:=H.1 d2
  obtain ⟨k3,H⟩:=H
  obtain ⟨k4,H⟩:=H
  exact path_rq (G:=given kp72 [(4,3,.call (vf (us (Sp.limN 3 (wu (0 - wu n)).toNat))) none),(4,4,.call (bigA false (Sp.sg (decide (n < 0)) (wu (0 - wu n)).toNat)) none)] []) 1000 [true] (bigA false (Sp.sg (decide (n < 0)) (wu (0 - wu n)).toNat)) (by kernel_rfl) (bc (beq_t (i_dec.2 d2)) (bc rfl b0)) q0 (ce (@ev109 (wu (0 - wu n)) k3) (ce (@ev108 (decide (n < 0)) (false) (3) ((wu (0 - wu n)).toNat) k4) c0)) H
 ·have H:=H.2 d2
  obtain ⟨k5,H⟩:=H
  obtain ⟨k6,H⟩:=H
  exact path_rq (G:=given kp72 [(4,3,.call (vf (us (Sp.limN 3 (wu n).toNat))) none),(4,4,.call (bigA false (Sp.sg (decide (n < 0)) (wu n).toNat)) none)] []) 1000 [false] (bigA false (Sp.sg (decide (n < 0)) (wu n).toNat)) (by kernel_rfl) (bc (beq_f (fun h => d2 (i_dec.1 h))) (bc rfl b0)) q0 (ce (@ev109 (wu n) k5) (ce (@ev108 (decide (n < 0)) (false) (3) ((wu n).toNat) k6) c0)) H
theorem vSub (fa fb:Bool) (a b:Int)  (dq:AV) (H :
  ∃ (b1:Bool) (l1:List (Int)),
  (Ev M1 (Conf.pure 78 [bigA fa a,ag [vb (bif !Sp.isNeg b then decide ((↑(Sp.limI b).length:Int) > 0) else false),AV.vec fb 1 (us (Sp.limI b))]]) (ag [vb b1,vf (us l1)]) []) /\
  Weak (ag [vb b1,vf (us l1)]) dq) :
 vSub_at fa fb a b (PureQ dq):=by
 unfold vSub_at
 have w1:(us (Sp.limI b)).length = (Sp.limI b).length:=List.length_map ..
 obtain ⟨b1,l1,H⟩:=H
 obtain ⟨k2,H⟩:=H
 exact path_rq (G:=given kp136 [(2,2,.call (ag [vb b1,vf (us l1)]) none)] []) 1000 [] (asm:=[true,!((!Sp.isNeg b) == true && true) || true,true,true,true,true]) (calls:=[pc 78 [bigA fa a,ag [vb (bif !Sp.isNeg b then decide ((↑(us (Sp.limI b)).length:Int) > 0) else false),AV.vec fb 1 (us (Sp.limI b))]] (ag [vb b1,vf (us l1)])]) (ag [vb b1,vf (us l1)]) (by kernel_rfl) (bc rfl (bc (Bool.or_true _) (bc rfl (bc rfl (bc rfl (bc rfl b0)))))) q0 (ce (by (try rw [w1]);all_goals exact k2) c0) H
theorem vAdd (fa fb:Bool) (a b:Int)  (dq:AV) (H :
  ((Sp.isNeg a = Sp.isNeg b) -> (Sp.ok a /\ Sp.ok b) /\
   (Sp.short (max (Sp.cnt a.natAbs) (Sp.cnt b.natAbs) + 1) /\ Sp.fits (max (Sp.cnt a.natAbs) (Sp.cnt b.natAbs) + 1) (a.natAbs + b.natAbs)) /\
   Weak (bigA false (Sp.sg (Sp.isNeg a) (a.natAbs + b.natAbs))) dq) /\
  (¬(Sp.isNeg a = Sp.isNeg b) -> (Sp.ok a /\ Sp.ok b) /\
   ((Sp.sgnI ((↑a.natAbs:Int) - (↑b.natAbs:Int)) < 0) -> (Sp.ok b /\ Sp.ok a /\ a.natAbs <= b.natAbs) /\
    (Sp.short (Sp.cnt b.natAbs) /\ Sp.fits (Sp.cnt b.natAbs) (b.natAbs - a.natAbs)) /\
    Weak (bigA false (Sp.sg (Sp.isNeg b) (b.natAbs - a.natAbs))) dq) /\
   (¬(Sp.sgnI ((↑a.natAbs:Int) - (↑b.natAbs:Int)) < 0) -> (Sp.ok a /\ Sp.ok b /\ b.natAbs <= a.natAbs) /\
    (Sp.short (Sp.cnt a.natAbs) /\ Sp.fits (Sp.cnt a.natAbs) (a.natAbs - b.natAbs)) /\
    Weak (bigA false (Sp.sg (Sp.isNeg a) (a.natAbs - b.natAbs))) dq))) :
 vAdd_at fa fb a b (PureQ dq):=by
 unfold vAdd_at
 rcases xm (Sp.isNeg a = Sp.isNeg b) with d2 | d2
 ·have H:=H.1 d2
  obtain ⟨k3,H⟩:=H
  obtain ⟨k4,H⟩:=H
  exact path_rq (G:=given kp78 [(2,6,.call (vf (us (Sp.limN (max (Sp.cnt a.natAbs) (Sp.cnt b.natAbs) + 1) (a.natAbs + b.natAbs)))) none),(2,7,.call (bigA false (Sp.sg (Sp.isNeg a) (a.natAbs + b.natAbs))) none)] []) 1000 [true] (bigA false (Sp.sg (Sp.isNeg a) (a.natAbs + b.natAbs))) (by kernel_rfl) (bc rfl (bc rfl (bc (beq_t (i_eq.2 d2)) (bc rfl (bc rfl (bc rfl (bc rfl b0))))))) q0 (ce (@ev113 (fa) (fb) (a) (b) k3) (ce (@ev108 (Sp.isNeg a) (false) (max (Sp.cnt a.natAbs) (Sp.cnt b.natAbs) + 1) (a.natAbs + b.natAbs) k4) c0)) H
 ·have H:=H.2 d2
  obtain ⟨k5,H⟩:=H
  refine path_wp (G:=given kp78 [(3,4,.call (vi (Sp.sgnI ((↑a.natAbs:Int) - (↑b.natAbs:Int)))) none)] []) 10 [false] ⟨(atC (cd Tryz.f78) [1,1,0,1]),[(2,AV.ptr 0 0 0 0),(3,AV.ptr 1 0 0 0),(4,AV.ptr 2 0 0 0),(23,vb (decide (Sp.sgnI ((↑a.natAbs:Int) - (↑b.natAbs:Int)) < 0)))],[⟨[bigA fa a],2,0,false,false⟩,⟨[bigA fb b],2,0,false,false⟩,⟨[ag [vb false,AV.vnil]],2,0,false,false⟩],_,[],_⟩ (by kernel_rfl) (bc rfl (bc rfl (bc (beq_f (fun h => d2 (i_eq.1 h))) (bc rfl (bc rfl b0))))) q0 (ce (@ev111 (fa) (fb) (a) (b) k5) c0) ?_
  rcases xm (Sp.sgnI ((↑a.natAbs:Int) - (↑b.natAbs:Int)) < 0) with d7 | d7
  ·have H:=H.1 d7
   obtain ⟨k8,H⟩:=H
   obtain ⟨k9,H⟩:=H
   exact path_rq (G:=given kp78 [(5,6,.call (vf (us (Sp.limN (Sp.cnt b.natAbs) (b.natAbs - a.natAbs)))) none),(5,7,.call (bigA false (Sp.sg (Sp.isNeg b) (b.natAbs - a.natAbs))) none)] []) 1000 [true] (bigA false (Sp.sg (Sp.isNeg b) (b.natAbs - a.natAbs))) (by kernel_rfl) (bc (beq_t (i_dec.2 d7)) (bc rfl (bc rfl (bc rfl (bc rfl (bc rfl (bc rfl (bc rfl (bc rfl b0))))))))) q0 (ce (@ev114 (fb) (fa) (b) (a) k8) (ce (@ev108 (Sp.isNeg b) (false) (Sp.cnt b.natAbs) (b.natAbs - a.natAbs) k9) c0)) H
  ·have H:=H.2 d7
   obtain ⟨k10,H⟩:=H
   obtain ⟨k11,H⟩:=H
   exact path_rq (G:=given kp78 [(5,6,.call (vf (us (Sp.limN (Sp.cnt a.natAbs) (a.natAbs - b.natAbs)))) none),(5,7,.call (bigA false (Sp.sg (Sp.isNeg a) (a.natAbs - b.natAbs))) none)] []) 1000 [false] (bigA false (Sp.sg (Sp.isNeg a) (a.natAbs - b.natAbs))) (by kernel_rfl) (bc (beq_f (fun h => d7 (i_dec.1 h))) (bc rfl (bc rfl (bc rfl (bc rfl b0))))) q0 (ce (@ev114 (fa) (fb) (a) (b) k10) (ce (@ev108 (Sp.isNeg a) (false) (Sp.cnt a.natAbs) (a.natAbs - b.natAbs) k11) c0)) H
theorem vMul (fa fb:Bool) (a b:Int)  (dq:AV) (H :
  (Sp.ok a /\ Sp.ok b) /\
  (Sp.short (Sp.cnt a.natAbs + Sp.cnt b.natAbs) /\ Sp.fits (Sp.cnt a.natAbs + Sp.cnt b.natAbs) (a.natAbs * b.natAbs)) /\
  Weak (bigA false (Sp.sg (!Sp.isNeg a == Sp.isNeg b) (a.natAbs * b.natAbs))) dq) :
 vMul_at fa fb a b (PureQ dq):=by
 unfold vMul_at
 obtain ⟨k1,H⟩:=H
 obtain ⟨k2,H⟩:=H
 exact path_rq (G:=given kp77 [(1,9,.call (vf (us (Sp.limN (Sp.cnt a.natAbs + Sp.cnt b.natAbs) (a.natAbs * b.natAbs)))) none),(1,10,.call (bigA false (Sp.sg (!Sp.isNeg a == Sp.isNeg b) (a.natAbs * b.natAbs))) none)] []) 1000 [] (bigA false (Sp.sg (!Sp.isNeg a == Sp.isNeg b) (a.natAbs * b.natAbs))) (by kernel_rfl) (bc rfl (bc rfl (bc rfl (bc rfl (bc rfl b0))))) q0 (ce (@ev112 (fa) (fb) (a) (b) k1) (ce (@ev108 (!Sp.isNeg a == Sp.isNeg b) (false) (Sp.cnt a.natAbs + Sp.cnt b.natAbs) (a.natAbs * b.natAbs) k2) c0)) H
theorem vNeg0 (fa:Bool)  (dq:AV) (H :
  ∃ (b2:Bool) (l2:List (Int)),
  (Ev M1 (Conf.pure 108 [vb true,AV.vnil]) (ag [vb b2,vf (us l2)]) []) /\
  Weak (ag [vb b2,vf (us l2)]) dq) :
 vNeg0_at fa (PureQ dq):=by
 unfold vNeg0_at
 obtain ⟨b2,l2,H⟩:=H
 obtain ⟨k2,H⟩:=H
 exact path_rq (G:=given kp93 [(1,6,.call (ag [vb b2,vf (us l2)]) none)] [(1,[3007,902006,4005,2004,2001])]) 1000 [] (ag [vb b2,vf (us l2)]) (by kernel_rfl) (bc rfl (bc rfl (bc rfl b0))) q0 (ce k2 c0) H
theorem vNeg (s fa:Bool) (x:Int) (a:List Int)  (dq:AV) (H :
  ∃ (b2:Bool) (l2:List (Int)),
  (Ev M1 (Conf.pure 108 [vb !s,vf (vu x :: us a)]) (ag [vb b2,vf (us l2)]) []) /\
  ((a.length + 1) * 4 <= 1099511627776) /\
  Weak (ag [vb b2,vf (us l2)]) dq) :
 vNeg_at s fa x a (PureQ dq):=by
 unfold vNeg_at
 obtain ⟨b2,l2,H⟩:=H
 obtain ⟨k2,H⟩:=H
 have w3:(us a).length = a.length:=List.length_map ..
 have i4:(decide (((us a).length + 1) * 4 <= 1099511627776)) = true ↔ ((a.length + 1) * 4 <= 1099511627776):=(by (try rw [w3]);all_goals exact i_dec)
 obtain ⟨k5,H⟩:=H
 exact path_rq (G:=given kp93 [(1,6,.call (ag [vb b2,vf (us l2)]) none)] [(1,[3007,6,4005,2004,2001])]) 1000 [] (ag [vb b2,vf (us l2)]) (by kernel_rfl) (bc rfl (bc rfl (bc (i4.2 k5) (bc rfl (bc rfl b0))))) q0 (ce k2 c0) H
theorem vCmp (fa fb:Bool) (a b:Int)  (dq:AV) (H :
  ((¬(Sp.isNeg a = Sp.isNeg b)) -> ((Sp.isNeg a = true) -> vi (-1) = dq) /\
   (¬(Sp.isNeg a = true) -> vi 1 = dq)) /\
  (¬(¬(Sp.isNeg a = Sp.isNeg b)) -> ((Sp.isNeg a = true) -> (Sp.ok b /\ Sp.ok a) /\
    vi (Sp.sgnI ((↑b.natAbs:Int) - (↑a.natAbs:Int))) = dq) /\
   (¬(Sp.isNeg a = true) -> (Sp.ok a /\ Sp.ok b) /\
    vi (Sp.sgnI ((↑a.natAbs:Int) - (↑b.natAbs:Int))) = dq))) :
 vCmp_at fa fb a b (PureQ dq):=by
 unfold vCmp_at
 rcases xm (¬(Sp.isNeg a = Sp.isNeg b)) with d2 | d2
 ·have H:=H.1 d2
  rcases xm (Sp.isNeg a = true) with d4 | d4
  ·have H:=H.1 d4
   exact path_re (G:=given kp76 [] []) 1000 [true,true] (asm:=[true,true,(!Sp.isNeg a == Sp.isNeg b) == true,0 == 0,(Sp.isNeg a) == true]) (vi (-1)) (by kernel_rfl) (bc rfl (bc rfl (bc (beq_t ((i_not i_eq).2 d2)) (bc (beq_self_eq_true _) (bc (beq_t ((i_var _).2 d4)) b0))))) q0 c0 H
  ·have H:=H.2 d4
   exact path_re (G:=given kp76 [] []) 1000 [true,false] (asm:=[true,true,(!Sp.isNeg a == Sp.isNeg b) == true,0 == 0,(Sp.isNeg a) == false]) (vi 1) (by kernel_rfl) (bc rfl (bc rfl (bc (beq_t ((i_not i_eq).2 d2)) (bc (beq_self_eq_true _) (bc (beq_f (fun h => d4 ((i_var _).1 h))) b0))))) q0 c0 H
 ·have H:=H.2 d2
  rcases xm (Sp.isNeg a = true) with d6 | d6
  ·have H:=H.1 d6
   obtain ⟨k7,H⟩:=H
   exact path_re (G:=given kp76 [(6,4,.call (vi (Sp.sgnI ((↑b.natAbs:Int) - (↑a.natAbs:Int)))) none)] []) 1000 [false,true] (asm:=[true,true,(!Sp.isNeg a == Sp.isNeg b) == false,0 == 0,(Sp.isNeg a) == true,true,true]) (vi (Sp.sgnI ((↑b.natAbs:Int) - (↑a.natAbs:Int)))) (by kernel_rfl) (bc rfl (bc rfl (bc (beq_f (fun h => d2 ((i_not i_eq).1 h))) (bc (beq_self_eq_true _) (bc (beq_t ((i_var _).2 d6)) (bc rfl (bc rfl b0))))))) q0 (ce (@ev111 (fb) (fa) (b) (a) k7) c0) H
  ·have H:=H.2 d6
   obtain ⟨k8,H⟩:=H
   exact path_re (G:=given kp76 [(7,4,.call (vi (Sp.sgnI ((↑a.natAbs:Int) - (↑b.natAbs:Int)))) none)] []) 1000 [false,false] (asm:=[true,true,(!Sp.isNeg a == Sp.isNeg b) == false,0 == 0,(Sp.isNeg a) == false,true,true]) (vi (Sp.sgnI ((↑a.natAbs:Int) - (↑b.natAbs:Int)))) (by kernel_rfl) (bc rfl (bc rfl (bc (beq_f (fun h => d2 ((i_not i_eq).1 h))) (bc (beq_self_eq_true _) (bc (beq_f (fun h => d6 ((i_var _).1 h))) (bc rfl (bc rfl b0))))))) q0 (ce (@ev111 (fa) (fb) (a) (b) k8) c0) H
end Go.Av

namespace Go.Av
open Go.Proofs
namespace Sp
def okB (v:Int):Prop:=cnt v.natAbs <= 400000
end Sp
theorem okB_ok {v:Int} (h:Sp.okB v):Sp.ok v:=by unfold Sp.okB at h;unfold Sp.ok;omega
theorem weak_bnil (b:Bool):Weak (.agg [.bool b,.vnil]) (.agg [.bool b,.vec false 1 []]):=by
 refine .agg _ _ rfl fun i x y hx hy => ?_
 match i with
 | 0 => simp at hx hy;subst hx;subst hy;exact .refl _
 | 1 => simp at hx hy;subst hx;subst hy;exact .vnil 1
 | i + 2 => simp at hx
theorem limI_neg (v:Int):Sp.limI (-v) = Sp.limI v:=by unfold Sp.limI;rw [Int.natAbs_neg]
theorem sg_add {a b:Int} (h:Sp.isNeg a = Sp.isNeg b):Sp.sg (Sp.isNeg a) (a.natAbs + b.natAbs) = a + b:=by
 unfold Sp.sg
 by_cases k:a < 0
 ·have kb:b < 0:=isNeg_iff.1 (by rw [<- h];exact isNeg_iff.2 k)
  rw [if_pos (isNeg_iff.2 k)];omega
 ·have kb:¬b < 0:=fun x => k (isNeg_iff.1 (by rw [h];exact isNeg_iff.2 x))
  rw [if_neg (fun x => k (isNeg_iff.1 x))];omega
theorem sg_sub {a b:Int} (h:¬Sp.isNeg a = Sp.isNeg b) (hl:b.natAbs <= a.natAbs):Sp.sg (Sp.isNeg a) (a.natAbs - b.natAbs) = a + b:=by
 unfold Sp.sg
 by_cases k:a < 0
 ·have kb:¬b < 0:=fun x => h (by rw [isNeg_iff.2 k,isNeg_iff.2 x])
  rw [if_pos (isNeg_iff.2 k)];omega
 ·have kb:b < 0:=by
   by_cases kb:b < 0
   ·exact kb
   ·exact absurd (by rw [Bool.eq_false_iff.2 (fun x => k (isNeg_iff.1 x)),Bool.eq_false_iff.2 (fun x => kb (isNeg_iff.1 x))]) h
  rw [if_neg (fun x => k (isNeg_iff.1 x))];omega
theorem sg_mul (a b:Int):Sp.sg (!(Sp.isNeg a == Sp.isNeg b)) (a.natAbs * b.natAbs) = a * b:=by
 unfold Sp.sg
 have hm:((a.natAbs * b.natAbs:Nat):Int) = (a.natAbs:Int) * (b.natAbs:Int):=Int.natCast_mul _ _
 rw [hm]
 by_cases ka:a < 0
 ·have ea:(a.natAbs:Int) = -a:=by omega
  rw [isNeg_iff.2 ka,ea]
  by_cases kb:b < 0
  ·have eb:(b.natAbs:Int) = -b:=by omega
   rw [isNeg_iff.2 kb,eb,if_neg (by simp),Int.neg_mul_neg]
  ·have eb:(b.natAbs:Int) = b:=by omega
   rw [Bool.eq_false_iff.2 (fun x => kb (isNeg_iff.1 x)),eb,if_pos (by simp),Int.neg_mul,Int.neg_neg]
 ·have ea:(a.natAbs:Int) = a:=by omega
  rw [Bool.eq_false_iff.2 (fun x => ka (isNeg_iff.1 x)),ea]
  by_cases kb:b < 0
  ·have eb:(b.natAbs:Int) = -b:=by omega
   rw [isNeg_iff.2 kb,eb,if_pos (by simp),Int.mul_neg,Int.neg_neg]
  ·have eb:(b.natAbs:Int) = b:=by omega
   rw [Bool.eq_false_iff.2 (fun x => kb (isNeg_iff.1 x)),eb,if_neg (by simp)]
theorem sgnI_lt {n:Int}:Sp.sgnI n < 0 ↔ n < 0:=by
 unfold Sp.sgnI
 (repeat' split) <;> omega
theorem ev78 (fa fb:Bool) (a b:Int) (h:Sp.okB a /\ Sp.okB b):Ev M1 (.pure 78 [bigA fa a,bigA fb b]) (bigA false (a + b)) []:=by
 obtain ⟨ha,hb⟩:=h
 have oa:=okB_ok ha
 have ob:=okB_ok hb
 unfold Sp.okB at ha hb
 refine call78 (vAdd _ _ _ _ _ ⟨fun h => ⟨⟨oa,ob⟩,⟨?_,?_⟩,?_⟩,fun h => ⟨⟨oa,ob⟩,fun k => ⟨⟨ob,oa,?_⟩,⟨ob,fits_le (fits_self _) (by omega)⟩,?_⟩,fun k => ⟨⟨oa,ob,?_⟩,⟨oa,fits_le (fits_self _) (by omega)⟩,?_⟩⟩⟩)
 ·unfold Sp.short;omega
 ·exact fits_sum (fits_mono (fits_self _) (by omega)) (fits_mono (fits_self _) (by omega))
 ·rw [sg_add h];exact .refl _
 ·rw [sgnI_lt] at k;omega
 ·rw [sgnI_lt] at k
  rw [sg_sub (fun x => h x.symm) (by omega),Int.add_comm];exact .refl _
 ·rw [sgnI_lt] at k;omega
 ·rw [sgnI_lt] at k
  rw [sg_sub h (by omega)];exact .refl _
theorem ev77 (fa fb:Bool) (a b:Int) (h:Sp.okB a /\ Sp.okB b):Ev M1 (.pure 77 [bigA fa a,bigA fb b]) (bigA false (a * b)) []:=by
 obtain ⟨ha,hb⟩:=h
 have oa:=okB_ok ha
 have ob:=okB_ok hb
 unfold Sp.okB at ha hb
 refine call77 (vMul _ _ _ _ _ ⟨⟨oa,ob⟩,⟨?_,fits_prod (fits_self _) (fits_self _)⟩,?_⟩)
 ·unfold Sp.short;omega
 ·rw [sg_mul];exact .refl _
theorem ev76 (fa fb:Bool) (a b:Int) (h:Sp.okB a /\ Sp.okB b):Ev M1 (.pure 76 [bigA fa a,bigA fb b]) (.int .i64 (Sp.sgnI (a - b))) []:=by
 have oa:=okB_ok h.1
 have ob:=okB_ok h.2
 refine call76 (vCmp _ _ _ _ _ ⟨fun k => ⟨fun ka => ?_,fun ka => ?_⟩,fun k => ⟨fun ka => ⟨⟨ob,oa⟩,?_⟩,fun ka => ⟨⟨oa,ob⟩,?_⟩⟩⟩)
 ·have kb:¬b < 0:=fun x => k (by rw [ka,isNeg_iff.2 x])
  rw [isNeg_iff] at ka
  congr 1;unfold Sp.sgnI;rw [if_pos (by omega)]
 ·have kb:b < 0:=by
   by_cases kb:b < 0
   ·exact kb
   ·exact absurd (by rw [Bool.eq_false_iff.2 ka,Bool.eq_false_iff.2 (fun x => kb (isNeg_iff.1 x))]) k
  have ka:¬a < 0:=fun x => ka (isNeg_iff.2 x)
  congr 1;unfold Sp.sgnI;rw [if_neg (by omega),if_pos (by omega)]
 ·have k:=Classical.not_not.1 k
  have kb:=isNeg_iff.1 (k ▸ ka)
  rw [isNeg_iff] at ka
  congr 2;omega
 ·have k:=Classical.not_not.1 k
  have kb:¬b < 0:=fun x => ka (by rw [k];exact isNeg_iff.2 x)
  have ka:¬a < 0:=fun x => ka (isNeg_iff.2 x)
  congr 2;omega
theorem ev93 (fa:Bool) (v:Int) (h:Sp.okB v):Ev M1 (.pure 93 [bigA fa v]) (bigA false (-v)) []:=by
 have ov:=okB_ok h
 by_cases h0:v = 0
 ·subst h0
  have e1:Sp.isNeg 0 = false:=rfl
  have e2:Sp.limI 0 = []:=lim_zero
  have e3:bigA fa 0 = .agg [.bool false,.vec fa 1 []]:=by
   show AV.agg [.bool (Sp.isNeg 0),.vec fa 1 ((Sp.limI 0).map (.int .u32))] = _
   rw [e1,e2];rfl
  have e4:bigA false (-0) = .agg [.bool false,.vec false 1 []]:=by
   show AV.agg [.bool (Sp.isNeg (-0)),.vec false 1 ((Sp.limI (-0)).map (.int .u32))] = _
   rw [Int.neg_zero,e1,e2];rfl
  rw [e3,e4]
  refine call93 (vNeg0 fa _ ⟨false,[],?_,.refl _⟩)
  exact call108 (vSigned0 true _ (vSigned0A true _ (weak_bnil false)))
 ·have hne:Sp.limI v ≠ []:=by
   intro e
   have:=limI_len v
   rw [e] at this
   exact h0 (Int.natAbs_eq_zero.1 (cnt_eq_zero.1 this.symm))
  obtain ⟨x,l,hl⟩:=List.exists_cons_of_ne_nil hne
  have es:=ev108_a (!Sp.isNeg v) false v ov
  have e5:Sp.sg (!Sp.isNeg v) v.natAbs = -v:=by
   unfold Sp.sg
   by_cases k:v < 0
   ·rw [isNeg_iff.2 k,if_neg (by simp)];omega
   ·rw [Bool.eq_false_iff.2 (fun x => k (isNeg_iff.1 x)),if_pos (by simp)];omega
  rw [e5] at es
  have hle:=limI_len v
  rw [hl] at hle
  simp only [List.length_cons] at hle
  unfold Sp.ok at ov
  have e6:bigA fa v = .agg [.bool (Sp.isNeg v),.vec fa 1 ((x :: l).map (.int .u32))]:=by
   show AV.agg [.bool (Sp.isNeg v),.vec fa 1 ((Sp.limI v).map (.int .u32))] = _
   rw [hl]
  rw [hl] at es
  rw [e6]
  exact call93 (vNeg _ _ _ _ _ ⟨_,_,es,by omega,.refl _⟩)
theorem ev136 (fa fb:Bool) (a b:Int) (h:Sp.okB a /\ Sp.okB b):Ev M1 (.pure 136 [bigA fa a,bigA fb b]) (bigA false (a - b)) []:=by
 have hb:Sp.okB (-b):=by have:=h.2;unfold Sp.okB at *;rwa [Int.natAbs_neg]
 have ea:=ev78 fa fb a (-b) ⟨h.1,hb⟩
 have e1:Sp.isNeg (-b) = (bif !Sp.isNeg b then decide (((Sp.limI b).length:Int) > 0) else false):=by
  have hl:=limI_len b
  unfold Sp.isNeg
  by_cases k:b < 0
  ·simp [k];omega
  ·have:decide (b < 0) = false:=by simp [k]
   rw [this,Bool.not_false,cond_true,decide_eq_decide,hl]
   have:=cnt_eq_zero (v:=b.natAbs)
   omega
 have e2:bigA fb (-b) = .agg [.bool (bif !Sp.isNeg b then decide (((Sp.limI b).length:Int) > 0) else false),.vec fb 1 ((Sp.limI b).map (.int .u32))]:=by
  show AV.agg [.bool (Sp.isNeg (-b)),.vec fb 1 ((Sp.limI (-b)).map (.int .u32))] = _
  rw [e1,limI_neg]
 rw [e2] at ea
 exact call136 (vSub _ _ _ _ _ ⟨_,_,ea,.refl _⟩)
theorem wrap_neg {n:Int} (h:-9223372036854775808 <= n /\ n < 0):IntKind.u64.wrap n = n + 18446744073709551616:=by
 have e1:(2:Int) ^ IntKind.u64.bits = 18446744073709551616:=rfl
 have e3:IntKind.u64.signed = false:=rfl
 simp only [IntKind.wrap,e1,e3,Bool.false_and,Bool.false_eq_true,if_false]
 omega
theorem fits3 {u:Nat} (h:u <= 18446744073709551615):Sp.fits 3 u:=by
 unfold Sp.fits
 have:(1000000000:Nat) ^ 3 = 1000000000000000000000000000:=by decide
 omega
def Sp.inI (n:Int):Prop:=-9223372036854775808 <= n /\ n <= 9223372036854775807
theorem ev72 (n:Int) (h:Sp.inI n):Ev M1 (.pure 72 [.int .i64 n]) (bigA false n) []:=by
 unfold Sp.inI at h
 refine call72 (vFromInt64 n _ ⟨fun k => ?_,fun k => ?_⟩)
 ·have e1:IntKind.u64.wrap (0 - IntKind.u64.wrap n) = -n:=by
   rw [wrap_neg ⟨h.1,k⟩]
   have e1:(2:Int) ^ IntKind.u64.bits = 18446744073709551616:=rfl
   have e3:IntKind.u64.signed = false:=rfl
   simp only [IntKind.wrap,e1,e3,Bool.false_and,Bool.false_eq_true,if_false]
   omega
  have e2:Sp.sg (decide (n < 0)) (-n).toNat = n:=by unfold Sp.sg;rw [if_pos (by simpa using k)];omega
  rw [e1,e2]
  exact ⟨by omega,⟨by unfold Sp.short;omega,fits3 (by omega)⟩,.refl _⟩
 ·have e1:IntKind.u64.wrap n = n:=wU64 ⟨by omega,by omega⟩
  have e2:Sp.sg (decide (n < 0)) n.toNat = n:=by unfold Sp.sg;rw [if_neg (by simpa using k)];omega
  rw [e1,e2]
  exact ⟨by omega,⟨by unfold Sp.short;omega,fits3 (by omega)⟩,.refl _⟩
end Go.Av

namespace Go.Av
open Go.Proofs
set_option maxRecDepth 100000
def fi134:Fi:=⟨62,[.tmp 6]⟩
def kp134:List (Nat × List Nat):=[(0,[0,1,2]),(1,[0,1,2,7,8]),(2,[0,1,2,7,8,14,15]),(3,[0,1,2,7,8,14,15,16]),(4,[0,1,2,7,8,9,14,15]),(5,[0,1,2,8,9,10,14,15]),(6,[0,1,2,8,9,10,14,15,22]),(7,[0,1,2,8,9,10,14,15]),(8,[0,1,2,7,8,9,10,14,15]),(9,[0,1,2,7,9,11,14,15]),(10,[0,1,2,7,8,9,11,14,15]),(11,[0,1,2,7,8,9,11,12,14,15]),(12,[0,1,2,7,8,9,11,12,14,15,45]),(13,[0,1,2,7,8,9,11,12,14,15]),(14,[0,1,2,7,8,14,15]),(15,[0,1,2,7,8,14,15]),(16,[6])]
def fi135:Fi:=⟨37,[]⟩
def kp135:List (Nat × List Nat):=[(0,[0,1,4]),(1,[0,1,4,8,9]),(2,[0,1,4,8,9,10]),(3,[0,1,4,5,8,9]),(4,[0,1,5,6,8,9]),(5,[0,1,5,6,8,9,21]),(6,[0,1,5,6,8,9]),(7,[0,1,4,5,6,8,9]),(8,[0,1,4,5,6,8,9,29]),(9,[0,1,4,5,6,8,9]),(10,[0,1,4,8,9]),(11,[0,1,4,8,9])]
def vSubtract_at (u b:List Int) (fb:Bool) (v lo len:Nat) (g:Int) (Q:AV -> Heap -> Prop):Prop:=Wp M1 (.run fi134 (atC (cd Tryz.f134) []) [(0,.ref 0 v lo len),(1,.vec fb 1 (b.map (.int .u32))),(2,.int .u64 g)] [⟨u.map (.int .u32),1,v,false,true⟩]) Q
def vSubtractA_at (u b:List Int) (fb:Bool) (v lo len:Nat) (g c w n i:Int) (Q:AV -> Heap -> Prop):Prop:=Wp M1 (.run fi134 (atC (cd Tryz.f134) [1,1,0,1,0,0]) [(0,.ref 0 v lo len),(1,.vec fb 1 (b.map (.int .u32))),(2,.int .u64 g),(7,.int .u64 c),(8,.int .u64 w),(14,.int .i64 n),(15,.int .i64 i)] [⟨u.map (.int .u32),1,v,false,true⟩]) Q
def vRestore_at (u b:List Int) (fb:Bool) (v lo len:Nat) (Q:AV -> Heap -> Prop):Prop:=Wp M1 (.run fi135 (atC (cd Tryz.f135) []) [(0,.ref 0 v lo len),(1,.vec fb 1 (b.map (.int .u32)))] [⟨u.map (.int .u32),1,v,false,true⟩]) Q
def vRestoreA_at (u b:List Int) (fb:Bool) (v lo len:Nat) (c n i:Int) (Q:AV -> Heap -> Prop):Prop:=Wp M1 (.run fi135 (atC (cd Tryz.f135) [1,1,0,0]) [(0,.ref 0 v lo len),(1,.vec fb 1 (b.map (.int .u32))),(4,.int .u32 c),(8,.int .i64 n),(9,.int .i64 i)] [⟨u.map (.int .u32),1,v,false,true⟩]) Q
theorem owncall134 {args:List AV} {L:Heap} {Q:AV -> Heap -> Prop} (h:Wp M1 (.run fi134 [.code (cd Tryz.f134)] (argVars 0 args) L) Q):Wp M1 (.own 134 args L) Q:=
 own_wp Tryz.f134 fi134 (by kernel_rfl) (by kernel_rfl) (by kernel_rfl) (by kernel_rfl) h
theorem owncall135 {args:List AV} {L:Heap} {Q:AV -> Heap -> Prop} (h:Wp M1 (.run fi135 [.code (cd Tryz.f135)] (argVars 0 args) L) Q):Wp M1 (.own 135 args L) Q:=
 own_wp Tryz.f135 fi135 (by kernel_rfl) (by kernel_rfl) (by kernel_rfl) (by kernel_rfl) h
theorem vSubtract (u b:List Int) (fb:Bool) (v lo len:Nat) (g:Int)  (Q:AV -> Heap -> Prop) (H :
  vSubtractA_at (u) (b) (fb) (v) (lo) (len) (g) (0) (0) ((↑len:Int)) (0) Q) :
 vSubtract_at u b fb v lo len g Q:=by
 unfold vSubtract_at
 exact path_wp (G:=given kp134 [] []) 1000 [] ⟨(atC (cd Tryz.f134) [1,1,0,1,0,0]),[(0,AV.ref 0 v lo len),(1,AV.vec fb 1 (us b)),(2,vw g),(7,vw 0),(8,vw 0),(14,vi (↑len:Int)),(15,vi 0)],[⟨us u,1,v,false,true⟩],[v == v],[],_⟩ (by kernel_rfl) (bc (beq_self_eq_true _) b0) q0 c0 (H)
noncomputable abbrev zNvE1 (u:List Int) (lo:Nat) (i:Int):=vu (u.getD (lo + i.toNat) default)
theorem vSubtractA (u b:List Int) (fb:Bool) (v lo len:Nat) (g c w n i:Int)  (Q:AV -> Heap -> Prop) (H :
  ((i < n) -> ((i < (↑b.length:Int)) -> (0 <= i) /\
    (i.toNat < b.length) /\
    (0 <= b.getD i.toNat default /\ b.getD i.toNat default <= 18446744073709551615) /\
    (0 <= b.getD i.toNat default * g /\ b.getD i.toNat default * g <= 18446744073709551615) /\
    (0 <= c + b.getD i.toNat default * g /\ c + b.getD i.toNat default * g <= 18446744073709551615) /\
    (0 <= (c + b.getD i.toNat default * g).tdiv 1000000000 /\ (c + b.getD i.toNat default * g).tdiv 1000000000 <= 18446744073709551615) /\
    (0 <= (c + b.getD i.toNat default * g).tmod 1000000000 + w /\ (c + b.getD i.toNat default * g).tmod 1000000000 + w <= 18446744073709551615) /\
    (i.toNat < len) /\
    (lo + i.toNat < u.length) /\
    (0 <= u.getD (lo + i.toNat) default /\ u.getD (lo + i.toNat) default <= 18446744073709551615) /\
    ((u.getD (lo + i.toNat) default < (c + b.getD i.toNat default * g).tmod 1000000000 + w) -> (0 <= u.getD (lo + i.toNat) default + 1000000000 /\ u.getD (lo + i.toNat) default + 1000000000 <= 18446744073709551615) /\
     (0 <= u.getD (lo + i.toNat) default + 1000000000 - ((c + b.getD i.toNat default * g).tmod 1000000000 + w) /\ u.getD (lo + i.toNat) default + 1000000000 - ((c + b.getD i.toNat default * g).tmod 1000000000 + w) <= 18446744073709551615) /\
     (0 <= u.getD (lo + i.toNat) default + 1000000000 - ((c + b.getD i.toNat default * g).tmod 1000000000 + w) /\ u.getD (lo + i.toNat) default + 1000000000 - ((c + b.getD i.toNat default * g).tmod 1000000000 + w) <= 4294967295) /\
     (-9223372036854775808 <= i + 1 /\ i + 1 <= 9223372036854775807) /\
     vSubtractA_at (u.set (lo + i.toNat) (u.getD (lo + i.toNat) default + 1000000000 - ((c + b.getD i.toNat default * g).tmod 1000000000 + w))) (b) (fb) (v) (lo) (len) (g) ((c + b.getD i.toNat default * g).tdiv 1000000000) (1) (n) (i + 1) Q) /\
    (¬(u.getD (lo + i.toNat) default < (c + b.getD i.toNat default * g).tmod 1000000000 + w) -> (0 <= u.getD (lo + i.toNat) default - ((c + b.getD i.toNat default * g).tmod 1000000000 + w) /\ u.getD (lo + i.toNat) default - ((c + b.getD i.toNat default * g).tmod 1000000000 + w) <= 18446744073709551615) /\
     (0 <= u.getD (lo + i.toNat) default - ((c + b.getD i.toNat default * g).tmod 1000000000 + w) /\ u.getD (lo + i.toNat) default - ((c + b.getD i.toNat default * g).tmod 1000000000 + w) <= 4294967295) /\
     (-9223372036854775808 <= i + 1 /\ i + 1 <= 9223372036854775807) /\
     vSubtractA_at (u.set (lo + i.toNat) (u.getD (lo + i.toNat) default - ((c + b.getD i.toNat default * g).tmod 1000000000 + w))) (b) (fb) (v) (lo) (len) (g) ((c + b.getD i.toNat default * g).tdiv 1000000000) (0) (n) (i + 1) Q)) /\
   (¬(i < (↑b.length:Int)) -> (0 <= c.tdiv 1000000000 /\ c.tdiv 1000000000 <= 18446744073709551615) /\
    (0 <= c.tmod 1000000000 + w /\ c.tmod 1000000000 + w <= 18446744073709551615) /\
    (0 <= i) /\
    (i.toNat < len) /\
    (lo + i.toNat < u.length) /\
    (0 <= u.getD (lo + i.toNat) default /\ u.getD (lo + i.toNat) default <= 18446744073709551615) /\
    ((u.getD (lo + i.toNat) default < c.tmod 1000000000 + w) -> (0 <= u.getD (lo + i.toNat) default + 1000000000 /\ u.getD (lo + i.toNat) default + 1000000000 <= 18446744073709551615) /\
     (0 <= u.getD (lo + i.toNat) default + 1000000000 - (c.tmod 1000000000 + w) /\ u.getD (lo + i.toNat) default + 1000000000 - (c.tmod 1000000000 + w) <= 18446744073709551615) /\
     (0 <= u.getD (lo + i.toNat) default + 1000000000 - (c.tmod 1000000000 + w) /\ u.getD (lo + i.toNat) default + 1000000000 - (c.tmod 1000000000 + w) <= 4294967295) /\
     (-9223372036854775808 <= i + 1 /\ i + 1 <= 9223372036854775807) /\
     vSubtractA_at (u.set (lo + i.toNat) (u.getD (lo + i.toNat) default + 1000000000 - (c.tmod 1000000000 + w))) (b) (fb) (v) (lo) (len) (g) (c.tdiv 1000000000) (1) (n) (i + 1) Q) /\
    (¬(u.getD (lo + i.toNat) default < c.tmod 1000000000 + w) -> (0 <= u.getD (lo + i.toNat) default - (c.tmod 1000000000 + w) /\ u.getD (lo + i.toNat) default - (c.tmod 1000000000 + w) <= 18446744073709551615) /\
     (0 <= u.getD (lo + i.toNat) default - (c.tmod 1000000000 + w) /\ u.getD (lo + i.toNat) default - (c.tmod 1000000000 + w) <= 4294967295) /\
     (-9223372036854775808 <= i + 1 /\ i + 1 <= 9223372036854775807) /\
     vSubtractA_at (u.set (lo + i.toNat) (u.getD (lo + i.toNat) default - (c.tmod 1000000000 + w))) (b) (fb) (v) (lo) (len) (g) (c.tdiv 1000000000) (0) (n) (i + 1) Q))) /\
  (¬(i < n) -> Q (vb (bif decide (w > 0) then true else decide (c > 0))) [{ elems:=us u,es:=1,ver:=v,frozen:=false,clean:=true }])) :
 vSubtractA_at u b fb v lo len g c w n i Q:=by
 unfold vSubtractA_at
 rcases xm (i < n) with d2 | d2
 ·have H:=H.1 d2
  have w3:(us b).length = b.length:=List.length_map ..
  have i4:(decide (i < (↑(us b).length:Int))) = true ↔ (i < (↑b.length:Int)):=(by (try rw [w3]);all_goals exact i_dec)
  rcases xm (i < (↑b.length:Int)) with d5 | d5
  ·have H:=H.1 d5
   obtain ⟨k7,H⟩:=H
   have i8:(decide (i.toNat < (us b).length)) = true ↔ (i.toNat < b.length):=(by (try rw [w3]);all_goals exact i_dec)
   obtain ⟨k9,H⟩:=H
   obtain ⟨k10,H⟩:=H
   have w11:wu (b.getD i.toNat default) = b.getD i.toNat default:=wU64 k10
   obtain ⟨k12,H⟩:=H
   have w13:wu (b.getD i.toNat default * g) = b.getD i.toNat default * g:=wU64 k12
   obtain ⟨k14,H⟩:=H
   have w15:wu (c + b.getD i.toNat default * g) = c + b.getD i.toNat default * g:=wU64 k14
   obtain ⟨k16,H⟩:=H
   have w17:wu ((c + b.getD i.toNat default * g).tdiv 1000000000) = (c + b.getD i.toNat default * g).tdiv 1000000000:=wU64 k16
   obtain ⟨k18,H⟩:=H
   have w19:wu ((c + b.getD i.toNat default * g).tmod 1000000000 + w) = (c + b.getD i.toNat default * g).tmod 1000000000 + w:=wU64 k18
   obtain ⟨k22,H⟩:=H
   obtain ⟨k23,H⟩:=H
   obtain ⟨k24,H⟩:=H
   have w25:wu (u.getD (lo + i.toNat) default) = u.getD (lo + i.toNat) default:=wU64 k24
   have i26:(decide (wu (u.getD (lo + i.toNat) default) < wu ((wu (c + wu (wu (b.getD i.toNat default) * g))).tmod 1000000000 + w))) = true ↔ (u.getD (lo + i.toNat) default < (c + b.getD i.toNat default * g).tmod 1000000000 + w):=(by (try rw [w11]);(try rw [w13]);(try rw [w15]);(try rw [w19]);(try rw [w25]);all_goals exact i_dec)
   refine path_wp (G:=given kp134 [(7,4,.elem (vu (b.getD i.toNat default))),(11,3,.elem (zNvE1 u lo i))] []) 27 [true,true] ⟨(atC (cd Tryz.f134) [1,1,0,1,0,0,1,1,0,0,1,1,1,1,1,1,1,0,1]),[(0,AV.ref 0 v lo len),(1,AV.vec fb 1 (us b)),(2,vw g),(7,vw (wu ((wu (c + wu (wu (b.getD i.toNat default) * g))).tdiv 1000000000))),(8,vw 0),(9,vi i),(11,vw (wu ((wu (c + wu (wu (b.getD i.toNat default) * g))).tmod 1000000000 + w))),(12,vw (wu (u.getD (lo + i.toNat) default))),(14,vi n),(15,vi i),(45,vb (decide (wu (u.getD (lo + i.toNat) default) < wu ((wu (c + wu (wu (b.getD i.toNat default) * g))).tmod 1000000000 + w))))],[⟨us u,1,v,false,true⟩],[(decide (i < n)) == true,(decide (i < (↑(us b).length:Int))) == true,decide (0 <= i),decide (i.toNat < (us b).length),true,true,v == v,decide (0 <= i),decide (i.toNat < len),v == v],[((us b).get?Internal i.toNat = some (vu (b.getD i.toNat default))),((us u).get?Internal (lo + i.toNat) = some (zNvE1 u lo i))],_⟩ (by kernel_rfl) (bc (beq_t (i_dec.2 d2)) (bc (beq_t (i4.2 d5)) (bc (i_dec.2 k7) (bc (i8.2 k9) (bc rfl (bc rfl (bc (beq_self_eq_true _) (bc (i_dec.2 k7) (bc (i_dec.2 k22) (bc (beq_self_eq_true _) b0)))))))))) (qc (el_map k9) (qc (el_map k23) q0)) c0 ?_
   rcases xm (u.getD (lo + i.toNat) default < (c + b.getD i.toNat default * g).tmod 1000000000 + w) with d27 | d27
   ·have H:=H.1 d27
    obtain ⟨k28,H⟩:=H
    have w29:wu (u.getD (lo + i.toNat) default + 1000000000) = u.getD (lo + i.toNat) default + 1000000000:=wU64 k28
    obtain ⟨k32,H⟩:=H
    have w33:wu (u.getD (lo + i.toNat) default + 1000000000 - ((c + b.getD i.toNat default * g).tmod 1000000000 + w)) = u.getD (lo + i.toNat) default + 1000000000 - ((c + b.getD i.toNat default * g).tmod 1000000000 + w):=wU64 k32
    obtain ⟨k34,H⟩:=H
    have w35:wv (u.getD (lo + i.toNat) default + 1000000000 - ((c + b.getD i.toNat default * g).tmod 1000000000 + w)) = u.getD (lo + i.toNat) default + 1000000000 - ((c + b.getD i.toNat default * g).tmod 1000000000 + w):=wU32 k34
    have w36:(us u).set (lo + i.toNat) (vu (u.getD (lo + i.toNat) default + 1000000000 - ((c + b.getD i.toNat default * g).tmod 1000000000 + w))) = us (u.set (lo + i.toNat) (u.getD (lo + i.toNat) default + 1000000000 - ((c + b.getD i.toNat default * g).tmod 1000000000 + w))):=(lm_set rfl rfl)
    obtain ⟨k37,H⟩:=H
    have w38:wi (i + 1) = i + 1:=wI64 k37
    exact path_wp (G:=given kp134 [(14,7,.elem (zNvE1 u lo i))] []) 1000 [true] ⟨(atC (cd Tryz.f134) [1,1,0,1,0,0]),[(0,AV.ref 0 v lo len),(1,AV.vec fb 1 (us b)),(2,vw g),(7,vw (wu ((wu (c + wu (wu (b.getD i.toNat default) * g))).tdiv 1000000000))),(8,vw 1),(14,vi n),(15,vi (wi (i + 1)))],[⟨(us u).set (lo + i.toNat) (vu (wv (wu (wu (wu (u.getD (lo + i.toNat) default) + 1000000000) - wu ((wu (c + wu (wu (b.getD i.toNat default) * g))).tmod 1000000000 + w))))),1,v,false,true⟩],[(decide (wu (u.getD (lo + i.toNat) default) < wu ((wu (c + wu (wu (b.getD i.toNat default) * g))).tmod 1000000000 + w))) == true,v == v,decide (0 <= i),decide (i.toNat < len),v == v],[((us u).get?Internal (lo + i.toNat) = some (zNvE1 u lo i))],_⟩ (by kernel_rfl) (bc (beq_t (i26.2 d27)) (bc (beq_self_eq_true _) (bc (i_dec.2 k7) (bc (i_dec.2 k22) (bc (beq_self_eq_true _) b0))))) (qc (el_map k23) q0) c0 (by (try rw [w11]);(try rw [w13]);(try rw [w15]);(try rw [w17]);(try rw [w19]);(try rw [w25]);(try rw [w29]);(try rw [w33]);(try rw [w35]);(try rw [w36]);(try rw [w38]);all_goals exact H)
   ·have H:=H.2 d27
    obtain ⟨k41,H⟩:=H
    have w42:wu (u.getD (lo + i.toNat) default - ((c + b.getD i.toNat default * g).tmod 1000000000 + w)) = u.getD (lo + i.toNat) default - ((c + b.getD i.toNat default * g).tmod 1000000000 + w):=wU64 k41
    obtain ⟨k43,H⟩:=H
    have w44:wv (u.getD (lo + i.toNat) default - ((c + b.getD i.toNat default * g).tmod 1000000000 + w)) = u.getD (lo + i.toNat) default - ((c + b.getD i.toNat default * g).tmod 1000000000 + w):=wU32 k43
    have w45:(us u).set (lo + i.toNat) (vu (u.getD (lo + i.toNat) default - ((c + b.getD i.toNat default * g).tmod 1000000000 + w))) = us (u.set (lo + i.toNat) (u.getD (lo + i.toNat) default - ((c + b.getD i.toNat default * g).tmod 1000000000 + w))):=(lm_set rfl rfl)
    obtain ⟨k46,H⟩:=H
    have w47:wi (i + 1) = i + 1:=wI64 k46
    exact path_wp (G:=given kp134 [(14,7,.elem (zNvE1 u lo i))] []) 1000 [false] ⟨(atC (cd Tryz.f134) [1,1,0,1,0,0]),[(0,AV.ref 0 v lo len),(1,AV.vec fb 1 (us b)),(2,vw g),(7,vw (wu ((wu (c + wu (wu (b.getD i.toNat default) * g))).tdiv 1000000000))),(8,vw 0),(14,vi n),(15,vi (wi (i + 1)))],[⟨(us u).set (lo + i.toNat) (vu (wv (wu (wu (u.getD (lo + i.toNat) default) - wu ((wu (c + wu (wu (b.getD i.toNat default) * g))).tmod 1000000000 + w))))),1,v,false,true⟩],[(decide (wu (u.getD (lo + i.toNat) default) < wu ((wu (c + wu (wu (b.getD i.toNat default) * g))).tmod 1000000000 + w))) == false,v == v,decide (0 <= i),decide (i.toNat < len),v == v],[((us u).get?Internal (lo + i.toNat) = some (zNvE1 u lo i))],_⟩ (by kernel_rfl) (bc (beq_f (fun h => d27 (i26.1 h))) (bc (beq_self_eq_true _) (bc (i_dec.2 k7) (bc (i_dec.2 k22) (bc (beq_self_eq_true _) b0))))) (qc (el_map k23) q0) c0 (by (try rw [w11]);(try rw [w13]);(try rw [w15]);(try rw [w17]);(try rw [w19]);(try rw [w25]);(try rw [w42]);(try rw [w44]);(try rw [w45]);(try rw [w47]);all_goals exact H)
  ·have H:=H.2 d5
   obtain ⟨k48,H⟩:=H
   have w49:wu (c.tdiv 1000000000) = c.tdiv 1000000000:=wU64 k48
   obtain ⟨k50,H⟩:=H
   have w51:wu (c.tmod 1000000000 + w) = c.tmod 1000000000 + w:=wU64 k50
   obtain ⟨k53,H⟩:=H
   obtain ⟨k55,H⟩:=H
   obtain ⟨k56,H⟩:=H
   obtain ⟨k57,H⟩:=H
   have w58:wu (u.getD (lo + i.toNat) default) = u.getD (lo + i.toNat) default:=wU64 k57
   have i59:(decide (wu (u.getD (lo + i.toNat) default) < wu (c.tmod 1000000000 + w))) = true ↔ (u.getD (lo + i.toNat) default < c.tmod 1000000000 + w):=(by (try rw [w51]);(try rw [w58]);all_goals exact i_dec)
   refine path_wp (G:=given kp134 [(11,3,.elem (zNvE1 u lo i))] []) 27 [true,false] ⟨(atC (cd Tryz.f134) [1,1,0,1,0,0,1,1,0,0,1,1,1,1,1,1,1,0,1]),[(0,AV.ref 0 v lo len),(1,AV.vec fb 1 (us b)),(2,vw g),(7,vw (wu (c.tdiv 1000000000))),(8,vw 0),(9,vi i),(11,vw (wu (c.tmod 1000000000 + w))),(12,vw (wu (u.getD (lo + i.toNat) default))),(14,vi n),(15,vi i),(45,vb (decide (wu (u.getD (lo + i.toNat) default) < wu (c.tmod 1000000000 + w))))],[⟨us u,1,v,false,true⟩],[(decide (i < n)) == true,(decide (i < (↑(us b).length:Int))) == false,true,true,v == v,decide (0 <= i),decide (i.toNat < len),v == v],[((us u).get?Internal (lo + i.toNat) = some (zNvE1 u lo i))],_⟩ (by kernel_rfl) (bc (beq_t (i_dec.2 d2)) (bc (beq_f (fun h => d5 (i4.1 h))) (bc rfl (bc rfl (bc (beq_self_eq_true _) (bc (i_dec.2 k53) (bc (i_dec.2 k55) (bc (beq_self_eq_true _) b0)))))))) (qc (el_map k56) q0) c0 ?_
   rcases xm (u.getD (lo + i.toNat) default < c.tmod 1000000000 + w) with d60 | d60
   ·have H:=H.1 d60
    obtain ⟨k61,H⟩:=H
    have w62:wu (u.getD (lo + i.toNat) default + 1000000000) = u.getD (lo + i.toNat) default + 1000000000:=wU64 k61
    obtain ⟨k65,H⟩:=H
    have w66:wu (u.getD (lo + i.toNat) default + 1000000000 - (c.tmod 1000000000 + w)) = u.getD (lo + i.toNat) default + 1000000000 - (c.tmod 1000000000 + w):=wU64 k65
    obtain ⟨k67,H⟩:=H
    have w68:wv (u.getD (lo + i.toNat) default + 1000000000 - (c.tmod 1000000000 + w)) = u.getD (lo + i.toNat) default + 1000000000 - (c.tmod 1000000000 + w):=wU32 k67
    have w69:(us u).set (lo + i.toNat) (vu (u.getD (lo + i.toNat) default + 1000000000 - (c.tmod 1000000000 + w))) = us (u.set (lo + i.toNat) (u.getD (lo + i.toNat) default + 1000000000 - (c.tmod 1000000000 + w))):=(lm_set rfl rfl)
    obtain ⟨k70,H⟩:=H
    have w71:wi (i + 1) = i + 1:=wI64 k70
    exact path_wp (G:=given kp134 [(14,7,.elem (zNvE1 u lo i))] []) 1000 [true] ⟨(atC (cd Tryz.f134) [1,1,0,1,0,0]),[(0,AV.ref 0 v lo len),(1,AV.vec fb 1 (us b)),(2,vw g),(7,vw (wu (c.tdiv 1000000000))),(8,vw 1),(14,vi n),(15,vi (wi (i + 1)))],[⟨(us u).set (lo + i.toNat) (vu (wv (wu (wu (wu (u.getD (lo + i.toNat) default) + 1000000000) - wu (c.tmod 1000000000 + w))))),1,v,false,true⟩],[(decide (wu (u.getD (lo + i.toNat) default) < wu (c.tmod 1000000000 + w))) == true,v == v,decide (0 <= i),decide (i.toNat < len),v == v],[((us u).get?Internal (lo + i.toNat) = some (zNvE1 u lo i))],_⟩ (by kernel_rfl) (bc (beq_t (i59.2 d60)) (bc (beq_self_eq_true _) (bc (i_dec.2 k53) (bc (i_dec.2 k55) (bc (beq_self_eq_true _) b0))))) (qc (el_map k56) q0) c0 (by (try rw [w49]);(try rw [w51]);(try rw [w58]);(try rw [w62]);(try rw [w66]);(try rw [w68]);(try rw [w69]);(try rw [w71]);all_goals exact H)
   ·have H:=H.2 d60
    obtain ⟨k74,H⟩:=H
    have w75:wu (u.getD (lo + i.toNat) default - (c.tmod 1000000000 + w)) = u.getD (lo + i.toNat) default - (c.tmod 1000000000 + w):=wU64 k74
    obtain ⟨k76,H⟩:=H
    have w77:wv (u.getD (lo + i.toNat) default - (c.tmod 1000000000 + w)) = u.getD (lo + i.toNat) default - (c.tmod 1000000000 + w):=wU32 k76
    have w78:(us u).set (lo + i.toNat) (vu (u.getD (lo + i.toNat) default - (c.tmod 1000000000 + w))) = us (u.set (lo + i.toNat) (u.getD (lo + i.toNat) default - (c.tmod 1000000000 + w))):=(lm_set rfl rfl)
    obtain ⟨k79,H⟩:=H
    have w80:wi (i + 1) = i + 1:=wI64 k79
    exact path_wp (G:=given kp134 [(14,7,.elem (zNvE1 u lo i))] []) 1000 [false] ⟨(atC (cd Tryz.f134) [1,1,0,1,0,0]),[(0,AV.ref 0 v lo len),(1,AV.vec fb 1 (us b)),(2,vw g),(7,vw (wu (c.tdiv 1000000000))),(8,vw 0),(14,vi n),(15,vi (wi (i + 1)))],[⟨(us u).set (lo + i.toNat) (vu (wv (wu (wu (u.getD (lo + i.toNat) default) - wu (c.tmod 1000000000 + w))))),1,v,false,true⟩],[(decide (wu (u.getD (lo + i.toNat) default) < wu (c.tmod 1000000000 + w))) == false,v == v,decide (0 <= i),decide (i.toNat < len),v == v],[((us u).get?Internal (lo + i.toNat) = some (zNvE1 u lo i))],_⟩ (by kernel_rfl) (bc (beq_f (fun h => d60 (i59.1 h))) (bc (beq_self_eq_true _) (bc (i_dec.2 k53) (bc (i_dec.2 k55) (bc (beq_self_eq_true _) b0))))) (qc (el_map k56) q0) c0 (by (try rw [w49]);(try rw [w51]);(try rw [w58]);(try rw [w75]);(try rw [w77]);(try rw [w78]);(try rw [w80]);all_goals exact H)
 ·have H:=H.2 d2
  exact path_ret (G:=given kp134 [] []) 1000 [false] (k:=((atC (cd Tryz.f134) [1,1,1,1])).tail) (env':=[(6,vb (bif decide (w > 0) then true else decide (c > 0)))]) (L':=[⟨us u,1,v,false,true⟩]) (asm:=[(decide (i < n)) == false]) (eqs:=[]) (calls:=[]) (vb (bif decide (w > 0) then true else decide (c > 0))) (by kernel_rfl) (by kernel_rfl) (allB_cons (beq_f (fun h => d2 (i_dec.1 h))) allB_nil) allP_nil allC_nil H
theorem vRestore (u b:List Int) (fb:Bool) (v lo len:Nat)  (Q:AV -> Heap -> Prop) (H :
  vRestoreA_at (u) (b) (fb) (v) (lo) (len) (0) ((↑len:Int)) (0) Q) :
 vRestore_at u b fb v lo len Q:=by
 unfold vRestore_at
 exact path_wp (G:=given kp135 [] []) 1000 [] ⟨(atC (cd Tryz.f135) [1,1,0,0]),[(0,AV.ref 0 v lo len),(1,AV.vec fb 1 (us b)),(4,vu 0),(8,vi (↑len:Int)),(9,vi 0)],[⟨us u,1,v,false,true⟩],[v == v],[],_⟩ (by kernel_rfl) (bc (beq_self_eq_true _) b0) q0 c0 (H)
noncomputable abbrev zNvE2 (u:List Int) (lo:Nat) (i:Int):=vu (u.getD (lo + i.toNat) default)
theorem vRestoreA (u b:List Int) (fb:Bool) (v lo len:Nat) (c n i:Int)  (Q:AV -> Heap -> Prop) (H :
  ((i < n) -> (0 <= i) /\
   (i.toNat < len) /\
   (lo + i.toNat < u.length) /\
   (0 <= u.getD (lo + i.toNat) default + c /\ u.getD (lo + i.toNat) default + c <= 4294967295) /\
   ((i < (↑b.length:Int)) -> (i.toNat < b.length) /\
    (0 <= u.getD (lo + i.toNat) default + c + b.getD i.toNat default /\ u.getD (lo + i.toNat) default + c + b.getD i.toNat default <= 4294967295) /\
    ((u.getD (lo + i.toNat) default + c + b.getD i.toNat default >= 1000000000) -> (0 <= u.getD (lo + i.toNat) default + c + b.getD i.toNat default - 1000000000 /\ u.getD (lo + i.toNat) default + c + b.getD i.toNat default - 1000000000 <= 4294967295) /\
     (-9223372036854775808 <= i + 1 /\ i + 1 <= 9223372036854775807) /\
     vRestoreA_at (u.set (lo + i.toNat) (u.getD (lo + i.toNat) default + c + b.getD i.toNat default - 1000000000)) (b) (fb) (v) (lo) (len) (1) (n) (i + 1) Q) /\
    (¬(u.getD (lo + i.toNat) default + c + b.getD i.toNat default >= 1000000000) -> (-9223372036854775808 <= i + 1 /\ i + 1 <= 9223372036854775807) /\
     vRestoreA_at (u.set (lo + i.toNat) (u.getD (lo + i.toNat) default + c + b.getD i.toNat default)) (b) (fb) (v) (lo) (len) (0) (n) (i + 1) Q)) /\
   (¬(i < (↑b.length:Int)) -> ((u.getD (lo + i.toNat) default + c >= 1000000000) -> (0 <= u.getD (lo + i.toNat) default + c - 1000000000 /\ u.getD (lo + i.toNat) default + c - 1000000000 <= 4294967295) /\
     (-9223372036854775808 <= i + 1 /\ i + 1 <= 9223372036854775807) /\
     vRestoreA_at (u.set (lo + i.toNat) (u.getD (lo + i.toNat) default + c - 1000000000)) (b) (fb) (v) (lo) (len) (1) (n) (i + 1) Q) /\
    (¬(u.getD (lo + i.toNat) default + c >= 1000000000) -> (-9223372036854775808 <= i + 1 /\ i + 1 <= 9223372036854775807) /\
     vRestoreA_at (u.set (lo + i.toNat) (u.getD (lo + i.toNat) default + c)) (b) (fb) (v) (lo) (len) (0) (n) (i + 1) Q))) /\
  (¬(i < n) -> Q (tu []) [{ elems:=us u,es:=1,ver:=v,frozen:=false,clean:=true }])) :
 vRestoreA_at u b fb v lo len c n i Q:=by
 unfold vRestoreA_at
 rcases xm (i < n) with d2 | d2
 ·have H:=H.1 d2
  obtain ⟨k4,H⟩:=H
  obtain ⟨k6,H⟩:=H
  obtain ⟨k7,H⟩:=H
  obtain ⟨k8,H⟩:=H
  have w9:wv (u.getD (lo + i.toNat) default + c) = u.getD (lo + i.toNat) default + c:=wU32 k8
  have w10:(us b).length = b.length:=List.length_map ..
  have i11:(decide (i < (↑(us b).length:Int))) = true ↔ (i < (↑b.length:Int)):=(by (try rw [w10]);all_goals exact i_dec)
  refine path_wp (G:=given kp135 [(4,3,.elem (zNvE2 u lo i))] []) 14 [true] ⟨(atC (cd Tryz.f135) [1,1,0,0,1,1,0,0,1,1,0,1]),[(0,AV.ref 0 v lo len),(1,AV.vec fb 1 (us b)),(5,vi i),(6,vu (wv (u.getD (lo + i.toNat) default + c))),(8,vi n),(9,vi i),(21,vb (decide (i < (↑(us b).length:Int))))],[⟨us u,1,v,false,true⟩],[(decide (i < n)) == true,v == v,decide (0 <= i),decide (i.toNat < len),v == v],[((us u).get?Internal (lo + i.toNat) = some (zNvE2 u lo i))],_⟩ (by kernel_rfl) (bc (beq_t (i_dec.2 d2)) (bc (beq_self_eq_true _) (bc (i_dec.2 k4) (bc (i_dec.2 k6) (bc (beq_self_eq_true _) b0))))) (qc (el_map k7) q0) c0 ?_
  rcases xm (i < (↑b.length:Int)) with d12 | d12
  ·have H:=H.1 d12
   have i14:(decide (i.toNat < (us b).length)) = true ↔ (i.toNat < b.length):=(by (try rw [w10]);all_goals exact i_dec)
   obtain ⟨k15,H⟩:=H
   obtain ⟨k16,H⟩:=H
   have w17:wv (u.getD (lo + i.toNat) default + c + b.getD i.toNat default) = u.getD (lo + i.toNat) default + c + b.getD i.toNat default:=wU32 k16
   have i18:(decide (wv (wv (u.getD (lo + i.toNat) default + c) + b.getD i.toNat default) >= 1000000000)) = true ↔ (u.getD (lo + i.toNat) default + c + b.getD i.toNat default >= 1000000000):=(by (try rw [w9]);(try rw [w17]);all_goals exact i_dec)
   refine path_wp (G:=given kp135 [(6,4,.elem (vu (b.getD i.toNat default)))] []) 7 [true] ⟨(atC (cd Tryz.f135) [1,1,0,0,1,1,0,0,1,1,1,1,0,1]),[(0,AV.ref 0 v lo len),(1,AV.vec fb 1 (us b)),(4,vu 0),(5,vi i),(6,vu (wv (wv (u.getD (lo + i.toNat) default + c) + b.getD i.toNat default))),(8,vi n),(9,vi i),(29,vb (decide (wv (wv (u.getD (lo + i.toNat) default + c) + b.getD i.toNat default) >= 1000000000)))],[⟨us u,1,v,false,true⟩],_,[((us b).get?Internal i.toNat = some (vu (b.getD i.toNat default)))],_⟩ (by kernel_rfl) (bc (beq_t (i11.2 d12)) (bc (i_dec.2 k4) (bc (i14.2 k15) b0))) (qc (el_map k15) q0) c0 ?_
   rcases xm (u.getD (lo + i.toNat) default + c + b.getD i.toNat default >= 1000000000) with d19 | d19
   ·have H:=H.1 d19
    obtain ⟨k20,H⟩:=H
    have w21:wv (u.getD (lo + i.toNat) default + c + b.getD i.toNat default - 1000000000) = u.getD (lo + i.toNat) default + c + b.getD i.toNat default - 1000000000:=wU32 k20
    have w24:(us u).set (lo + i.toNat) (vu (u.getD (lo + i.toNat) default + c + b.getD i.toNat default - 1000000000)) = us (u.set (lo + i.toNat) (u.getD (lo + i.toNat) default + c + b.getD i.toNat default - 1000000000)):=(lm_set rfl rfl)
    obtain ⟨k25,H⟩:=H
    have w26:wi (i + 1) = i + 1:=wI64 k25
    exact path_wp (G:=given kp135 [(10,4,.elem (zNvE2 u lo i))] []) 1000 [true] ⟨(atC (cd Tryz.f135) [1,1,0,0]),[(0,AV.ref 0 v lo len),(1,AV.vec fb 1 (us b)),(4,vu 1),(8,vi n),(9,vi (wi (i + 1)))],[⟨(us u).set (lo + i.toNat) (vu (wv (wv (wv (u.getD (lo + i.toNat) default + c) + b.getD i.toNat default) - 1000000000))),1,v,false,true⟩],[(decide (wv (wv (u.getD (lo + i.toNat) default + c) + b.getD i.toNat default) >= 1000000000)) == true,v == v,decide (0 <= i),decide (i.toNat < len),v == v],[((us u).get?Internal (lo + i.toNat) = some (zNvE2 u lo i))],_⟩ (by kernel_rfl) (bc (beq_t (i18.2 d19)) (bc (beq_self_eq_true _) (bc (i_dec.2 k4) (bc (i_dec.2 k6) (bc (beq_self_eq_true _) b0))))) (qc (el_map k7) q0) c0 (by (try rw [w9]);(try rw [w17]);(try rw [w21]);(try rw [w24]);(try rw [w26]);all_goals exact H)
   ·have H:=H.2 d19
    have w29:(us u).set (lo + i.toNat) (vu (u.getD (lo + i.toNat) default + c + b.getD i.toNat default)) = us (u.set (lo + i.toNat) (u.getD (lo + i.toNat) default + c + b.getD i.toNat default)):=(lm_set rfl rfl)
    obtain ⟨k30,H⟩:=H
    have w31:wi (i + 1) = i + 1:=wI64 k30
    exact path_wp (G:=given kp135 [(10,4,.elem (zNvE2 u lo i))] []) 1000 [false] ⟨(atC (cd Tryz.f135) [1,1,0,0]),[(0,AV.ref 0 v lo len),(1,AV.vec fb 1 (us b)),(4,vu 0),(8,vi n),(9,vi (wi (i + 1)))],[⟨(us u).set (lo + i.toNat) (vu (wv (wv (u.getD (lo + i.toNat) default + c) + b.getD i.toNat default))),1,v,false,true⟩],[(decide (wv (wv (u.getD (lo + i.toNat) default + c) + b.getD i.toNat default) >= 1000000000)) == false,v == v,decide (0 <= i),decide (i.toNat < len),v == v],[((us u).get?Internal (lo + i.toNat) = some (zNvE2 u lo i))],_⟩ (by kernel_rfl) (bc (beq_f (fun h => d19 (i18.1 h))) (bc (beq_self_eq_true _) (bc (i_dec.2 k4) (bc (i_dec.2 k6) (bc (beq_self_eq_true _) b0))))) (qc (el_map k7) q0) c0 (by (try rw [w9]);(try rw [w17]);(try rw [w29]);(try rw [w31]);all_goals exact H)
  ·have H:=H.2 d12
   have i32:(decide (wv (u.getD (lo + i.toNat) default + c) >= 1000000000)) = true ↔ (u.getD (lo + i.toNat) default + c >= 1000000000):=(by (try rw [w9]);all_goals exact i_dec)
   rcases xm (u.getD (lo + i.toNat) default + c >= 1000000000) with d33 | d33
   ·have H:=H.1 d33
    obtain ⟨k34,H⟩:=H
    have w35:wv (u.getD (lo + i.toNat) default + c - 1000000000) = u.getD (lo + i.toNat) default + c - 1000000000:=wU32 k34
    have w38:(us u).set (lo + i.toNat) (vu (u.getD (lo + i.toNat) default + c - 1000000000)) = us (u.set (lo + i.toNat) (u.getD (lo + i.toNat) default + c - 1000000000)):=(lm_set rfl rfl)
    obtain ⟨k39,H⟩:=H
    have w40:wi (i + 1) = i + 1:=wI64 k39
    exact path_wp (G:=given kp135 [(10,4,.elem (zNvE2 u lo i))] []) 1000 [false,true] ⟨(atC (cd Tryz.f135) [1,1,0,0]),[(0,AV.ref 0 v lo len),(1,AV.vec fb 1 (us b)),(4,vu 1),(8,vi n),(9,vi (wi (i + 1)))],[⟨(us u).set (lo + i.toNat) (vu (wv (wv (u.getD (lo + i.toNat) default + c) - 1000000000))),1,v,false,true⟩],[(decide (i < (↑(us b).length:Int))) == false,(decide (wv (u.getD (lo + i.toNat) default + c) >= 1000000000)) == true,v == v,decide (0 <= i),decide (i.toNat < len),v == v],[((us u).get?Internal (lo + i.toNat) = some (zNvE2 u lo i))],_⟩ (by kernel_rfl) (bc (beq_f (fun h => d12 (i11.1 h))) (bc (beq_t (i32.2 d33)) (bc (beq_self_eq_true _) (bc (i_dec.2 k4) (bc (i_dec.2 k6) (bc (beq_self_eq_true _) b0)))))) (qc (el_map k7) q0) c0 (by (try rw [w9]);(try rw [w35]);(try rw [w38]);(try rw [w40]);all_goals exact H)
   ·have H:=H.2 d33
    have w43:(us u).set (lo + i.toNat) (vu (u.getD (lo + i.toNat) default + c)) = us (u.set (lo + i.toNat) (u.getD (lo + i.toNat) default + c)):=(lm_set rfl rfl)
    obtain ⟨k44,H⟩:=H
    have w45:wi (i + 1) = i + 1:=wI64 k44
    exact path_wp (G:=given kp135 [(10,4,.elem (zNvE2 u lo i))] []) 1000 [false,false] ⟨(atC (cd Tryz.f135) [1,1,0,0]),[(0,AV.ref 0 v lo len),(1,AV.vec fb 1 (us b)),(4,vu 0),(8,vi n),(9,vi (wi (i + 1)))],[⟨(us u).set (lo + i.toNat) (vu (wv (u.getD (lo + i.toNat) default + c))),1,v,false,true⟩],[(decide (i < (↑(us b).length:Int))) == false,(decide (wv (u.getD (lo + i.toNat) default + c) >= 1000000000)) == false,v == v,decide (0 <= i),decide (i.toNat < len),v == v],[((us u).get?Internal (lo + i.toNat) = some (zNvE2 u lo i))],_⟩ (by kernel_rfl) (bc (beq_f (fun h => d12 (i11.1 h))) (bc (beq_f (fun h => d33 (i32.1 h))) (bc (beq_self_eq_true _) (bc (i_dec.2 k4) (bc (i_dec.2 k6) (bc (beq_self_eq_true _) b0)))))) (qc (el_map k7) q0) c0 (by (try rw [w9]);(try rw [w43]);(try rw [w45]);all_goals exact H)
 ·have H:=H.2 d2
  exact path_end (G:=given kp135 [] []) 1000 [false] (env':=[(0,AV.ref 0 v lo len),(1,AV.vec fb 1 (us b)),(4,vu c),(8,vi n),(9,vi i),(10,vb (decide (i < n)))]) (L':=[⟨us u,1,v,false,true⟩]) (asm:=[(decide (i < n)) == false]) (eqs:=[]) (calls:=[]) (tu []) (by kernel_rfl) (by kernel_rfl) (allB_cons (beq_f (fun h => d2 (i_dec.1 h))) allB_nil) allP_nil allC_nil H
end Go.Av

namespace Go.Av
open Go.Proofs
namespace Sp
def limZ:Nat -> Int -> List Int
 | 0,_ => []
 | n + 1,z => z % 1000000000 :: limZ n (z / 1000000000)
def rowZ (u:List Int) (lo len:Nat) (z:Int):List Int:=u.take lo ++ (limZ len z ++ u.drop (lo + len))
def win (u:List Int) (lo len:Nat):Nat:=valL ((u.drop lo).take len)
def okL (l:List Int):Prop:=∀ x ∈ l,0 <= x /\ x < 1000000000
end Sp
abbrev urow (u:List Int) (v:Nat):Row:=⟨u.map (.int .u32),1,v,false,true⟩
theorem limZ_nat:∀ (n v:Nat),Sp.limZ n v = Sp.limN n v
 | 0,v => rfl
 | n + 1,v => by
  rw [Sp.limZ,limN_succ,<- limZ_nat n]
  congr 1
theorem limZ_len:∀ (n:Nat) (z:Int),(Sp.limZ n z).length = n
 | 0,z => rfl
 | n + 1,z => by simp [Sp.limZ,limZ_len n]
theorem limZ_ok:∀ (n:Nat) (z:Int),Sp.okL (Sp.limZ n z)
 | 0,z => by intro x hx;simp [Sp.limZ] at hx
 | n + 1,z => by
  intro x hx
  rcases List.mem_cons.1 hx with rfl | hx
  ·omega
  ·exact limZ_ok n _ x hx
theorem getD_of_drop {u l:List Int} {i:Nat} {x:Int} (hi:i < u.length) (h:u.drop i = x :: l):u.getD i default = x /\ u.drop (i + 1) = l:=by
 rw [drop_getD hi] at h
 exact List.cons.inj h
theorem loopSub {fb:Bool} {m V g v lo:Nat} {rest R:List Int} {neg:Prop} [Decidable neg] {Q:AV -> Heap -> Prop} (hm:m <= 1000000) (hlo:lo <= 10000000) (hg:g < 1000000000) (hV:Sp.fits m V) (hQ:Q (.bool (decide neg)) [urow R v]) :
    ∀ (k i:Nat) (u:List Int) (W c w:Nat),i + k = m + 1 -> u.length = lo + (m + 1) + rest.length -> u.drop (lo + i) = Sp.limN k W ++ rest -> Sp.fits k W -> c < 1000000000 -> w <= 1 ->
      (((W:Int) - ((V / 1000000000 ^ i * g:Nat):Int) - c - w < 0) ↔ neg) -> u.take (lo + i) ++ (Sp.limZ k ((W:Int) - ((V / 1000000000 ^ i * g:Nat):Int) - c - w) ++ rest) = R ->
      vSubtractA_at u (Sp.limN m V) fb v lo (m + 1) g c w ((m + 1:Nat):Int) i Q
  | 0,i,u,W,c,w,hi,hul,hud,hW,hc,hw,hneg,hR => by
    have hW0:=fits_zero.1 hW
    rw [fits_div hV (by omega),Nat.zero_mul,hW0] at hneg
    rw [Sp.limZ,List.nil_append] at hR
    rw [Sp.limN,List.nil_append] at hud
    have e:u = R:=by rw [<- hR,<- hud,List.take_append_drop]
    refine vSubtractA _ _ _ _ _ _ _ _ _ _ _ _ ⟨fun h => by omega,fun _ => ?_⟩
    have eb:(bif decide ((w:Int) > 0) then true else decide ((c:Int) > 0)) = decide neg:=by
      rw [<- decide_eq_decide.2 hneg]
      by_cases h1:(w:Int) > 0
      · rw [decide_eq_true h1,cond_true];symm;rw [decide_eq_true_iff];omega
      · rw [decide_eq_false h1,cond_false,decide_eq_decide];omega
    rw [eb,e];exact hQ
  | k + 1,i,u,W,c,w,hi,hul,hud,hW,hc,hw,hneg,hR => by
    rw [limN_succ,List.cons_append] at hud
    obtain ⟨gu,hud'⟩:=getD_of_drop (by omega) hud
    have hp:=mul_parts g (V / 1000000000 ^ i)
    rw [Nat.mul_comm g (V / 1000000000 ^ i),div_next] at hp
    rw [Nat.mul_comm g (V / 1000000000 ^ (i + 1)),Nat.mul_comm g (V / 1000000000 ^ i % 1000000000)] at hp
    have hd:V / 1000000000 ^ i % 1000000000 < 1000000000:=Nat.mod_lt _ (by omega)
    have hpb:V / 1000000000 ^ i % 1000000000 * g <= 999999999 * 999999999:=Nat.mul_le_mul (by omega) (by omega)
    have nxt:∀ (x:Int) (c' w':Nat),c' = (c + V / 1000000000 ^ i % 1000000000 * g) / 1000000000 ->
        ((((W % 1000000000:Nat):Int) < (((c + V / 1000000000 ^ i % 1000000000 * g) % 1000000000 + w:Nat):Int) /\ w' = 1 /\ x = ((W % 1000000000:Nat):Int) + 1000000000 - (((c + V / 1000000000 ^ i % 1000000000 * g) % 1000000000 + w:Nat):Int)) \/
         (¬((W % 1000000000:Nat):Int) < (((c + V / 1000000000 ^ i % 1000000000 * g) % 1000000000 + w:Nat):Int) /\ w' = 0 /\ x = ((W % 1000000000:Nat):Int) - (((c + V / 1000000000 ^ i % 1000000000 * g) % 1000000000 + w:Nat):Int))) ->
        vSubtractA_at (u.set (lo + i) x) (Sp.limN m V) fb v lo (m + 1) g c' w' ((m + 1:Nat):Int) ((i:Int) + 1) Q:=by
      intro x c' w' hc' hx
      have key:((W:Int) - ((V / 1000000000 ^ i * g:Nat):Int) - c - w) % 1000000000 = x /\ ((W:Int) - ((V / 1000000000 ^ i * g:Nat):Int) - c - w) / 1000000000 = ((W / 1000000000:Nat):Int) - ((V / 1000000000 ^ (i + 1) * g:Nat):Int) - c' - w':=by
        generalize V / 1000000000 ^ i * g = a at hp
        generalize V / 1000000000 ^ (i + 1) * g = b at hp
        generalize V / 1000000000 ^ i % 1000000000 * g = p at hp hpb hc' hx
        subst hc'
        rcases hx with ⟨h1,rfl,rfl⟩ | ⟨h1,rfl,rfl⟩ <;> omega
      refine loopSub hm hlo hg hV hQ k (i + 1) _ (W / 1000000000) c' w' (by omega) (by simpa using hul) ?_ (fits_succ.1 hW) ?_ ?_ ?_ ?_
      · rw [show lo + (i + 1) = lo + i + 1 by omega,List.drop_set_of_lt (by omega)];exact hud'
      · rw [hc']
        generalize V / 1000000000 ^ i % 1000000000 * g = p at hpb
        omega
      · rcases hx with ⟨_,h,_⟩ | ⟨_,h,_⟩ <;> omega
      · rw [<- hneg,<- key.2];omega
      · rw [show lo + (i + 1) = lo + i + 1 by omega,take_set_succ (by omega),<- hR,Sp.limZ,key.1,key.2,List.append_assoc];rfl
    refine vSubtractA _ _ _ _ _ _ _ _ _ _ _ _ ⟨fun _ => ?_,fun h => by omega⟩
    rw [Int.toNat_natCast,gu,limN_len]
    have hWm:W % 1000000000 < 1000000000:=Nat.mod_lt _ (by omega)
    by_cases him:i < m
    · rw [limN_getD V him]
      have c1:((V / 1000000000 ^ i % 1000000000:Nat):Int) * (g:Int) = ((V / 1000000000 ^ i % 1000000000 * g:Nat):Int):=(Int.natCast_mul _ _).symm
      rw [c1]
      have hd':((V / 1000000000 ^ i % 1000000000:Nat):Int) < 1000000000:=by omega
      have hd0:(0:Int) <= ((V / 1000000000 ^ i % 1000000000:Nat):Int):=by omega
      generalize ((V / 1000000000 ^ i % 1000000000:Nat):Int) = dI at hd' hd0
      generalize V / 1000000000 ^ i % 1000000000 * g = p at hpb nxt
      have c2:((c:Nat):Int) + ((p:Nat):Int) = ((c + p:Nat):Int):=by omega
      have c3:(((c + p:Nat):Int)).tdiv 1000000000 = (((c + p) / 1000000000:Nat):Int):=by rw [Int.tdiv_eq_ediv_of_nonneg (by omega)];omega
      have c4:(((c + p:Nat):Int)).tmod 1000000000 = (((c + p) % 1000000000:Nat):Int):=by rw [Int.tmod_eq_emod_of_nonneg (by omega)];omega
      rw [c2,c3,c4]
      have c5:(((c + p) % 1000000000:Nat):Int) + (w:Int) = (((c + p) % 1000000000 + w:Nat):Int):=by omega
      rw [c5]
      have hy:(c + p) % 1000000000 + w <= 1000000000:=by omega
      refine ⟨fun _ => ⟨by omega,by omega,by omega,by omega,by omega,by omega,by omega,by omega,by omega,by omega,fun h => ⟨by omega,by omega,by omega,by omega,nxt _ _ 1 rfl (.inl ⟨h,rfl,rfl⟩)⟩,fun h => ⟨by omega,by omega,by omega,nxt _ _ 0 rfl (.inr ⟨h,rfl,rfl⟩)⟩⟩,fun h => by omega⟩
    · have hV0:=fits_div hV (show m <= i by omega)
      rw [hV0,Nat.zero_mod,Nat.zero_mul] at nxt
      simp only [Nat.add_zero] at nxt
      have c3:((c:Nat):Int).tdiv 1000000000 = ((c / 1000000000:Nat):Int):=by rw [Int.tdiv_eq_ediv_of_nonneg (by omega)];omega
      have c4:((c:Nat):Int).tmod 1000000000 = ((c % 1000000000:Nat):Int):=by rw [Int.tmod_eq_emod_of_nonneg (by omega)];omega
      rw [c3,c4]
      have c5:((c % 1000000000:Nat):Int) + (w:Int) = ((c % 1000000000 + w:Nat):Int):=by omega
      rw [c5]
      have hy:c % 1000000000 + w <= 1000000000:=by omega
      refine ⟨fun h => by omega,fun _ => ⟨by omega,by omega,by omega,by omega,by omega,by omega,fun h => ⟨by omega,by omega,by omega,by omega,nxt _ _ 1 rfl (.inl ⟨h,rfl,rfl⟩)⟩,fun h => ⟨by omega,by omega,by omega,nxt _ _ 0 rfl (.inr ⟨h,rfl,rfl⟩)⟩⟩⟩
theorem win_drop {u:List Int} {lo len:Nat} (hu:Sp.okL u) (hl:lo + len <= u.length):u.drop lo = Sp.limN len (Sp.win u lo len) ++ u.drop (lo + len) /\ Sp.fits len (Sp.win u lo len):=by
 have hok:∀ x ∈ (u.drop lo).take len,0 <= x /\ x < 1000000000:=fun x hx => hu x (List.mem_of_mem_drop (List.mem_of_mem_take hx))
 obtain ⟨h1,h2⟩:=limN_val _ hok
 have hlen:((u.drop lo).take len).length = len:=by rw [List.length_take,List.length_drop];omega
 rw [hlen] at h1 h2
 refine ⟨?_,h2⟩
 unfold Sp.win
 rw [<- h1]
 conv => lhs;rw [<- List.take_append_drop len (u.drop lo),List.drop_drop]
theorem evo134 (u b:List Int) (fb:Bool) (v lo len:Nat) (g:Int) (h:Sp.okL u /\ Sp.okL b /\ lo + len <= u.length /\ len = b.length + 1 /\ u.length <= 1000000 /\ 0 <= g /\ g < 1000000000) :
  Ev M1 (.own 134 [.ref 0 v lo len,usA fb b,.int .u64 g] [urow u v]) (.bool (decide ((Sp.win u lo len:Int) - g * (valL b:Nat) < 0))) [urow (Sp.rowZ u lo len ((Sp.win u lo len:Int) - g * (valL b:Nat))) v]:=by
 obtain ⟨hu,hb,h1,h2,h3,h4,h5⟩:=h
 obtain ⟨b1,b2⟩:=limN_val b hb
 obtain ⟨w1,w2⟩:=win_drop hu h1
 subst h2
 obtain ⟨gn,rfl⟩:=Int.eq_ofNat_of_zero_le h4
 refine owncall134 (vSubtract _ _ _ _ _ _ _ _ ?_)
 generalize hV:valL b = V at b1 b2
 rw [b1]
 have e0:((V / 1000000000 ^ 0 * gn:Nat):Int) = (gn:Int) * (V:Int):=by rw [Nat.pow_zero,Nat.div_one,Nat.mul_comm,Int.natCast_mul]
 have:=loopSub (fb:=fb) (m:=b.length) (V:=V) (g:=gn) (v:=v) (lo:=lo) (rest:=u.drop (lo + (b.length + 1))) (R:=Sp.rowZ u lo (b.length + 1) ((Sp.win u lo (b.length + 1):Int) - (gn:Int) * (V:Int))) (neg:=(Sp.win u lo (b.length + 1):Int) - (gn:Int) * (V:Int) < 0)
  (Q:=isR (.bool (decide ((Sp.win u lo (b.length + 1):Int) - (gn:Int) * (V:Int) < 0))) [urow (Sp.rowZ u lo (b.length + 1) ((Sp.win u lo (b.length + 1):Int) - (gn:Int) * (V:Int))) v]) (by omega) (by omega) (by omega) b2 ⟨rfl,rfl⟩
  (b.length + 1) 0 u (Sp.win u lo (b.length + 1)) 0 0 (by omega) (by rw [List.length_drop];omega) w1 w2 (by omega) (by omega) (by rw [e0];simp) (by rw [e0];simp [Sp.rowZ])
 rw [limN_len] at *
 exact this
end Go.Av

namespace Go.Av
open Go.Proofs
theorem limZ_add:∀ (n:Nat) (a b c:Int),Sp.limZ n a = Sp.limZ n b -> Sp.limZ n (a + c) = Sp.limZ n (b + c)
 | 0,a,b,c,_ => rfl
 | n + 1,a,b,c,h => by
  rw [Sp.limZ,Sp.limZ] at h
  obtain ⟨h1,h2⟩:=List.cons.inj h
  rw [Sp.limZ,Sp.limZ]
  have e1:(a + c) % 1000000000 = (b + c) % 1000000000:=by omega
  have e2:(a + c) / 1000000000 = a / 1000000000 + (a % 1000000000 + c) / 1000000000:=by omega
  have e3:(b + c) / 1000000000 = b / 1000000000 + (a % 1000000000 + c) / 1000000000:=by omega
  rw [e1,e2,e3,limZ_add n _ _ _ h2]
theorem loopRes {fb:Bool} {m V v lo:Nat} {rest R:List Int} {Q:AV -> Heap -> Prop} (hm:m <= 1000000) (hlo:lo <= 10000000) (hV:Sp.fits m V) (hQ:Q (.tup []) [urow R v]) :
  ∀ (k i:Nat) (u:List Int) (z:Int) (c:Nat),i + k = m + 1 -> u.length = lo + (m + 1) + rest.length -> u.drop (lo + i) = Sp.limZ k z ++ rest -> c <= 1 ->
   u.take (lo + i) ++ (Sp.limZ k (z + ((V / 1000000000 ^ i:Nat):Int) + c) ++ rest) = R -> vRestoreA_at u (Sp.limN m V) fb v lo (m + 1) c ((m + 1:Nat):Int) i Q
 | 0,i,u,z,c,hi,hul,hud,hc,hR => by
  rw [Sp.limZ,List.nil_append] at hR hud
  have e:u = R:=by rw [<- hR,<- hud,List.take_append_drop]
  exact vRestoreA _ _ _ _ _ _ _ _ _ _ ⟨fun h => by omega,fun _ => by rw [e];exact hQ⟩
 | k + 1,i,u,z,c,hi,hul,hud,hc,hR => by
  rw [Sp.limZ,List.cons_append] at hud
  obtain ⟨gu,hud'⟩:=getD_of_drop (by omega) hud
  have hn:=div_next V i
  have nxt:∀ (x:Int) (c':Nat),(z % 1000000000 + c + ((V / 1000000000 ^ i % 1000000000:Nat):Int) >= 1000000000 /\ c' = 1 /\ x = z % 1000000000 + c + ((V / 1000000000 ^ i % 1000000000:Nat):Int) - 1000000000 \/ ¬z % 1000000000 + c + ((V / 1000000000 ^ i % 1000000000:Nat):Int) >= 1000000000 /\ c' = 0 /\ x = z % 1000000000 + c + ((V / 1000000000 ^ i % 1000000000:Nat):Int)) ->
    vRestoreA_at (u.set (lo + i) x) (Sp.limN m V) fb v lo (m + 1) c' ((m + 1:Nat):Int) ((i:Int) + 1) Q:=by
   intro x c' hx
   have key:(z + ((V / 1000000000 ^ i:Nat):Int) + c) % 1000000000 = x /\ (z + ((V / 1000000000 ^ i:Nat):Int) + c) / 1000000000 = z / 1000000000 + ((V / 1000000000 ^ (i + 1):Nat):Int) + c':=by
    generalize V / 1000000000 ^ (i + 1) = b at hn
    generalize V / 1000000000 ^ i = a at hn hx
    subst hn
    rcases hx with ⟨h1,rfl,rfl⟩ | ⟨h1,rfl,rfl⟩ <;> omega
   refine loopRes hm hlo hV hQ k (i + 1) _ (z / 1000000000) c' (by omega) (by simpa using hul) ?_ (by omega) ?_
   ·rw [show lo + (i + 1) = lo + i + 1 by omega,List.drop_set_of_lt (by omega)];exact hud'
   ·rw [show lo + (i + 1) = lo + i + 1 by omega,take_set_succ (by omega),<- hR,Sp.limZ,key.1,key.2,List.append_assoc];rfl
  refine vRestoreA _ _ _ _ _ _ _ _ _ _ ⟨fun _ => ?_,fun h => by omega⟩
  rw [Int.toNat_natCast,gu,limN_len]
  by_cases him:i < m
  ·rw [limN_getD V him]
   have hd:((V / 1000000000 ^ i % 1000000000:Nat):Int) < 1000000000:=by omega
   have hd0:(0:Int) <= ((V / 1000000000 ^ i % 1000000000:Nat):Int):=by omega
   generalize ((V / 1000000000 ^ i % 1000000000:Nat):Int) = d at hd hd0 nxt
   exact ⟨by omega,by omega,by omega,by omega,fun _ => ⟨by omega,by omega,fun h => ⟨by omega,by omega,nxt _ 1 (.inl ⟨h,rfl,rfl⟩)⟩,fun h => ⟨by omega,nxt _ 0 (.inr ⟨h,rfl,rfl⟩)⟩⟩,fun h => by omega⟩
  ·have hV0:=fits_div hV (show m <= i by omega)
   rw [hV0,Nat.zero_mod] at nxt
   simp only [Int.ofNat_zero,Int.add_zero] at nxt
   exact ⟨by omega,by omega,by omega,by omega,fun h => by omega,fun _ => ⟨fun h => ⟨by omega,by omega,nxt _ 1 (.inl ⟨h,rfl,rfl⟩)⟩,fun h => ⟨by omega,nxt _ 0 (.inr ⟨h,rfl,rfl⟩)⟩⟩⟩
theorem evo135 (u b:List Int) (fb:Bool) (v lo len:Nat) (h:Sp.okL u /\ Sp.okL b /\ lo + len <= u.length /\ len = b.length + 1 /\ u.length <= 1000000) :
  Ev M1 (.own 135 [.ref 0 v lo len,usA fb b] [urow u v]) (.tup []) [urow (Sp.rowZ u lo len ((Sp.win u lo len:Int) + (valL b:Nat))) v]:=by
 obtain ⟨hu,hb,h1,h2,h3⟩:=h
 obtain ⟨b1,b2⟩:=limN_val b hb
 obtain ⟨w1,w2⟩:=win_drop hu h1
 subst h2
 refine owncall135 (vRestore _ _ _ _ _ _ _ ?_)
 generalize hV:valL b = V at b1 b2
 rw [b1]
 have:=loopRes (fb:=fb) (m:=b.length) (V:=V) (v:=v) (lo:=lo) (rest:=u.drop (lo + (b.length + 1))) (R:=Sp.rowZ u lo (b.length + 1) ((Sp.win u lo (b.length + 1):Int) + (V:Int)))
  (Q:=isR (.tup []) [urow (Sp.rowZ u lo (b.length + 1) ((Sp.win u lo (b.length + 1):Int) + (V:Int))) v]) (by omega) (by omega) b2 ⟨rfl,rfl⟩
  (b.length + 1) 0 u (Sp.win u lo (b.length + 1)) 0 (by omega) (by rw [List.length_drop];omega) (by rw [limZ_nat];exact w1) (by omega) (by simp [Sp.rowZ])
 rw [limN_len] at *
 exact this
theorem lim_ok (v:Nat):Sp.okL (Sp.lim v):=limN_ok _ _
theorem rowZ_len {u:List Int} {lo len:Nat} {z:Int} (h:lo + len <= u.length):(Sp.rowZ u lo len z).length = u.length:=by
 unfold Sp.rowZ
 simp only [List.length_append,List.length_take,limZ_len,List.length_drop]
 omega
theorem rowZ_ok {u:List Int} {lo len:Nat} {z:Int} (h:Sp.okL u):Sp.okL (Sp.rowZ u lo len z):=by
 intro x hx
 unfold Sp.rowZ at hx
 rcases List.mem_append.1 hx with hx | hx
 ·exact h x (List.mem_of_mem_take hx)
 ·rcases List.mem_append.1 hx with hx | hx
  ·exact limZ_ok _ _ x hx
  ·exact h x (List.mem_of_mem_drop hx)
theorem rowZ_again {u:List Int} {lo len:Nat} {z c:Int} (h:lo + len <= u.length) (hu:Sp.okL u):Sp.rowZ (Sp.rowZ u lo len z) lo len ((Sp.win (Sp.rowZ u lo len z) lo len:Int) + c) = Sp.rowZ u lo len (z + c):=by
 have hw:=win_drop (rowZ_ok (lo:=lo) (len:=len) (z:=z) hu) (by rw [rowZ_len h];exact h)
 have e1:(Sp.rowZ u lo len z).take lo = u.take lo:=by
  unfold Sp.rowZ
  rw [List.take_append_of_le_length (by rw [List.length_take];omega),List.take_take]
  congr 1;omega
 have e2:(Sp.rowZ u lo len z).drop lo = Sp.limZ len z ++ u.drop (lo + len):=by
  unfold Sp.rowZ
  rw [List.drop_append_of_le_length (by rw [List.length_take];omega),List.drop_of_length_le (by rw [List.length_take];omega),List.nil_append]
 have e3:(Sp.rowZ u lo len z).drop (lo + len) = u.drop (lo + len):=by
  rw [<- List.drop_drop,e2,List.drop_append_of_le_length (by rw [limZ_len];omega),List.drop_of_length_le (by rw [limZ_len];omega),List.nil_append]
 have e4:Sp.limZ len (Sp.win (Sp.rowZ u lo len z) lo len:Int) = Sp.limZ len z:=by
  have:=hw.1
  rw [e2,e3] at this
  rw [limZ_nat]
  exact (List.append_cancel_right this).symm
 show (Sp.rowZ u lo len z).take lo ++ (Sp.limZ len ((Sp.win (Sp.rowZ u lo len z) lo len:Int) + c) ++ (Sp.rowZ u lo len z).drop (lo + len)) = _
 rw [e1,e3,limZ_add len _ z c e4]
 rfl
end Go.Av
