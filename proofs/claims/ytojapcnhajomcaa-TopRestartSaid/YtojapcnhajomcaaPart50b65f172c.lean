/- PART 4 of the texts of a claim, joined by a program: what each part shows stands at its head. -/
import Derived.Test.YtojapcnhajomcaaPart330d851cae

namespace Go.Av
open Go.Proofs
namespace N
def okM (m:Mo):Prop:=((-100000<=m.x/\m.x<=100000)/\(-100000<=m.y/\m.y<=100000) /\ -100000<=m.z/\m.z<=100000)/\(-100000<=m.u/\m.u<=100000)/\(-100000<=m.v/\m.v<=100000) /\ -100000<=m.w/\m.w<=100000
def okL (l:List Mo):Prop:=l.length<=100000 /\ ∀ i,i<l.length->okM (l.getD i default)
def okC (l:List Mo) (ix p:Int):Prop:=okL l/\(0<=ix/\ix<=l.length)/\(ix<l.length->¬ml (l.getD ix.toNat default)=0/\0<=p/\p<=ml (l.getD ix.toNat default))
noncomputable def lf (l:List Mo) (ix p:Int):Int:=ml (l.getD ix.toNat default)-p
def okG (l:List Mo) (ix p:Int):Prop:=okL l/\(0<=ix/\ix<l.length)/\0<=p/\p<=1000000000
noncomputable def po (l:List Mo) (ix p:Int):Ps:=if (l.length:Int)=0 then ⟨0,0,0⟩ else if ix=l.length then (l.getD (ix-1).toNat default).dst else at3 (l.getD ix.toNat default) p
noncomputable def pox (l:List Mo) (ix p:Int):Int:=(po l ix p).x
noncomputable def poy (l:List Mo) (ix p:Int):Int:=(po l ix p).y
noncomputable def poz (l:List Mo) (ix p:Int):Int:=(po l ix p).z
def lm (r S:Int):Int:=if r>0 then (if (r-1).tdiv 1000+1<S then (r-1).tdiv 1000+1 else S) else S
def okR (r:Int):Prop:=-1000000000000<=r/\r<=1000000000000
end N
theorem ev46 (x y z u v w r t b S A j:Int) (h:N.okR r):Ev M1 (.pure 46 [.agg [.int .i64 x,.int .i64 y,.int .i64 z,.int .i64 u,.int .i64 v,.int .i64 w,.int .i64 r,.int .i64 t,.int .i64 b],.agg [.int .i64 S,.int .i64 A,.int .i64 j]]) (.agg [.int .i64 (N.lm r S),.int .i64 A,.int .i64 j]) []:=by
 unfold N.okR at h
 refine call46 (lmA x y z u v w r t b S A j _ ⟨fun hr => ?_,fun hr => ?_⟩)
 ·have e:=Int.tdiv_eq_ediv_of_nonneg (a:=r-1) (b:=1000) (by omega)
  refine ⟨by omega,by omega,by omega,?_⟩
  unfold N.lm;rw [if_pos hr]
 ·unfold N.lm;rw [if_neg hr]
theorem ZbQ {m:Mo} (h:N.okM m):(N.cl (m.u-m.x)/\N.cl (m.v-m.y)/\N.cl (m.w-m.z))/\0<=N.ml m/\N.ml m<=400000:=by
 obtain ⟨⟨h1,h2,h3⟩,h4,h5,h6⟩:=h
 unfold N.cl
 exact ⟨by omega,ZeL m,ml_bd (B:=200000) (by omega) (by omega) (by omega) (by omega)⟩
theorem okM_ps {m:Mo} {p:Int} (h:N.okM m) (h0:¬N.ml m=0) (hp:0<=p/\p<=N.ml m):N.okPs m.x m.y m.z m.u m.v m.w p (N.ml m):=by
 obtain ⟨h1,h2,h3⟩:=ZbQ h
 unfold N.okM at h
 exact ⟨⟨⟨by omega,hp,by omega⟩,⟨by omega,hp,by omega⟩,by omega,hp,by omega⟩,by omega⟩
theorem evo43_a (fm:Bool) (l:List Mo) (S A j ix p k:Int) (bk hd br:Bool) (qx qy qz:Int):Ev M1 (.own 43 [.ptr 0 0 0 0] [⟨[.agg [.vec fm 9 (l.map Mo.a),.int .i64 S,.int .i64 A,.int .i64 j,.int .i64 ix,.int .i64 p,.vnil,.int .i64 k,.bool bk,.bool hd,.bool br,.vnil,.int .i64 qx,.int .i64 qy,.int .i64 qz]],15,0,false,false⟩]) (.bool (k==0)) [⟨[.agg [.vec fm 9 (l.map Mo.a),.int .i64 S,.int .i64 A,.int .i64 j,.int .i64 ix,.int .i64 p,.vnil,.int .i64 k,.bool bk,.bool hd,.bool br,.vnil,.int .i64 qx,.int .i64 qy,.int .i64 qz]],15,0,false,false⟩]:=
 Zdu rfl (rsA fm l S A j ix p k bk hd br qx qy qz _ _ rfl ⟨rfl,rfl⟩)
theorem evo43_b (fm:Bool) (l:List Mo) (S A j ix p k:Int) (bk hd br:Bool) (qx qy qz:Int) (P:List Mo) (w:Nat) (fz:Bool):Ev M1 (.own 43 [.ptr 0 0 0 0] [⟨[.agg [.vec fm 9 (l.map Mo.a),.int .i64 S,.int .i64 A,.int .i64 j,.int .i64 ix,.int .i64 p,.vnil,.int .i64 k,.bool bk,.bool hd,.bool br,.row 1 w,.int .i64 qx,.int .i64 qy,.int .i64 qz]],15,0,false,false⟩,⟨P.map Mo.a,9,w,fz,true⟩]) (.bool (k==0)) [⟨[.agg [.vec fm 9 (l.map Mo.a),.int .i64 S,.int .i64 A,.int .i64 j,.int .i64 ix,.int .i64 p,.vnil,.int .i64 k,.bool bk,.bool hd,.bool br,.row 1 w,.int .i64 qx,.int .i64 qy,.int .i64 qz]],15,0,false,false⟩,⟨P.map Mo.a,9,w,fz,true⟩]:=
 Zdu rfl (rsB fm l S A j ix p k bk hd br qx qy qz P w fz _ _ rfl ⟨rfl,rfl⟩)
theorem evo43_c (fm:Bool) (l:List Mo) (S A j ix p k:Int) (bk hd br:Bool) (qx qy qz:Int) (X:List Int):Ev M1 (.own 43 [.ptr 0 0 0 0] [⟨[.agg [.vec fm 9 (l.map Mo.a),.int .i64 S,.int .i64 A,.int .i64 j,.int .i64 ix,.int .i64 p,.vec false 1 (X.map (.int .i64)),.int .i64 k,.bool bk,.bool hd,.bool br,.vnil,.int .i64 qx,.int .i64 qy,.int .i64 qz]],15,0,false,false⟩]) (.bool (k==(X.length:Int))) [⟨[.agg [.vec fm 9 (l.map Mo.a),.int .i64 S,.int .i64 A,.int .i64 j,.int .i64 ix,.int .i64 p,.vec false 1 (X.map (.int .i64)),.int .i64 k,.bool bk,.bool hd,.bool br,.vnil,.int .i64 qx,.int .i64 qy,.int .i64 qz]],15,0,false,false⟩]:=
 Zdu rfl (rsC fm l S A j ix p k bk hd br qx qy qz X _ _ rfl ⟨rfl,rfl⟩)
theorem evo43_d (fm:Bool) (l:List Mo) (S A j ix p k:Int) (bk hd br:Bool) (qx qy qz:Int) (X:List Int) (P:List Mo) (w:Nat) (fz:Bool):Ev M1 (.own 43 [.ptr 0 0 0 0] [⟨[.agg [.vec fm 9 (l.map Mo.a),.int .i64 S,.int .i64 A,.int .i64 j,.int .i64 ix,.int .i64 p,.vec false 1 (X.map (.int .i64)),.int .i64 k,.bool bk,.bool hd,.bool br,.row 1 w,.int .i64 qx,.int .i64 qy,.int .i64 qz]],15,0,false,false⟩,⟨P.map Mo.a,9,w,fz,true⟩]) (.bool (k==(X.length:Int))) [⟨[.agg [.vec fm 9 (l.map Mo.a),.int .i64 S,.int .i64 A,.int .i64 j,.int .i64 ix,.int .i64 p,.vec false 1 (X.map (.int .i64)),.int .i64 k,.bool bk,.bool hd,.bool br,.row 1 w,.int .i64 qx,.int .i64 qy,.int .i64 qz]],15,0,false,false⟩,⟨P.map Mo.a,9,w,fz,true⟩]:=
 Zdu rfl (rsD fm l S A j ix p k bk hd br qx qy qz X P w fz _ _ rfl ⟨rfl,rfl⟩)
theorem evo45_a (fm:Bool) (l:List Mo) (S A j ix p k:Int) (bk hd br:Bool) (qx qy qz:Int) (h:N.okG l ix p):Ev M1 (.own 45 [.ptr 0 0 0 0] [⟨[.agg [.vec fm 9 (l.map Mo.a),.int .i64 S,.int .i64 A,.int .i64 j,.int .i64 ix,.int .i64 p,.vnil,.int .i64 k,.bool bk,.bool hd,.bool br,.vnil,.int .i64 qx,.int .i64 qy,.int .i64 qz]],15,0,false,false⟩]) (.int .i64 (N.lf l ix p)) [⟨[.agg [.vec fm 9 (l.map Mo.a),.int .i64 S,.int .i64 A,.int .i64 j,.int .i64 ix,.int .i64 p,.vnil,.int .i64 k,.bool bk,.bool hd,.bool br,.vnil,.int .i64 qx,.int .i64 qy,.int .i64 qz]],15,0,false,false⟩]:=by
 obtain ⟨hl,hi,hp⟩:=h
 have hm:=ZbQ (hl.2 ix.toNat (by omega))
 have hb:-9223372036854775808<=N.ml (l.getD ix.toNat default)-p/\N.ml (l.getD ix.toNat default)-p<=9223372036854775807:=by omega
 exact Zdt rfl (lfA fm l S A j ix p k bk hd br qx qy qz _ _ rfl ⟨hm.1,hi.1,by omega,hb,rfl,rfl⟩)
theorem evo45_b (fm:Bool) (l:List Mo) (S A j ix p k:Int) (bk hd br:Bool) (qx qy qz:Int) (P:List Mo) (w:Nat) (fz:Bool) (h:N.okG l ix p):Ev M1 (.own 45 [.ptr 0 0 0 0] [⟨[.agg [.vec fm 9 (l.map Mo.a),.int .i64 S,.int .i64 A,.int .i64 j,.int .i64 ix,.int .i64 p,.vnil,.int .i64 k,.bool bk,.bool hd,.bool br,.row 1 w,.int .i64 qx,.int .i64 qy,.int .i64 qz]],15,0,false,false⟩,⟨P.map Mo.a,9,w,fz,true⟩]) (.int .i64 (N.lf l ix p)) [⟨[.agg [.vec fm 9 (l.map Mo.a),.int .i64 S,.int .i64 A,.int .i64 j,.int .i64 ix,.int .i64 p,.vnil,.int .i64 k,.bool bk,.bool hd,.bool br,.row 1 w,.int .i64 qx,.int .i64 qy,.int .i64 qz]],15,0,false,false⟩,⟨P.map Mo.a,9,w,fz,true⟩]:=by
 obtain ⟨hl,hi,hp⟩:=h
 have hm:=ZbQ (hl.2 ix.toNat (by omega))
 have hb:-9223372036854775808<=N.ml (l.getD ix.toNat default)-p/\N.ml (l.getD ix.toNat default)-p<=9223372036854775807:=by omega
 exact Zdt rfl (lfB fm l S A j ix p k bk hd br qx qy qz P w fz _ _ rfl ⟨hm.1,hi.1,by omega,hb,rfl,rfl⟩)
theorem evo45_c (fm:Bool) (l:List Mo) (S A j ix p k:Int) (bk hd br:Bool) (qx qy qz:Int) (X:List Int) (h:N.okG l ix p):Ev M1 (.own 45 [.ptr 0 0 0 0] [⟨[.agg [.vec fm 9 (l.map Mo.a),.int .i64 S,.int .i64 A,.int .i64 j,.int .i64 ix,.int .i64 p,.vec false 1 (X.map (.int .i64)),.int .i64 k,.bool bk,.bool hd,.bool br,.vnil,.int .i64 qx,.int .i64 qy,.int .i64 qz]],15,0,false,false⟩]) (.int .i64 (N.lf l ix p)) [⟨[.agg [.vec fm 9 (l.map Mo.a),.int .i64 S,.int .i64 A,.int .i64 j,.int .i64 ix,.int .i64 p,.vec false 1 (X.map (.int .i64)),.int .i64 k,.bool bk,.bool hd,.bool br,.vnil,.int .i64 qx,.int .i64 qy,.int .i64 qz]],15,0,false,false⟩]:=by
 obtain ⟨hl,hi,hp⟩:=h
 have hm:=ZbQ (hl.2 ix.toNat (by omega))
 have hb:-9223372036854775808<=N.ml (l.getD ix.toNat default)-p/\N.ml (l.getD ix.toNat default)-p<=9223372036854775807:=by omega
 exact Zdt rfl (lfC fm l S A j ix p k bk hd br qx qy qz X _ _ rfl ⟨hm.1,hi.1,by omega,hb,rfl,rfl⟩)
theorem evo45_d (fm:Bool) (l:List Mo) (S A j ix p k:Int) (bk hd br:Bool) (qx qy qz:Int) (X:List Int) (P:List Mo) (w:Nat) (fz:Bool) (h:N.okG l ix p):Ev M1 (.own 45 [.ptr 0 0 0 0] [⟨[.agg [.vec fm 9 (l.map Mo.a),.int .i64 S,.int .i64 A,.int .i64 j,.int .i64 ix,.int .i64 p,.vec false 1 (X.map (.int .i64)),.int .i64 k,.bool bk,.bool hd,.bool br,.row 1 w,.int .i64 qx,.int .i64 qy,.int .i64 qz]],15,0,false,false⟩,⟨P.map Mo.a,9,w,fz,true⟩]) (.int .i64 (N.lf l ix p)) [⟨[.agg [.vec fm 9 (l.map Mo.a),.int .i64 S,.int .i64 A,.int .i64 j,.int .i64 ix,.int .i64 p,.vec false 1 (X.map (.int .i64)),.int .i64 k,.bool bk,.bool hd,.bool br,.row 1 w,.int .i64 qx,.int .i64 qy,.int .i64 qz]],15,0,false,false⟩,⟨P.map Mo.a,9,w,fz,true⟩]:=by
 obtain ⟨hl,hi,hp⟩:=h
 have hm:=ZbQ (hl.2 ix.toNat (by omega))
 have hb:-9223372036854775808<=N.ml (l.getD ix.toNat default)-p/\N.ml (l.getD ix.toNat default)-p<=9223372036854775807:=by omega
 exact Zdt rfl (lfD fm l S A j ix p k bk hd br qx qy qz X P w fz _ _ rfl ⟨hm.1,hi.1,by omega,hb,rfl,rfl⟩)
theorem ZfS (fm:Bool) (l:List Mo) (S A j ix p k:Int) (bk hd br:Bool) (qx qy qz:Int) (h:N.okC l ix p):Ev M1 (.own 13 [.ptr 0 0 0 0] [⟨[.agg [.vec fm 9 (l.map Mo.a),.int .i64 S,.int .i64 A,.int .i64 j,.int .i64 ix,.int .i64 p,.vnil,.int .i64 k,.bool bk,.bool hd,.bool br,.vnil,.int .i64 qx,.int .i64 qy,.int .i64 qz]],15,0,false,false⟩]) (.agg [.int .i64 (N.pox l ix p),.int .i64 (N.poy l ix p),.int .i64 (N.poz l ix p)]) [⟨[.agg [.vec fm 9 (l.map Mo.a),.int .i64 S,.int .i64 A,.int .i64 j,.int .i64 ix,.int .i64 p,.vnil,.int .i64 k,.bool bk,.bool hd,.bool br,.vnil,.int .i64 qx,.int .i64 qy,.int .i64 qz]],15,0,false,false⟩]:=by
 obtain ⟨hl,hi,hp⟩:=h
 unfold N.pox N.poy N.poz N.po
 refine Zdw rfl (poA fm l S A j ix p k bk hd br qx qy qz _ _ rfl ⟨fun h1 => ?_,fun h1=>⟨fun h2 => ?_,fun h2 => ?_⟩⟩)
 ·rw [if_pos h1];exact ⟨rfl,rfl⟩
 ·rw [if_neg h1,if_pos h2];have:=hl.1;exact ⟨by omega,by omega,by omega,rfl,rfl⟩
 ·rw [if_neg h1,if_neg h2]
  have hlt:ix<l.length:=by omega
  have hm:=hl.2 ix.toNat (by omega)
  obtain ⟨q1,q2,q3⟩:=hp hlt
  exact ⟨by omega,by omega,(ZbQ hm).1,okM_ps hm q1 ⟨q2,q3⟩,rfl,rfl⟩
theorem ZdP (fm:Bool) (l:List Mo) (S A j ix p k:Int) (bk hd br:Bool) (qx qy qz:Int) (P:List Mo) (w:Nat) (fz:Bool) (h:N.okC l ix p):Ev M1 (.own 13 [.ptr 0 0 0 0] [⟨[.agg [.vec fm 9 (l.map Mo.a),.int .i64 S,.int .i64 A,.int .i64 j,.int .i64 ix,.int .i64 p,.vnil,.int .i64 k,.bool bk,.bool hd,.bool br,.row 1 w,.int .i64 qx,.int .i64 qy,.int .i64 qz]],15,0,false,false⟩,⟨P.map Mo.a,9,w,fz,true⟩]) (.agg [.int .i64 (N.pox l ix p),.int .i64 (N.poy l ix p),.int .i64 (N.poz l ix p)]) [⟨[.agg [.vec fm 9 (l.map Mo.a),.int .i64 S,.int .i64 A,.int .i64 j,.int .i64 ix,.int .i64 p,.vnil,.int .i64 k,.bool bk,.bool hd,.bool br,.row 1 w,.int .i64 qx,.int .i64 qy,.int .i64 qz]],15,0,false,false⟩,⟨P.map Mo.a,9,w,fz,true⟩]:=by
 obtain ⟨hl,hi,hp⟩:=h
 unfold N.pox N.poy N.poz N.po
 refine Zdw rfl (poB fm l S A j ix p k bk hd br qx qy qz P w fz _ _ rfl ⟨fun h1 => ?_,fun h1=>⟨fun h2 => ?_,fun h2 => ?_⟩⟩)
 ·rw [if_pos h1];exact ⟨rfl,rfl⟩
 ·rw [if_neg h1,if_pos h2];have:=hl.1;exact ⟨by omega,by omega,by omega,rfl,rfl⟩
 ·rw [if_neg h1,if_neg h2]
  have hlt:ix<l.length:=by omega
  have hm:=hl.2 ix.toNat (by omega)
  obtain ⟨q1,q2,q3⟩:=hp hlt
  exact ⟨by omega,by omega,(ZbQ hm).1,okM_ps hm q1 ⟨q2,q3⟩,rfl,rfl⟩
theorem evo13_c (fm:Bool) (l:List Mo) (S A j ix p k:Int) (bk hd br:Bool) (qx qy qz:Int) (X:List Int) (h:N.okC l ix p):Ev M1 (.own 13 [.ptr 0 0 0 0] [⟨[.agg [.vec fm 9 (l.map Mo.a),.int .i64 S,.int .i64 A,.int .i64 j,.int .i64 ix,.int .i64 p,.vec false 1 (X.map (.int .i64)),.int .i64 k,.bool bk,.bool hd,.bool br,.vnil,.int .i64 qx,.int .i64 qy,.int .i64 qz]],15,0,false,false⟩]) (.agg [.int .i64 (N.pox l ix p),.int .i64 (N.poy l ix p),.int .i64 (N.poz l ix p)]) [⟨[.agg [.vec fm 9 (l.map Mo.a),.int .i64 S,.int .i64 A,.int .i64 j,.int .i64 ix,.int .i64 p,.vec false 1 (X.map (.int .i64)),.int .i64 k,.bool bk,.bool hd,.bool br,.vnil,.int .i64 qx,.int .i64 qy,.int .i64 qz]],15,0,false,false⟩]:=by
 obtain ⟨hl,hi,hp⟩:=h
 unfold N.pox N.poy N.poz N.po
 refine Zdw rfl (poC fm l S A j ix p k bk hd br qx qy qz X _ _ rfl ⟨fun h1 => ?_,fun h1=>⟨fun h2 => ?_,fun h2 => ?_⟩⟩)
 ·rw [if_pos h1];exact ⟨rfl,rfl⟩
 ·rw [if_neg h1,if_pos h2];have:=hl.1;exact ⟨by omega,by omega,by omega,rfl,rfl⟩
 ·rw [if_neg h1,if_neg h2]
  have hlt:ix<l.length:=by omega
  have hm:=hl.2 ix.toNat (by omega)
  obtain ⟨q1,q2,q3⟩:=hp hlt
  exact ⟨by omega,by omega,(ZbQ hm).1,okM_ps hm q1 ⟨q2,q3⟩,rfl,rfl⟩
theorem evo13_d (fm:Bool) (l:List Mo) (S A j ix p k:Int) (bk hd br:Bool) (qx qy qz:Int) (X:List Int) (P:List Mo) (w:Nat) (fz:Bool) (h:N.okC l ix p):Ev M1 (.own 13 [.ptr 0 0 0 0] [⟨[.agg [.vec fm 9 (l.map Mo.a),.int .i64 S,.int .i64 A,.int .i64 j,.int .i64 ix,.int .i64 p,.vec false 1 (X.map (.int .i64)),.int .i64 k,.bool bk,.bool hd,.bool br,.row 1 w,.int .i64 qx,.int .i64 qy,.int .i64 qz]],15,0,false,false⟩,⟨P.map Mo.a,9,w,fz,true⟩]) (.agg [.int .i64 (N.pox l ix p),.int .i64 (N.poy l ix p),.int .i64 (N.poz l ix p)]) [⟨[.agg [.vec fm 9 (l.map Mo.a),.int .i64 S,.int .i64 A,.int .i64 j,.int .i64 ix,.int .i64 p,.vec false 1 (X.map (.int .i64)),.int .i64 k,.bool bk,.bool hd,.bool br,.row 1 w,.int .i64 qx,.int .i64 qy,.int .i64 qz]],15,0,false,false⟩,⟨P.map Mo.a,9,w,fz,true⟩]:=by
 obtain ⟨hl,hi,hp⟩:=h
 unfold N.pox N.poy N.poz N.po
 refine Zdw rfl (poD fm l S A j ix p k bk hd br qx qy qz X P w fz _ _ rfl ⟨fun h1 => ?_,fun h1=>⟨fun h2 => ?_,fun h2 => ?_⟩⟩)
 ·rw [if_pos h1];exact ⟨rfl,rfl⟩
 ·rw [if_neg h1,if_pos h2];have:=hl.1;exact ⟨by omega,by omega,by omega,rfl,rfl⟩
 ·rw [if_neg h1,if_neg h2]
  have hlt:ix<l.length:=by omega
  have hm:=hl.2 ix.toNat (by omega)
  obtain ⟨q1,q2,q3⟩:=hp hlt
  exact ⟨by omega,by omega,(ZbQ hm).1,okM_ps hm q1 ⟨q2,q3⟩,rfl,rfl⟩
end Go.Av

namespace Go.Av
open Go.Proofs
set_option maxRecDepth 100000
def fi42:Fi:=⟨33,[]⟩
def kp42:List (Nat × List Nat):=[(0,[0,25]),(1,[0])]
def fi52:Fi:=⟨40,[.cell 2 57,.tmp 3]⟩
def kp52:List (Nat × List Nat):=[(0,[0,2]),(1,[0,2,14]),(2,[2,3]),(3,[0,2,4]),(4,[2,4]),(5,[2,3])]
def piA_at (fm:Bool) (l:List Mo) (S A j ix p k:Int) (bk hd br:Bool) (qx qy qz:Int) (Q:AV->Heap->Prop):Prop:=Wp M1 (.run fi52 (atC (cd Try.f52) []) [(0,.ptr 0 0 0 0)] [⟨[.agg [.vec fm 9 (l.map Mo.a),.int .i64 S,.int .i64 A,.int .i64 j,.int .i64 ix,.int .i64 p,.vnil,.int .i64 k,.bool bk,.bool hd,.bool br,.vnil,.int .i64 qx,.int .i64 qy,.int .i64 qz]],15,0,false,false⟩]) Q
def piB_at (fm:Bool) (l:List Mo) (S A j ix p k:Int) (bk hd br:Bool) (qx qy qz:Int) (P:List Mo) (w:Nat) (fz:Bool) (Q:AV->Heap->Prop):Prop:=Wp M1 (.run fi52 (atC (cd Try.f52) []) [(0,.ptr 0 0 0 0)] [⟨[.agg [.vec fm 9 (l.map Mo.a),.int .i64 S,.int .i64 A,.int .i64 j,.int .i64 ix,.int .i64 p,.vnil,.int .i64 k,.bool bk,.bool hd,.bool br,.row 1 w,.int .i64 qx,.int .i64 qy,.int .i64 qz]],15,0,false,false⟩,⟨P.map Mo.a,9,w,fz,true⟩]) Q
def piC_at (fm:Bool) (l:List Mo) (S A j ix p k:Int) (bk hd br:Bool) (qx qy qz:Int) (X:List Int) (Q:AV->Heap->Prop):Prop:=Wp M1 (.run fi52 (atC (cd Try.f52) []) [(0,.ptr 0 0 0 0)] [⟨[.agg [.vec fm 9 (l.map Mo.a),.int .i64 S,.int .i64 A,.int .i64 j,.int .i64 ix,.int .i64 p,.vec false 1 (X.map (.int .i64)),.int .i64 k,.bool bk,.bool hd,.bool br,.vnil,.int .i64 qx,.int .i64 qy,.int .i64 qz]],15,0,false,false⟩]) Q
def piD_at (fm:Bool) (l:List Mo) (S A j ix p k:Int) (bk hd br:Bool) (qx qy qz:Int) (X:List Int) (P:List Mo) (w:Nat) (fz:Bool) (Q:AV->Heap->Prop):Prop:=Wp M1 (.run fi52 (atC (cd Try.f52) []) [(0,.ptr 0 0 0 0)] [⟨[.agg [.vec fm 9 (l.map Mo.a),.int .i64 S,.int .i64 A,.int .i64 j,.int .i64 ix,.int .i64 p,.vec false 1 (X.map (.int .i64)),.int .i64 k,.bool bk,.bool hd,.bool br,.row 1 w,.int .i64 qx,.int .i64 qy,.int .i64 qz]],15,0,false,false⟩,⟨P.map Mo.a,9,w,fz,true⟩]) Q
def ssA_at (fm:Bool) (l:List Mo) (S A j ix p k:Int) (bk hd br:Bool) (qx qy qz:Int) (Q:AV->Heap->Prop):Prop:=Wp M1 (.run fi42 (atC (cd Try.f42) []) [(0,.ptr 0 0 0 0)] [⟨[.agg [.vec fm 9 (l.map Mo.a),.int .i64 S,.int .i64 A,.int .i64 j,.int .i64 ix,.int .i64 p,.vnil,.int .i64 k,.bool bk,.bool hd,.bool br,.vnil,.int .i64 qx,.int .i64 qy,.int .i64 qz]],15,0,false,false⟩]) Q
def ssB_at (fm:Bool) (l:List Mo) (S A j ix p k:Int) (bk hd br:Bool) (qx qy qz:Int) (P:List Mo) (w:Nat) (Q:AV->Heap->Prop):Prop:=Wp M1 (.run fi42 (atC (cd Try.f42) []) [(0,.ptr 0 0 0 0)] [⟨[.agg [.vec fm 9 (l.map Mo.a),.int .i64 S,.int .i64 A,.int .i64 j,.int .i64 ix,.int .i64 p,.vnil,.int .i64 k,.bool bk,.bool hd,.bool br,.row 1 w,.int .i64 qx,.int .i64 qy,.int .i64 qz]],15,0,false,false⟩,⟨P.map Mo.a,9,w,false,true⟩]) Q
def skA_at (fm:Bool) (l:List Mo) (S A j ix p k:Int) (bk hd br:Bool) (qx qy qz:Int) (Q:AV->Heap->Prop):Prop:=Wp M1 (.run fi42 (atC (cd Try.f42) [0,0]) [(0,.ptr 0 0 0 0)] [⟨[.agg [.vec fm 9 (l.map Mo.a),.int .i64 S,.int .i64 A,.int .i64 j,.int .i64 ix,.int .i64 p,.vnil,.int .i64 k,.bool bk,.bool hd,.bool br,.vnil,.int .i64 qx,.int .i64 qy,.int .i64 qz]],15,0,false,false⟩]) Q
def skB_at (fm:Bool) (l:List Mo) (S A j ix p k:Int) (bk hd br:Bool) (qx qy qz:Int) (P:List Mo) (w:Nat) (Q:AV->Heap->Prop):Prop:=Wp M1 (.run fi42 (atC (cd Try.f42) [0,0]) [(0,.ptr 0 0 0 0)] [⟨[.agg [.vec fm 9 (l.map Mo.a),.int .i64 S,.int .i64 A,.int .i64 j,.int .i64 ix,.int .i64 p,.vnil,.int .i64 k,.bool bk,.bool hd,.bool br,.row 1 w,.int .i64 qx,.int .i64 qy,.int .i64 qz]],15,0,false,false⟩,⟨P.map Mo.a,9,w,false,true⟩]) Q
theorem ZgI {args:List AV} {L:Heap} {v:AV} {K:Heap} (hk:ZaB L.length v K=true) (h:Wp M1 (.run fi42 [.code (cd Try.f42)] (ZaN 0 args) L) (Zat v K)):Ev M1 (.own 42 args L) v K:=
 Zb3 Try.f42 fi42 (by kernel_rfl) (by kernel_rfl) (by kernel_rfl) (by kernel_rfl) hk h
theorem Zds {args:List AV} {L:Heap} {v:AV} {K:Heap} (hk:ZaB L.length v K=true) (h:Wp M1 (.run fi52 [.code (cd Try.f52)] (ZaN 0 args) L) (Zat v K)):Ev M1 (.own 52 args L) v K:=
 Zb3 Try.f52 fi52 (by kernel_rfl) (by kernel_rfl) (by kernel_rfl) (by kernel_rfl) hk h
noncomputable abbrev zCxI1 (qx:Int) (qy:Int) (qz:Int) (l:List Mo) (ix:Int) (p:Int):=ag [vi qx,vi qy,vi qz,vi (N.pox l ix p),vi (N.poy l ix p),vi (N.poz l ix p),vi (l.getD ix.toNat default).r,vi (l.getD ix.toNat default).t,vi (l.getD ix.toNat default).b]
noncomputable abbrev zCxI2 (l:List Mo) (ix:Int):=ag [vi (l.getD ix.toNat default).x,vi (l.getD ix.toNat default).y,vi (l.getD ix.toNat default).z,vi (l.getD ix.toNat default).u,vi (l.getD ix.toNat default).v,vi (l.getD ix.toNat default).w,vi (l.getD ix.toNat default).r,vi (l.getD ix.toNat default).t,vi (l.getD ix.toNat default).b]
noncomputable abbrev zCxI3:=ag [vi 0,vi 0,vi 0,vi 0,vi 0,vi 0,vi 0,vi 0,vi 0]
theorem piA (fm:Bool) (l:List Mo) (S A j ix p k:Int) (bk hd br:Bool) (qx qy qz:Int)  (dv:AV) (dK:Heap) (_:ZaB 1 dv dK=true) (H :
  ((ix=(↑l.length:Int))->(Zat dv dK) (tu [ag [vi 0,vi 0,vi 0,vi 0,vi 0,vi 0,vi 0,vi 0,vi 0],vb false]) [{ elems:=[ag [AV.vec fm 9 (List.map Mo.a l),vi S,vi A,vi j,vi ix,vi p,AV.vnil,vi k,vb bk,vb hd,vb br,AV.vnil,vi qx,vi qy,vi qz]],es:=15,ver:=0,frozen:=false,clean:=false },{ elems:=[ag [vi 0,vi 0,vi 0,vi 0,vi 0,vi 0,vi 0,vi 0,vi 0]],es:=9,ver:=0,frozen:=false,clean:=false }]) /\
  (¬(ix=(↑l.length:Int))->(0<=ix) /\
   (ix.toNat<l.length) /\
   (N.okC l ix p) /\
   (Zat dv dK) (tu [ag [vi qx,vi qy,vi qz,vi (N.pox l ix p),vi (N.poy l ix p),vi (N.poz l ix p),vi (l.getD ix.toNat default).r,vi (l.getD ix.toNat default).t,vi (l.getD ix.toNat default).b],vb !(qx==N.pox l ix p&&(qy==N.poy l ix p&&(qz==N.poz l ix p&&true)))]) [{ elems:=[ag [AV.vec fm 9 (List.map Mo.a l),vi S,vi A,vi j,vi ix,vi p,AV.vnil,vi k,vb bk,vb hd,vb br,AV.vnil,vi qx,vi qy,vi qz]],es:=15,ver:=0,frozen:=false,clean:=false },{ elems:=[ag [vi qx,vi qy,vi qz,vi (N.pox l ix p),vi (N.poy l ix p),vi (N.poz l ix p),vi (l.getD ix.toNat default).r,vi (l.getD ix.toNat default).t,vi (l.getD ix.toNat default).b]],es:=9,ver:=0,frozen:=false,clean:=false },{ elems:=[ag [vi qx,vi qy,vi qz,vi (N.pox l ix p),vi (N.poy l ix p),vi (N.poz l ix p),vi (l.getD ix.toNat default).r,vi (l.getD ix.toNat default).t,vi (l.getD ix.toNat default).b]],es:=9,ver:=0,frozen:=false,clean:=false }])) :
 piA_at fm l S A j ix p k bk hd br qx qy qz (Zat dv dK):=by
 unfold piA_at
 have w1:(List.map Mo.a l).length=l.length:=List.length_map ..
 have i2:(ix==(↑(List.map Mo.a l).length:Int))=true ↔ (ix=(↑l.length:Int)):=(by (try rw [w1]);all_goals exact i_eq)
 rcases xq H with ⟨d3,H⟩|⟨d3,H⟩
 ·exact Zai (G:=Zab kp52 [] []) 1000 [true] (k:=((atC (cd Try.f52) [1,0,1,0,1])).tail) (env':=[(2,AV.ptr 1 0 0 0),(3,vb false)]) (L':=[⟨[ag [AV.vec fm 9 (List.map Mo.a l),vi S,vi A,vi j,vi ix,vi p,AV.vnil,vi k,vb bk,vb hd,vb br,AV.vnil,vi qx,vi qy,vi qz]],15,0,false,false⟩,⟨[zCxI3],9,0,false,false⟩]) (asm:=[true,true,(ix==(↑(List.map Mo.a l).length:Int))==true,true]) (eqs:=[]) (calls:=[]) (tu [zCxI3,vb false]) (by kernel_rfl) (by kernel_rfl) (Zaa rfl (Zaa rfl (Zaa (Zam (i2.2 d3)) (Zaa rfl Zae)))) Zaf Zag H
 ·obtain ⟨k5,H⟩:=H
  have i6:(decide (ix.toNat<(List.map Mo.a l).length))=true ↔ (ix.toNat<l.length):=(by (try rw [w1]);all_goals exact Zad)
  obtain ⟨k7,k8,H⟩:=H
  exact Zai (G:=Zab kp52 [(3,9,.elem (zCxI2 l ix)),(4,5,.call (ag [vi (N.pox l ix p),vi (N.poy l ix p),vi (N.poz l ix p)]) none)] [(5,[3006,4004,4002,4000]),(4,[1005])]) 1000 [false] (k:=((atC (cd Try.f52) [1,1,1,1,1])).tail) (env':=[(2,AV.ptr 1 0 0 0),(3,vb !(qx==N.pox l ix p&&(qy==N.poy l ix p&&(qz==N.poz l ix p&&true))))]) (L':=[⟨[ag [AV.vec fm 9 (List.map Mo.a l),vi S,vi A,vi j,vi ix,vi p,AV.vnil,vi k,vb bk,vb hd,vb br,AV.vnil,vi qx,vi qy,vi qz]],15,0,false,false⟩,⟨[(zCxI1 qx qy qz l ix p)],9,0,false,false⟩,⟨[(zCxI1 qx qy qz l ix p)],9,0,false,false⟩]) (asm:=[true,true,(ix==(↑(List.map Mo.a l).length:Int))==false,true,true,decide (0<=ix),decide (ix.toNat<(List.map Mo.a l).length),true,true,true,true,true,true,true,true]) (eqs:=[((List.map Mo.a l).get?Internal ix.toNat=some (zCxI2 l ix))]) (calls:=[⟨true,true,13,[AV.ptr 0 0 0 0],[⟨[ag [AV.vec fm 9 (List.map Mo.a l),vi S,vi A,vi j,vi ix,vi p,AV.vnil,vi k,vb bk,vb hd,vb br,AV.vnil,vi qx,vi qy,vi qz]],15,0,false,false⟩],ag [vi (N.pox l ix p),vi (N.poy l ix p),vi (N.poz l ix p)],[⟨[ag [AV.vec fm 9 (List.map Mo.a l),vi S,vi A,vi j,vi ix,vi p,AV.vnil,vi k,vb bk,vb hd,vb br,AV.vnil,vi qx,vi qy,vi qz]],15,0,false,false⟩]⟩]) (tu [(zCxI1 qx qy qz l ix p),vb !(qx==N.pox l ix p&&(qy==N.poy l ix p&&(qz==N.poz l ix p&&true)))]) (by kernel_rfl) (by kernel_rfl) (Zaa rfl (Zaa rfl (Zaa (Zal (fun h=>d3 (i2.1 h))) (Zaa rfl (Zaa rfl (Zaa (Zad.2 k5) (Zaa (i6.2 k7) (Zaa rfl (Zaa rfl (Zaa rfl (Zaa rfl (Zaa rfl (Zaa rfl (Zaa rfl (Zaa rfl Zae))))))))))))))) (ZaQ (Zaz k7) Zaf) (Zaq (fun _=>(@ZfS fm l S A j ix p k bk hd br qx qy qz k8)) Zag) H
noncomputable abbrev zCxI4 (qx:Int) (qy:Int) (qz:Int) (l:List Mo) (ix:Int) (p:Int):=ag [vi qx,vi qy,vi qz,vi (N.pox l ix p),vi (N.poy l ix p),vi (N.poz l ix p),vi (l.getD ix.toNat default).r,vi (l.getD ix.toNat default).t,vi (l.getD ix.toNat default).b]
noncomputable abbrev zCxI5 (l:List Mo) (ix:Int):=ag [vi (l.getD ix.toNat default).x,vi (l.getD ix.toNat default).y,vi (l.getD ix.toNat default).z,vi (l.getD ix.toNat default).u,vi (l.getD ix.toNat default).v,vi (l.getD ix.toNat default).w,vi (l.getD ix.toNat default).r,vi (l.getD ix.toNat default).t,vi (l.getD ix.toNat default).b]
noncomputable abbrev zCxI6:=ag [vi 0,vi 0,vi 0,vi 0,vi 0,vi 0,vi 0,vi 0,vi 0]
theorem piB (fm:Bool) (l:List Mo) (S A j ix p k:Int) (bk hd br:Bool) (qx qy qz:Int) (P:List Mo) (w:Nat) (fz:Bool)  (dv:AV) (dK:Heap) (_:ZaB 2 dv dK=true) (H :
  ((ix=(↑l.length:Int))->(Zat dv dK) (tu [ag [vi 0,vi 0,vi 0,vi 0,vi 0,vi 0,vi 0,vi 0,vi 0],vb false]) [{ elems:=[ag [AV.vec fm 9 (List.map Mo.a l),vi S,vi A,vi j,vi ix,vi p,AV.vnil,vi k,vb bk,vb hd,vb br,AV.row 1 w,vi qx,vi qy,vi qz]],es:=15,ver:=0,frozen:=false,clean:=false },{ elems:=List.map Mo.a P,es:=9,ver:=w,frozen:=fz,clean:=true },{ elems:=[ag [vi 0,vi 0,vi 0,vi 0,vi 0,vi 0,vi 0,vi 0,vi 0]],es:=9,ver:=0,frozen:=false,clean:=false }]) /\
  (¬(ix=(↑l.length:Int))->(0<=ix) /\
   (ix.toNat<l.length) /\
   (N.okC l ix p) /\
   (Zat dv dK) (tu [ag [vi qx,vi qy,vi qz,vi (N.pox l ix p),vi (N.poy l ix p),vi (N.poz l ix p),vi (l.getD ix.toNat default).r,vi (l.getD ix.toNat default).t,vi (l.getD ix.toNat default).b],vb !(qx==N.pox l ix p&&(qy==N.poy l ix p&&(qz==N.poz l ix p&&true)))]) [{ elems:=[ag [AV.vec fm 9 (List.map Mo.a l),vi S,vi A,vi j,vi ix,vi p,AV.vnil,vi k,vb bk,vb hd,vb br,AV.row 1 w,vi qx,vi qy,vi qz]],es:=15,ver:=0,frozen:=false,clean:=false },{ elems:=List.map Mo.a P,es:=9,ver:=w,frozen:=fz,clean:=true },{ elems:=[ag [vi qx,vi qy,vi qz,vi (N.pox l ix p),vi (N.poy l ix p),vi (N.poz l ix p),vi (l.getD ix.toNat default).r,vi (l.getD ix.toNat default).t,vi (l.getD ix.toNat default).b]],es:=9,ver:=0,frozen:=false,clean:=false },{ elems:=[ag [vi qx,vi qy,vi qz,vi (N.pox l ix p),vi (N.poy l ix p),vi (N.poz l ix p),vi (l.getD ix.toNat default).r,vi (l.getD ix.toNat default).t,vi (l.getD ix.toNat default).b]],es:=9,ver:=0,frozen:=false,clean:=false }])) :
 piB_at fm l S A j ix p k bk hd br qx qy qz P w fz (Zat dv dK):=by
 unfold piB_at
 have w1:(List.map Mo.a l).length=l.length:=List.length_map ..
 have i2:(ix==(↑(List.map Mo.a l).length:Int))=true ↔ (ix=(↑l.length:Int)):=(by (try rw [w1]);all_goals exact i_eq)
 rcases xq H with ⟨d3,H⟩|⟨d3,H⟩
 ·exact Zai (G:=Zab kp52 [] []) 1000 [true] (k:=((atC (cd Try.f52) [1,0,1,0,1])).tail) (env':=[(2,AV.ptr 2 0 0 0),(3,vb false)]) (L':=[⟨[ag [AV.vec fm 9 (List.map Mo.a l),vi S,vi A,vi j,vi ix,vi p,AV.vnil,vi k,vb bk,vb hd,vb br,AV.row 1 w,vi qx,vi qy,vi qz]],15,0,false,false⟩,⟨List.map Mo.a P,9,w,fz,true⟩,⟨[zCxI6],9,0,false,false⟩]) (asm:=[true,true,(ix==(↑(List.map Mo.a l).length:Int))==true,true]) (eqs:=[]) (calls:=[]) (tu [zCxI6,vb false]) (by kernel_rfl) (by kernel_rfl) (Zaa rfl (Zaa rfl (Zaa (Zam (i2.2 d3)) (Zaa rfl Zae)))) Zaf Zag H
 ·obtain ⟨k5,H⟩:=H
  have i6:(decide (ix.toNat<(List.map Mo.a l).length))=true ↔ (ix.toNat<l.length):=(by (try rw [w1]);all_goals exact Zad)
  obtain ⟨k7,k8,H⟩:=H
  exact Zai (G:=Zab kp52 [(3,9,.elem (zCxI5 l ix)),(4,5,.call (ag [vi (N.pox l ix p),vi (N.poy l ix p),vi (N.poz l ix p)]) none)] [(5,[4006,5004,5002,5000]),(4,[1005])]) 1000 [false] (k:=((atC (cd Try.f52) [1,1,1,1,1])).tail) (env':=[(2,AV.ptr 2 0 0 0),(3,vb !(qx==N.pox l ix p&&(qy==N.poy l ix p&&(qz==N.poz l ix p&&true))))]) (L':=[⟨[ag [AV.vec fm 9 (List.map Mo.a l),vi S,vi A,vi j,vi ix,vi p,AV.vnil,vi k,vb bk,vb hd,vb br,AV.row 1 w,vi qx,vi qy,vi qz]],15,0,false,false⟩,⟨List.map Mo.a P,9,w,fz,true⟩,⟨[(zCxI4 qx qy qz l ix p)],9,0,false,false⟩,⟨[(zCxI4 qx qy qz l ix p)],9,0,false,false⟩]) (asm:=[true,true,(ix==(↑(List.map Mo.a l).length:Int))==false,true,true,decide (0<=ix),decide (ix.toNat<(List.map Mo.a l).length),true,true,true,true,true,true,true,true]) (eqs:=[((List.map Mo.a l).get?Internal ix.toNat=some (zCxI5 l ix))]) (calls:=[⟨true,true,13,[AV.ptr 0 0 0 0],[⟨[ag [AV.vec fm 9 (List.map Mo.a l),vi S,vi A,vi j,vi ix,vi p,AV.vnil,vi k,vb bk,vb hd,vb br,AV.row 1 w,vi qx,vi qy,vi qz]],15,0,false,false⟩,⟨List.map Mo.a P,9,w,fz,true⟩],ag [vi (N.pox l ix p),vi (N.poy l ix p),vi (N.poz l ix p)],[⟨[ag [AV.vec fm 9 (List.map Mo.a l),vi S,vi A,vi j,vi ix,vi p,AV.vnil,vi k,vb bk,vb hd,vb br,AV.row 1 w,vi qx,vi qy,vi qz]],15,0,false,false⟩,⟨List.map Mo.a P,9,w,fz,true⟩]⟩]) (tu [(zCxI4 qx qy qz l ix p),vb !(qx==N.pox l ix p&&(qy==N.poy l ix p&&(qz==N.poz l ix p&&true)))]) (by kernel_rfl) (by kernel_rfl) (Zaa rfl (Zaa rfl (Zaa (Zal (fun h=>d3 (i2.1 h))) (Zaa rfl (Zaa rfl (Zaa (Zad.2 k5) (Zaa (i6.2 k7) (Zaa rfl (Zaa rfl (Zaa rfl (Zaa rfl (Zaa rfl (Zaa rfl (Zaa rfl (Zaa rfl Zae))))))))))))))) (ZaQ (Zaz k7) Zaf) (Zaq (fun _=>(@ZdP fm l S A j ix p k bk hd br qx qy qz P w fz k8)) Zag) H
noncomputable abbrev zCxI7 (qx:Int) (qy:Int) (qz:Int) (l:List Mo) (ix:Int) (p:Int):=ag [vi qx,vi qy,vi qz,vi (N.pox l ix p),vi (N.poy l ix p),vi (N.poz l ix p),vi (l.getD ix.toNat default).r,vi (l.getD ix.toNat default).t,vi (l.getD ix.toNat default).b]
noncomputable abbrev zCxI8 (l:List Mo) (ix:Int):=ag [vi (l.getD ix.toNat default).x,vi (l.getD ix.toNat default).y,vi (l.getD ix.toNat default).z,vi (l.getD ix.toNat default).u,vi (l.getD ix.toNat default).v,vi (l.getD ix.toNat default).w,vi (l.getD ix.toNat default).r,vi (l.getD ix.toNat default).t,vi (l.getD ix.toNat default).b]
noncomputable abbrev zCxI9:=ag [vi 0,vi 0,vi 0,vi 0,vi 0,vi 0,vi 0,vi 0,vi 0]
theorem piC (fm:Bool) (l:List Mo) (S A j ix p k:Int) (bk hd br:Bool) (qx qy qz:Int) (X:List Int)  (dv:AV) (dK:Heap) (_:ZaB 1 dv dK=true) (H :
  ((ix=(↑l.length:Int))->(Zat dv dK) (tu [ag [vi 0,vi 0,vi 0,vi 0,vi 0,vi 0,vi 0,vi 0,vi 0],vb false]) [{ elems:=[ag [AV.vec fm 9 (List.map Mo.a l),vi S,vi A,vi j,vi ix,vi p,vf (List.map vi X),vi k,vb bk,vb hd,vb br,AV.vnil,vi qx,vi qy,vi qz]],es:=15,ver:=0,frozen:=false,clean:=false },{ elems:=[ag [vi 0,vi 0,vi 0,vi 0,vi 0,vi 0,vi 0,vi 0,vi 0]],es:=9,ver:=0,frozen:=false,clean:=false }]) /\
  (¬(ix=(↑l.length:Int))->(0<=ix) /\
   (ix.toNat<l.length) /\
   (N.okC l ix p) /\
   (Zat dv dK) (tu [ag [vi qx,vi qy,vi qz,vi (N.pox l ix p),vi (N.poy l ix p),vi (N.poz l ix p),vi (l.getD ix.toNat default).r,vi (l.getD ix.toNat default).t,vi (l.getD ix.toNat default).b],vb !(qx==N.pox l ix p&&(qy==N.poy l ix p&&(qz==N.poz l ix p&&true)))]) [{ elems:=[ag [AV.vec fm 9 (List.map Mo.a l),vi S,vi A,vi j,vi ix,vi p,vf (List.map vi X),vi k,vb bk,vb hd,vb br,AV.vnil,vi qx,vi qy,vi qz]],es:=15,ver:=0,frozen:=false,clean:=false },{ elems:=[ag [vi qx,vi qy,vi qz,vi (N.pox l ix p),vi (N.poy l ix p),vi (N.poz l ix p),vi (l.getD ix.toNat default).r,vi (l.getD ix.toNat default).t,vi (l.getD ix.toNat default).b]],es:=9,ver:=0,frozen:=false,clean:=false },{ elems:=[ag [vi qx,vi qy,vi qz,vi (N.pox l ix p),vi (N.poy l ix p),vi (N.poz l ix p),vi (l.getD ix.toNat default).r,vi (l.getD ix.toNat default).t,vi (l.getD ix.toNat default).b]],es:=9,ver:=0,frozen:=false,clean:=false }])) :
 piC_at fm l S A j ix p k bk hd br qx qy qz X (Zat dv dK):=by
 unfold piC_at
 have w1:(List.map Mo.a l).length=l.length:=List.length_map ..
 have i2:(ix==(↑(List.map Mo.a l).length:Int))=true ↔ (ix=(↑l.length:Int)):=(by (try rw [w1]);all_goals exact i_eq)
 rcases xq H with ⟨d3,H⟩|⟨d3,H⟩
 ·exact Zai (G:=Zab kp52 [] []) 1000 [true] (k:=((atC (cd Try.f52) [1,0,1,0,1])).tail) (env':=[(2,AV.ptr 1 0 0 0),(3,vb false)]) (L':=[⟨[ag [AV.vec fm 9 (List.map Mo.a l),vi S,vi A,vi j,vi ix,vi p,vf (List.map vi X),vi k,vb bk,vb hd,vb br,AV.vnil,vi qx,vi qy,vi qz]],15,0,false,false⟩,⟨[zCxI9],9,0,false,false⟩]) (asm:=[true,true,(ix==(↑(List.map Mo.a l).length:Int))==true,true]) (eqs:=[]) (calls:=[]) (tu [zCxI9,vb false]) (by kernel_rfl) (by kernel_rfl) (Zaa rfl (Zaa rfl (Zaa (Zam (i2.2 d3)) (Zaa rfl Zae)))) Zaf Zag H
 ·obtain ⟨k5,H⟩:=H
  have i6:(decide (ix.toNat<(List.map Mo.a l).length))=true ↔ (ix.toNat<l.length):=(by (try rw [w1]);all_goals exact Zad)
  obtain ⟨k7,k8,H⟩:=H
  exact Zai (G:=Zab kp52 [(3,9,.elem (zCxI8 l ix)),(4,5,.call (ag [vi (N.pox l ix p),vi (N.poy l ix p),vi (N.poz l ix p)]) none)] [(5,[3006,4004,4002,4000]),(4,[1005])]) 1000 [false] (k:=((atC (cd Try.f52) [1,1,1,1,1])).tail) (env':=[(2,AV.ptr 1 0 0 0),(3,vb !(qx==N.pox l ix p&&(qy==N.poy l ix p&&(qz==N.poz l ix p&&true))))]) (L':=[⟨[ag [AV.vec fm 9 (List.map Mo.a l),vi S,vi A,vi j,vi ix,vi p,vf (List.map vi X),vi k,vb bk,vb hd,vb br,AV.vnil,vi qx,vi qy,vi qz]],15,0,false,false⟩,⟨[(zCxI7 qx qy qz l ix p)],9,0,false,false⟩,⟨[(zCxI7 qx qy qz l ix p)],9,0,false,false⟩]) (asm:=[true,true,(ix==(↑(List.map Mo.a l).length:Int))==false,true,true,decide (0<=ix),decide (ix.toNat<(List.map Mo.a l).length),true,true,true,true,true,true,true,true]) (eqs:=[((List.map Mo.a l).get?Internal ix.toNat=some (zCxI8 l ix))]) (calls:=[⟨true,true,13,[AV.ptr 0 0 0 0],[⟨[ag [AV.vec fm 9 (List.map Mo.a l),vi S,vi A,vi j,vi ix,vi p,vf (List.map vi X),vi k,vb bk,vb hd,vb br,AV.vnil,vi qx,vi qy,vi qz]],15,0,false,false⟩],ag [vi (N.pox l ix p),vi (N.poy l ix p),vi (N.poz l ix p)],[⟨[ag [AV.vec fm 9 (List.map Mo.a l),vi S,vi A,vi j,vi ix,vi p,vf (List.map vi X),vi k,vb bk,vb hd,vb br,AV.vnil,vi qx,vi qy,vi qz]],15,0,false,false⟩]⟩]) (tu [(zCxI7 qx qy qz l ix p),vb !(qx==N.pox l ix p&&(qy==N.poy l ix p&&(qz==N.poz l ix p&&true)))]) (by kernel_rfl) (by kernel_rfl) (Zaa rfl (Zaa rfl (Zaa (Zal (fun h=>d3 (i2.1 h))) (Zaa rfl (Zaa rfl (Zaa (Zad.2 k5) (Zaa (i6.2 k7) (Zaa rfl (Zaa rfl (Zaa rfl (Zaa rfl (Zaa rfl (Zaa rfl (Zaa rfl (Zaa rfl Zae))))))))))))))) (ZaQ (Zaz k7) Zaf) (Zaq (fun _=>(@evo13_c fm l S A j ix p k bk hd br qx qy qz X k8)) Zag) H
noncomputable abbrev zCxI10 (qx:Int) (qy:Int) (qz:Int) (l:List Mo) (ix:Int) (p:Int):=ag [vi qx,vi qy,vi qz,vi (N.pox l ix p),vi (N.poy l ix p),vi (N.poz l ix p),vi (l.getD ix.toNat default).r,vi (l.getD ix.toNat default).t,vi (l.getD ix.toNat default).b]
noncomputable abbrev zCxI11 (l:List Mo) (ix:Int):=ag [vi (l.getD ix.toNat default).x,vi (l.getD ix.toNat default).y,vi (l.getD ix.toNat default).z,vi (l.getD ix.toNat default).u,vi (l.getD ix.toNat default).v,vi (l.getD ix.toNat default).w,vi (l.getD ix.toNat default).r,vi (l.getD ix.toNat default).t,vi (l.getD ix.toNat default).b]
noncomputable abbrev zCxI12:=ag [vi 0,vi 0,vi 0,vi 0,vi 0,vi 0,vi 0,vi 0,vi 0]
theorem piD (fm:Bool) (l:List Mo) (S A j ix p k:Int) (bk hd br:Bool) (qx qy qz:Int) (X:List Int) (P:List Mo) (w:Nat) (fz:Bool)  (dv:AV) (dK:Heap) (_:ZaB 2 dv dK=true) (H :
  ((ix=(↑l.length:Int))->(Zat dv dK) (tu [ag [vi 0,vi 0,vi 0,vi 0,vi 0,vi 0,vi 0,vi 0,vi 0],vb false]) [{ elems:=[ag [AV.vec fm 9 (List.map Mo.a l),vi S,vi A,vi j,vi ix,vi p,vf (List.map vi X),vi k,vb bk,vb hd,vb br,AV.row 1 w,vi qx,vi qy,vi qz]],es:=15,ver:=0,frozen:=false,clean:=false },{ elems:=List.map Mo.a P,es:=9,ver:=w,frozen:=fz,clean:=true },{ elems:=[ag [vi 0,vi 0,vi 0,vi 0,vi 0,vi 0,vi 0,vi 0,vi 0]],es:=9,ver:=0,frozen:=false,clean:=false }]) /\
  (¬(ix=(↑l.length:Int))->(0<=ix) /\
   (ix.toNat<l.length) /\
   (N.okC l ix p) /\
   (Zat dv dK) (tu [ag [vi qx,vi qy,vi qz,vi (N.pox l ix p),vi (N.poy l ix p),vi (N.poz l ix p),vi (l.getD ix.toNat default).r,vi (l.getD ix.toNat default).t,vi (l.getD ix.toNat default).b],vb !(qx==N.pox l ix p&&(qy==N.poy l ix p&&(qz==N.poz l ix p&&true)))]) [{ elems:=[ag [AV.vec fm 9 (List.map Mo.a l),vi S,vi A,vi j,vi ix,vi p,vf (List.map vi X),vi k,vb bk,vb hd,vb br,AV.row 1 w,vi qx,vi qy,vi qz]],es:=15,ver:=0,frozen:=false,clean:=false },{ elems:=List.map Mo.a P,es:=9,ver:=w,frozen:=fz,clean:=true },{ elems:=[ag [vi qx,vi qy,vi qz,vi (N.pox l ix p),vi (N.poy l ix p),vi (N.poz l ix p),vi (l.getD ix.toNat default).r,vi (l.getD ix.toNat default).t,vi (l.getD ix.toNat default).b]],es:=9,ver:=0,frozen:=false,clean:=false },{ elems:=[ag [vi qx,vi qy,vi qz,vi (N.pox l ix p),vi (N.poy l ix p),vi (N.poz l ix p),vi (l.getD ix.toNat default).r,vi (l.getD ix.toNat default).t,vi (l.getD ix.toNat default).b]],es:=9,ver:=0,frozen:=false,clean:=false }])) :
 piD_at fm l S A j ix p k bk hd br qx qy qz X P w fz (Zat dv dK):=by
 unfold piD_at
 have w1:(List.map Mo.a l).length=l.length:=List.length_map ..
 have i2:(ix==(↑(List.map Mo.a l).length:Int))=true ↔ (ix=(↑l.length:Int)):=(by (try rw [w1]);all_goals exact i_eq)
 rcases xq H with ⟨d3,H⟩|⟨d3,H⟩
 ·exact Zai (G:=Zab kp52 [] []) 1000 [true] (k:=((atC (cd Try.f52) [1,0,1,0,1])).tail) (env':=[(2,AV.ptr 2 0 0 0),(3,vb false)]) (L':=[⟨[ag [AV.vec fm 9 (List.map Mo.a l),vi S,vi A,vi j,vi ix,vi p,vf (List.map vi X),vi k,vb bk,vb hd,vb br,AV.row 1 w,vi qx,vi qy,vi qz]],15,0,false,false⟩,⟨List.map Mo.a P,9,w,fz,true⟩,⟨[zCxI12],9,0,false,false⟩]) (asm:=[true,true,(ix==(↑(List.map Mo.a l).length:Int))==true,true]) (eqs:=[]) (calls:=[]) (tu [zCxI12,vb false]) (by kernel_rfl) (by kernel_rfl) (Zaa rfl (Zaa rfl (Zaa (Zam (i2.2 d3)) (Zaa rfl Zae)))) Zaf Zag H
 ·obtain ⟨k5,H⟩:=H
  have i6:(decide (ix.toNat<(List.map Mo.a l).length))=true ↔ (ix.toNat<l.length):=(by (try rw [w1]);all_goals exact Zad)
  obtain ⟨k7,k8,H⟩:=H
  exact Zai (G:=Zab kp52 [(3,9,.elem (zCxI11 l ix)),(4,5,.call (ag [vi (N.pox l ix p),vi (N.poy l ix p),vi (N.poz l ix p)]) none)] [(5,[4006,5004,5002,5000]),(4,[1005])]) 1000 [false] (k:=((atC (cd Try.f52) [1,1,1,1,1])).tail) (env':=[(2,AV.ptr 2 0 0 0),(3,vb !(qx==N.pox l ix p&&(qy==N.poy l ix p&&(qz==N.poz l ix p&&true))))]) (L':=[⟨[ag [AV.vec fm 9 (List.map Mo.a l),vi S,vi A,vi j,vi ix,vi p,vf (List.map vi X),vi k,vb bk,vb hd,vb br,AV.row 1 w,vi qx,vi qy,vi qz]],15,0,false,false⟩,⟨List.map Mo.a P,9,w,fz,true⟩,⟨[(zCxI10 qx qy qz l ix p)],9,0,false,false⟩,⟨[(zCxI10 qx qy qz l ix p)],9,0,false,false⟩]) (asm:=[true,true,(ix==(↑(List.map Mo.a l).length:Int))==false,true,true,decide (0<=ix),decide (ix.toNat<(List.map Mo.a l).length),true,true,true,true,true,true,true,true]) (eqs:=[((List.map Mo.a l).get?Internal ix.toNat=some (zCxI11 l ix))]) (calls:=[⟨true,true,13,[AV.ptr 0 0 0 0],[⟨[ag [AV.vec fm 9 (List.map Mo.a l),vi S,vi A,vi j,vi ix,vi p,vf (List.map vi X),vi k,vb bk,vb hd,vb br,AV.row 1 w,vi qx,vi qy,vi qz]],15,0,false,false⟩,⟨List.map Mo.a P,9,w,fz,true⟩],ag [vi (N.pox l ix p),vi (N.poy l ix p),vi (N.poz l ix p)],[⟨[ag [AV.vec fm 9 (List.map Mo.a l),vi S,vi A,vi j,vi ix,vi p,vf (List.map vi X),vi k,vb bk,vb hd,vb br,AV.row 1 w,vi qx,vi qy,vi qz]],15,0,false,false⟩,⟨List.map Mo.a P,9,w,fz,true⟩]⟩]) (tu [(zCxI10 qx qy qz l ix p),vb !(qx==N.pox l ix p&&(qy==N.poy l ix p&&(qz==N.poz l ix p&&true)))]) (by kernel_rfl) (by kernel_rfl) (Zaa rfl (Zaa rfl (Zaa (Zal (fun h=>d3 (i2.1 h))) (Zaa rfl (Zaa rfl (Zaa (Zad.2 k5) (Zaa (i6.2 k7) (Zaa rfl (Zaa rfl (Zaa rfl (Zaa rfl (Zaa rfl (Zaa rfl (Zaa rfl (Zaa rfl Zae))))))))))))))) (ZaQ (Zaz k7) Zaf) (Zaq (fun _=>(@evo13_d fm l S A j ix p k bk hd br qx qy qz X P w fz k8)) Zag) H
theorem ssA (fm:Bool) (l:List Mo) (S A j ix p k:Int) (bk hd br:Bool) (qx qy qz:Int)  (dv:AV) (dK:Heap) (_:ZaB 1 dv dK=true) (H :
  skA_at fm l S A j ix p k bk hd br qx qy qz (Zat dv dK)) :
 ssA_at fm l S A j ix p k bk hd br qx qy qz (Zat dv dK):=by
 unfold ssA_at
 exact Zac (G:=Zab kp42 [] []) 1000 [] ⟨(atC (cd Try.f42) [0,0]),[(0,AV.ptr 0 0 0 0)],[⟨[ag [AV.vec fm 9 (List.map Mo.a l),vi S,vi A,vi j,vi ix,vi p,AV.vnil,vi k,vb bk,vb hd,vb br,AV.vnil,vi qx,vi qy,vi qz]],15,0,false,false⟩],_,[],_⟩ (by kernel_rfl) b0 q0 c0 H
theorem ssB (fm:Bool) (l:List Mo) (S A j ix p k:Int) (bk hd br:Bool) (qx qy qz:Int) (P:List Mo) (w:Nat)  (dv:AV) (dK:Heap) (_:ZaB 2 dv dK=true) (H :
  skB_at fm l S A j ix p k bk hd br qx qy qz P w (Zat dv dK)) :
 ssB_at fm l S A j ix p k bk hd br qx qy qz P w (Zat dv dK):=by
 unfold ssB_at
 exact Zac (G:=Zab kp42 [] []) 1000 [] ⟨(atC (cd Try.f42) [0,0]),[(0,AV.ptr 0 0 0 0)],[⟨[ag [AV.vec fm 9 (List.map Mo.a l),vi S,vi A,vi j,vi ix,vi p,AV.vnil,vi k,vb bk,vb hd,vb br,AV.row 1 w,vi qx,vi qy,vi qz]],15,0,false,false⟩,⟨List.map Mo.a P,9,w,false,true⟩],_,[],_⟩ (by kernel_rfl) b0 q0 c0 H
noncomputable abbrev zCxI13 (l:List Mo) (ix:Int):=ag [vi (l.getD ix.toNat default).x,vi (l.getD ix.toNat default).y,vi (l.getD ix.toNat default).z,vi (l.getD ix.toNat default).u,vi (l.getD ix.toNat default).v,vi (l.getD ix.toNat default).w,vi (l.getD ix.toNat default).r,vi (l.getD ix.toNat default).t,vi (l.getD ix.toNat default).b]
noncomputable abbrev zCxI14 (l:List Mo) (ix:Int):=N.len ((l.getD ix.toNat default).u-(l.getD ix.toNat default).x) ((l.getD ix.toNat default).v-(l.getD ix.toNat default).y) ((l.getD ix.toNat default).w-(l.getD ix.toNat default).z)
noncomputable abbrev zCxI15 (l:List Mo) (ix:Int):=N.len ((l.getD ix.toNat default).u-(l.getD ix.toNat default).x) ((l.getD ix.toNat default).v-(l.getD ix.toNat default).y) ((l.getD ix.toNat default).w-(l.getD ix.toNat default).z)=0
theorem skA (fm:Bool) (l:List Mo) (S A j ix p k:Int) (bk hd br:Bool) (qx qy qz:Int)  (dv:AV) (dK:Heap) (_:ZaB 1 dv dK=true) (H :
  ((ix<(↑l.length:Int))->(N.cl ((l.getD ix.toNat default).u-(l.getD ix.toNat default).x)/\N.cl ((l.getD ix.toNat default).v-(l.getD ix.toNat default).y)/\N.cl ((l.getD ix.toNat default).w-(l.getD ix.toNat default).z))) /\
  ((ix<(↑l.length:Int))->(0<=ix)) /\
  ((ix<(↑l.length:Int))->(ix.toNat<l.length)) /\
  (((ix<(↑l.length:Int))/\(N.len ((l.getD ix.toNat default).u-(l.getD ix.toNat default).x) ((l.getD ix.toNat default).v-(l.getD ix.toNat default).y) ((l.getD ix.toNat default).w-(l.getD ix.toNat default).z)=0))->(-9223372036854775808<=ix+1/\ix+1<=9223372036854775807) /\
   skA_at fm l S A j (ix+1) p k bk hd br qx qy qz (Zat dv dK)) /\
  (¬((ix<(↑l.length:Int))/\(N.len ((l.getD ix.toNat default).u-(l.getD ix.toNat default).x) ((l.getD ix.toNat default).v-(l.getD ix.toNat default).y) ((l.getD ix.toNat default).w-(l.getD ix.toNat default).z)=0))->(Zat dv dK) (tu []) [{ elems:=[ag [AV.vec fm 9 (List.map Mo.a l),vi S,vi A,vi j,vi ix,vi p,AV.vnil,vi k,vb bk,vb hd,vb br,AV.vnil,vi qx,vi qy,vi qz]],es:=15,ver:=0,frozen:=false,clean:=false }])) :
 skA_at fm l S A j ix p k bk hd br qx qy qz (Zat dv dK):=by
 unfold skA_at
 have w1:(List.map Mo.a l).length=l.length:=List.length_map ..
 have i2:(decide (ix<(↑(List.map Mo.a l).length:Int))==true&&true&&true)=true ↔ (ix<(↑l.length:Int)):=(by (try rw [w1]);all_goals exact (i_at (i_at (i_bt Zad))))
 obtain ⟨k3,H⟩:=H
 have i4:(!(decide (ix<(↑(List.map Mo.a l).length:Int))==true&&true)||decide (0<=ix))=true ↔ ((ix<(↑l.length:Int))->(0<=ix)):=(by (try rw [w1]);all_goals exact (Zdf (i_at (i_bt Zad)) Zad))
 obtain ⟨k5,H⟩:=H
 have i6:(!(decide (ix<(↑(List.map Mo.a l).length:Int))==true&&true)||decide (ix.toNat<(List.map Mo.a l).length))=true ↔ ((ix<(↑l.length:Int))->(ix.toNat<l.length)):=(by (try rw [w1]);all_goals exact (Zdf (i_at (i_bt Zad)) Zad))
 obtain ⟨k7,H⟩:=H
 have i9:(bif decide (ix<(↑(List.map Mo.a l).length:Int)) then N.len ((l.getD ix.toNat default).u-(l.getD ix.toNat default).x) ((l.getD ix.toNat default).v-(l.getD ix.toNat default).y) ((l.getD ix.toNat default).w-(l.getD ix.toNat default).z)==0 else false)=true ↔ ((ix<(↑l.length:Int))/\(zCxI15 l ix)):=(by (try rw [w1]);all_goals exact (Za9 Zad i_eq))
 refine Zac (G:=Zab kp42 [(0,20,.elem ((zCxI13 l ix))),(0,21,.call (vi (zCxI14 l ix)) none)] []) 3 [] ⟨(atC (cd Try.f42) [0,0,0,1]),[(0,AV.ptr 0 0 0 0),(25,vb (bif decide (ix<(↑(List.map Mo.a l).length:Int)) then N.len ((l.getD ix.toNat default).u-(l.getD ix.toNat default).x) ((l.getD ix.toNat default).v-(l.getD ix.toNat default).y) ((l.getD ix.toNat default).w-(l.getD ix.toNat default).z)==0 else false))],[⟨[ag [AV.vec fm 9 (List.map Mo.a l),vi S,vi A,vi j,vi ix,vi p,AV.vnil,vi k,vb bk,vb hd,vb br,AV.vnil,vi qx,vi qy,vi qz]],15,0,false,false⟩],[true,true,!(decide (ix<(↑(List.map Mo.a l).length:Int))==true&&true)||true,!(decide (ix<(↑(List.map Mo.a l).length:Int))==true&&true)||true,!(decide (ix<(↑(List.map Mo.a l).length:Int))==true&&true)||decide (0<=ix),!(decide (ix<(↑(List.map Mo.a l).length:Int))==true&&true)||decide (ix.toNat<(List.map Mo.a l).length)],[((decide (ix<(↑(List.map Mo.a l).length:Int))==true&&true)=true->(List.map Mo.a l).get?Internal ix.toNat=some ((zCxI13 l ix)))],[⟨decide (ix<(↑(List.map Mo.a l).length:Int))==true&&true&&true,false,51,[(zCxI13 l ix)],[],vi (zCxI14 l ix),[]⟩]⟩ (by kernel_rfl) (bc rfl (bc rfl (bc (Bool.or_true _) (bc (Bool.or_true _) (bc (i4.2 k5) (bc (i6.2 k7) b0)))))) (qc (by (try rw [w1]);all_goals exact (fun h=>Zaz (k7 ((i_at (i_bt Zad)).1 h)))) q0) (cc (fun hc=>((@ev51 ((l.getD ix.toNat default).x) ((l.getD ix.toNat default).y) ((l.getD ix.toNat default).z) ((l.getD ix.toNat default).u) ((l.getD ix.toNat default).v) ((l.getD ix.toNat default).w) ((l.getD ix.toNat default).r) ((l.getD ix.toNat default).t) ((l.getD ix.toNat default).b) (k3 (i2.1 hc))):Ev M1 (Conf.pure 51 [(zCxI13 l ix)]) (vi (zCxI14 l ix)) [])) c0) ?_
 rcases xq H with ⟨d10,H⟩|⟨d10,H⟩
 ·obtain ⟨k11,H⟩:=H
  have w12:wi (ix+1)=ix+1:=wI64 k11
  exact Zac (G:=Zab kp42 [] []) 1000 [true] ⟨(atC (cd Try.f42) [0,0]),[(0,AV.ptr 0 0 0 0)],[⟨[ag [AV.vec fm 9 (List.map Mo.a l),vi S,vi A,vi j,vi (wi (ix+1)),vi p,AV.vnil,vi k,vb bk,vb hd,vb br,AV.vnil,vi qx,vi qy,vi qz]],15,0,false,false⟩],_,[],_⟩ (by kernel_rfl) (bc (Zam (i9.2 d10)) (bc rfl (bc rfl b0))) q0 c0 (by (try rw [w12]);all_goals exact H)
 ·exact Zbc (G:=Zab kp42 [] []) 1000 [false] (env':=[(0,AV.ptr 0 0 0 0),(25,vb (bif decide (ix<(↑(List.map Mo.a l).length:Int)) then N.len ((l.getD ix.toNat default).u-(l.getD ix.toNat default).x) ((l.getD ix.toNat default).v-(l.getD ix.toNat default).y) ((l.getD ix.toNat default).w-(l.getD ix.toNat default).z)==0 else false))]) (L':=[⟨[ag [AV.vec fm 9 (List.map Mo.a l),vi S,vi A,vi j,vi ix,vi p,AV.vnil,vi k,vb bk,vb hd,vb br,AV.vnil,vi qx,vi qy,vi qz]],15,0,false,false⟩]) (asm:=[(bif decide (ix<(↑(List.map Mo.a l).length:Int)) then N.len ((l.getD ix.toNat default).u-(l.getD ix.toNat default).x) ((l.getD ix.toNat default).v-(l.getD ix.toNat default).y) ((l.getD ix.toNat default).w-(l.getD ix.toNat default).z)==0 else false)==false]) (eqs:=[]) (calls:=[]) (tu []) (by kernel_rfl) (by kernel_rfl) (Zaa (Zal (fun h=>d10 (i9.1 h))) Zae) Zaf Zag H
noncomputable abbrev zCxI16 (l:List Mo) (ix:Int):=ag [vi (l.getD ix.toNat default).x,vi (l.getD ix.toNat default).y,vi (l.getD ix.toNat default).z,vi (l.getD ix.toNat default).u,vi (l.getD ix.toNat default).v,vi (l.getD ix.toNat default).w,vi (l.getD ix.toNat default).r,vi (l.getD ix.toNat default).t,vi (l.getD ix.toNat default).b]
noncomputable abbrev zCxI17 (l:List Mo) (ix:Int):=N.len ((l.getD ix.toNat default).u-(l.getD ix.toNat default).x) ((l.getD ix.toNat default).v-(l.getD ix.toNat default).y) ((l.getD ix.toNat default).w-(l.getD ix.toNat default).z)
noncomputable abbrev zCxI18 (l:List Mo) (ix:Int):=N.len ((l.getD ix.toNat default).u-(l.getD ix.toNat default).x) ((l.getD ix.toNat default).v-(l.getD ix.toNat default).y) ((l.getD ix.toNat default).w-(l.getD ix.toNat default).z)=0
theorem skB (fm:Bool) (l:List Mo) (S A j ix p k:Int) (bk hd br:Bool) (qx qy qz:Int) (P:List Mo) (w:Nat)  (dv:AV) (dK:Heap) (_:ZaB 2 dv dK=true) (H :
  ((ix<(↑l.length:Int))->(N.cl ((l.getD ix.toNat default).u-(l.getD ix.toNat default).x)/\N.cl ((l.getD ix.toNat default).v-(l.getD ix.toNat default).y)/\N.cl ((l.getD ix.toNat default).w-(l.getD ix.toNat default).z))) /\
  ((ix<(↑l.length:Int))->(0<=ix)) /\
  ((ix<(↑l.length:Int))->(ix.toNat<l.length)) /\
  (((ix<(↑l.length:Int))/\(N.len ((l.getD ix.toNat default).u-(l.getD ix.toNat default).x) ((l.getD ix.toNat default).v-(l.getD ix.toNat default).y) ((l.getD ix.toNat default).w-(l.getD ix.toNat default).z)=0))->(-9223372036854775808<=ix+1/\ix+1<=9223372036854775807) /\
   skB_at fm l S A j (ix+1) p k bk hd br qx qy qz P w (Zat dv dK)) /\
  (¬((ix<(↑l.length:Int))/\(N.len ((l.getD ix.toNat default).u-(l.getD ix.toNat default).x) ((l.getD ix.toNat default).v-(l.getD ix.toNat default).y) ((l.getD ix.toNat default).w-(l.getD ix.toNat default).z)=0))->(Zat dv dK) (tu []) [{ elems:=[ag [AV.vec fm 9 (List.map Mo.a l),vi S,vi A,vi j,vi ix,vi p,AV.vnil,vi k,vb bk,vb hd,vb br,AV.row 1 w,vi qx,vi qy,vi qz]],es:=15,ver:=0,frozen:=false,clean:=false },{ elems:=List.map Mo.a P,es:=9,ver:=w,frozen:=false,clean:=true }])) :
 skB_at fm l S A j ix p k bk hd br qx qy qz P w (Zat dv dK):=by
 unfold skB_at
 have w1:(List.map Mo.a l).length=l.length:=List.length_map ..
 have i2:(decide (ix<(↑(List.map Mo.a l).length:Int))==true&&true&&true)=true ↔ (ix<(↑l.length:Int)):=(by (try rw [w1]);all_goals exact (i_at (i_at (i_bt Zad))))
 obtain ⟨k3,H⟩:=H
 have i4:(!(decide (ix<(↑(List.map Mo.a l).length:Int))==true&&true)||decide (0<=ix))=true ↔ ((ix<(↑l.length:Int))->(0<=ix)):=(by (try rw [w1]);all_goals exact (Zdf (i_at (i_bt Zad)) Zad))
 obtain ⟨k5,H⟩:=H
 have i6:(!(decide (ix<(↑(List.map Mo.a l).length:Int))==true&&true)||decide (ix.toNat<(List.map Mo.a l).length))=true ↔ ((ix<(↑l.length:Int))->(ix.toNat<l.length)):=(by (try rw [w1]);all_goals exact (Zdf (i_at (i_bt Zad)) Zad))
 obtain ⟨k7,H⟩:=H
 have i9:(bif decide (ix<(↑(List.map Mo.a l).length:Int)) then N.len ((l.getD ix.toNat default).u-(l.getD ix.toNat default).x) ((l.getD ix.toNat default).v-(l.getD ix.toNat default).y) ((l.getD ix.toNat default).w-(l.getD ix.toNat default).z)==0 else false)=true ↔ ((ix<(↑l.length:Int))/\(zCxI18 l ix)):=(by (try rw [w1]);all_goals exact (Za9 Zad i_eq))
 refine Zac (G:=Zab kp42 [(0,20,.elem ((zCxI16 l ix))),(0,21,.call (vi (zCxI17 l ix)) none)] []) 3 [] ⟨(atC (cd Try.f42) [0,0,0,1]),[(0,AV.ptr 0 0 0 0),(25,vb (bif decide (ix<(↑(List.map Mo.a l).length:Int)) then N.len ((l.getD ix.toNat default).u-(l.getD ix.toNat default).x) ((l.getD ix.toNat default).v-(l.getD ix.toNat default).y) ((l.getD ix.toNat default).w-(l.getD ix.toNat default).z)==0 else false))],[⟨[ag [AV.vec fm 9 (List.map Mo.a l),vi S,vi A,vi j,vi ix,vi p,AV.vnil,vi k,vb bk,vb hd,vb br,AV.row 1 w,vi qx,vi qy,vi qz]],15,0,false,false⟩,⟨List.map Mo.a P,9,w,false,true⟩],[true,true,!(decide (ix<(↑(List.map Mo.a l).length:Int))==true&&true)||true,!(decide (ix<(↑(List.map Mo.a l).length:Int))==true&&true)||true,!(decide (ix<(↑(List.map Mo.a l).length:Int))==true&&true)||decide (0<=ix),!(decide (ix<(↑(List.map Mo.a l).length:Int))==true&&true)||decide (ix.toNat<(List.map Mo.a l).length)],[((decide (ix<(↑(List.map Mo.a l).length:Int))==true&&true)=true->(List.map Mo.a l).get?Internal ix.toNat=some ((zCxI16 l ix)))],[⟨decide (ix<(↑(List.map Mo.a l).length:Int))==true&&true&&true,false,51,[(zCxI16 l ix)],[],vi (zCxI17 l ix),[]⟩]⟩ (by kernel_rfl) (bc rfl (bc rfl (bc (Bool.or_true _) (bc (Bool.or_true _) (bc (i4.2 k5) (bc (i6.2 k7) b0)))))) (qc (by (try rw [w1]);all_goals exact (fun h=>Zaz (k7 ((i_at (i_bt Zad)).1 h)))) q0) (cc (fun hc=>((@ev51 ((l.getD ix.toNat default).x) ((l.getD ix.toNat default).y) ((l.getD ix.toNat default).z) ((l.getD ix.toNat default).u) ((l.getD ix.toNat default).v) ((l.getD ix.toNat default).w) ((l.getD ix.toNat default).r) ((l.getD ix.toNat default).t) ((l.getD ix.toNat default).b) (k3 (i2.1 hc))):Ev M1 (Conf.pure 51 [(zCxI16 l ix)]) (vi (zCxI17 l ix)) [])) c0) ?_
 rcases xq H with ⟨d10,H⟩|⟨d10,H⟩
 ·obtain ⟨k11,H⟩:=H
  have w12:wi (ix+1)=ix+1:=wI64 k11
  exact Zac (G:=Zab kp42 [] []) 1000 [true] ⟨(atC (cd Try.f42) [0,0]),[(0,AV.ptr 0 0 0 0)],[⟨[ag [AV.vec fm 9 (List.map Mo.a l),vi S,vi A,vi j,vi (wi (ix+1)),vi p,AV.vnil,vi k,vb bk,vb hd,vb br,AV.row 1 w,vi qx,vi qy,vi qz]],15,0,false,false⟩,⟨List.map Mo.a P,9,w,false,true⟩],_,[],_⟩ (by kernel_rfl) (bc (Zam (i9.2 d10)) (bc rfl (bc rfl b0))) q0 c0 (by (try rw [w12]);all_goals exact H)
 ·exact Zbc (G:=Zab kp42 [] []) 1000 [false] (env':=[(0,AV.ptr 0 0 0 0),(25,vb (bif decide (ix<(↑(List.map Mo.a l).length:Int)) then N.len ((l.getD ix.toNat default).u-(l.getD ix.toNat default).x) ((l.getD ix.toNat default).v-(l.getD ix.toNat default).y) ((l.getD ix.toNat default).w-(l.getD ix.toNat default).z)==0 else false))]) (L':=[⟨[ag [AV.vec fm 9 (List.map Mo.a l),vi S,vi A,vi j,vi ix,vi p,AV.vnil,vi k,vb bk,vb hd,vb br,AV.row 1 w,vi qx,vi qy,vi qz]],15,0,false,false⟩,⟨List.map Mo.a P,9,w,false,true⟩]) (asm:=[(bif decide (ix<(↑(List.map Mo.a l).length:Int)) then N.len ((l.getD ix.toNat default).u-(l.getD ix.toNat default).x) ((l.getD ix.toNat default).v-(l.getD ix.toNat default).y) ((l.getD ix.toNat default).w-(l.getD ix.toNat default).z)==0 else false)==false]) (eqs:=[]) (calls:=[]) (tu []) (by kernel_rfl) (by kernel_rfl) (Zaa (Zal (fun h=>d10 (i9.1 h))) Zae) Zaf Zag H
end Go.Av

namespace Go.Av
open Go.Proofs
namespace N
noncomputable def pcM (l:List Mo) (ix p qx qy qz:Int):Mo:=if ix=l.length then ⟨0,0,0,0,0,0,0,0,0⟩ else (l.getD ix.toNat default).cut ⟨qx,qy,qz⟩ (po l ix p)
noncomputable def pcB (l:List Mo) (ix p qx qy qz:Int):Bool:=if ix=l.length then false else !(qx==pox l ix p&&(qy==poy l ix p&&(qz==poz l ix p&&true)))
noncomputable def skI (l:List Mo) (ix:Int):Int:=(sk l ix.toNat:Int)
def okK (l:List Mo) (ix:Int):Prop:=okL l/\0<=ix/\ix<=l.length
end N
theorem pcB_iff {l:List Mo} {ix p qx qy qz:Int} (h:¬ix=l.length):N.pcB l ix p qx qy qz=true ↔ ¬(⟨qx,qy,qz⟩:Ps)=N.po l ix p:=by
 unfold N.pcB N.pox N.poy N.poz
 rw [if_neg h]
 obtain ⟨u,v,w⟩:=N.po l ix p
 simp
 omega
theorem evo52_a (fm:Bool) (l:List Mo) (S A j ix p k:Int) (bk hd br:Bool) (qx qy qz:Int) (h:N.okC l ix p):Ev M1 (.own 52 [.ptr 0 0 0 0] [⟨[.agg [.vec fm 9 (l.map Mo.a),.int .i64 S,.int .i64 A,.int .i64 j,.int .i64 ix,.int .i64 p,.vnil,.int .i64 k,.bool bk,.bool hd,.bool br,.vnil,.int .i64 qx,.int .i64 qy,.int .i64 qz]],15,0,false,false⟩]) (.tup [.agg [.int .i64 (N.pcM l ix p qx qy qz).x,.int .i64 (N.pcM l ix p qx qy qz).y,.int .i64 (N.pcM l ix p qx qy qz).z,.int .i64 (N.pcM l ix p qx qy qz).u,.int .i64 (N.pcM l ix p qx qy qz).v,.int .i64 (N.pcM l ix p qx qy qz).w,.int .i64 (N.pcM l ix p qx qy qz).r,.int .i64 (N.pcM l ix p qx qy qz).t,.int .i64 (N.pcM l ix p qx qy qz).b],.bool (N.pcB l ix p qx qy qz)]) [⟨[.agg [.vec fm 9 (l.map Mo.a),.int .i64 S,.int .i64 A,.int .i64 j,.int .i64 ix,.int .i64 p,.vnil,.int .i64 k,.bool bk,.bool hd,.bool br,.vnil,.int .i64 qx,.int .i64 qy,.int .i64 qz]],15,0,false,false⟩]:=by
 refine Zds rfl (piA fm l S A j ix p k bk hd br qx qy qz _ _ rfl ⟨fun h1 => ?_,fun h1 => ?_⟩)
 ·unfold N.pcM N.pcB;rw [if_pos h1,if_pos h1];exact ⟨rfl,rfl⟩
 ·have h':=h.2.1
  unfold N.pcM N.pcB;rw [if_neg h1,if_neg h1];exact ⟨by omega,by omega,h,rfl,rfl⟩
theorem evo52_b (fm:Bool) (l:List Mo) (S A j ix p k:Int) (bk hd br:Bool) (qx qy qz:Int) (P:List Mo) (w:Nat) (fz:Bool) (h:N.okC l ix p):Ev M1 (.own 52 [.ptr 0 0 0 0] [⟨[.agg [.vec fm 9 (l.map Mo.a),.int .i64 S,.int .i64 A,.int .i64 j,.int .i64 ix,.int .i64 p,.vnil,.int .i64 k,.bool bk,.bool hd,.bool br,.row 1 w,.int .i64 qx,.int .i64 qy,.int .i64 qz]],15,0,false,false⟩,⟨P.map Mo.a,9,w,fz,true⟩]) (.tup [.agg [.int .i64 (N.pcM l ix p qx qy qz).x,.int .i64 (N.pcM l ix p qx qy qz).y,.int .i64 (N.pcM l ix p qx qy qz).z,.int .i64 (N.pcM l ix p qx qy qz).u,.int .i64 (N.pcM l ix p qx qy qz).v,.int .i64 (N.pcM l ix p qx qy qz).w,.int .i64 (N.pcM l ix p qx qy qz).r,.int .i64 (N.pcM l ix p qx qy qz).t,.int .i64 (N.pcM l ix p qx qy qz).b],.bool (N.pcB l ix p qx qy qz)]) [⟨[.agg [.vec fm 9 (l.map Mo.a),.int .i64 S,.int .i64 A,.int .i64 j,.int .i64 ix,.int .i64 p,.vnil,.int .i64 k,.bool bk,.bool hd,.bool br,.row 1 w,.int .i64 qx,.int .i64 qy,.int .i64 qz]],15,0,false,false⟩,⟨P.map Mo.a,9,w,fz,true⟩]:=by
 refine Zds rfl (piB fm l S A j ix p k bk hd br qx qy qz P w fz _ _ rfl ⟨fun h1 => ?_,fun h1 => ?_⟩)
 ·unfold N.pcM N.pcB;rw [if_pos h1,if_pos h1];exact ⟨rfl,rfl⟩
 ·have h':=h.2.1
  unfold N.pcM N.pcB;rw [if_neg h1,if_neg h1];exact ⟨by omega,by omega,h,rfl,rfl⟩
theorem evo52_c (fm:Bool) (l:List Mo) (S A j ix p k:Int) (bk hd br:Bool) (qx qy qz:Int) (X:List Int) (h:N.okC l ix p):Ev M1 (.own 52 [.ptr 0 0 0 0] [⟨[.agg [.vec fm 9 (l.map Mo.a),.int .i64 S,.int .i64 A,.int .i64 j,.int .i64 ix,.int .i64 p,.vec false 1 (X.map (.int .i64)),.int .i64 k,.bool bk,.bool hd,.bool br,.vnil,.int .i64 qx,.int .i64 qy,.int .i64 qz]],15,0,false,false⟩]) (.tup [.agg [.int .i64 (N.pcM l ix p qx qy qz).x,.int .i64 (N.pcM l ix p qx qy qz).y,.int .i64 (N.pcM l ix p qx qy qz).z,.int .i64 (N.pcM l ix p qx qy qz).u,.int .i64 (N.pcM l ix p qx qy qz).v,.int .i64 (N.pcM l ix p qx qy qz).w,.int .i64 (N.pcM l ix p qx qy qz).r,.int .i64 (N.pcM l ix p qx qy qz).t,.int .i64 (N.pcM l ix p qx qy qz).b],.bool (N.pcB l ix p qx qy qz)]) [⟨[.agg [.vec fm 9 (l.map Mo.a),.int .i64 S,.int .i64 A,.int .i64 j,.int .i64 ix,.int .i64 p,.vec false 1 (X.map (.int .i64)),.int .i64 k,.bool bk,.bool hd,.bool br,.vnil,.int .i64 qx,.int .i64 qy,.int .i64 qz]],15,0,false,false⟩]:=by
 refine Zds rfl (piC fm l S A j ix p k bk hd br qx qy qz X _ _ rfl ⟨fun h1 => ?_,fun h1 => ?_⟩)
 ·unfold N.pcM N.pcB;rw [if_pos h1,if_pos h1];exact ⟨rfl,rfl⟩
 ·have h':=h.2.1
  unfold N.pcM N.pcB;rw [if_neg h1,if_neg h1];exact ⟨by omega,by omega,h,rfl,rfl⟩
theorem evo52_d (fm:Bool) (l:List Mo) (S A j ix p k:Int) (bk hd br:Bool) (qx qy qz:Int) (X:List Int) (P:List Mo) (w:Nat) (fz:Bool) (h:N.okC l ix p):Ev M1 (.own 52 [.ptr 0 0 0 0] [⟨[.agg [.vec fm 9 (l.map Mo.a),.int .i64 S,.int .i64 A,.int .i64 j,.int .i64 ix,.int .i64 p,.vec false 1 (X.map (.int .i64)),.int .i64 k,.bool bk,.bool hd,.bool br,.row 1 w,.int .i64 qx,.int .i64 qy,.int .i64 qz]],15,0,false,false⟩,⟨P.map Mo.a,9,w,fz,true⟩]) (.tup [.agg [.int .i64 (N.pcM l ix p qx qy qz).x,.int .i64 (N.pcM l ix p qx qy qz).y,.int .i64 (N.pcM l ix p qx qy qz).z,.int .i64 (N.pcM l ix p qx qy qz).u,.int .i64 (N.pcM l ix p qx qy qz).v,.int .i64 (N.pcM l ix p qx qy qz).w,.int .i64 (N.pcM l ix p qx qy qz).r,.int .i64 (N.pcM l ix p qx qy qz).t,.int .i64 (N.pcM l ix p qx qy qz).b],.bool (N.pcB l ix p qx qy qz)]) [⟨[.agg [.vec fm 9 (l.map Mo.a),.int .i64 S,.int .i64 A,.int .i64 j,.int .i64 ix,.int .i64 p,.vec false 1 (X.map (.int .i64)),.int .i64 k,.bool bk,.bool hd,.bool br,.row 1 w,.int .i64 qx,.int .i64 qy,.int .i64 qz]],15,0,false,false⟩,⟨P.map Mo.a,9,w,fz,true⟩]:=by
 refine Zds rfl (piD fm l S A j ix p k bk hd br qx qy qz X P w fz _ _ rfl ⟨fun h1 => ?_,fun h1 => ?_⟩)
 ·unfold N.pcM N.pcB;rw [if_pos h1,if_pos h1];exact ⟨rfl,rfl⟩
 ·have h':=h.2.1
  unfold N.pcM N.pcB;rw [if_neg h1,if_neg h1];exact ⟨by omega,by omega,h,rfl,rfl⟩
theorem skF_sh (l:List Mo):∀ (k i:Nat),i+k=l.length->N.skF l k i=N.sk l i:=by
 intro k i h
 unfold N.sk
 rw [show l.length-i=k by omega]
theorem sk_loopA (fm:Bool) (l:List Mo) (S A j p k:Int) (bk hd br:Bool) (qx qy qz:Int) (hl:N.okL l):∀ (n i:Nat),i+n=l.length->skA_at fm l S A j (i:Int) p k bk hd br qx qy qz (Zat (.tup []) [⟨[.agg [.vec fm 9 (l.map Mo.a),.int .i64 S,.int .i64 A,.int .i64 j,.int .i64 (N.sk l i:Int),.int .i64 p,.vnil,.int .i64 k,.bool bk,.bool hd,.bool br,.vnil,.int .i64 qx,.int .i64 qy,.int .i64 qz]],15,0,false,false⟩]):=by
 have hlen:=hl.1
 intro n
 induction n with
 | zero =>
  intro i h
  have e:N.skI l (i:Int)=i:=by
   unfold N.skI N.sk
   rw [Int.toNat_natCast,show l.length-i=0 by omega];rfl
  unfold N.sk
  rw [show l.length-i=0 by omega]
  exact skA fm l S A j (i:Int) p k bk hd br qx qy qz _ _ rfl ⟨fun z=>absurd z (by omega),fun z=>absurd z (by omega),fun z=>absurd z (by omega),fun z=>absurd z.1 (by omega),fun _=>⟨rfl,rfl⟩⟩
 | succ n ih =>
  intro i h
  have hm:=ZbQ (hl.2 i (by omega))
  have e0:(i:Int).toNat=i:=Int.toNat_natCast i
  have es:N.sk l i=if i<l.length/\N.ml (l.getD i default)=0 then N.sk l (i+1) else i:=by
   rw [<- skF_sh l (n+1) i h,N.skF]
   split
   ·exact skF_sh l n (i+1) (by omega)
   ·rfl
  refine skA fm l S A j (i:Int) p k bk hd br qx qy qz _ _ rfl ⟨fun _ => ?_,fun _=>by omega,fun _=>by omega,fun hz=>⟨by omega,?_⟩,fun hz => ?_⟩
  ·rw [e0];exact hm.1
  ·rw [e0] at hz
   rw [es,if_pos ⟨by omega,hz.2⟩]
   exact ih (i+1) (by omega)
  ·rw [e0] at hz
   rw [es,if_neg fun y=>hz ⟨by omega,y.2⟩]
   exact ⟨rfl,rfl⟩
theorem evo42_a (fm:Bool) (l:List Mo) (S A j ix p k:Int) (bk hd br:Bool) (qx qy qz:Int) (h:N.okK l ix):Ev M1 (.own 42 [.ptr 0 0 0 0] [⟨[.agg [.vec fm 9 (l.map Mo.a),.int .i64 S,.int .i64 A,.int .i64 j,.int .i64 ix,.int .i64 p,.vnil,.int .i64 k,.bool bk,.bool hd,.bool br,.vnil,.int .i64 qx,.int .i64 qy,.int .i64 qz]],15,0,false,false⟩]) (.tup []) [⟨[.agg [.vec fm 9 (l.map Mo.a),.int .i64 S,.int .i64 A,.int .i64 j,.int .i64 (N.skI l ix),.int .i64 p,.vnil,.int .i64 k,.bool bk,.bool hd,.bool br,.vnil,.int .i64 qx,.int .i64 qy,.int .i64 qz]],15,0,false,false⟩]:=by
 obtain ⟨hl,h0,h1⟩:=h
 obtain ⟨i,rfl⟩:=Int.eq_ofNat_of_zero_le h0
 have:=sk_loopA fm l S A j p k bk hd br qx qy qz hl (l.length-i) i (by omega)
 refine ZgI rfl (ssA fm l S A j (i:Int) p k bk hd br qx qy qz _ _ rfl ?_)
 unfold N.skI
 rw [Int.toNat_natCast]
 exact this
theorem sk_loopB (fm:Bool) (l:List Mo) (S A j p k:Int) (bk hd br:Bool) (qx qy qz:Int) (P:List Mo) (w:Nat) (hl:N.okL l):∀ (n i:Nat),i+n=l.length->skB_at fm l S A j (i:Int) p k bk hd br qx qy qz P w (Zat (.tup []) [⟨[.agg [.vec fm 9 (l.map Mo.a),.int .i64 S,.int .i64 A,.int .i64 j,.int .i64 (N.sk l i:Int),.int .i64 p,.vnil,.int .i64 k,.bool bk,.bool hd,.bool br,.row 1 w,.int .i64 qx,.int .i64 qy,.int .i64 qz]],15,0,false,false⟩,⟨P.map Mo.a,9,w,false,true⟩]):=by
 have hlen:=hl.1
 intro n
 induction n with
 | zero =>
  intro i h
  have e:N.skI l (i:Int)=i:=by
   unfold N.skI N.sk
   rw [Int.toNat_natCast,show l.length-i=0 by omega];rfl
  unfold N.sk
  rw [show l.length-i=0 by omega]
  exact skB fm l S A j (i:Int) p k bk hd br qx qy qz P w _ _ rfl ⟨fun z=>absurd z (by omega),fun z=>absurd z (by omega),fun z=>absurd z (by omega),fun z=>absurd z.1 (by omega),fun _=>⟨rfl,rfl⟩⟩
 | succ n ih =>
  intro i h
  have hm:=ZbQ (hl.2 i (by omega))
  have e0:(i:Int).toNat=i:=Int.toNat_natCast i
  have es:N.sk l i=if i<l.length/\N.ml (l.getD i default)=0 then N.sk l (i+1) else i:=by
   rw [<- skF_sh l (n+1) i h,N.skF]
   split
   ·exact skF_sh l n (i+1) (by omega)
   ·rfl
  refine skB fm l S A j (i:Int) p k bk hd br qx qy qz P w _ _ rfl ⟨fun _ => ?_,fun _=>by omega,fun _=>by omega,fun hz=>⟨by omega,?_⟩,fun hz => ?_⟩
  ·rw [e0];exact hm.1
  ·rw [e0] at hz
   rw [es,if_pos ⟨by omega,hz.2⟩]
   exact ih (i+1) (by omega)
  ·rw [e0] at hz
   rw [es,if_neg fun y=>hz ⟨by omega,y.2⟩]
   exact ⟨rfl,rfl⟩
theorem evo42_b (fm:Bool) (l:List Mo) (S A j ix p k:Int) (bk hd br:Bool) (qx qy qz:Int) (P:List Mo) (w:Nat) (h:N.okK l ix):Ev M1 (.own 42 [.ptr 0 0 0 0] [⟨[.agg [.vec fm 9 (l.map Mo.a),.int .i64 S,.int .i64 A,.int .i64 j,.int .i64 ix,.int .i64 p,.vnil,.int .i64 k,.bool bk,.bool hd,.bool br,.row 1 w,.int .i64 qx,.int .i64 qy,.int .i64 qz]],15,0,false,false⟩,⟨P.map Mo.a,9,w,false,true⟩]) (.tup []) [⟨[.agg [.vec fm 9 (l.map Mo.a),.int .i64 S,.int .i64 A,.int .i64 j,.int .i64 (N.skI l ix),.int .i64 p,.vnil,.int .i64 k,.bool bk,.bool hd,.bool br,.row 1 w,.int .i64 qx,.int .i64 qy,.int .i64 qz]],15,0,false,false⟩,⟨P.map Mo.a,9,w,false,true⟩]:=by
 obtain ⟨hl,h0,h1⟩:=h
 obtain ⟨i,rfl⟩:=Int.eq_ofNat_of_zero_le h0
 have:=sk_loopB fm l S A j p k bk hd br qx qy qz P w hl (l.length-i) i (by omega)
 refine ZgI rfl (ssB fm l S A j (i:Int) p k bk hd br qx qy qz P w _ _ rfl ?_)
 unfold N.skI
 rw [Int.toNat_natCast]
 exact this
end Go.Av

namespace Go.Av
open Go.Proofs
set_option maxRecDepth 100000
def fi47:Fi:=⟨50,[]⟩
def kp47:List (Nat × List Nat):=[(0,[0]),(1,[0,2,3]),(2,[0,2,18]),(3,[0]),(4,[0]),(5,[0,36]),(6,[0]),(7,[])]
def stC_at (fm:Bool) (l:List Mo) (S A j ix p k:Int) (bk hd br:Bool) (qx qy qz:Int) (X:List Int) (Q:AV->Heap->Prop):Prop:=Wp M1 (.run fi47 (atC (cd Try.f47) []) [(0,.ptr 0 0 0 0)] [⟨[.agg [.vec fm 9 (l.map Mo.a),.int .i64 S,.int .i64 A,.int .i64 j,.int .i64 ix,.int .i64 p,.vec false 1 (X.map (.int .i64)),.int .i64 k,.bool bk,.bool hd,.bool br,.vnil,.int .i64 qx,.int .i64 qy,.int .i64 qz]],15,0,false,false⟩]) Q
def stD_at (fm:Bool) (l:List Mo) (S A j ix p k:Int) (bk hd br:Bool) (qx qy qz:Int) (X:List Int) (P:List Mo) (w:Nat) (Q:AV->Heap->Prop):Prop:=Wp M1 (.run fi47 (atC (cd Try.f47) []) [(0,.ptr 0 0 0 0)] [⟨[.agg [.vec fm 9 (l.map Mo.a),.int .i64 S,.int .i64 A,.int .i64 j,.int .i64 ix,.int .i64 p,.vec false 1 (X.map (.int .i64)),.int .i64 k,.bool bk,.bool hd,.bool br,.row 1 w,.int .i64 qx,.int .i64 qy,.int .i64 qz]],15,0,false,false⟩,⟨P.map Mo.a,9,w,false,true⟩]) Q
def srA_at (fm:Bool) (l:List Mo) (S A j ix p:Int) (hd br:Bool) (qx qy qz:Int) (Q:AV->Heap->Prop):Prop:=Wp M1 (.run fi47 (atC (cd Try.f47) [1,1,0]) [(0,.ptr 0 0 0 0)] [⟨[.agg [.vec fm 9 (l.map Mo.a),.int .i64 S,.int .i64 A,.int .i64 j,.int .i64 ix,.int .i64 p,.vnil,.int .i64 0,.bool false,.bool hd,.bool br,.vnil,.int .i64 qx,.int .i64 qy,.int .i64 qz]],15,0,false,false⟩]) Q
def srB_at (fm:Bool) (l:List Mo) (S A j ix p:Int) (hd br:Bool) (qx qy qz:Int) (P:List Mo) (w:Nat) (Q:AV->Heap->Prop):Prop:=Wp M1 (.run fi47 (atC (cd Try.f47) [1,1,0]) [(0,.ptr 0 0 0 0)] [⟨[.agg [.vec fm 9 (l.map Mo.a),.int .i64 S,.int .i64 A,.int .i64 j,.int .i64 ix,.int .i64 p,.vnil,.int .i64 0,.bool false,.bool hd,.bool br,.row 1 w,.int .i64 qx,.int .i64 qy,.int .i64 qz]],15,0,false,false⟩,⟨P.map Mo.a,9,w,false,true⟩]) Q
def srE_at (fm:Bool) (l:List Mo) (S A j ix p:Int) (hd br:Bool) (qx qy qz:Int) (m:Mo) (P:List Mo) (w:Nat) (Q:AV->Heap->Prop):Prop:=Wp M1 (.run fi47 (atC (cd Try.f47) [1,1,0]) [(0,.ptr 0 0 0 0)] [⟨[.agg [.vec fm 9 (l.map Mo.a),.int .i64 S,.int .i64 A,.int .i64 j,.int .i64 ix,.int .i64 p,.vnil,.int .i64 0,.bool false,.bool hd,.bool br,.row 2 w,.int .i64 qx,.int .i64 qy,.int .i64 qz]],15,0,false,false⟩,⟨[.agg [.int .i64 m.x,.int .i64 m.y,.int .i64 m.z,.int .i64 m.u,.int .i64 m.v,.int .i64 m.w,.int .i64 m.r,.int .i64 m.t,.int .i64 m.b]],9,0,false,false⟩,⟨P.map Mo.a,9,w,false,true⟩]) Q
theorem owncall47 {args:List AV} {L:Heap} {Q:AV->Heap->Prop} (h:Wp M1 (.run fi47 [.code (cd Try.f47)] (ZaN 0 args) L) Q):Wp M1 (.own 47 args L) Q:=
 ZfA Try.f47 fi47 (by kernel_rfl) (by kernel_rfl) (by kernel_rfl) (by kernel_rfl) h
theorem ZgH {args:List AV} {L:Heap} {v:AV} {K:Heap} (hk:ZaB L.length v K=true) (h:Wp M1 (.run fi47 [.code (cd Try.f47)] (ZaN 0 args) L) (Zat v K)):Ev M1 (.own 47 args L) v K:=
 Zb3 Try.f47 fi47 (by kernel_rfl) (by kernel_rfl) (by kernel_rfl) (by kernel_rfl) hk h
noncomputable abbrev zCxJ1 (l:List Mo) (ix:Int) (p:Int) (qx:Int) (qy:Int) (qz:Int):=tu [ag [vi (N.pcM l ix p qx qy qz).x,vi (N.pcM l ix p qx qy qz).y,vi (N.pcM l ix p qx qy qz).z,vi (N.pcM l ix p qx qy qz).u,vi (N.pcM l ix p qx qy qz).v,vi (N.pcM l ix p qx qy qz).w,vi (N.pcM l ix p qx qy qz).r,vi (N.pcM l ix p qx qy qz).t,vi (N.pcM l ix p qx qy qz).b],vb (N.pcB l ix p qx qy qz)]
theorem stC (fm:Bool) (l:List Mo) (S A j ix p k:Int) (bk hd br:Bool) (qx qy qz:Int) (X:List Int)  (Q:AV->Heap->Prop) (H :
  (N.okC l ix p) /\
  ((N.pcB l ix p qx qy qz=true)->srE_at fm l S A j ix p hd br qx qy qz (N.pcM l ix p qx qy qz) ([N.pcM l ix p qx qy qz]) 0 Q) /\
  (¬(N.pcB l ix p qx qy qz=true)->Wp M1 (.run fi47 (atC (cd Try.f47) [1,1,0]) [(0,AV.ptr 0 0 0 0)] [{ elems:=[ag [AV.vec fm 9 (List.map Mo.a l),vi S,vi A,vi j,vi ix,vi p,AV.vnil,vi 0,vb false,vb hd,vb br,AV.vnil,vi qx,vi qy,vi qz]],es:=15,ver:=0,frozen:=false,clean:=false },{ elems:=List.map Mo.a [N.pcM l ix p qx qy qz],es:=9,ver:=0,frozen:=false,clean:=false }]) Q)) :
 stC_at fm l S A j ix p k bk hd br qx qy qz X Q:=by
 unfold stC_at
 obtain ⟨k1,H⟩:=H
 refine Zac (G:=Zab kp47 [(1,1,.call ((zCxJ1 l ix p qx qy qz)) none)] []) 7 [] ⟨(atC (cd Try.f47) [1,0,1,1]),[(0,AV.ptr 0 0 0 0),(2,AV.ptr 1 0 0 0),(18,vb (N.pcB l ix p qx qy qz))],[⟨[ag [AV.vec fm 9 (List.map Mo.a l),vi S,vi A,vi j,vi ix,vi p,AV.vnil,vi 0,vb false,vb hd,vb br,AV.vnil,vi qx,vi qy,vi qz]],15,0,false,false⟩,⟨[ag [vi (N.pcM l ix p qx qy qz).x,vi (N.pcM l ix p qx qy qz).y,vi (N.pcM l ix p qx qy qz).z,vi (N.pcM l ix p qx qy qz).u,vi (N.pcM l ix p qx qy qz).v,vi (N.pcM l ix p qx qy qz).w,vi (N.pcM l ix p qx qy qz).r,vi (N.pcM l ix p qx qy qz).t,vi (N.pcM l ix p qx qy qz).b]],9,0,false,false⟩],_,[],[⟨true,true,52,[AV.ptr 0 0 0 0],[⟨[ag [AV.vec fm 9 (List.map Mo.a l),vi S,vi A,vi j,vi ix,vi p,AV.vnil,vi 0,vb false,vb hd,vb br,AV.vnil,vi qx,vi qy,vi qz]],15,0,false,false⟩],(zCxJ1 l ix p qx qy qz),[⟨[ag [AV.vec fm 9 (List.map Mo.a l),vi S,vi A,vi j,vi ix,vi p,AV.vnil,vi 0,vb false,vb hd,vb br,AV.vnil,vi qx,vi qy,vi qz]],15,0,false,false⟩]⟩]⟩ (by kernel_rfl) (bc rfl (bc rfl (bc rfl (bc rfl b0)))) q0 (cc (fun _=>(@evo52_a fm l S A j ix p 0 false hd br qx qy qz k1)) c0) ?_
 rcases xq H with ⟨d3,H⟩|⟨d3,H⟩
 ·have w4:[ag [vi (N.pcM l ix p qx qy qz).x,vi (N.pcM l ix p qx qy qz).y,vi (N.pcM l ix p qx qy qz).z,vi (N.pcM l ix p qx qy qz).u,vi (N.pcM l ix p qx qy qz).v,vi (N.pcM l ix p qx qy qz).w,vi (N.pcM l ix p qx qy qz).r,vi (N.pcM l ix p qx qy qz).t,vi (N.pcM l ix p qx qy qz).b]]=List.map Mo.a [N.pcM l ix p qx qy qz]:=rfl
  exact Zac (G:=Zab kp47 [] [(3,[1007])]) 3 [true] ⟨(atC (cd Try.f47) [1,1,0]),[(0,AV.ptr 0 0 0 0)],[⟨[ag [AV.vec fm 9 (List.map Mo.a l),vi S,vi A,vi j,vi ix,vi p,AV.vnil,vi 0,vb false,vb hd,vb br,AV.row 2 0,vi qx,vi qy,vi qz]],15,0,false,false⟩,⟨[ag [vi (N.pcM l ix p qx qy qz).x,vi (N.pcM l ix p qx qy qz).y,vi (N.pcM l ix p qx qy qz).z,vi (N.pcM l ix p qx qy qz).u,vi (N.pcM l ix p qx qy qz).v,vi (N.pcM l ix p qx qy qz).w,vi (N.pcM l ix p qx qy qz).r,vi (N.pcM l ix p qx qy qz).t,vi (N.pcM l ix p qx qy qz).b]],9,0,false,false⟩,⟨[ag [vi (N.pcM l ix p qx qy qz).x,vi (N.pcM l ix p qx qy qz).y,vi (N.pcM l ix p qx qy qz).z,vi (N.pcM l ix p qx qy qz).u,vi (N.pcM l ix p qx qy qz).v,vi (N.pcM l ix p qx qy qz).w,vi (N.pcM l ix p qx qy qz).r,vi (N.pcM l ix p qx qy qz).t,vi (N.pcM l ix p qx qy qz).b]],9,0,false,true⟩],[(N.pcB l ix p qx qy qz)==true,true,true,true,true],[],_⟩ (by kernel_rfl) (bc (Zam ((Zas _).2 d3)) (bc rfl (bc rfl (bc rfl (bc rfl b0))))) q0 c0 (by (try rw [w4]);all_goals exact H)
 ·have w5:[ag [vi (N.pcM l ix p qx qy qz).x,vi (N.pcM l ix p qx qy qz).y,vi (N.pcM l ix p qx qy qz).z,vi (N.pcM l ix p qx qy qz).u,vi (N.pcM l ix p qx qy qz).v,vi (N.pcM l ix p qx qy qz).w,vi (N.pcM l ix p qx qy qz).r,vi (N.pcM l ix p qx qy qz).t,vi (N.pcM l ix p qx qy qz).b]]=List.map Mo.a [N.pcM l ix p qx qy qz]:=rfl
  exact Zac (G:=Zab kp47 [] []) 3 [false] ⟨(atC (cd Try.f47) [1,1,0]),[(0,AV.ptr 0 0 0 0),(2,AV.ptr 1 0 0 0),(18,vb (N.pcB l ix p qx qy qz))],[⟨[ag [AV.vec fm 9 (List.map Mo.a l),vi S,vi A,vi j,vi ix,vi p,AV.vnil,vi 0,vb false,vb hd,vb br,AV.vnil,vi qx,vi qy,vi qz]],15,0,false,false⟩,⟨[ag [vi (N.pcM l ix p qx qy qz).x,vi (N.pcM l ix p qx qy qz).y,vi (N.pcM l ix p qx qy qz).z,vi (N.pcM l ix p qx qy qz).u,vi (N.pcM l ix p qx qy qz).v,vi (N.pcM l ix p qx qy qz).w,vi (N.pcM l ix p qx qy qz).r,vi (N.pcM l ix p qx qy qz).t,vi (N.pcM l ix p qx qy qz).b]],9,0,false,false⟩],[(N.pcB l ix p qx qy qz)==false],[],_⟩ (by kernel_rfl) (bc (Zal (fun h=>d3 ((Zas _).1 h))) b0) q0 c0 (by (try rw [w5]);all_goals exact Wp.less [0] H)
noncomputable abbrev zCxJ2 (l:List Mo) (ix:Int) (p:Int) (qx:Int) (qy:Int) (qz:Int):=tu [ag [vi (N.pcM l ix p qx qy qz).x,vi (N.pcM l ix p qx qy qz).y,vi (N.pcM l ix p qx qy qz).z,vi (N.pcM l ix p qx qy qz).u,vi (N.pcM l ix p qx qy qz).v,vi (N.pcM l ix p qx qy qz).w,vi (N.pcM l ix p qx qy qz).r,vi (N.pcM l ix p qx qy qz).t,vi (N.pcM l ix p qx qy qz).b],vb (N.pcB l ix p qx qy qz)]
theorem stD (fm:Bool) (l:List Mo) (S A j ix p k:Int) (bk hd br:Bool) (qx qy qz:Int) (X:List Int) (P:List Mo) (w:Nat)  (dv:AV) (dK:Heap) (hk:ZaB 2 dv dK=true) (H :
  (N.okC l ix p) /\
  ((N.pcB l ix p qx qy qz=true)->((P.length+1)*72<=1099511627776) /\
   srB_at fm l S A j ix p hd br qx qy qz (P++[N.pcM l ix p qx qy qz]) (w+1) (Zat dv dK)) /\
  (¬(N.pcB l ix p qx qy qz=true)->srB_at fm l S A j ix p hd br qx qy qz P w (Zat dv dK))) :
 stD_at fm l S A j ix p k bk hd br qx qy qz X P w (Zat dv dK):=by
 unfold stD_at
 obtain ⟨k1,H⟩:=H
 refine Zac (G:=Zab kp47 [(1,1,.call ((zCxJ2 l ix p qx qy qz)) none)] []) 7 [] ⟨(atC (cd Try.f47) [1,0,1,1]),[(0,AV.ptr 0 0 0 0),(2,AV.ptr 2 0 0 0),(18,vb (N.pcB l ix p qx qy qz))],[⟨[ag [AV.vec fm 9 (List.map Mo.a l),vi S,vi A,vi j,vi ix,vi p,AV.vnil,vi 0,vb false,vb hd,vb br,AV.row 1 w,vi qx,vi qy,vi qz]],15,0,false,false⟩,⟨List.map Mo.a P,9,w,false,true⟩,⟨[ag [vi (N.pcM l ix p qx qy qz).x,vi (N.pcM l ix p qx qy qz).y,vi (N.pcM l ix p qx qy qz).z,vi (N.pcM l ix p qx qy qz).u,vi (N.pcM l ix p qx qy qz).v,vi (N.pcM l ix p qx qy qz).w,vi (N.pcM l ix p qx qy qz).r,vi (N.pcM l ix p qx qy qz).t,vi (N.pcM l ix p qx qy qz).b]],9,0,false,false⟩],_,[],[⟨true,true,52,[AV.ptr 0 0 0 0],[⟨[ag [AV.vec fm 9 (List.map Mo.a l),vi S,vi A,vi j,vi ix,vi p,AV.vnil,vi 0,vb false,vb hd,vb br,AV.row 1 w,vi qx,vi qy,vi qz]],15,0,false,false⟩,⟨List.map Mo.a P,9,w,false,true⟩],(zCxJ2 l ix p qx qy qz),[⟨[ag [AV.vec fm 9 (List.map Mo.a l),vi S,vi A,vi j,vi ix,vi p,AV.vnil,vi 0,vb false,vb hd,vb br,AV.row 1 w,vi qx,vi qy,vi qz]],15,0,false,false⟩,⟨List.map Mo.a P,9,w,false,true⟩]⟩]⟩ (by kernel_rfl) (bc rfl (bc rfl (bc rfl (bc rfl b0)))) q0 (cc (fun _=>(@evo52_b fm l S A j ix p 0 false hd br qx qy qz P w false k1)) c0) ?_
 rcases xq H with ⟨d3,H⟩|⟨d3,H⟩
 ·have w4:(List.map Mo.a P).length=P.length:=List.length_map ..
  have i5:(decide (((List.map Mo.a P).length+1)*72<=1099511627776))=true ↔ ((P.length+1)*72<=1099511627776):=(by (try rw [w4]);all_goals exact Zad)
  obtain ⟨k6,H⟩:=H
  have w7:List.map Mo.a P++[ag [vi (N.pcM l ix p qx qy qz).x,vi (N.pcM l ix p qx qy qz).y,vi (N.pcM l ix p qx qy qz).z,vi (N.pcM l ix p qx qy qz).u,vi (N.pcM l ix p qx qy qz).v,vi (N.pcM l ix p qx qy qz).w,vi (N.pcM l ix p qx qy qz).r,vi (N.pcM l ix p qx qy qz).t,vi (N.pcM l ix p qx qy qz).b]]=List.map Mo.a (P++[N.pcM l ix p qx qy qz]):=(Zdd rfl rfl)
  exact Zac (G:=Zab kp47 [] []) 3 [true] ⟨(atC (cd Try.f47) [1,1,0]),[(0,AV.ptr 0 0 0 0)],[⟨[ag [AV.vec fm 9 (List.map Mo.a l),vi S,vi A,vi j,vi ix,vi p,AV.vnil,vi 0,vb false,vb hd,vb br,AV.row 1 (w+1),vi qx,vi qy,vi qz]],15,0,false,false⟩,⟨List.map Mo.a P++[ag [vi (N.pcM l ix p qx qy qz).x,vi (N.pcM l ix p qx qy qz).y,vi (N.pcM l ix p qx qy qz).z,vi (N.pcM l ix p qx qy qz).u,vi (N.pcM l ix p qx qy qz).v,vi (N.pcM l ix p qx qy qz).w,vi (N.pcM l ix p qx qy qz).r,vi (N.pcM l ix p qx qy qz).t,vi (N.pcM l ix p qx qy qz).b]],9,w+1,false,true⟩,⟨[ag [vi (N.pcM l ix p qx qy qz).x,vi (N.pcM l ix p qx qy qz).y,vi (N.pcM l ix p qx qy qz).z,vi (N.pcM l ix p qx qy qz).u,vi (N.pcM l ix p qx qy qz).v,vi (N.pcM l ix p qx qy qz).w,vi (N.pcM l ix p qx qy qz).r,vi (N.pcM l ix p qx qy qz).t,vi (N.pcM l ix p qx qy qz).b]],9,0,false,false⟩],[(N.pcB l ix p qx qy qz)==true,true,true,w==w,decide (((List.map Mo.a P).length+1)*72<=1099511627776),true],[],_⟩ (by kernel_rfl) (bc (Zam ((Zas _).2 d3)) (bc rfl (bc rfl (bc (beq_self_eq_true _) (bc (i5.2 k6) (bc rfl b0)))))) q0 c0 (by (try rw [w7]);all_goals exact Zcp 2 hk (by kernel_rfl) H)
 ·exact Zac (G:=Zab kp47 [] []) 3 [false] ⟨(atC (cd Try.f47) [1,1,0]),[(0,AV.ptr 0 0 0 0),(2,AV.ptr 2 0 0 0),(18,vb (N.pcB l ix p qx qy qz))],[⟨[ag [AV.vec fm 9 (List.map Mo.a l),vi S,vi A,vi j,vi ix,vi p,AV.vnil,vi 0,vb false,vb hd,vb br,AV.row 1 w,vi qx,vi qy,vi qz]],15,0,false,false⟩,⟨List.map Mo.a P,9,w,false,true⟩,⟨[ag [vi (N.pcM l ix p qx qy qz).x,vi (N.pcM l ix p qx qy qz).y,vi (N.pcM l ix p qx qy qz).z,vi (N.pcM l ix p qx qy qz).u,vi (N.pcM l ix p qx qy qz).v,vi (N.pcM l ix p qx qy qz).w,vi (N.pcM l ix p qx qy qz).r,vi (N.pcM l ix p qx qy qz).t,vi (N.pcM l ix p qx qy qz).b]],9,0,false,false⟩],[(N.pcB l ix p qx qy qz)==false],[],_⟩ (by kernel_rfl) (bc (Zal (fun h=>d3 ((Zas _).1 h))) b0) q0 c0 (Wp.less [0] (Zcp 2 hk (by kernel_rfl) H))
theorem srA (fm:Bool) (l:List Mo) (S A j ix p:Int) (hd br:Bool) (qx qy qz:Int)  (dv:AV) (dK:Heap) (_:ZaB 1 dv dK=true) (H :
  (N.okC l ix p) /\
  (N.okG l ix p) /\
  ((N.lf l ix p=0)->(-9223372036854775808<=ix+1/\ix+1<=9223372036854775807) /\
   (N.okK l (ix+1)) /\
   (Zat dv dK) (tu []) [{ elems:=[ag [AV.vec fm 9 (List.map Mo.a l),vi S,vi A,vi j,vi (N.skI l (ix+1)),vi 0,AV.vnil,vi 0,vb false,vb hd,vb br,AV.vnil,vi (N.pox l ix p),vi (N.poy l ix p),vi (N.poz l ix p)]],es:=15,ver:=0,frozen:=false,clean:=false }]) /\
  (¬(N.lf l ix p=0)->(Zat dv dK) (tu []) [{ elems:=[ag [AV.vec fm 9 (List.map Mo.a l),vi S,vi A,vi j,vi ix,vi p,AV.vnil,vi 0,vb false,vb hd,vb br,AV.vnil,vi (N.pox l ix p),vi (N.poy l ix p),vi (N.poz l ix p)]],es:=15,ver:=0,frozen:=false,clean:=false }])) :
 srA_at fm l S A j ix p hd br qx qy qz (Zat dv dK):=by
 unfold srA_at
 obtain ⟨k1,k2,H⟩:=H
 refine Zac (G:=Zab kp47 [(4,2,.call (ag [vi (N.pox l ix p),vi (N.poy l ix p),vi (N.poz l ix p)]) none),(5,1,.call (vi (N.lf l ix p)) none)] []) 3 [] ⟨(atC (cd Try.f47) [1,1,1,1]),[(0,AV.ptr 0 0 0 0),(36,vb (N.lf l ix p==0))],[⟨[ag [AV.vec fm 9 (List.map Mo.a l),vi S,vi A,vi j,vi ix,vi p,AV.vnil,vi 0,vb false,vb hd,vb br,AV.vnil,vi (N.pox l ix p),vi (N.poy l ix p),vi (N.poz l ix p)]],15,0,false,false⟩],[0==0],[],[⟨true,true,13,[AV.ptr 0 0 0 0],[⟨[ag [AV.vec fm 9 (List.map Mo.a l),vi S,vi A,vi j,vi ix,vi p,AV.vnil,vi 0,vb false,vb hd,vb br,AV.vnil,vi qx,vi qy,vi qz]],15,0,false,false⟩],ag [vi (N.pox l ix p),vi (N.poy l ix p),vi (N.poz l ix p)],[⟨[ag [AV.vec fm 9 (List.map Mo.a l),vi S,vi A,vi j,vi ix,vi p,AV.vnil,vi 0,vb false,vb hd,vb br,AV.vnil,vi qx,vi qy,vi qz]],15,0,false,false⟩]⟩,⟨true,true,45,[AV.ptr 0 0 0 0],[⟨[ag [AV.vec fm 9 (List.map Mo.a l),vi S,vi A,vi j,vi ix,vi p,AV.vnil,vi 0,vb false,vb hd,vb br,AV.vnil,vi (N.pox l ix p),vi (N.poy l ix p),vi (N.poz l ix p)]],15,0,false,false⟩],vi (N.lf l ix p),[⟨[ag [AV.vec fm 9 (List.map Mo.a l),vi S,vi A,vi j,vi ix,vi p,AV.vnil,vi 0,vb false,vb hd,vb br,AV.vnil,vi (N.pox l ix p),vi (N.poy l ix p),vi (N.poz l ix p)]],15,0,false,false⟩]⟩]⟩ (by kernel_rfl) (bc (beq_self_eq_true _) b0) q0 (cc (fun _=>(@ZfS fm l S A j ix p 0 false hd br qx qy qz k1)) (cc (fun _=>(@evo45_a fm l S A j ix p 0 false hd br (N.pox l ix p) (N.poy l ix p) (N.poz l ix p) k2)) c0)) ?_
 rcases xq H with ⟨d4,H⟩|⟨d4,H⟩
 ·obtain ⟨k5,H⟩:=H
  have w6:wi (ix+1)=ix+1:=wI64 k5
  obtain ⟨k7,H⟩:=H
  exact Zbc (G:=Zab kp47 [(7,1,.call (tu []) (some [⟨[ag [AV.vec fm 9 (List.map Mo.a l),vi S,vi A,vi j,vi (N.skI l (ix+1)),vi 0,AV.vnil,vi 0,vb false,vb hd,vb br,AV.vnil,vi (N.pox l ix p),vi (N.poy l ix p),vi (N.poz l ix p)]],15,0,false,false⟩]))] []) 1000 [true] (env':=[]) (L':=[⟨[ag [AV.vec fm 9 (List.map Mo.a l),vi S,vi A,vi j,vi (N.skI l (ix+1)),vi 0,AV.vnil,vi 0,vb false,vb hd,vb br,AV.vnil,vi (N.pox l ix p),vi (N.poy l ix p),vi (N.poz l ix p)]],15,0,false,false⟩]) (asm:=[(N.lf l ix p==0)==true,true,true,true]) (eqs:=[]) (calls:=[⟨true,true,42,[AV.ptr 0 0 0 0],[⟨[ag [AV.vec fm 9 (List.map Mo.a l),vi S,vi A,vi j,vi (wi (ix+1)),vi 0,AV.vnil,vi 0,vb false,vb hd,vb br,AV.vnil,vi (N.pox l ix p),vi (N.poy l ix p),vi (N.poz l ix p)]],15,0,false,false⟩],tu [],[⟨[ag [AV.vec fm 9 (List.map Mo.a l),vi S,vi A,vi j,vi (N.skI l (ix+1)),vi 0,AV.vnil,vi 0,vb false,vb hd,vb br,AV.vnil,vi (N.pox l ix p),vi (N.poy l ix p),vi (N.poz l ix p)]],15,0,false,false⟩]⟩]) (tu []) (by kernel_rfl) (by kernel_rfl) (Zaa (Zam (i_eq.2 d4)) (Zaa rfl (Zaa rfl (Zaa rfl Zae)))) Zaf (Zaq (fun _=>(by (try rw [w6]);all_goals exact (@evo42_a fm l S A j (ix+1) 0 0 false hd br (N.pox l ix p) (N.poy l ix p) (N.poz l ix p) k7))) Zag) H
 ·exact Zbc (G:=Zab kp47 [] []) 1000 [false] (env':=[(0,AV.ptr 0 0 0 0),(36,vb (N.lf l ix p==0))]) (L':=[⟨[ag [AV.vec fm 9 (List.map Mo.a l),vi S,vi A,vi j,vi ix,vi p,AV.vnil,vi 0,vb false,vb hd,vb br,AV.vnil,vi (N.pox l ix p),vi (N.poy l ix p),vi (N.poz l ix p)]],15,0,false,false⟩]) (asm:=[(N.lf l ix p==0)==false]) (eqs:=[]) (calls:=[]) (tu []) (by kernel_rfl) (by kernel_rfl) (Zaa (Zal (fun h=>d4 (i_eq.1 h))) Zae) Zaf Zag H
theorem srB (fm:Bool) (l:List Mo) (S A j ix p:Int) (hd br:Bool) (qx qy qz:Int) (P:List Mo) (w:Nat)  (dv:AV) (dK:Heap) (_:ZaB 2 dv dK=true) (H :
  (N.okC l ix p) /\
  (N.okG l ix p) /\
  ((N.lf l ix p=0)->(-9223372036854775808<=ix+1/\ix+1<=9223372036854775807) /\
   (N.okK l (ix+1)) /\
   (Zat dv dK) (tu []) [{ elems:=[ag [AV.vec fm 9 (List.map Mo.a l),vi S,vi A,vi j,vi (N.skI l (ix+1)),vi 0,AV.vnil,vi 0,vb false,vb hd,vb br,AV.row 1 w,vi (N.pox l ix p),vi (N.poy l ix p),vi (N.poz l ix p)]],es:=15,ver:=0,frozen:=false,clean:=false },{ elems:=List.map Mo.a P,es:=9,ver:=w,frozen:=false,clean:=true }]) /\
  (¬(N.lf l ix p=0)->(Zat dv dK) (tu []) [{ elems:=[ag [AV.vec fm 9 (List.map Mo.a l),vi S,vi A,vi j,vi ix,vi p,AV.vnil,vi 0,vb false,vb hd,vb br,AV.row 1 w,vi (N.pox l ix p),vi (N.poy l ix p),vi (N.poz l ix p)]],es:=15,ver:=0,frozen:=false,clean:=false },{ elems:=List.map Mo.a P,es:=9,ver:=w,frozen:=false,clean:=true }])) :
 srB_at fm l S A j ix p hd br qx qy qz P w (Zat dv dK):=by
 unfold srB_at
 obtain ⟨k1,k2,H⟩:=H
 refine Zac (G:=Zab kp47 [(4,2,.call (ag [vi (N.pox l ix p),vi (N.poy l ix p),vi (N.poz l ix p)]) none),(5,1,.call (vi (N.lf l ix p)) none)] []) 3 [] ⟨(atC (cd Try.f47) [1,1,1,1]),[(0,AV.ptr 0 0 0 0),(36,vb (N.lf l ix p==0))],[⟨[ag [AV.vec fm 9 (List.map Mo.a l),vi S,vi A,vi j,vi ix,vi p,AV.vnil,vi 0,vb false,vb hd,vb br,AV.row 1 w,vi (N.pox l ix p),vi (N.poy l ix p),vi (N.poz l ix p)]],15,0,false,false⟩,⟨List.map Mo.a P,9,w,false,true⟩],[0==0],[],[⟨true,true,13,[AV.ptr 0 0 0 0],[⟨[ag [AV.vec fm 9 (List.map Mo.a l),vi S,vi A,vi j,vi ix,vi p,AV.vnil,vi 0,vb false,vb hd,vb br,AV.row 1 w,vi qx,vi qy,vi qz]],15,0,false,false⟩,⟨List.map Mo.a P,9,w,false,true⟩],ag [vi (N.pox l ix p),vi (N.poy l ix p),vi (N.poz l ix p)],[⟨[ag [AV.vec fm 9 (List.map Mo.a l),vi S,vi A,vi j,vi ix,vi p,AV.vnil,vi 0,vb false,vb hd,vb br,AV.row 1 w,vi qx,vi qy,vi qz]],15,0,false,false⟩,⟨List.map Mo.a P,9,w,false,true⟩]⟩,⟨true,true,45,[AV.ptr 0 0 0 0],[⟨[ag [AV.vec fm 9 (List.map Mo.a l),vi S,vi A,vi j,vi ix,vi p,AV.vnil,vi 0,vb false,vb hd,vb br,AV.row 1 w,vi (N.pox l ix p),vi (N.poy l ix p),vi (N.poz l ix p)]],15,0,false,false⟩,⟨List.map Mo.a P,9,w,false,true⟩],vi (N.lf l ix p),[⟨[ag [AV.vec fm 9 (List.map Mo.a l),vi S,vi A,vi j,vi ix,vi p,AV.vnil,vi 0,vb false,vb hd,vb br,AV.row 1 w,vi (N.pox l ix p),vi (N.poy l ix p),vi (N.poz l ix p)]],15,0,false,false⟩,⟨List.map Mo.a P,9,w,false,true⟩]⟩]⟩ (by kernel_rfl) (bc (beq_self_eq_true _) b0) q0 (cc (fun _=>(@ZdP fm l S A j ix p 0 false hd br qx qy qz P w false k1)) (cc (fun _=>(@evo45_b fm l S A j ix p 0 false hd br (N.pox l ix p) (N.poy l ix p) (N.poz l ix p) P w false k2)) c0)) ?_
 rcases xq H with ⟨d4,H⟩|⟨d4,H⟩
 ·obtain ⟨k5,H⟩:=H
  have w6:wi (ix+1)=ix+1:=wI64 k5
  obtain ⟨k7,H⟩:=H
  exact Zbc (G:=Zab kp47 [(7,1,.call (tu []) (some [⟨[ag [AV.vec fm 9 (List.map Mo.a l),vi S,vi A,vi j,vi (N.skI l (ix+1)),vi 0,AV.vnil,vi 0,vb false,vb hd,vb br,AV.row 1 w,vi (N.pox l ix p),vi (N.poy l ix p),vi (N.poz l ix p)]],15,0,false,false⟩,⟨List.map Mo.a P,9,w,false,true⟩]))] []) 1000 [true] (env':=[]) (L':=[⟨[ag [AV.vec fm 9 (List.map Mo.a l),vi S,vi A,vi j,vi (N.skI l (ix+1)),vi 0,AV.vnil,vi 0,vb false,vb hd,vb br,AV.row 1 w,vi (N.pox l ix p),vi (N.poy l ix p),vi (N.poz l ix p)]],15,0,false,false⟩,⟨List.map Mo.a P,9,w,false,true⟩]) (asm:=[(N.lf l ix p==0)==true,true,true,true]) (eqs:=[]) (calls:=[⟨true,true,42,[AV.ptr 0 0 0 0],[⟨[ag [AV.vec fm 9 (List.map Mo.a l),vi S,vi A,vi j,vi (wi (ix+1)),vi 0,AV.vnil,vi 0,vb false,vb hd,vb br,AV.row 1 w,vi (N.pox l ix p),vi (N.poy l ix p),vi (N.poz l ix p)]],15,0,false,false⟩,⟨List.map Mo.a P,9,w,false,true⟩],tu [],[⟨[ag [AV.vec fm 9 (List.map Mo.a l),vi S,vi A,vi j,vi (N.skI l (ix+1)),vi 0,AV.vnil,vi 0,vb false,vb hd,vb br,AV.row 1 w,vi (N.pox l ix p),vi (N.poy l ix p),vi (N.poz l ix p)]],15,0,false,false⟩,⟨List.map Mo.a P,9,w,false,true⟩]⟩]) (tu []) (by kernel_rfl) (by kernel_rfl) (Zaa (Zam (i_eq.2 d4)) (Zaa rfl (Zaa rfl (Zaa rfl Zae)))) Zaf (Zaq (fun _=>(by (try rw [w6]);all_goals exact (@evo42_b fm l S A j (ix+1) 0 0 false hd br (N.pox l ix p) (N.poy l ix p) (N.poz l ix p) P w k7))) Zag) H
 ·exact Zbc (G:=Zab kp47 [] []) 1000 [false] (env':=[(0,AV.ptr 0 0 0 0),(36,vb (N.lf l ix p==0))]) (L':=[⟨[ag [AV.vec fm 9 (List.map Mo.a l),vi S,vi A,vi j,vi ix,vi p,AV.vnil,vi 0,vb false,vb hd,vb br,AV.row 1 w,vi (N.pox l ix p),vi (N.poy l ix p),vi (N.poz l ix p)]],15,0,false,false⟩,⟨List.map Mo.a P,9,w,false,true⟩]) (asm:=[(N.lf l ix p==0)==false]) (eqs:=[]) (calls:=[]) (tu []) (by kernel_rfl) (by kernel_rfl) (Zaa (Zal (fun h=>d4 (i_eq.1 h))) Zae) Zaf Zag H
noncomputable abbrev zCxJ3 (m:Mo):=ag [vi m.x,vi m.y,vi m.z,vi m.u,vi m.v,vi m.w,vi m.r,vi m.t,vi m.b]
theorem srE (fm:Bool) (l:List Mo) (S A j ix p:Int) (hd br:Bool) (qx qy qz:Int) (m:Mo) (P:List Mo) (w:Nat)  (Q:AV->Heap->Prop) (H :
  (N.okC l ix p) /\
  (N.okG l ix p) /\
  ((N.lf l ix p=0)->(-9223372036854775808<=ix+1/\ix+1<=9223372036854775807) /\
   (N.okK l (ix+1)) /\
   Q (tu []) [{ elems:=[ag [AV.vec fm 9 (List.map Mo.a l),vi S,vi A,vi j,vi (N.skI l (ix+1)),vi 0,AV.vnil,vi 0,vb false,vb hd,vb br,AV.row 2 w,vi (N.pox l ix p),vi (N.poy l ix p),vi (N.poz l ix p)]],es:=15,ver:=0,frozen:=false,clean:=false },{ elems:=[ag [vi m.x,vi m.y,vi m.z,vi m.u,vi m.v,vi m.w,vi m.r,vi m.t,vi m.b]],es:=9,ver:=0,frozen:=false,clean:=false },{ elems:=List.map Mo.a P,es:=9,ver:=w,frozen:=false,clean:=true }]) /\
  (¬(N.lf l ix p=0)->Q (tu []) [{ elems:=[ag [AV.vec fm 9 (List.map Mo.a l),vi S,vi A,vi j,vi ix,vi p,AV.vnil,vi 0,vb false,vb hd,vb br,AV.row 2 w,vi (N.pox l ix p),vi (N.poy l ix p),vi (N.poz l ix p)]],es:=15,ver:=0,frozen:=false,clean:=false },{ elems:=[ag [vi m.x,vi m.y,vi m.z,vi m.u,vi m.v,vi m.w,vi m.r,vi m.t,vi m.b]],es:=9,ver:=0,frozen:=false,clean:=false },{ elems:=List.map Mo.a P,es:=9,ver:=w,frozen:=false,clean:=true }])) :
 srE_at fm l S A j ix p hd br qx qy qz m P w Q:=by
 unfold srE_at
 obtain ⟨k1,k2,H⟩:=H
 refine Zac (G:=Zab kp47 [(4,2,.call (ag [vi (N.pox l ix p),vi (N.poy l ix p),vi (N.poz l ix p)]) none),(5,1,.call (vi (N.lf l ix p)) none)] []) 3 [] ⟨(atC (cd Try.f47) [1,1,1,1]),[(0,AV.ptr 0 0 0 0),(36,vb (N.lf l ix p==0))],[⟨[ag [AV.vec fm 9 (List.map Mo.a l),vi S,vi A,vi j,vi ix,vi p,AV.vnil,vi 0,vb false,vb hd,vb br,AV.row 2 w,vi (N.pox l ix p),vi (N.poy l ix p),vi (N.poz l ix p)]],15,0,false,false⟩,⟨[(zCxJ3 m)],9,0,false,false⟩,⟨List.map Mo.a P,9,w,false,true⟩],[0==0],[],[⟨true,true,13,[AV.ptr 0 0 0 0],[⟨[ag [AV.vec fm 9 (List.map Mo.a l),vi S,vi A,vi j,vi ix,vi p,AV.vnil,vi 0,vb false,vb hd,vb br,AV.row 1 w,vi qx,vi qy,vi qz]],15,0,false,false⟩,⟨List.map Mo.a P,9,w,false,true⟩],ag [vi (N.pox l ix p),vi (N.poy l ix p),vi (N.poz l ix p)],[⟨[ag [AV.vec fm 9 (List.map Mo.a l),vi S,vi A,vi j,vi ix,vi p,AV.vnil,vi 0,vb false,vb hd,vb br,AV.row 1 w,vi qx,vi qy,vi qz]],15,0,false,false⟩,⟨List.map Mo.a P,9,w,false,true⟩]⟩,⟨true,true,45,[AV.ptr 0 0 0 0],[⟨[ag [AV.vec fm 9 (List.map Mo.a l),vi S,vi A,vi j,vi ix,vi p,AV.vnil,vi 0,vb false,vb hd,vb br,AV.row 1 w,vi (N.pox l ix p),vi (N.poy l ix p),vi (N.poz l ix p)]],15,0,false,false⟩,⟨List.map Mo.a P,9,w,false,true⟩],vi (N.lf l ix p),[⟨[ag [AV.vec fm 9 (List.map Mo.a l),vi S,vi A,vi j,vi ix,vi p,AV.vnil,vi 0,vb false,vb hd,vb br,AV.row 1 w,vi (N.pox l ix p),vi (N.poy l ix p),vi (N.poz l ix p)]],15,0,false,false⟩,⟨List.map Mo.a P,9,w,false,true⟩]⟩]⟩ (by kernel_rfl) (bc (beq_self_eq_true _) b0) q0 (cc (fun _=>(@ZdP fm l S A j ix p 0 false hd br qx qy qz P w false k1)) (cc (fun _=>(@evo45_b fm l S A j ix p 0 false hd br (N.pox l ix p) (N.poy l ix p) (N.poz l ix p) P w false k2)) c0)) ?_
 rcases xq H with ⟨d4,H⟩|⟨d4,H⟩
 ·obtain ⟨k5,H⟩:=H
  have w6:wi (ix+1)=ix+1:=wI64 k5
  obtain ⟨k7,H⟩:=H
  exact Zbc (G:=Zab kp47 [(7,1,.call (tu []) (some [⟨[ag [AV.vec fm 9 (List.map Mo.a l),vi S,vi A,vi j,vi (N.skI l (ix+1)),vi 0,AV.vnil,vi 0,vb false,vb hd,vb br,AV.row 1 w,vi (N.pox l ix p),vi (N.poy l ix p),vi (N.poz l ix p)]],15,0,false,false⟩,⟨List.map Mo.a P,9,w,false,true⟩]))] []) 1000 [true] (env':=[]) (L':=[⟨[ag [AV.vec fm 9 (List.map Mo.a l),vi S,vi A,vi j,vi (N.skI l (ix+1)),vi 0,AV.vnil,vi 0,vb false,vb hd,vb br,AV.row 2 w,vi (N.pox l ix p),vi (N.poy l ix p),vi (N.poz l ix p)]],15,0,false,false⟩,⟨[(zCxJ3 m)],9,0,false,false⟩,⟨List.map Mo.a P,9,w,false,true⟩]) (asm:=[(N.lf l ix p==0)==true,true,true,true]) (eqs:=[]) (calls:=[⟨true,true,42,[AV.ptr 0 0 0 0],[⟨[ag [AV.vec fm 9 (List.map Mo.a l),vi S,vi A,vi j,vi (wi (ix+1)),vi 0,AV.vnil,vi 0,vb false,vb hd,vb br,AV.row 1 w,vi (N.pox l ix p),vi (N.poy l ix p),vi (N.poz l ix p)]],15,0,false,false⟩,⟨List.map Mo.a P,9,w,false,true⟩],tu [],[⟨[ag [AV.vec fm 9 (List.map Mo.a l),vi S,vi A,vi j,vi (N.skI l (ix+1)),vi 0,AV.vnil,vi 0,vb false,vb hd,vb br,AV.row 1 w,vi (N.pox l ix p),vi (N.poy l ix p),vi (N.poz l ix p)]],15,0,false,false⟩,⟨List.map Mo.a P,9,w,false,true⟩]⟩]) (tu []) (by kernel_rfl) (by kernel_rfl) (Zaa (Zam (i_eq.2 d4)) (Zaa rfl (Zaa rfl (Zaa rfl Zae)))) Zaf (Zaq (fun _=>(by (try rw [w6]);all_goals exact (@evo42_b fm l S A j (ix+1) 0 0 false hd br (N.pox l ix p) (N.poy l ix p) (N.poz l ix p) P w k7))) Zag) H
 ·exact Zbc (G:=Zab kp47 [] []) 1000 [false] (env':=[(0,AV.ptr 0 0 0 0),(36,vb (N.lf l ix p==0))]) (L':=[⟨[ag [AV.vec fm 9 (List.map Mo.a l),vi S,vi A,vi j,vi ix,vi p,AV.vnil,vi 0,vb false,vb hd,vb br,AV.row 2 w,vi (N.pox l ix p),vi (N.poy l ix p),vi (N.poz l ix p)]],15,0,false,false⟩,⟨[(zCxJ3 m)],9,0,false,false⟩,⟨List.map Mo.a P,9,w,false,true⟩]) (asm:=[(N.lf l ix p==0)==false]) (eqs:=[]) (calls:=[]) (tu []) (by kernel_rfl) (by kernel_rfl) (Zaa (Zal (fun h=>d4 (i_eq.1 h))) Zae) Zaf Zag H
end Go.Av

namespace Go.Av
open Go.Proofs
namespace N
noncomputable def stI (l:List Mo) (ix p:Int):Int:=if lf l ix p=0 then skI l (ix+1) else ix
noncomputable def stK (l:List Mo) (ix p:Int):Int:=if lf l ix p=0 then 0 else p
noncomputable def stP (l:List Mo) (ix p qx qy qz:Int) (P:List Mo):List Mo:=if pcB l ix p qx qy qz=true then P++[pcM l ix p qx qy qz] else P
noncomputable def stW (l:List Mo) (ix p qx qy qz:Int) (w:Nat):Nat:=if pcB l ix p qx qy qz=true then w+1 else w
def okSp (l:List Mo) (ix p:Int):Prop:=okC l ix p/\ix<l.length
def okSq (l:List Mo) (ix p:Int) (P:List Mo):Prop:=okSp l ix p/\P.length<=1000000000
end N
theorem okSp_G {l:List Mo} {ix p:Int} (h:N.okSp l ix p):N.okG l ix p/\N.okK l (ix+1) /\ -9223372036854775808<=ix+1/\ix+1<=9223372036854775807:=by
 obtain ⟨⟨hl,hi,hp⟩,hx⟩:=h
 have h1:=hl.1
 obtain ⟨g1,g2,g3⟩:=hp hx
 have hm:=ZbQ (hl.2 ix.toNat (by omega))
 exact ⟨⟨hl,⟨hi.1,hx⟩,g2,by omega⟩,⟨hl,by omega,by omega⟩,by omega,by omega⟩
theorem evo47_y (fm:Bool) (l:List Mo) (S A j ix p k:Int) (bk hd br:Bool) (qx qy qz:Int) (X:List Int) (h:N.okSp l ix p) (c:N.pcB l ix p qx qy qz=true):Ev M1 (.own 47 [.ptr 0 0 0 0] [⟨[.agg [.vec fm 9 (l.map Mo.a),.int .i64 S,.int .i64 A,.int .i64 j,.int .i64 ix,.int .i64 p,.vec false 1 (X.map (.int .i64)),.int .i64 k,.bool bk,.bool hd,.bool br,.vnil,.int .i64 qx,.int .i64 qy,.int .i64 qz]],15,0,false,false⟩]) (.tup []) [⟨[.agg [.vec fm 9 (l.map Mo.a),.int .i64 S,.int .i64 A,.int .i64 j,.int .i64 (N.stI l ix p),.int .i64 (N.stK l ix p),.vnil,.int .i64 0,.bool false,.bool hd,.bool br,.row 2 0,.int .i64 (N.pox l ix p),.int .i64 (N.poy l ix p),.int .i64 (N.poz l ix p)]],15,0,false,false⟩,⟨[.agg [.int .i64 (N.pcM l ix p qx qy qz).x,.int .i64 (N.pcM l ix p qx qy qz).y,.int .i64 (N.pcM l ix p qx qy qz).z,.int .i64 (N.pcM l ix p qx qy qz).u,.int .i64 (N.pcM l ix p qx qy qz).v,.int .i64 (N.pcM l ix p qx qy qz).w,.int .i64 (N.pcM l ix p qx qy qz).r,.int .i64 (N.pcM l ix p qx qy qz).t,.int .i64 (N.pcM l ix p qx qy qz).b]],9,0,false,false⟩,⟨[(N.pcM l ix p qx qy qz)].map Mo.a,9,0,false,true⟩]:=by
 obtain ⟨g1,g2,g3⟩:=okSp_G h
 refine Zet (owncall47 (stC fm l S A j ix p k bk hd br qx qy qz X _ ⟨h.1,fun _ => ?_,fun z=>absurd c z⟩))
 refine srE _ _ _ _ _ _ _ _ _ _ _ _ _ _ _ _ ⟨h.1,g1,fun hz=>⟨g3,g2,?_⟩,fun hz => ?_⟩
 ·unfold N.stI N.stK;rw [if_pos hz,if_pos hz];exact ⟨rfl,rfl⟩
 ·unfold N.stI N.stK;rw [if_neg hz,if_neg hz];exact ⟨rfl,rfl⟩
theorem evo47_n (fm:Bool) (l:List Mo) (S A j ix p k:Int) (bk hd br:Bool) (qx qy qz:Int) (X:List Int) (h:N.okSp l ix p) (c:¬N.pcB l ix p qx qy qz=true):Ev M1 (.own 47 [.ptr 0 0 0 0] [⟨[.agg [.vec fm 9 (l.map Mo.a),.int .i64 S,.int .i64 A,.int .i64 j,.int .i64 ix,.int .i64 p,.vec false 1 (X.map (.int .i64)),.int .i64 k,.bool bk,.bool hd,.bool br,.vnil,.int .i64 qx,.int .i64 qy,.int .i64 qz]],15,0,false,false⟩]) (.tup []) [⟨[.agg [.vec fm 9 (l.map Mo.a),.int .i64 S,.int .i64 A,.int .i64 j,.int .i64 (N.stI l ix p),.int .i64 (N.stK l ix p),.vnil,.int .i64 0,.bool false,.bool hd,.bool br,.vnil,.int .i64 (N.pox l ix p),.int .i64 (N.poy l ix p),.int .i64 (N.poz l ix p)]],15,0,false,false⟩]:=by
 obtain ⟨g1,g2,g3⟩:=okSp_G h
 refine ZgH rfl (stC fm l S A j ix p k bk hd br qx qy qz X _ ⟨h.1,fun z=>absurd z c,fun _ => ?_⟩)
 refine Zcp (env':=[(0,.ptr 0 0 0 0)]) (Lc:=[⟨[.agg [.vec fm 9 (l.map Mo.a),.int .i64 S,.int .i64 A,.int .i64 j,.int .i64 ix,.int .i64 p,.vnil,.int .i64 0,.bool false,.bool hd,.bool br,.vnil,.int .i64 qx,.int .i64 qy,.int .i64 qz]],15,0,false,false⟩]) 1 rfl (by kernel_rfl) ?_
 refine srA _ _ _ _ _ _ _ _ _ _ _ _ _ _ rfl ⟨h.1,g1,fun hz=>⟨g3,g2,?_⟩,fun hz => ?_⟩
 ·unfold N.stI N.stK;rw [if_pos hz,if_pos hz];exact ⟨rfl,rfl⟩
 ·unfold N.stI N.stK;rw [if_neg hz,if_neg hz];exact ⟨rfl,rfl⟩
theorem evo47_d (fm:Bool) (l:List Mo) (S A j ix p k:Int) (bk hd br:Bool) (qx qy qz:Int) (X:List Int) (P:List Mo) (w:Nat) (h:N.okSq l ix p P):Ev M1 (.own 47 [.ptr 0 0 0 0] [⟨[.agg [.vec fm 9 (l.map Mo.a),.int .i64 S,.int .i64 A,.int .i64 j,.int .i64 ix,.int .i64 p,.vec false 1 (X.map (.int .i64)),.int .i64 k,.bool bk,.bool hd,.bool br,.row 1 w,.int .i64 qx,.int .i64 qy,.int .i64 qz]],15,0,false,false⟩,⟨P.map Mo.a,9,w,false,true⟩]) (.tup []) [⟨[.agg [.vec fm 9 (l.map Mo.a),.int .i64 S,.int .i64 A,.int .i64 j,.int .i64 (N.stI l ix p),.int .i64 (N.stK l ix p),.vnil,.int .i64 0,.bool false,.bool hd,.bool br,.row 1 (N.stW l ix p qx qy qz w),.int .i64 (N.pox l ix p),.int .i64 (N.poy l ix p),.int .i64 (N.poz l ix p)]],15,0,false,false⟩,⟨(N.stP l ix p qx qy qz P).map Mo.a,9,N.stW l ix p qx qy qz w,false,true⟩]:=by
 obtain ⟨h,hP⟩:=h
 obtain ⟨g1,g2,g3⟩:=okSp_G h
 refine ZgH rfl (stD fm l S A j ix p k bk hd br qx qy qz X P w _ _ rfl ⟨h.1,fun hc=>⟨by omega,?_⟩,fun hc => ?_⟩)
 ·unfold N.stP N.stW;rw [if_pos hc,if_pos hc]
  refine srB _ _ _ _ _ _ _ _ _ _ _ _ _ _ _ _ rfl ⟨h.1,g1,fun hz=>⟨g3,g2,?_⟩,fun hz => ?_⟩
  ·unfold N.stI N.stK;rw [if_pos hz,if_pos hz];exact ⟨rfl,rfl⟩
  ·unfold N.stI N.stK;rw [if_neg hz,if_neg hz];exact ⟨rfl,rfl⟩
 ·unfold N.stP N.stW;rw [if_neg hc,if_neg hc]
  refine srB _ _ _ _ _ _ _ _ _ _ _ _ _ _ _ _ rfl ⟨h.1,g1,fun hz=>⟨g3,g2,?_⟩,fun hz => ?_⟩
  ·unfold N.stI N.stK;rw [if_pos hz,if_pos hz];exact ⟨rfl,rfl⟩
  ·unfold N.stI N.stK;rw [if_neg hz,if_neg hz];exact ⟨rfl,rfl⟩
end Go.Av

namespace Go.Av
open Go.Proofs
set_option maxRecDepth 100000
def fi10:Fi:=⟨93,[.tmp 2]⟩
def kp10:List (Nat × List Nat):=[(0,[0]),(1,[0,20]),(2,[2]),(3,[0,22]),(4,[0,26]),(5,[2]),(6,[0,3,4]),(7,[0,3,54]),(8,[2]),(9,[0]),(10,[0]),(11,[0]),(12,[0,90]),(13,[]),(14,[2])]
def tcA_at (fm:Bool) (l:List Mo) (S A j ix p:Int) (hd br:Bool) (qx qy qz:Int) (Q:AV->Heap->Prop):Prop:=Wp M1 (.run fi10 (atC (cd Try.f10) []) [(0,.ptr 0 0 0 0)] [⟨[.agg [.vec fm 9 (l.map Mo.a),.int .i64 S,.int .i64 A,.int .i64 j,.int .i64 ix,.int .i64 p,.vnil,.int .i64 0,.bool false,.bool hd,.bool br,.vnil,.int .i64 qx,.int .i64 qy,.int .i64 qz]],15,0,false,false⟩]) Q
def tcB_at (fm:Bool) (l:List Mo) (S A j ix p:Int) (hd br:Bool) (qx qy qz:Int) (P:List Mo) (w:Nat) (Q:AV->Heap->Prop):Prop:=Wp M1 (.run fi10 (atC (cd Try.f10) []) [(0,.ptr 0 0 0 0)] [⟨[.agg [.vec fm 9 (l.map Mo.a),.int .i64 S,.int .i64 A,.int .i64 j,.int .i64 ix,.int .i64 p,.vnil,.int .i64 0,.bool false,.bool hd,.bool br,.row 1 w,.int .i64 qx,.int .i64 qy,.int .i64 qz]],15,0,false,false⟩,⟨P.map Mo.a,9,w,false,true⟩]) Q
def tcC_at (fm:Bool) (l:List Mo) (S A j ix p k:Int) (bk hd br:Bool) (qx qy qz:Int) (X:List Int) (Q:AV->Heap->Prop):Prop:=Wp M1 (.run fi10 (atC (cd Try.f10) []) [(0,.ptr 0 0 0 0)] [⟨[.agg [.vec fm 9 (l.map Mo.a),.int .i64 S,.int .i64 A,.int .i64 j,.int .i64 ix,.int .i64 p,.vec false 1 (X.map (.int .i64)),.int .i64 k,.bool bk,.bool hd,.bool br,.vnil,.int .i64 qx,.int .i64 qy,.int .i64 qz]],15,0,false,false⟩]) Q
def tcD_at (fm:Bool) (l:List Mo) (S A j ix p k:Int) (bk hd br:Bool) (qx qy qz:Int) (X:List Int) (P:List Mo) (w:Nat) (Q:AV->Heap->Prop):Prop:=Wp M1 (.run fi10 (atC (cd Try.f10) []) [(0,.ptr 0 0 0 0)] [⟨[.agg [.vec fm 9 (l.map Mo.a),.int .i64 S,.int .i64 A,.int .i64 j,.int .i64 ix,.int .i64 p,.vec false 1 (X.map (.int .i64)),.int .i64 k,.bool bk,.bool hd,.bool br,.row 1 w,.int .i64 qx,.int .i64 qy,.int .i64 qz]],15,0,false,false⟩,⟨P.map Mo.a,9,w,false,true⟩]) Q
def tcZ_at (fm:Bool) (l:List Mo) (S A j ix p:Int) (qx qy qz:Int) (P:List Mo) (w:Nat) (Q:AV->Heap->Prop):Prop:=Wp M1 (.run fi10 (atC (cd Try.f10) []) [(0,.ptr 0 0 0 0)] [⟨[.agg [.vec fm 9 (l.map Mo.a),.int .i64 S,.int .i64 A,.int .i64 j,.int .i64 ix,.int .i64 p,.vnil,.int .i64 0,.bool false,.bool false,.bool true,.row 1 w,.int .i64 qx,.int .i64 qy,.int .i64 qz]],15,0,false,false⟩,⟨P.map Mo.a,9,w,true,true⟩]) Q
theorem Zc7 {args:List AV} {L:Heap} {Q:AV->Heap->Prop} (h:Wp M1 (.run fi10 [.code (cd Try.f10)] (ZaN 0 args) L) Q):Wp M1 (.own 10 args L) Q:=
 ZfA Try.f10 fi10 (by kernel_rfl) (by kernel_rfl) (by kernel_rfl) (by kernel_rfl) h
theorem keepcall10 {args:List AV} {L:Heap} {v:AV} {K:Heap} (hk:ZaB L.length v K=true) (h:Wp M1 (.run fi10 [.code (cd Try.f10)] (ZaN 0 args) L) (Zat v K)):Ev M1 (.own 10 args L) v K:=
 Zb3 Try.f10 fi10 (by kernel_rfl) (by kernel_rfl) (by kernel_rfl) (by kernel_rfl) hk h
noncomputable abbrev zCxK1 (l:List Mo) (ix:Int) (p:Int) (S:Int) (A:Int) (j:Int) (qx:Int) (qy:Int) (qz:Int):=ag [vi (N.pcM l ix (p+(N.stX (N.lm (l.getD ix.toNat default).r S) A j (N.lf l ix p)).getD 0 default) qx qy qz).x,vi (N.pcM l ix (p+(N.stX (N.lm (l.getD ix.toNat default).r S) A j (N.lf l ix p)).getD 0 default) qx qy qz).y,vi (N.pcM l ix (p+(N.stX (N.lm (l.getD ix.toNat default).r S) A j (N.lf l ix p)).getD 0 default) qx qy qz).z,vi (N.pcM l ix (p+(N.stX (N.lm (l.getD ix.toNat default).r S) A j (N.lf l ix p)).getD 0 default) qx qy qz).u,vi (N.pcM l ix (p+(N.stX (N.lm (l.getD ix.toNat default).r S) A j (N.lf l ix p)).getD 0 default) qx qy qz).v,vi (N.pcM l ix (p+(N.stX (N.lm (l.getD ix.toNat default).r S) A j (N.lf l ix p)).getD 0 default) qx qy qz).w,vi (N.pcM l ix (p+(N.stX (N.lm (l.getD ix.toNat default).r S) A j (N.lf l ix p)).getD 0 default) qx qy qz).r,vi (N.pcM l ix (p+(N.stX (N.lm (l.getD ix.toNat default).r S) A j (N.lf l ix p)).getD 0 default) qx qy qz).t,vi (N.pcM l ix (p+(N.stX (N.lm (l.getD ix.toNat default).r S) A j (N.lf l ix p)).getD 0 default) qx qy qz).b]
noncomputable abbrev zCxK2 (l:List Mo) (ix:Int):=ag [vi (l.getD ix.toNat default).x,vi (l.getD ix.toNat default).y,vi (l.getD ix.toNat default).z,vi (l.getD ix.toNat default).u,vi (l.getD ix.toNat default).v,vi (l.getD ix.toNat default).w,vi (l.getD ix.toNat default).r,vi (l.getD ix.toNat default).t,vi (l.getD ix.toNat default).b]
noncomputable abbrev zCxK3 (l:List Mo) (ix:Int) (S:Int) (A:Int) (j:Int) (p:Int):=(↑(N.stX (N.lm (l.getD ix.toNat default).r S) A j (N.lf l ix p)).length:Int)
noncomputable abbrev zCxK4 (l:List Mo) (ix:Int) (p:Int) (S:Int) (A:Int) (j:Int):=N.stI l ix (p+(N.stX (N.lm (l.getD ix.toNat default).r S) A j (N.lf l ix p)).getD 0 default)
noncomputable abbrev zCxK5 (l:List Mo) (ix:Int) (p:Int) (S:Int) (A:Int) (j:Int):=N.stK l ix (p+(N.stX (N.lm (l.getD ix.toNat default).r S) A j (N.lf l ix p)).getD 0 default)
noncomputable abbrev zCxK6 (l:List Mo) (ix:Int) (p:Int) (S:Int) (A:Int) (j:Int):=N.pox l ix (p+(N.stX (N.lm (l.getD ix.toNat default).r S) A j (N.lf l ix p)).getD 0 default)
noncomputable abbrev zCxK7 (l:List Mo) (ix:Int) (p:Int) (S:Int) (A:Int) (j:Int):=N.poy l ix (p+(N.stX (N.lm (l.getD ix.toNat default).r S) A j (N.lf l ix p)).getD 0 default)
noncomputable abbrev zCxK8 (l:List Mo) (ix:Int) (p:Int) (S:Int) (A:Int) (j:Int):=N.poz l ix (p+(N.stX (N.lm (l.getD ix.toNat default).r S) A j (N.lf l ix p)).getD 0 default)
noncomputable abbrev zCxK9 (l:List Mo) (ix:Int) (S:Int) (A:Int) (j:Int):=ag [vi (N.lm (l.getD ix.toNat default).r S),vi A,vi j]
noncomputable abbrev zCxK10 (l:List Mo) (ix:Int) (S:Int) (A:Int) (j:Int) (p:Int):=tu [vf (List.map vi (N.stX (N.lm (l.getD ix.toNat default).r S) A j (N.lf l ix p))),vi (N.stE (N.lm (l.getD ix.toNat default).r S) A j (N.lf l ix p))]
theorem tcA (fm:Bool) (l:List Mo) (S A j ix p:Int) (hd br:Bool) (qx qy qz:Int)  (Q:AV->Heap->Prop) (H :
  (((br=true)\/(ix=(↑l.length:Int)))->Q (vb false) [{ elems:=[ag [AV.vec fm 9 (List.map Mo.a l),vi S,vi A,vi j,vi ix,vi p,AV.vnil,vi 0,vb false,vb hd,vb br,AV.vnil,vi qx,vi qy,vi qz]],es:=15,ver:=0,frozen:=false,clean:=false }]) /\
  (¬((br=true)\/(ix=(↑l.length:Int)))->((hd=true)->Q (vb false) [{ elems:=[ag [AV.vec fm 9 (List.map Mo.a l),vi S,vi A,vi j,vi ix,vi p,AV.vnil,vi 0,vb false,vb hd,vb br,AV.vnil,vi qx,vi qy,vi qz]],es:=15,ver:=0,frozen:=false,clean:=false }]) /\
   (¬(hd=true)->(N.okG l ix p) /\
    (N.okR (l.getD ix.toNat default).r) /\
    (N.okSt (N.lf l ix p)) /\
    (0<=ix) /\
    (ix.toNat<l.length) /\
    (((¬N.stE (N.lm (l.getD ix.toNat default).r S) A j (N.lf l ix p)=0)\/((↑(N.stX (N.lm (l.getD ix.toNat default).r S) A j (N.lf l ix p)).length:Int)=0))->Q (vb false) [{ elems:=[ag [AV.vec fm 9 (List.map Mo.a l),vi S,vi A,vi j,vi ix,vi p,AV.vnil,vi 0,vb false,vb hd,vb br,AV.vnil,vi qx,vi qy,vi qz]],es:=15,ver:=0,frozen:=false,clean:=false }]) /\
    (¬((¬N.stE (N.lm (l.getD ix.toNat default).r S) A j (N.lf l ix p)=0)\/((↑(N.stX (N.lm (l.getD ix.toNat default).r S) A j (N.lf l ix p)).length:Int)=0))->(0<(N.stX (N.lm (l.getD ix.toNat default).r S) A j (N.lf l ix p)).length) /\
     (-9223372036854775808<=p+(N.stX (N.lm (l.getD ix.toNat default).r S) A j (N.lf l ix p)).getD 0 default/\p+(N.stX (N.lm (l.getD ix.toNat default).r S) A j (N.lf l ix p)).getD 0 default<=9223372036854775807) /\
     ((1=(↑(N.stX (N.lm (l.getD ix.toNat default).r S) A j (N.lf l ix p)).length:Int))->((N.pcB l ix (p+(N.stX (N.lm (l.getD ix.toNat default).r S) A j (N.lf l ix p)).getD 0 default) qx qy qz=true)->(N.okSp l ix (p+(N.stX (N.lm (l.getD ix.toNat default).r S) A j (N.lf l ix p)).getD 0 default)) /\
       Q (vb true) [{ elems:=[ag [AV.vec fm 9 (List.map Mo.a l),vi S,vi A,vi j,vi (N.stI l ix (p+(N.stX (N.lm (l.getD ix.toNat default).r S) A j (N.lf l ix p)).getD 0 default)),vi (N.stK l ix (p+(N.stX (N.lm (l.getD ix.toNat default).r S) A j (N.lf l ix p)).getD 0 default)),AV.vnil,vi 0,vb false,vb hd,vb br,AV.row 1 0,vi (N.pox l ix (p+(N.stX (N.lm (l.getD ix.toNat default).r S) A j (N.lf l ix p)).getD 0 default)),vi (N.poy l ix (p+(N.stX (N.lm (l.getD ix.toNat default).r S) A j (N.lf l ix p)).getD 0 default)),vi (N.poz l ix (p+(N.stX (N.lm (l.getD ix.toNat default).r S) A j (N.lf l ix p)).getD 0 default))]],es:=15,ver:=0,frozen:=false,clean:=false },{ elems:=[ag [vi (N.pcM l ix (p+(N.stX (N.lm (l.getD ix.toNat default).r S) A j (N.lf l ix p)).getD 0 default) qx qy qz).x,vi (N.pcM l ix (p+(N.stX (N.lm (l.getD ix.toNat default).r S) A j (N.lf l ix p)).getD 0 default) qx qy qz).y,vi (N.pcM l ix (p+(N.stX (N.lm (l.getD ix.toNat default).r S) A j (N.lf l ix p)).getD 0 default) qx qy qz).z,vi (N.pcM l ix (p+(N.stX (N.lm (l.getD ix.toNat default).r S) A j (N.lf l ix p)).getD 0 default) qx qy qz).u,vi (N.pcM l ix (p+(N.stX (N.lm (l.getD ix.toNat default).r S) A j (N.lf l ix p)).getD 0 default) qx qy qz).v,vi (N.pcM l ix (p+(N.stX (N.lm (l.getD ix.toNat default).r S) A j (N.lf l ix p)).getD 0 default) qx qy qz).w,vi (N.pcM l ix (p+(N.stX (N.lm (l.getD ix.toNat default).r S) A j (N.lf l ix p)).getD 0 default) qx qy qz).r,vi (N.pcM l ix (p+(N.stX (N.lm (l.getD ix.toNat default).r S) A j (N.lf l ix p)).getD 0 default) qx qy qz).t,vi (N.pcM l ix (p+(N.stX (N.lm (l.getD ix.toNat default).r S) A j (N.lf l ix p)).getD 0 default) qx qy qz).b]],es:=9,ver:=0,frozen:=false,clean:=true }]) /\
      (¬(N.pcB l ix (p+(N.stX (N.lm (l.getD ix.toNat default).r S) A j (N.lf l ix p)).getD 0 default) qx qy qz=true)->(N.okSp l ix (p+(N.stX (N.lm (l.getD ix.toNat default).r S) A j (N.lf l ix p)).getD 0 default)) /\
       Q (vb true) [{ elems:=[ag [AV.vec fm 9 (List.map Mo.a l),vi S,vi A,vi j,vi (N.stI l ix (p+(N.stX (N.lm (l.getD ix.toNat default).r S) A j (N.lf l ix p)).getD 0 default)),vi (N.stK l ix (p+(N.stX (N.lm (l.getD ix.toNat default).r S) A j (N.lf l ix p)).getD 0 default)),AV.vnil,vi 0,vb false,vb hd,vb br,AV.vnil,vi (N.pox l ix (p+(N.stX (N.lm (l.getD ix.toNat default).r S) A j (N.lf l ix p)).getD 0 default)),vi (N.poy l ix (p+(N.stX (N.lm (l.getD ix.toNat default).r S) A j (N.lf l ix p)).getD 0 default)),vi (N.poz l ix (p+(N.stX (N.lm (l.getD ix.toNat default).r S) A j (N.lf l ix p)).getD 0 default))]],es:=15,ver:=0,frozen:=false,clean:=false }])) /\
     (¬(1=(↑(N.stX (N.lm (l.getD ix.toNat default).r S) A j (N.lf l ix p)).length:Int))->Q (vb true) [{ elems:=[ag [AV.vec fm 9 (List.map Mo.a l),vi S,vi A,vi j,vi ix,vi (p+(N.stX (N.lm (l.getD ix.toNat default).r S) A j (N.lf l ix p)).getD 0 default),vf (List.map vi (N.stX (N.lm (l.getD ix.toNat default).r S) A j (N.lf l ix p))),vi 1,vb false,vb hd,vb br,AV.vnil,vi qx,vi qy,vi qz]],es:=15,ver:=0,frozen:=false,clean:=false }]))))) :
 tcA_at fm l S A j ix p hd br qx qy qz Q:=by
 unfold tcA_at
 have w1:(List.map Mo.a l).length=l.length:=List.length_map ..
 have i2:(bif br then true else ix==(↑(List.map Mo.a l).length:Int))=true ↔ ((br=true)\/(ix=(↑l.length:Int))):=(by (try rw [w1]);all_goals exact (ZaD (Zas _) i_eq))
 rcases xq H with ⟨d3,H⟩|⟨d3,H⟩
 ·exact Zai (G:=Zab kp10 [] []) 1000 [true] (k:=((atC (cd Try.f10) [1,0,1,0,1])).tail) (env':=[(2,vb false)]) (L':=[⟨[ag [AV.vec fm 9 (List.map Mo.a l),vi S,vi A,vi j,vi ix,vi p,AV.vnil,vi 0,vb false,vb hd,vb br,AV.vnil,vi qx,vi qy,vi qz]],15,0,false,false⟩]) (asm:=[true,!(br==false&&true)||true,!(br==false&&true)||true,(bif br then true else ix==(↑(List.map Mo.a l).length:Int))==true]) (eqs:=[]) (calls:=[]) (vb false) (by kernel_rfl) (by kernel_rfl) (Zaa rfl (Zaa (Bool.or_true _) (Zaa (Bool.or_true _) (Zaa (Zam (i2.2 d3)) Zae)))) Zaf Zag H
 ·refine Zac (G:=Zab kp10 [(3,1,.call (vb true) none)] []) 14 [false,true] ⟨(atC (cd Try.f10) [1,1,0,1,0,0,1]),[(0,AV.ptr 0 0 0 0),(26,vb hd)],[⟨[ag [AV.vec fm 9 (List.map Mo.a l),vi S,vi A,vi j,vi ix,vi p,AV.vnil,vi 0,vb false,vb hd,vb br,AV.vnil,vi qx,vi qy,vi qz]],15,0,false,false⟩],[true,!(br==false&&true)||true,!(br==false&&true)||true,(bif br then true else ix==(↑(List.map Mo.a l).length:Int))==false,true==true,0==0],[],[⟨true,true,43,[AV.ptr 0 0 0 0],[⟨[ag [AV.vec fm 9 (List.map Mo.a l),vi S,vi A,vi j,vi ix,vi p,AV.vnil,vi 0,vb false,vb hd,vb br,AV.vnil,vi qx,vi qy,vi qz]],15,0,false,false⟩],vb true,[⟨[ag [AV.vec fm 9 (List.map Mo.a l),vi S,vi A,vi j,vi ix,vi p,AV.vnil,vi 0,vb false,vb hd,vb br,AV.vnil,vi qx,vi qy,vi qz]],15,0,false,false⟩]⟩]⟩ (by kernel_rfl) (bc rfl (bc (Bool.or_true _) (bc (Bool.or_true _) (bc (Zal (fun h=>d3 (i2.1 h))) (bc rfl (bc (beq_self_eq_true _) b0)))))) q0 (cc (fun _=>(@evo43_a fm l S A j ix p 0 false hd br qx qy qz)) c0) ?_
  rcases xq H with ⟨d5,H⟩|⟨d5,H⟩
  ·exact Zai (G:=Zab kp10 [] []) 1000 [true] (k:=((atC (cd Try.f10) [1,1,0,1,0,0,1,0,1])).tail) (env':=[(2,vb false)]) (L':=[⟨[ag [AV.vec fm 9 (List.map Mo.a l),vi S,vi A,vi j,vi ix,vi p,AV.vnil,vi 0,vb false,vb hd,vb br,AV.vnil,vi qx,vi qy,vi qz]],15,0,false,false⟩]) (asm:=[(hd)==true]) (eqs:=[]) (calls:=[]) (vb false) (by kernel_rfl) (by kernel_rfl) (Zaa (Zam ((Zas _).2 d5)) Zae) Zaf Zag H
  ·obtain ⟨k6,k7,k8,k10,H⟩:=H
   have i11:(decide (ix.toNat<(List.map Mo.a l).length))=true ↔ (ix.toNat<l.length):=(by (try rw [w1]);all_goals exact Zad)
   obtain ⟨k12,H⟩:=H
   have w13:(List.map vi (N.stX (N.lm (l.getD ix.toNat default).r S) A j (N.lf l ix p))).length=(N.stX (N.lm (l.getD ix.toNat default).r S) A j (N.lf l ix p)).length:=List.length_map ..
   have i14:(bif N.stE (N.lm (l.getD ix.toNat default).r S) A j (N.lf l ix p) != 0 then true else (↑(List.map vi (N.stX (N.lm (l.getD ix.toNat default).r S) A j (N.lf l ix p))).length:Int)==0)=true ↔ ((¬N.stE (N.lm (l.getD ix.toNat default).r S) A j (N.lf l ix p)=0)\/((zCxK3 l ix S A j p)=0)):=(by (try rw [w13]);all_goals exact (ZaD i_ne i_eq))
   refine Zac (G:=Zab kp10 [(6,1,.call (vi (N.lf l ix p)) none),(6,11,.elem ((zCxK2 l ix))),(6,16,.call ((zCxK9 l ix S A j)) none),(6,17,.call ((zCxK10 l ix S A j p)) none)] [(6,[1001])]) 7 [false] ⟨(atC (cd Try.f10) [1,1,0,1,0,1,1,0,1]),[(0,AV.ptr 0 0 0 0),(3,vf (List.map vi (N.stX (N.lm (l.getD ix.toNat default).r S) A j (N.lf l ix p)))),(54,vb (bif N.stE (N.lm (l.getD ix.toNat default).r S) A j (N.lf l ix p) != 0 then true else (↑(List.map vi (N.stX (N.lm (l.getD ix.toNat default).r S) A j (N.lf l ix p))).length:Int)==0))],[⟨[ag [AV.vec fm 9 (List.map Mo.a l),vi S,vi A,vi j,vi ix,vi p,AV.vnil,vi 0,vb false,vb hd,vb br,AV.vnil,vi qx,vi qy,vi qz]],15,0,false,false⟩],[(hd)==false,true,true,decide (0<=ix),decide (ix.toNat<(List.map Mo.a l).length),true],[((List.map Mo.a l).get?Internal ix.toNat=some ((zCxK2 l ix)))],[⟨true,true,45,[AV.ptr 0 0 0 0],[⟨[ag [AV.vec fm 9 (List.map Mo.a l),vi S,vi A,vi j,vi ix,vi p,AV.vnil,vi 0,vb false,vb hd,vb br,AV.vnil,vi qx,vi qy,vi qz]],15,0,false,false⟩],vi (N.lf l ix p),[⟨[ag [AV.vec fm 9 (List.map Mo.a l),vi S,vi A,vi j,vi ix,vi p,AV.vnil,vi 0,vb false,vb hd,vb br,AV.vnil,vi qx,vi qy,vi qz]],15,0,false,false⟩]⟩,⟨true,false,46,[(zCxK2 l ix),ag [vi S,vi A,vi j]],[],(zCxK9 l ix S A j),[]⟩,⟨true,false,44,[vi (N.lf l ix p),(zCxK9 l ix S A j)],[],(zCxK10 l ix S A j p),[]⟩]⟩ (by kernel_rfl) (bc (Zal (fun h=>d5 ((Zas _).1 h))) (bc rfl (bc rfl (bc (Zad.2 k10) (bc (i11.2 k12) (bc rfl b0)))))) (qc (Zaz k12) q0) (cc (fun _=>(@evo45_a fm l S A j ix p 0 false hd br qx qy qz k6)) (cc (fun _=>(@ev46 ((l.getD ix.toNat default).x) ((l.getD ix.toNat default).y) ((l.getD ix.toNat default).z) ((l.getD ix.toNat default).u) ((l.getD ix.toNat default).v) ((l.getD ix.toNat default).w) ((l.getD ix.toNat default).r) ((l.getD ix.toNat default).t) ((l.getD ix.toNat default).b) S A j k7)) (cc (fun _=>(@ev44 (N.lm (l.getD ix.toNat default).r S) A j (N.lf l ix p) k8)) c0))) ?_
   rcases xq H with ⟨d15,H⟩|⟨d15,H⟩
   ·exact Zai (G:=Zab kp10 [] []) 1000 [true] (k:=((atC (cd Try.f10) [1,1,0,1,0,1,1,0,1,0,1])).tail) (env':=[(2,vb false)]) (L':=[⟨[ag [AV.vec fm 9 (List.map Mo.a l),vi S,vi A,vi j,vi ix,vi p,AV.vnil,vi 0,vb false,vb hd,vb br,AV.vnil,vi qx,vi qy,vi qz]],15,0,false,false⟩]) (asm:=[(bif N.stE (N.lm (l.getD ix.toNat default).r S) A j (N.lf l ix p) != 0 then true else (↑(List.map vi (N.stX (N.lm (l.getD ix.toNat default).r S) A j (N.lf l ix p))).length:Int)==0)==true]) (eqs:=[]) (calls:=[]) (vb false) (by kernel_rfl) (by kernel_rfl) (Zaa (Zam (i14.2 d15)) Zae) Zaf Zag H
   ·have i16:(decide (0<(List.map vi (N.stX (N.lm (l.getD ix.toNat default).r S) A j (N.lf l ix p))).length))=true ↔ (0<(N.stX (N.lm (l.getD ix.toNat default).r S) A j (N.lf l ix p)).length):=(by (try rw [w13]);all_goals exact Zad)
    obtain ⟨k17,k18,H⟩:=H
    have w19:wi (p+(N.stX (N.lm (l.getD ix.toNat default).r S) A j (N.lf l ix p)).getD 0 default)=p+(N.stX (N.lm (l.getD ix.toNat default).r S) A j (N.lf l ix p)).getD 0 default:=wI64 k18
    refine Zac (G:=Zab kp10 [(10,13,.elem (vi ((N.stX (N.lm (l.getD ix.toNat default).r S) A j (N.lf l ix p)).getD 0 default))),(12,1,.call (vb (1==(zCxK3 l ix S A j p))) none)] []) 10 [false] ⟨(atC (cd Try.f10) [1,1,1,1,1,0,1]),[(0,AV.ptr 0 0 0 0),(90,vb (1==(zCxK3 l ix S A j p)))],[⟨[ag [AV.vec fm 9 (List.map Mo.a l),vi S,vi A,vi j,vi ix,vi (wi (p+(N.stX (N.lm (l.getD ix.toNat default).r S) A j (N.lf l ix p)).getD 0 default)),vf (List.map vi (N.stX (N.lm (l.getD ix.toNat default).r S) A j (N.lf l ix p))),vi 1,vb false,vb hd,vb br,AV.vnil,vi qx,vi qy,vi qz]],15,0,false,false⟩],_,[((List.map vi (N.stX (N.lm (l.getD ix.toNat default).r S) A j (N.lf l ix p))).get?Internal 0=some (vi ((N.stX (N.lm (l.getD ix.toNat default).r S) A j (N.lf l ix p)).getD 0 default)))],[⟨true,true,43,[AV.ptr 0 0 0 0],[⟨[ag [AV.vec fm 9 (List.map Mo.a l),vi S,vi A,vi j,vi ix,vi (wi (p+(N.stX (N.lm (l.getD ix.toNat default).r S) A j (N.lf l ix p)).getD 0 default)),vf (List.map vi (N.stX (N.lm (l.getD ix.toNat default).r S) A j (N.lf l ix p))),vi 1,vb false,vb hd,vb br,AV.vnil,vi qx,vi qy,vi qz]],15,0,false,false⟩],vb (1==(zCxK3 l ix S A j p)),[⟨[ag [AV.vec fm 9 (List.map Mo.a l),vi S,vi A,vi j,vi ix,vi (wi (p+(N.stX (N.lm (l.getD ix.toNat default).r S) A j (N.lf l ix p)).getD 0 default)),vf (List.map vi (N.stX (N.lm (l.getD ix.toNat default).r S) A j (N.lf l ix p))),vi 1,vb false,vb hd,vb br,AV.vnil,vi qx,vi qy,vi qz]],15,0,false,false⟩]⟩]⟩ (by kernel_rfl) (bc (Zal (fun h=>d15 (i14.1 h))) (bc rfl (bc rfl (bc rfl (bc rfl (bc rfl (bc rfl (bc rfl (bc (i16.2 k17) (bc rfl (bc rfl (bc rfl b0)))))))))))) (qc (Zaz k17) q0) (cc (fun _=>(by (try rw [w19]);all_goals exact (@evo43_c fm l S A j ix (p+(N.stX (N.lm (l.getD ix.toNat default).r S) A j (N.lf l ix p)).getD 0 default) 1 false hd br qx qy qz (N.stX (N.lm (l.getD ix.toNat default).r S) A j (N.lf l ix p))))) c0) ?_
    rcases xq H with ⟨d21,H⟩|⟨d21,H⟩
    ·rcases xq H with ⟨d22,H⟩|⟨d22,H⟩
     ·obtain ⟨k23,H⟩:=H
      exact Zai (G:=Zab kp10 [(13,1,.call (tu []) (some [⟨[ag [AV.vec fm 9 (List.map Mo.a l),vi S,vi A,vi j,vi (zCxK4 l ix p S A j),vi (zCxK5 l ix p S A j),AV.vnil,vi 0,vb false,vb hd,vb br,AV.row 2 0,vi (zCxK6 l ix p S A j),vi (zCxK7 l ix p S A j),vi (zCxK8 l ix p S A j)]],15,0,false,false⟩,⟨[(zCxK1 l ix p S A j qx qy qz)],9,0,false,false⟩,⟨[(zCxK1 l ix p S A j qx qy qz)],9,0,false,true⟩]))] []) 1000 [true] (k:=((atC (cd Try.f10) [1,1,1,1,1,1,1])).tail) (env':=[(2,vb true)]) (L':=[⟨[ag [AV.vec fm 9 (List.map Mo.a l),vi S,vi A,vi j,vi (zCxK4 l ix p S A j),vi (zCxK5 l ix p S A j),AV.vnil,vi 0,vb false,vb hd,vb br,AV.row 1 0,vi (zCxK6 l ix p S A j),vi (zCxK7 l ix p S A j),vi (zCxK8 l ix p S A j)]],15,0,false,false⟩,⟨[(zCxK1 l ix p S A j qx qy qz)],9,0,false,true⟩]) (asm:=[(1==(zCxK3 l ix S A j p))==true]) (eqs:=[]) (calls:=[⟨true,true,47,[AV.ptr 0 0 0 0],[⟨[ag [AV.vec fm 9 (List.map Mo.a l),vi S,vi A,vi j,vi ix,vi (wi (p+(N.stX (N.lm (l.getD ix.toNat default).r S) A j (N.lf l ix p)).getD 0 default)),vf (List.map vi (N.stX (N.lm (l.getD ix.toNat default).r S) A j (N.lf l ix p))),vi 1,vb false,vb hd,vb br,AV.vnil,vi qx,vi qy,vi qz]],15,0,false,false⟩],tu [],[⟨[ag [AV.vec fm 9 (List.map Mo.a l),vi S,vi A,vi j,vi (zCxK4 l ix p S A j),vi (zCxK5 l ix p S A j),AV.vnil,vi 0,vb false,vb hd,vb br,AV.row 2 0,vi (zCxK6 l ix p S A j),vi (zCxK7 l ix p S A j),vi (zCxK8 l ix p S A j)]],15,0,false,false⟩,⟨[(zCxK1 l ix p S A j qx qy qz)],9,0,false,false⟩,⟨[(zCxK1 l ix p S A j qx qy qz)],9,0,false,true⟩]⟩]) (vb true) (by kernel_rfl) (by kernel_rfl) (Zaa (Zam (i_eq.2 d21)) Zae) Zaf (Zaq (fun _=>(by (try rw [w19]);all_goals exact (@evo47_y fm l S A j ix (p+(N.stX (N.lm (l.getD ix.toNat default).r S) A j (N.lf l ix p)).getD 0 default) 1 false hd br qx qy qz (N.stX (N.lm (l.getD ix.toNat default).r S) A j (N.lf l ix p)) k23 d22))) Zag) H
     ·obtain ⟨k24,H⟩:=H
      exact Zai (G:=Zab kp10 [(13,1,.call (tu []) (some [⟨[ag [AV.vec fm 9 (List.map Mo.a l),vi S,vi A,vi j,vi (zCxK4 l ix p S A j),vi (zCxK5 l ix p S A j),AV.vnil,vi 0,vb false,vb hd,vb br,AV.vnil,vi (zCxK6 l ix p S A j),vi (zCxK7 l ix p S A j),vi (zCxK8 l ix p S A j)]],15,0,false,false⟩]))] []) 1000 [true] (k:=((atC (cd Try.f10) [1,1,1,1,1,1,1])).tail) (env':=[(2,vb true)]) (L':=[⟨[ag [AV.vec fm 9 (List.map Mo.a l),vi S,vi A,vi j,vi (zCxK4 l ix p S A j),vi (zCxK5 l ix p S A j),AV.vnil,vi 0,vb false,vb hd,vb br,AV.vnil,vi (zCxK6 l ix p S A j),vi (zCxK7 l ix p S A j),vi (zCxK8 l ix p S A j)]],15,0,false,false⟩]) (asm:=[(1==(zCxK3 l ix S A j p))==true]) (eqs:=[]) (calls:=[⟨true,true,47,[AV.ptr 0 0 0 0],[⟨[ag [AV.vec fm 9 (List.map Mo.a l),vi S,vi A,vi j,vi ix,vi (wi (p+(N.stX (N.lm (l.getD ix.toNat default).r S) A j (N.lf l ix p)).getD 0 default)),vf (List.map vi (N.stX (N.lm (l.getD ix.toNat default).r S) A j (N.lf l ix p))),vi 1,vb false,vb hd,vb br,AV.vnil,vi qx,vi qy,vi qz]],15,0,false,false⟩],tu [],[⟨[ag [AV.vec fm 9 (List.map Mo.a l),vi S,vi A,vi j,vi (zCxK4 l ix p S A j),vi (zCxK5 l ix p S A j),AV.vnil,vi 0,vb false,vb hd,vb br,AV.vnil,vi (zCxK6 l ix p S A j),vi (zCxK7 l ix p S A j),vi (zCxK8 l ix p S A j)]],15,0,false,false⟩]⟩]) (vb true) (by kernel_rfl) (by kernel_rfl) (Zaa (Zam (i_eq.2 d21)) Zae) Zaf (Zaq (fun _=>(by (try rw [w19]);all_goals exact (@evo47_n fm l S A j ix (p+(N.stX (N.lm (l.getD ix.toNat default).r S) A j (N.lf l ix p)).getD 0 default) 1 false hd br qx qy qz (N.stX (N.lm (l.getD ix.toNat default).r S) A j (N.lf l ix p)) k24 d22))) Zag) H
    ·exact Zai (G:=Zab kp10 [] []) 1000 [false] (k:=((atC (cd Try.f10) [1,1,1,1,1,1,1])).tail) (env':=[(2,vb true)]) (L':=[⟨[ag [AV.vec fm 9 (List.map Mo.a l),vi S,vi A,vi j,vi ix,vi (wi (p+(N.stX (N.lm (l.getD ix.toNat default).r S) A j (N.lf l ix p)).getD 0 default)),vf (List.map vi (N.stX (N.lm (l.getD ix.toNat default).r S) A j (N.lf l ix p))),vi 1,vb false,vb hd,vb br,AV.vnil,vi qx,vi qy,vi qz]],15,0,false,false⟩]) (asm:=[(1==(zCxK3 l ix S A j p))==false]) (eqs:=[]) (calls:=[]) (vb true) (by kernel_rfl) (by kernel_rfl) (Zaa (Zal (fun h=>d21 (i_eq.1 h))) Zae) Zaf Zag (by (try rw [w19]);all_goals exact H)
noncomputable abbrev zCxK11 (l:List Mo) (ix:Int):=ag [vi (l.getD ix.toNat default).x,vi (l.getD ix.toNat default).y,vi (l.getD ix.toNat default).z,vi (l.getD ix.toNat default).u,vi (l.getD ix.toNat default).v,vi (l.getD ix.toNat default).w,vi (l.getD ix.toNat default).r,vi (l.getD ix.toNat default).t,vi (l.getD ix.toNat default).b]
noncomputable abbrev Zgo (l:List Mo) (ix:Int) (S:Int) (A:Int) (j:Int) (p:Int):=(↑(N.stX (N.lm (l.getD ix.toNat default).r S) A j (N.lf l ix p)).length:Int)
noncomputable abbrev zCxK13 (l:List Mo) (ix:Int) (S:Int) (A:Int) (j:Int):=ag [vi (N.lm (l.getD ix.toNat default).r S),vi A,vi j]
noncomputable abbrev zCxK14 (l:List Mo) (ix:Int) (S:Int) (A:Int) (j:Int) (p:Int):=tu [vf (List.map vi (N.stX (N.lm (l.getD ix.toNat default).r S) A j (N.lf l ix p))),vi (N.stE (N.lm (l.getD ix.toNat default).r S) A j (N.lf l ix p))]
noncomputable abbrev zCxK15 (l:List Mo) (ix:Int) (p:Int) (S:Int) (A:Int) (j:Int):=N.stI l ix (p+(N.stX (N.lm (l.getD ix.toNat default).r S) A j (N.lf l ix p)).getD 0 default)
noncomputable abbrev zCxK16 (l:List Mo) (ix:Int) (p:Int) (S:Int) (A:Int) (j:Int):=N.stK l ix (p+(N.stX (N.lm (l.getD ix.toNat default).r S) A j (N.lf l ix p)).getD 0 default)
noncomputable abbrev zCxK17 (l:List Mo) (ix:Int) (p:Int) (S:Int) (A:Int) (j:Int):=N.pox l ix (p+(N.stX (N.lm (l.getD ix.toNat default).r S) A j (N.lf l ix p)).getD 0 default)
noncomputable abbrev zCxK18 (l:List Mo) (ix:Int) (p:Int) (S:Int) (A:Int) (j:Int):=N.poy l ix (p+(N.stX (N.lm (l.getD ix.toNat default).r S) A j (N.lf l ix p)).getD 0 default)
noncomputable abbrev zCxK19 (l:List Mo) (ix:Int) (p:Int) (S:Int) (A:Int) (j:Int):=N.poz l ix (p+(N.stX (N.lm (l.getD ix.toNat default).r S) A j (N.lf l ix p)).getD 0 default)
theorem tcB (fm:Bool) (l:List Mo) (S A j ix p:Int) (hd br:Bool) (qx qy qz:Int) (P:List Mo) (w:Nat)  (Q:AV->Heap->Prop) (H :
  (((br=true)\/(ix=(↑l.length:Int)))->Q (vb false) [{ elems:=[ag [AV.vec fm 9 (List.map Mo.a l),vi S,vi A,vi j,vi ix,vi p,AV.vnil,vi 0,vb false,vb hd,vb br,AV.row 1 w,vi qx,vi qy,vi qz]],es:=15,ver:=0,frozen:=false,clean:=false },{ elems:=List.map Mo.a P,es:=9,ver:=w,frozen:=false,clean:=true }]) /\
  (¬((br=true)\/(ix=(↑l.length:Int)))->((hd=true)->Q (vb false) [{ elems:=[ag [AV.vec fm 9 (List.map Mo.a l),vi S,vi A,vi j,vi ix,vi p,AV.vnil,vi 0,vb false,vb hd,vb br,AV.row 1 w,vi qx,vi qy,vi qz]],es:=15,ver:=0,frozen:=false,clean:=false },{ elems:=List.map Mo.a P,es:=9,ver:=w,frozen:=false,clean:=true }]) /\
   (¬(hd=true)->(N.okG l ix p) /\
    (N.okR (l.getD ix.toNat default).r) /\
    (N.okSt (N.lf l ix p)) /\
    (0<=ix) /\
    (ix.toNat<l.length) /\
    (((¬N.stE (N.lm (l.getD ix.toNat default).r S) A j (N.lf l ix p)=0)\/((↑(N.stX (N.lm (l.getD ix.toNat default).r S) A j (N.lf l ix p)).length:Int)=0))->Q (vb false) [{ elems:=[ag [AV.vec fm 9 (List.map Mo.a l),vi S,vi A,vi j,vi ix,vi p,AV.vnil,vi 0,vb false,vb hd,vb br,AV.row 1 w,vi qx,vi qy,vi qz]],es:=15,ver:=0,frozen:=false,clean:=false },{ elems:=List.map Mo.a P,es:=9,ver:=w,frozen:=false,clean:=true }]) /\
    (¬((¬N.stE (N.lm (l.getD ix.toNat default).r S) A j (N.lf l ix p)=0)\/((↑(N.stX (N.lm (l.getD ix.toNat default).r S) A j (N.lf l ix p)).length:Int)=0))->(0<(N.stX (N.lm (l.getD ix.toNat default).r S) A j (N.lf l ix p)).length) /\
     (-9223372036854775808<=p+(N.stX (N.lm (l.getD ix.toNat default).r S) A j (N.lf l ix p)).getD 0 default/\p+(N.stX (N.lm (l.getD ix.toNat default).r S) A j (N.lf l ix p)).getD 0 default<=9223372036854775807) /\
     ((1=(↑(N.stX (N.lm (l.getD ix.toNat default).r S) A j (N.lf l ix p)).length:Int))->(N.okSq l ix (p+(N.stX (N.lm (l.getD ix.toNat default).r S) A j (N.lf l ix p)).getD 0 default) P) /\
      Q (vb true) [{ elems:=[ag [AV.vec fm 9 (List.map Mo.a l),vi S,vi A,vi j,vi (N.stI l ix (p+(N.stX (N.lm (l.getD ix.toNat default).r S) A j (N.lf l ix p)).getD 0 default)),vi (N.stK l ix (p+(N.stX (N.lm (l.getD ix.toNat default).r S) A j (N.lf l ix p)).getD 0 default)),AV.vnil,vi 0,vb false,vb hd,vb br,AV.row 1 (N.stW l ix (p+(N.stX (N.lm (l.getD ix.toNat default).r S) A j (N.lf l ix p)).getD 0 default) qx qy qz w),vi (N.pox l ix (p+(N.stX (N.lm (l.getD ix.toNat default).r S) A j (N.lf l ix p)).getD 0 default)),vi (N.poy l ix (p+(N.stX (N.lm (l.getD ix.toNat default).r S) A j (N.lf l ix p)).getD 0 default)),vi (N.poz l ix (p+(N.stX (N.lm (l.getD ix.toNat default).r S) A j (N.lf l ix p)).getD 0 default))]],es:=15,ver:=0,frozen:=false,clean:=false },{ elems:=List.map Mo.a (N.stP l ix (p+(N.stX (N.lm (l.getD ix.toNat default).r S) A j (N.lf l ix p)).getD 0 default) qx qy qz P),es:=9,ver:=N.stW l ix (p+(N.stX (N.lm (l.getD ix.toNat default).r S) A j (N.lf l ix p)).getD 0 default) qx qy qz w,frozen:=false,clean:=true }]) /\
     (¬(1=(↑(N.stX (N.lm (l.getD ix.toNat default).r S) A j (N.lf l ix p)).length:Int))->Q (vb true) [{ elems:=[ag [AV.vec fm 9 (List.map Mo.a l),vi S,vi A,vi j,vi ix,vi (p+(N.stX (N.lm (l.getD ix.toNat default).r S) A j (N.lf l ix p)).getD 0 default),vf (List.map vi (N.stX (N.lm (l.getD ix.toNat default).r S) A j (N.lf l ix p))),vi 1,vb false,vb hd,vb br,AV.row 1 w,vi qx,vi qy,vi qz]],es:=15,ver:=0,frozen:=false,clean:=false },{ elems:=List.map Mo.a P,es:=9,ver:=w,frozen:=false,clean:=true }]))))) :
 tcB_at fm l S A j ix p hd br qx qy qz P w Q:=by
 unfold tcB_at
 have w1:(List.map Mo.a l).length=l.length:=List.length_map ..
 have i2:(bif br then true else ix==(↑(List.map Mo.a l).length:Int))=true ↔ ((br=true)\/(ix=(↑l.length:Int))):=(by (try rw [w1]);all_goals exact (ZaD (Zas _) i_eq))
 rcases xq H with ⟨d3,H⟩|⟨d3,H⟩
 ·exact Zai (G:=Zab kp10 [] []) 1000 [true] (k:=((atC (cd Try.f10) [1,0,1,0,1])).tail) (env':=[(2,vb false)]) (L':=[⟨[ag [AV.vec fm 9 (List.map Mo.a l),vi S,vi A,vi j,vi ix,vi p,AV.vnil,vi 0,vb false,vb hd,vb br,AV.row 1 w,vi qx,vi qy,vi qz]],15,0,false,false⟩,⟨List.map Mo.a P,9,w,false,true⟩]) (asm:=[true,!(br==false&&true)||true,!(br==false&&true)||true,(bif br then true else ix==(↑(List.map Mo.a l).length:Int))==true]) (eqs:=[]) (calls:=[]) (vb false) (by kernel_rfl) (by kernel_rfl) (Zaa rfl (Zaa (Bool.or_true _) (Zaa (Bool.or_true _) (Zaa (Zam (i2.2 d3)) Zae)))) Zaf Zag H
 ·refine Zac (G:=Zab kp10 [(3,1,.call (vb true) none)] []) 14 [false,true] ⟨(atC (cd Try.f10) [1,1,0,1,0,0,1]),[(0,AV.ptr 0 0 0 0),(26,vb hd)],[⟨[ag [AV.vec fm 9 (List.map Mo.a l),vi S,vi A,vi j,vi ix,vi p,AV.vnil,vi 0,vb false,vb hd,vb br,AV.row 1 w,vi qx,vi qy,vi qz]],15,0,false,false⟩,⟨List.map Mo.a P,9,w,false,true⟩],[true,!(br==false&&true)||true,!(br==false&&true)||true,(bif br then true else ix==(↑(List.map Mo.a l).length:Int))==false,true==true,0==0],[],[⟨true,true,43,[AV.ptr 0 0 0 0],[⟨[ag [AV.vec fm 9 (List.map Mo.a l),vi S,vi A,vi j,vi ix,vi p,AV.vnil,vi 0,vb false,vb hd,vb br,AV.row 1 w,vi qx,vi qy,vi qz]],15,0,false,false⟩,⟨List.map Mo.a P,9,w,false,true⟩],vb true,[⟨[ag [AV.vec fm 9 (List.map Mo.a l),vi S,vi A,vi j,vi ix,vi p,AV.vnil,vi 0,vb false,vb hd,vb br,AV.row 1 w,vi qx,vi qy,vi qz]],15,0,false,false⟩,⟨List.map Mo.a P,9,w,false,true⟩]⟩]⟩ (by kernel_rfl) (bc rfl (bc (Bool.or_true _) (bc (Bool.or_true _) (bc (Zal (fun h=>d3 (i2.1 h))) (bc rfl (bc (beq_self_eq_true _) b0)))))) q0 (cc (fun _=>(@evo43_b fm l S A j ix p 0 false hd br qx qy qz P w false)) c0) ?_
  rcases xq H with ⟨d5,H⟩|⟨d5,H⟩
  ·exact Zai (G:=Zab kp10 [] []) 1000 [true] (k:=((atC (cd Try.f10) [1,1,0,1,0,0,1,0,1])).tail) (env':=[(2,vb false)]) (L':=[⟨[ag [AV.vec fm 9 (List.map Mo.a l),vi S,vi A,vi j,vi ix,vi p,AV.vnil,vi 0,vb false,vb hd,vb br,AV.row 1 w,vi qx,vi qy,vi qz]],15,0,false,false⟩,⟨List.map Mo.a P,9,w,false,true⟩]) (asm:=[(hd)==true]) (eqs:=[]) (calls:=[]) (vb false) (by kernel_rfl) (by kernel_rfl) (Zaa (Zam ((Zas _).2 d5)) Zae) Zaf Zag H
  ·obtain ⟨k6,k7,k8,k10,H⟩:=H
   have i11:(decide (ix.toNat<(List.map Mo.a l).length))=true ↔ (ix.toNat<l.length):=(by (try rw [w1]);all_goals exact Zad)
   obtain ⟨k12,H⟩:=H
   have w13:(List.map vi (N.stX (N.lm (l.getD ix.toNat default).r S) A j (N.lf l ix p))).length=(N.stX (N.lm (l.getD ix.toNat default).r S) A j (N.lf l ix p)).length:=List.length_map ..
   have i14:(bif N.stE (N.lm (l.getD ix.toNat default).r S) A j (N.lf l ix p) != 0 then true else (↑(List.map vi (N.stX (N.lm (l.getD ix.toNat default).r S) A j (N.lf l ix p))).length:Int)==0)=true ↔ ((¬N.stE (N.lm (l.getD ix.toNat default).r S) A j (N.lf l ix p)=0)\/((Zgo l ix S A j p)=0)):=(by (try rw [w13]);all_goals exact (ZaD i_ne i_eq))
   refine Zac (G:=Zab kp10 [(6,1,.call (vi (N.lf l ix p)) none),(6,11,.elem ((zCxK11 l ix))),(6,16,.call ((zCxK13 l ix S A j)) none),(6,17,.call ((zCxK14 l ix S A j p)) none)] [(6,[1001])]) 7 [false] ⟨(atC (cd Try.f10) [1,1,0,1,0,1,1,0,1]),[(0,AV.ptr 0 0 0 0),(3,vf (List.map vi (N.stX (N.lm (l.getD ix.toNat default).r S) A j (N.lf l ix p)))),(54,vb (bif N.stE (N.lm (l.getD ix.toNat default).r S) A j (N.lf l ix p) != 0 then true else (↑(List.map vi (N.stX (N.lm (l.getD ix.toNat default).r S) A j (N.lf l ix p))).length:Int)==0))],[⟨[ag [AV.vec fm 9 (List.map Mo.a l),vi S,vi A,vi j,vi ix,vi p,AV.vnil,vi 0,vb false,vb hd,vb br,AV.row 1 w,vi qx,vi qy,vi qz]],15,0,false,false⟩,⟨List.map Mo.a P,9,w,false,true⟩],[(hd)==false,true,true,decide (0<=ix),decide (ix.toNat<(List.map Mo.a l).length),true],[((List.map Mo.a l).get?Internal ix.toNat=some ((zCxK11 l ix)))],[⟨true,true,45,[AV.ptr 0 0 0 0],[⟨[ag [AV.vec fm 9 (List.map Mo.a l),vi S,vi A,vi j,vi ix,vi p,AV.vnil,vi 0,vb false,vb hd,vb br,AV.row 1 w,vi qx,vi qy,vi qz]],15,0,false,false⟩,⟨List.map Mo.a P,9,w,false,true⟩],vi (N.lf l ix p),[⟨[ag [AV.vec fm 9 (List.map Mo.a l),vi S,vi A,vi j,vi ix,vi p,AV.vnil,vi 0,vb false,vb hd,vb br,AV.row 1 w,vi qx,vi qy,vi qz]],15,0,false,false⟩,⟨List.map Mo.a P,9,w,false,true⟩]⟩,⟨true,false,46,[(zCxK11 l ix),ag [vi S,vi A,vi j]],[],(zCxK13 l ix S A j),[]⟩,⟨true,false,44,[vi (N.lf l ix p),(zCxK13 l ix S A j)],[],(zCxK14 l ix S A j p),[]⟩]⟩ (by kernel_rfl) (bc (Zal (fun h=>d5 ((Zas _).1 h))) (bc rfl (bc rfl (bc (Zad.2 k10) (bc (i11.2 k12) (bc rfl b0)))))) (qc (Zaz k12) q0) (cc (fun _=>(@evo45_b fm l S A j ix p 0 false hd br qx qy qz P w false k6)) (cc (fun _=>(@ev46 ((l.getD ix.toNat default).x) ((l.getD ix.toNat default).y) ((l.getD ix.toNat default).z) ((l.getD ix.toNat default).u) ((l.getD ix.toNat default).v) ((l.getD ix.toNat default).w) ((l.getD ix.toNat default).r) ((l.getD ix.toNat default).t) ((l.getD ix.toNat default).b) S A j k7)) (cc (fun _=>(@ev44 (N.lm (l.getD ix.toNat default).r S) A j (N.lf l ix p) k8)) c0))) ?_
   rcases xq H with ⟨d15,H⟩|⟨d15,H⟩
   ·exact Zai (G:=Zab kp10 [] []) 1000 [true] (k:=((atC (cd Try.f10) [1,1,0,1,0,1,1,0,1,0,1])).tail) (env':=[(2,vb false)]) (L':=[⟨[ag [AV.vec fm 9 (List.map Mo.a l),vi S,vi A,vi j,vi ix,vi p,AV.vnil,vi 0,vb false,vb hd,vb br,AV.row 1 w,vi qx,vi qy,vi qz]],15,0,false,false⟩,⟨List.map Mo.a P,9,w,false,true⟩]) (asm:=[(bif N.stE (N.lm (l.getD ix.toNat default).r S) A j (N.lf l ix p) != 0 then true else (↑(List.map vi (N.stX (N.lm (l.getD ix.toNat default).r S) A j (N.lf l ix p))).length:Int)==0)==true]) (eqs:=[]) (calls:=[]) (vb false) (by kernel_rfl) (by kernel_rfl) (Zaa (Zam (i14.2 d15)) Zae) Zaf Zag H
   ·have i16:(decide (0<(List.map vi (N.stX (N.lm (l.getD ix.toNat default).r S) A j (N.lf l ix p))).length))=true ↔ (0<(N.stX (N.lm (l.getD ix.toNat default).r S) A j (N.lf l ix p)).length):=(by (try rw [w13]);all_goals exact Zad)
    obtain ⟨k17,k18,H⟩:=H
    have w19:wi (p+(N.stX (N.lm (l.getD ix.toNat default).r S) A j (N.lf l ix p)).getD 0 default)=p+(N.stX (N.lm (l.getD ix.toNat default).r S) A j (N.lf l ix p)).getD 0 default:=wI64 k18
    refine Zac (G:=Zab kp10 [(10,13,.elem (vi ((N.stX (N.lm (l.getD ix.toNat default).r S) A j (N.lf l ix p)).getD 0 default))),(12,1,.call (vb (1==(Zgo l ix S A j p))) none)] []) 10 [false] ⟨(atC (cd Try.f10) [1,1,1,1,1,0,1]),[(0,AV.ptr 0 0 0 0),(90,vb (1==(Zgo l ix S A j p)))],[⟨[ag [AV.vec fm 9 (List.map Mo.a l),vi S,vi A,vi j,vi ix,vi (wi (p+(N.stX (N.lm (l.getD ix.toNat default).r S) A j (N.lf l ix p)).getD 0 default)),vf (List.map vi (N.stX (N.lm (l.getD ix.toNat default).r S) A j (N.lf l ix p))),vi 1,vb false,vb hd,vb br,AV.row 1 w,vi qx,vi qy,vi qz]],15,0,false,false⟩,⟨List.map Mo.a P,9,w,false,true⟩],_,[((List.map vi (N.stX (N.lm (l.getD ix.toNat default).r S) A j (N.lf l ix p))).get?Internal 0=some (vi ((N.stX (N.lm (l.getD ix.toNat default).r S) A j (N.lf l ix p)).getD 0 default)))],[⟨true,true,43,[AV.ptr 0 0 0 0],[⟨[ag [AV.vec fm 9 (List.map Mo.a l),vi S,vi A,vi j,vi ix,vi (wi (p+(N.stX (N.lm (l.getD ix.toNat default).r S) A j (N.lf l ix p)).getD 0 default)),vf (List.map vi (N.stX (N.lm (l.getD ix.toNat default).r S) A j (N.lf l ix p))),vi 1,vb false,vb hd,vb br,AV.row 1 w,vi qx,vi qy,vi qz]],15,0,false,false⟩,⟨List.map Mo.a P,9,w,false,true⟩],vb (1==(Zgo l ix S A j p)),[⟨[ag [AV.vec fm 9 (List.map Mo.a l),vi S,vi A,vi j,vi ix,vi (wi (p+(N.stX (N.lm (l.getD ix.toNat default).r S) A j (N.lf l ix p)).getD 0 default)),vf (List.map vi (N.stX (N.lm (l.getD ix.toNat default).r S) A j (N.lf l ix p))),vi 1,vb false,vb hd,vb br,AV.row 1 w,vi qx,vi qy,vi qz]],15,0,false,false⟩,⟨List.map Mo.a P,9,w,false,true⟩]⟩]⟩ (by kernel_rfl) (bc (Zal (fun h=>d15 (i14.1 h))) (bc rfl (bc rfl (bc rfl (bc rfl (bc rfl (bc rfl (bc rfl (bc (i16.2 k17) (bc rfl (bc rfl (bc rfl b0)))))))))))) (qc (Zaz k17) q0) (cc (fun _=>(by (try rw [w19]);all_goals exact (@evo43_d fm l S A j ix (p+(N.stX (N.lm (l.getD ix.toNat default).r S) A j (N.lf l ix p)).getD 0 default) 1 false hd br qx qy qz (N.stX (N.lm (l.getD ix.toNat default).r S) A j (N.lf l ix p)) P w false))) c0) ?_
    rcases xq H with ⟨d21,H⟩|⟨d21,H⟩
    ·obtain ⟨k22,H⟩:=H
     exact Zai (G:=Zab kp10 [(13,1,.call (tu []) (some [⟨[ag [AV.vec fm 9 (List.map Mo.a l),vi S,vi A,vi j,vi (zCxK15 l ix p S A j),vi (zCxK16 l ix p S A j),AV.vnil,vi 0,vb false,vb hd,vb br,AV.row 1 (N.stW l ix (p+(N.stX (N.lm (l.getD ix.toNat default).r S) A j (N.lf l ix p)).getD 0 default) qx qy qz w),vi (zCxK17 l ix p S A j),vi (zCxK18 l ix p S A j),vi (zCxK19 l ix p S A j)]],15,0,false,false⟩,⟨List.map Mo.a (N.stP l ix (p+(N.stX (N.lm (l.getD ix.toNat default).r S) A j (N.lf l ix p)).getD 0 default) qx qy qz P),9,N.stW l ix (p+(N.stX (N.lm (l.getD ix.toNat default).r S) A j (N.lf l ix p)).getD 0 default) qx qy qz w,false,true⟩]))] []) 1000 [true] (k:=((atC (cd Try.f10) [1,1,1,1,1,1,1])).tail) (env':=[(2,vb true)]) (L':=[⟨[ag [AV.vec fm 9 (List.map Mo.a l),vi S,vi A,vi j,vi (zCxK15 l ix p S A j),vi (zCxK16 l ix p S A j),AV.vnil,vi 0,vb false,vb hd,vb br,AV.row 1 (N.stW l ix (p+(N.stX (N.lm (l.getD ix.toNat default).r S) A j (N.lf l ix p)).getD 0 default) qx qy qz w),vi (zCxK17 l ix p S A j),vi (zCxK18 l ix p S A j),vi (zCxK19 l ix p S A j)]],15,0,false,false⟩,⟨List.map Mo.a (N.stP l ix (p+(N.stX (N.lm (l.getD ix.toNat default).r S) A j (N.lf l ix p)).getD 0 default) qx qy qz P),9,N.stW l ix (p+(N.stX (N.lm (l.getD ix.toNat default).r S) A j (N.lf l ix p)).getD 0 default) qx qy qz w,false,true⟩]) (asm:=[(1==(Zgo l ix S A j p))==true]) (eqs:=[]) (calls:=[⟨true,true,47,[AV.ptr 0 0 0 0],[⟨[ag [AV.vec fm 9 (List.map Mo.a l),vi S,vi A,vi j,vi ix,vi (wi (p+(N.stX (N.lm (l.getD ix.toNat default).r S) A j (N.lf l ix p)).getD 0 default)),vf (List.map vi (N.stX (N.lm (l.getD ix.toNat default).r S) A j (N.lf l ix p))),vi 1,vb false,vb hd,vb br,AV.row 1 w,vi qx,vi qy,vi qz]],15,0,false,false⟩,⟨List.map Mo.a P,9,w,false,true⟩],tu [],[⟨[ag [AV.vec fm 9 (List.map Mo.a l),vi S,vi A,vi j,vi (zCxK15 l ix p S A j),vi (zCxK16 l ix p S A j),AV.vnil,vi 0,vb false,vb hd,vb br,AV.row 1 (N.stW l ix (p+(N.stX (N.lm (l.getD ix.toNat default).r S) A j (N.lf l ix p)).getD 0 default) qx qy qz w),vi (zCxK17 l ix p S A j),vi (zCxK18 l ix p S A j),vi (zCxK19 l ix p S A j)]],15,0,false,false⟩,⟨List.map Mo.a (N.stP l ix (p+(N.stX (N.lm (l.getD ix.toNat default).r S) A j (N.lf l ix p)).getD 0 default) qx qy qz P),9,N.stW l ix (p+(N.stX (N.lm (l.getD ix.toNat default).r S) A j (N.lf l ix p)).getD 0 default) qx qy qz w,false,true⟩]⟩]) (vb true) (by kernel_rfl) (by kernel_rfl) (Zaa (Zam (i_eq.2 d21)) Zae) Zaf (Zaq (fun _=>(by (try rw [w19]);all_goals exact (@evo47_d fm l S A j ix (p+(N.stX (N.lm (l.getD ix.toNat default).r S) A j (N.lf l ix p)).getD 0 default) 1 false hd br qx qy qz (N.stX (N.lm (l.getD ix.toNat default).r S) A j (N.lf l ix p)) P w k22))) Zag) H
    ·exact Zai (G:=Zab kp10 [] []) 1000 [false] (k:=((atC (cd Try.f10) [1,1,1,1,1,1,1])).tail) (env':=[(2,vb true)]) (L':=[⟨[ag [AV.vec fm 9 (List.map Mo.a l),vi S,vi A,vi j,vi ix,vi (wi (p+(N.stX (N.lm (l.getD ix.toNat default).r S) A j (N.lf l ix p)).getD 0 default)),vf (List.map vi (N.stX (N.lm (l.getD ix.toNat default).r S) A j (N.lf l ix p))),vi 1,vb false,vb hd,vb br,AV.row 1 w,vi qx,vi qy,vi qz]],15,0,false,false⟩,⟨List.map Mo.a P,9,w,false,true⟩]) (asm:=[(1==(Zgo l ix S A j p))==false]) (eqs:=[]) (calls:=[]) (vb true) (by kernel_rfl) (by kernel_rfl) (Zaa (Zal (fun h=>d21 (i_eq.1 h))) Zae) Zaf Zag (by (try rw [w19]);all_goals exact H)
noncomputable abbrev zCxK20 (l:List Mo) (ix:Int) (p:Int) (S:Int) (A:Int) (j:Int) (qx:Int) (qy:Int) (qz:Int):=ag [vi (N.pcM l ix (p+(N.stX (N.lm (l.getD ix.toNat default).r S) A j (N.lf l ix p)).getD 0 default) qx qy qz).x,vi (N.pcM l ix (p+(N.stX (N.lm (l.getD ix.toNat default).r S) A j (N.lf l ix p)).getD 0 default) qx qy qz).y,vi (N.pcM l ix (p+(N.stX (N.lm (l.getD ix.toNat default).r S) A j (N.lf l ix p)).getD 0 default) qx qy qz).z,vi (N.pcM l ix (p+(N.stX (N.lm (l.getD ix.toNat default).r S) A j (N.lf l ix p)).getD 0 default) qx qy qz).u,vi (N.pcM l ix (p+(N.stX (N.lm (l.getD ix.toNat default).r S) A j (N.lf l ix p)).getD 0 default) qx qy qz).v,vi (N.pcM l ix (p+(N.stX (N.lm (l.getD ix.toNat default).r S) A j (N.lf l ix p)).getD 0 default) qx qy qz).w,vi (N.pcM l ix (p+(N.stX (N.lm (l.getD ix.toNat default).r S) A j (N.lf l ix p)).getD 0 default) qx qy qz).r,vi (N.pcM l ix (p+(N.stX (N.lm (l.getD ix.toNat default).r S) A j (N.lf l ix p)).getD 0 default) qx qy qz).t,vi (N.pcM l ix (p+(N.stX (N.lm (l.getD ix.toNat default).r S) A j (N.lf l ix p)).getD 0 default) qx qy qz).b]
noncomputable abbrev zCxK21 (l:List Mo) (ix:Int) (p:Int) (X:List Int) (k:Int) (qx:Int) (qy:Int) (qz:Int):=ag [vi (N.pcM l ix (p+X.getD k.toNat default) qx qy qz).x,vi (N.pcM l ix (p+X.getD k.toNat default) qx qy qz).y,vi (N.pcM l ix (p+X.getD k.toNat default) qx qy qz).z,vi (N.pcM l ix (p+X.getD k.toNat default) qx qy qz).u,vi (N.pcM l ix (p+X.getD k.toNat default) qx qy qz).v,vi (N.pcM l ix (p+X.getD k.toNat default) qx qy qz).w,vi (N.pcM l ix (p+X.getD k.toNat default) qx qy qz).r,vi (N.pcM l ix (p+X.getD k.toNat default) qx qy qz).t,vi (N.pcM l ix (p+X.getD k.toNat default) qx qy qz).b]
noncomputable abbrev zCxK22 (l:List Mo) (ix:Int):=ag [vi (l.getD ix.toNat default).x,vi (l.getD ix.toNat default).y,vi (l.getD ix.toNat default).z,vi (l.getD ix.toNat default).u,vi (l.getD ix.toNat default).v,vi (l.getD ix.toNat default).w,vi (l.getD ix.toNat default).r,vi (l.getD ix.toNat default).t,vi (l.getD ix.toNat default).b]
noncomputable abbrev Zfa (l:List Mo) (ix:Int) (S:Int) (A:Int) (j:Int) (p:Int):=(↑(N.stX (N.lm (l.getD ix.toNat default).r S) A j (N.lf l ix p)).length:Int)
noncomputable abbrev Zgn (l:List Mo) (ix:Int) (p:Int) (S:Int) (A:Int) (j:Int):=N.stI l ix (p+(N.stX (N.lm (l.getD ix.toNat default).r S) A j (N.lf l ix p)).getD 0 default)
noncomputable abbrev Zgm (l:List Mo) (ix:Int) (p:Int) (S:Int) (A:Int) (j:Int):=N.stK l ix (p+(N.stX (N.lm (l.getD ix.toNat default).r S) A j (N.lf l ix p)).getD 0 default)
noncomputable abbrev Zgl (l:List Mo) (ix:Int) (p:Int) (S:Int) (A:Int) (j:Int):=N.pox l ix (p+(N.stX (N.lm (l.getD ix.toNat default).r S) A j (N.lf l ix p)).getD 0 default)
noncomputable abbrev Zgk (l:List Mo) (ix:Int) (p:Int) (S:Int) (A:Int) (j:Int):=N.poy l ix (p+(N.stX (N.lm (l.getD ix.toNat default).r S) A j (N.lf l ix p)).getD 0 default)
noncomputable abbrev Zgj (l:List Mo) (ix:Int) (p:Int) (S:Int) (A:Int) (j:Int):=N.poz l ix (p+(N.stX (N.lm (l.getD ix.toNat default).r S) A j (N.lf l ix p)).getD 0 default)
noncomputable abbrev zCxK29 (l:List Mo) (ix:Int) (S:Int) (A:Int) (j:Int):=ag [vi (N.lm (l.getD ix.toNat default).r S),vi A,vi j]
noncomputable abbrev zCxK30 (l:List Mo) (ix:Int) (S:Int) (A:Int) (j:Int) (p:Int):=tu [vf (List.map vi (N.stX (N.lm (l.getD ix.toNat default).r S) A j (N.lf l ix p))),vi (N.stE (N.lm (l.getD ix.toNat default).r S) A j (N.lf l ix p))]
theorem tcC (fm:Bool) (l:List Mo) (S A j ix p k:Int) (bk hd br:Bool) (qx qy qz:Int) (X:List Int)  (Q:AV->Heap->Prop) (H :
  (((br=true)\/(ix=(↑l.length:Int)))->Q (vb false) [{ elems:=[ag [AV.vec fm 9 (List.map Mo.a l),vi S,vi A,vi j,vi ix,vi p,vf (List.map vi X),vi k,vb bk,vb hd,vb br,AV.vnil,vi qx,vi qy,vi qz]],es:=15,ver:=0,frozen:=false,clean:=false }]) /\
  (¬((br=true)\/(ix=(↑l.length:Int)))->((k=(↑X.length:Int))->((hd=true)->Q (vb false) [{ elems:=[ag [AV.vec fm 9 (List.map Mo.a l),vi S,vi A,vi j,vi ix,vi p,vf (List.map vi X),vi k,vb bk,vb hd,vb br,AV.vnil,vi qx,vi qy,vi qz]],es:=15,ver:=0,frozen:=false,clean:=false }]) /\
    (¬(hd=true)->(N.okG l ix p) /\
     (N.okR (l.getD ix.toNat default).r) /\
     (N.okSt (N.lf l ix p)) /\
     (0<=ix) /\
     (ix.toNat<l.length) /\
     (((¬N.stE (N.lm (l.getD ix.toNat default).r S) A j (N.lf l ix p)=0)\/((↑(N.stX (N.lm (l.getD ix.toNat default).r S) A j (N.lf l ix p)).length:Int)=0))->Q (vb false) [{ elems:=[ag [AV.vec fm 9 (List.map Mo.a l),vi S,vi A,vi j,vi ix,vi p,vf (List.map vi X),vi k,vb bk,vb hd,vb br,AV.vnil,vi qx,vi qy,vi qz]],es:=15,ver:=0,frozen:=false,clean:=false }]) /\
     (¬((¬N.stE (N.lm (l.getD ix.toNat default).r S) A j (N.lf l ix p)=0)\/((↑(N.stX (N.lm (l.getD ix.toNat default).r S) A j (N.lf l ix p)).length:Int)=0))->(0<(N.stX (N.lm (l.getD ix.toNat default).r S) A j (N.lf l ix p)).length) /\
      (-9223372036854775808<=p+(N.stX (N.lm (l.getD ix.toNat default).r S) A j (N.lf l ix p)).getD 0 default/\p+(N.stX (N.lm (l.getD ix.toNat default).r S) A j (N.lf l ix p)).getD 0 default<=9223372036854775807) /\
      ((1=(↑(N.stX (N.lm (l.getD ix.toNat default).r S) A j (N.lf l ix p)).length:Int))->((N.pcB l ix (p+(N.stX (N.lm (l.getD ix.toNat default).r S) A j (N.lf l ix p)).getD 0 default) qx qy qz=true)->(N.okSp l ix (p+(N.stX (N.lm (l.getD ix.toNat default).r S) A j (N.lf l ix p)).getD 0 default)) /\
        Q (vb true) [{ elems:=[ag [AV.vec fm 9 (List.map Mo.a l),vi S,vi A,vi j,vi (N.stI l ix (p+(N.stX (N.lm (l.getD ix.toNat default).r S) A j (N.lf l ix p)).getD 0 default)),vi (N.stK l ix (p+(N.stX (N.lm (l.getD ix.toNat default).r S) A j (N.lf l ix p)).getD 0 default)),AV.vnil,vi 0,vb false,vb hd,vb br,AV.row 1 0,vi (N.pox l ix (p+(N.stX (N.lm (l.getD ix.toNat default).r S) A j (N.lf l ix p)).getD 0 default)),vi (N.poy l ix (p+(N.stX (N.lm (l.getD ix.toNat default).r S) A j (N.lf l ix p)).getD 0 default)),vi (N.poz l ix (p+(N.stX (N.lm (l.getD ix.toNat default).r S) A j (N.lf l ix p)).getD 0 default))]],es:=15,ver:=0,frozen:=false,clean:=false },{ elems:=[ag [vi (N.pcM l ix (p+(N.stX (N.lm (l.getD ix.toNat default).r S) A j (N.lf l ix p)).getD 0 default) qx qy qz).x,vi (N.pcM l ix (p+(N.stX (N.lm (l.getD ix.toNat default).r S) A j (N.lf l ix p)).getD 0 default) qx qy qz).y,vi (N.pcM l ix (p+(N.stX (N.lm (l.getD ix.toNat default).r S) A j (N.lf l ix p)).getD 0 default) qx qy qz).z,vi (N.pcM l ix (p+(N.stX (N.lm (l.getD ix.toNat default).r S) A j (N.lf l ix p)).getD 0 default) qx qy qz).u,vi (N.pcM l ix (p+(N.stX (N.lm (l.getD ix.toNat default).r S) A j (N.lf l ix p)).getD 0 default) qx qy qz).v,vi (N.pcM l ix (p+(N.stX (N.lm (l.getD ix.toNat default).r S) A j (N.lf l ix p)).getD 0 default) qx qy qz).w,vi (N.pcM l ix (p+(N.stX (N.lm (l.getD ix.toNat default).r S) A j (N.lf l ix p)).getD 0 default) qx qy qz).r,vi (N.pcM l ix (p+(N.stX (N.lm (l.getD ix.toNat default).r S) A j (N.lf l ix p)).getD 0 default) qx qy qz).t,vi (N.pcM l ix (p+(N.stX (N.lm (l.getD ix.toNat default).r S) A j (N.lf l ix p)).getD 0 default) qx qy qz).b]],es:=9,ver:=0,frozen:=false,clean:=true }]) /\
       (¬(N.pcB l ix (p+(N.stX (N.lm (l.getD ix.toNat default).r S) A j (N.lf l ix p)).getD 0 default) qx qy qz=true)->(N.okSp l ix (p+(N.stX (N.lm (l.getD ix.toNat default).r S) A j (N.lf l ix p)).getD 0 default)) /\
        Q (vb true) [{ elems:=[ag [AV.vec fm 9 (List.map Mo.a l),vi S,vi A,vi j,vi (N.stI l ix (p+(N.stX (N.lm (l.getD ix.toNat default).r S) A j (N.lf l ix p)).getD 0 default)),vi (N.stK l ix (p+(N.stX (N.lm (l.getD ix.toNat default).r S) A j (N.lf l ix p)).getD 0 default)),AV.vnil,vi 0,vb false,vb hd,vb br,AV.vnil,vi (N.pox l ix (p+(N.stX (N.lm (l.getD ix.toNat default).r S) A j (N.lf l ix p)).getD 0 default)),vi (N.poy l ix (p+(N.stX (N.lm (l.getD ix.toNat default).r S) A j (N.lf l ix p)).getD 0 default)),vi (N.poz l ix (p+(N.stX (N.lm (l.getD ix.toNat default).r S) A j (N.lf l ix p)).getD 0 default))]],es:=15,ver:=0,frozen:=false,clean:=false }])) /\
      (¬(1=(↑(N.stX (N.lm (l.getD ix.toNat default).r S) A j (N.lf l ix p)).length:Int))->Q (vb true) [{ elems:=[ag [AV.vec fm 9 (List.map Mo.a l),vi S,vi A,vi j,vi ix,vi (p+(N.stX (N.lm (l.getD ix.toNat default).r S) A j (N.lf l ix p)).getD 0 default),vf (List.map vi (N.stX (N.lm (l.getD ix.toNat default).r S) A j (N.lf l ix p))),vi 1,vb false,vb hd,vb br,AV.vnil,vi qx,vi qy,vi qz]],es:=15,ver:=0,frozen:=false,clean:=false }])))) /\
   (¬(k=(↑X.length:Int))->(0<=k) /\
    (k.toNat<X.length) /\
    (-9223372036854775808<=p+X.getD k.toNat default/\p+X.getD k.toNat default<=9223372036854775807) /\
    (-9223372036854775808<=k+1/\k+1<=9223372036854775807) /\
    ((k+1=(↑X.length:Int))->((N.pcB l ix (p+X.getD k.toNat default) qx qy qz=true)->(N.okSp l ix (p+X.getD k.toNat default)) /\
      Q (vb true) [{ elems:=[ag [AV.vec fm 9 (List.map Mo.a l),vi S,vi A,vi j,vi (N.stI l ix (p+X.getD k.toNat default)),vi (N.stK l ix (p+X.getD k.toNat default)),AV.vnil,vi 0,vb false,vb hd,vb br,AV.row 1 0,vi (N.pox l ix (p+X.getD k.toNat default)),vi (N.poy l ix (p+X.getD k.toNat default)),vi (N.poz l ix (p+X.getD k.toNat default))]],es:=15,ver:=0,frozen:=false,clean:=false },{ elems:=[ag [vi (N.pcM l ix (p+X.getD k.toNat default) qx qy qz).x,vi (N.pcM l ix (p+X.getD k.toNat default) qx qy qz).y,vi (N.pcM l ix (p+X.getD k.toNat default) qx qy qz).z,vi (N.pcM l ix (p+X.getD k.toNat default) qx qy qz).u,vi (N.pcM l ix (p+X.getD k.toNat default) qx qy qz).v,vi (N.pcM l ix (p+X.getD k.toNat default) qx qy qz).w,vi (N.pcM l ix (p+X.getD k.toNat default) qx qy qz).r,vi (N.pcM l ix (p+X.getD k.toNat default) qx qy qz).t,vi (N.pcM l ix (p+X.getD k.toNat default) qx qy qz).b]],es:=9,ver:=0,frozen:=false,clean:=true }]) /\
     (¬(N.pcB l ix (p+X.getD k.toNat default) qx qy qz=true)->(N.okSp l ix (p+X.getD k.toNat default)) /\
      Q (vb true) [{ elems:=[ag [AV.vec fm 9 (List.map Mo.a l),vi S,vi A,vi j,vi (N.stI l ix (p+X.getD k.toNat default)),vi (N.stK l ix (p+X.getD k.toNat default)),AV.vnil,vi 0,vb false,vb hd,vb br,AV.vnil,vi (N.pox l ix (p+X.getD k.toNat default)),vi (N.poy l ix (p+X.getD k.toNat default)),vi (N.poz l ix (p+X.getD k.toNat default))]],es:=15,ver:=0,frozen:=false,clean:=false }])) /\
    (¬(k+1=(↑X.length:Int))->Q (vb true) [{ elems:=[ag [AV.vec fm 9 (List.map Mo.a l),vi S,vi A,vi j,vi ix,vi (p+X.getD k.toNat default),vf (List.map vi X),vi (k+1),vb bk,vb hd,vb br,AV.vnil,vi qx,vi qy,vi qz]],es:=15,ver:=0,frozen:=false,clean:=false }])))) :
 tcC_at fm l S A j ix p k bk hd br qx qy qz X Q:=by
 unfold tcC_at
 have w1:(List.map Mo.a l).length=l.length:=List.length_map ..
 have i2:(bif br then true else ix==(↑(List.map Mo.a l).length:Int))=true ↔ ((br=true)\/(ix=(↑l.length:Int))):=(by (try rw [w1]);all_goals exact (ZaD (Zas _) i_eq))
 rcases xq H with ⟨d3,H⟩|⟨d3,H⟩
 ·exact Zai (G:=Zab kp10 [] []) 1000 [true] (k:=((atC (cd Try.f10) [1,0,1,0,1])).tail) (env':=[(2,vb false)]) (L':=[⟨[ag [AV.vec fm 9 (List.map Mo.a l),vi S,vi A,vi j,vi ix,vi p,vf (List.map vi X),vi k,vb bk,vb hd,vb br,AV.vnil,vi qx,vi qy,vi qz]],15,0,false,false⟩]) (asm:=[true,!(br==false&&true)||true,!(br==false&&true)||true,(bif br then true else ix==(↑(List.map Mo.a l).length:Int))==true]) (eqs:=[]) (calls:=[]) (vb false) (by kernel_rfl) (by kernel_rfl) (Zaa rfl (Zaa (Bool.or_true _) (Zaa (Bool.or_true _) (Zaa (Zam (i2.2 d3)) Zae)))) Zaf Zag H
 ·refine Zac (G:=Zab kp10 [(3,1,.call (vb (k==(↑X.length:Int))) none)] []) 10 [false] ⟨(atC (cd Try.f10) [1,1,0,1]),[(0,AV.ptr 0 0 0 0),(22,vb (k==(↑X.length:Int)))],[⟨[ag [AV.vec fm 9 (List.map Mo.a l),vi S,vi A,vi j,vi ix,vi p,vf (List.map vi X),vi k,vb bk,vb hd,vb br,AV.vnil,vi qx,vi qy,vi qz]],15,0,false,false⟩],[true,!(br==false&&true)||true,!(br==false&&true)||true,(bif br then true else ix==(↑(List.map Mo.a l).length:Int))==false],[],[⟨true,true,43,[AV.ptr 0 0 0 0],[⟨[ag [AV.vec fm 9 (List.map Mo.a l),vi S,vi A,vi j,vi ix,vi p,vf (List.map vi X),vi k,vb bk,vb hd,vb br,AV.vnil,vi qx,vi qy,vi qz]],15,0,false,false⟩],vb (k==(↑X.length:Int)),[⟨[ag [AV.vec fm 9 (List.map Mo.a l),vi S,vi A,vi j,vi ix,vi p,vf (List.map vi X),vi k,vb bk,vb hd,vb br,AV.vnil,vi qx,vi qy,vi qz]],15,0,false,false⟩]⟩]⟩ (by kernel_rfl) (bc rfl (bc (Bool.or_true _) (bc (Bool.or_true _) (bc (Zal (fun h=>d3 (i2.1 h))) b0)))) q0 (cc (fun _=>(@evo43_c fm l S A j ix p k bk hd br qx qy qz X)) c0) ?_
  rcases xq H with ⟨d5,H⟩|⟨d5,H⟩
  ·rcases xq H with ⟨d7,H⟩|⟨d7,H⟩
   ·exact Zai (G:=Zab kp10 [] []) 1000 [true,true] (k:=((atC (cd Try.f10) [1,1,0,1,0,0,1,0,1])).tail) (env':=[(2,vb false)]) (L':=[⟨[ag [AV.vec fm 9 (List.map Mo.a l),vi S,vi A,vi j,vi ix,vi p,vf (List.map vi X),vi k,vb bk,vb hd,vb br,AV.vnil,vi qx,vi qy,vi qz]],15,0,false,false⟩]) (asm:=[(k==(↑X.length:Int))==true,0==0,(hd)==true]) (eqs:=[]) (calls:=[]) (vb false) (by kernel_rfl) (by kernel_rfl) (Zaa (Zam (i_eq.2 d5)) (Zaa (beq_self_eq_true _) (Zaa (Zam ((Zas _).2 d7)) Zae))) Zaf Zag H
   ·obtain ⟨k8,k9,k10,k12,H⟩:=H
    have i13:(decide (ix.toNat<(List.map Mo.a l).length))=true ↔ (ix.toNat<l.length):=(by (try rw [w1]);all_goals exact Zad)
    obtain ⟨k14,H⟩:=H
    have w15:(List.map vi (N.stX (N.lm (l.getD ix.toNat default).r S) A j (N.lf l ix p))).length=(N.stX (N.lm (l.getD ix.toNat default).r S) A j (N.lf l ix p)).length:=List.length_map ..
    have i16:(bif N.stE (N.lm (l.getD ix.toNat default).r S) A j (N.lf l ix p) != 0 then true else (↑(List.map vi (N.stX (N.lm (l.getD ix.toNat default).r S) A j (N.lf l ix p))).length:Int)==0)=true ↔ ((¬N.stE (N.lm (l.getD ix.toNat default).r S) A j (N.lf l ix p)=0)\/((Zfa l ix S A j p)=0)):=(by (try rw [w15]);all_goals exact (ZaD i_ne i_eq))
    refine Zac (G:=Zab kp10 [(6,1,.call (vi (N.lf l ix p)) none),(6,11,.elem ((zCxK22 l ix))),(6,16,.call ((zCxK29 l ix S A j)) none),(6,17,.call ((zCxK30 l ix S A j p)) none)] [(6,[1001])]) 11 [true,false] ⟨(atC (cd Try.f10) [1,1,0,1,0,1,1,0,1]),[(0,AV.ptr 0 0 0 0),(3,vf (List.map vi (N.stX (N.lm (l.getD ix.toNat default).r S) A j (N.lf l ix p)))),(54,vb (bif N.stE (N.lm (l.getD ix.toNat default).r S) A j (N.lf l ix p) != 0 then true else (↑(List.map vi (N.stX (N.lm (l.getD ix.toNat default).r S) A j (N.lf l ix p))).length:Int)==0))],[⟨[ag [AV.vec fm 9 (List.map Mo.a l),vi S,vi A,vi j,vi ix,vi p,vf (List.map vi X),vi k,vb bk,vb hd,vb br,AV.vnil,vi qx,vi qy,vi qz]],15,0,false,false⟩],[(k==(↑X.length:Int))==true,0==0,(hd)==false,true,true,decide (0<=ix),decide (ix.toNat<(List.map Mo.a l).length),true],[((List.map Mo.a l).get?Internal ix.toNat=some ((zCxK22 l ix)))],[⟨true,true,45,[AV.ptr 0 0 0 0],[⟨[ag [AV.vec fm 9 (List.map Mo.a l),vi S,vi A,vi j,vi ix,vi p,vf (List.map vi X),vi k,vb bk,vb hd,vb br,AV.vnil,vi qx,vi qy,vi qz]],15,0,false,false⟩],vi (N.lf l ix p),[⟨[ag [AV.vec fm 9 (List.map Mo.a l),vi S,vi A,vi j,vi ix,vi p,vf (List.map vi X),vi k,vb bk,vb hd,vb br,AV.vnil,vi qx,vi qy,vi qz]],15,0,false,false⟩]⟩,⟨true,false,46,[(zCxK22 l ix),ag [vi S,vi A,vi j]],[],(zCxK29 l ix S A j),[]⟩,⟨true,false,44,[vi (N.lf l ix p),(zCxK29 l ix S A j)],[],(zCxK30 l ix S A j p),[]⟩]⟩ (by kernel_rfl) (bc (Zam (i_eq.2 d5)) (bc (beq_self_eq_true _) (bc (Zal (fun h=>d7 ((Zas _).1 h))) (bc rfl (bc rfl (bc (Zad.2 k12) (bc (i13.2 k14) (bc rfl b0)))))))) (qc (Zaz k14) q0) (cc (fun _=>(@evo45_c fm l S A j ix p k bk hd br qx qy qz X k8)) (cc (fun _=>(@ev46 ((l.getD ix.toNat default).x) ((l.getD ix.toNat default).y) ((l.getD ix.toNat default).z) ((l.getD ix.toNat default).u) ((l.getD ix.toNat default).v) ((l.getD ix.toNat default).w) ((l.getD ix.toNat default).r) ((l.getD ix.toNat default).t) ((l.getD ix.toNat default).b) S A j k9)) (cc (fun _=>(@ev44 (N.lm (l.getD ix.toNat default).r S) A j (N.lf l ix p) k10)) c0))) ?_
    rcases xq H with ⟨d17,H⟩|⟨d17,H⟩
    ·exact Zai (G:=Zab kp10 [] []) 1000 [true] (k:=((atC (cd Try.f10) [1,1,0,1,0,1,1,0,1,0,1])).tail) (env':=[(2,vb false)]) (L':=[⟨[ag [AV.vec fm 9 (List.map Mo.a l),vi S,vi A,vi j,vi ix,vi p,vf (List.map vi X),vi k,vb bk,vb hd,vb br,AV.vnil,vi qx,vi qy,vi qz]],15,0,false,false⟩]) (asm:=[(bif N.stE (N.lm (l.getD ix.toNat default).r S) A j (N.lf l ix p) != 0 then true else (↑(List.map vi (N.stX (N.lm (l.getD ix.toNat default).r S) A j (N.lf l ix p))).length:Int)==0)==true]) (eqs:=[]) (calls:=[]) (vb false) (by kernel_rfl) (by kernel_rfl) (Zaa (Zam (i16.2 d17)) Zae) Zaf Zag H
    ·have i18:(decide (0<(List.map vi (N.stX (N.lm (l.getD ix.toNat default).r S) A j (N.lf l ix p))).length))=true ↔ (0<(N.stX (N.lm (l.getD ix.toNat default).r S) A j (N.lf l ix p)).length):=(by (try rw [w15]);all_goals exact Zad)
     obtain ⟨k19,k20,H⟩:=H
     have w21:wi (p+(N.stX (N.lm (l.getD ix.toNat default).r S) A j (N.lf l ix p)).getD 0 default)=p+(N.stX (N.lm (l.getD ix.toNat default).r S) A j (N.lf l ix p)).getD 0 default:=wI64 k20
     refine Zac (G:=Zab kp10 [(10,13,.elem (vi ((N.stX (N.lm (l.getD ix.toNat default).r S) A j (N.lf l ix p)).getD 0 default))),(12,1,.call (vb (1==(Zfa l ix S A j p))) none)] []) 10 [false] ⟨(atC (cd Try.f10) [1,1,1,1,1,0,1]),[(0,AV.ptr 0 0 0 0),(90,vb (1==(Zfa l ix S A j p)))],[⟨[ag [AV.vec fm 9 (List.map Mo.a l),vi S,vi A,vi j,vi ix,vi (wi (p+(N.stX (N.lm (l.getD ix.toNat default).r S) A j (N.lf l ix p)).getD 0 default)),vf (List.map vi (N.stX (N.lm (l.getD ix.toNat default).r S) A j (N.lf l ix p))),vi 1,vb false,vb hd,vb br,AV.vnil,vi qx,vi qy,vi qz]],15,0,false,false⟩],_,[((List.map vi (N.stX (N.lm (l.getD ix.toNat default).r S) A j (N.lf l ix p))).get?Internal 0=some (vi ((N.stX (N.lm (l.getD ix.toNat default).r S) A j (N.lf l ix p)).getD 0 default)))],[⟨true,true,43,[AV.ptr 0 0 0 0],[⟨[ag [AV.vec fm 9 (List.map Mo.a l),vi S,vi A,vi j,vi ix,vi (wi (p+(N.stX (N.lm (l.getD ix.toNat default).r S) A j (N.lf l ix p)).getD 0 default)),vf (List.map vi (N.stX (N.lm (l.getD ix.toNat default).r S) A j (N.lf l ix p))),vi 1,vb false,vb hd,vb br,AV.vnil,vi qx,vi qy,vi qz]],15,0,false,false⟩],vb (1==(Zfa l ix S A j p)),[⟨[ag [AV.vec fm 9 (List.map Mo.a l),vi S,vi A,vi j,vi ix,vi (wi (p+(N.stX (N.lm (l.getD ix.toNat default).r S) A j (N.lf l ix p)).getD 0 default)),vf (List.map vi (N.stX (N.lm (l.getD ix.toNat default).r S) A j (N.lf l ix p))),vi 1,vb false,vb hd,vb br,AV.vnil,vi qx,vi qy,vi qz]],15,0,false,false⟩]⟩]⟩ (by kernel_rfl) (bc (Zal (fun h=>d17 (i16.1 h))) (bc rfl (bc rfl (bc rfl (bc rfl (bc rfl (bc rfl (bc rfl (bc (i18.2 k19) (bc rfl (bc rfl (bc rfl b0)))))))))))) (qc (Zaz k19) q0) (cc (fun _=>(by (try rw [w21]);all_goals exact (@evo43_c fm l S A j ix (p+(N.stX (N.lm (l.getD ix.toNat default).r S) A j (N.lf l ix p)).getD 0 default) 1 false hd br qx qy qz (N.stX (N.lm (l.getD ix.toNat default).r S) A j (N.lf l ix p))))) c0) ?_
     rcases xq H with ⟨d23,H⟩|⟨d23,H⟩
     ·rcases xq H with ⟨d24,H⟩|⟨d24,H⟩
      ·obtain ⟨k25,H⟩:=H
       exact Zai (G:=Zab kp10 [(13,1,.call (tu []) (some [⟨[ag [AV.vec fm 9 (List.map Mo.a l),vi S,vi A,vi j,vi (Zgn l ix p S A j),vi (Zgm l ix p S A j),AV.vnil,vi 0,vb false,vb hd,vb br,AV.row 2 0,vi (Zgl l ix p S A j),vi (Zgk l ix p S A j),vi (Zgj l ix p S A j)]],15,0,false,false⟩,⟨[(zCxK20 l ix p S A j qx qy qz)],9,0,false,false⟩,⟨[(zCxK20 l ix p S A j qx qy qz)],9,0,false,true⟩]))] []) 1000 [true] (k:=((atC (cd Try.f10) [1,1,1,1,1,1,1])).tail) (env':=[(2,vb true)]) (L':=[⟨[ag [AV.vec fm 9 (List.map Mo.a l),vi S,vi A,vi j,vi (Zgn l ix p S A j),vi (Zgm l ix p S A j),AV.vnil,vi 0,vb false,vb hd,vb br,AV.row 1 0,vi (Zgl l ix p S A j),vi (Zgk l ix p S A j),vi (Zgj l ix p S A j)]],15,0,false,false⟩,⟨[(zCxK20 l ix p S A j qx qy qz)],9,0,false,true⟩]) (asm:=[(1==(Zfa l ix S A j p))==true]) (eqs:=[]) (calls:=[⟨true,true,47,[AV.ptr 0 0 0 0],[⟨[ag [AV.vec fm 9 (List.map Mo.a l),vi S,vi A,vi j,vi ix,vi (wi (p+(N.stX (N.lm (l.getD ix.toNat default).r S) A j (N.lf l ix p)).getD 0 default)),vf (List.map vi (N.stX (N.lm (l.getD ix.toNat default).r S) A j (N.lf l ix p))),vi 1,vb false,vb hd,vb br,AV.vnil,vi qx,vi qy,vi qz]],15,0,false,false⟩],tu [],[⟨[ag [AV.vec fm 9 (List.map Mo.a l),vi S,vi A,vi j,vi (Zgn l ix p S A j),vi (Zgm l ix p S A j),AV.vnil,vi 0,vb false,vb hd,vb br,AV.row 2 0,vi (Zgl l ix p S A j),vi (Zgk l ix p S A j),vi (Zgj l ix p S A j)]],15,0,false,false⟩,⟨[(zCxK20 l ix p S A j qx qy qz)],9,0,false,false⟩,⟨[(zCxK20 l ix p S A j qx qy qz)],9,0,false,true⟩]⟩]) (vb true) (by kernel_rfl) (by kernel_rfl) (Zaa (Zam (i_eq.2 d23)) Zae) Zaf (Zaq (fun _=>(by (try rw [w21]);all_goals exact (@evo47_y fm l S A j ix (p+(N.stX (N.lm (l.getD ix.toNat default).r S) A j (N.lf l ix p)).getD 0 default) 1 false hd br qx qy qz (N.stX (N.lm (l.getD ix.toNat default).r S) A j (N.lf l ix p)) k25 d24))) Zag) H
      ·obtain ⟨k26,H⟩:=H
       exact Zai (G:=Zab kp10 [(13,1,.call (tu []) (some [⟨[ag [AV.vec fm 9 (List.map Mo.a l),vi S,vi A,vi j,vi (Zgn l ix p S A j),vi (Zgm l ix p S A j),AV.vnil,vi 0,vb false,vb hd,vb br,AV.vnil,vi (Zgl l ix p S A j),vi (Zgk l ix p S A j),vi (Zgj l ix p S A j)]],15,0,false,false⟩]))] []) 1000 [true] (k:=((atC (cd Try.f10) [1,1,1,1,1,1,1])).tail) (env':=[(2,vb true)]) (L':=[⟨[ag [AV.vec fm 9 (List.map Mo.a l),vi S,vi A,vi j,vi (Zgn l ix p S A j),vi (Zgm l ix p S A j),AV.vnil,vi 0,vb false,vb hd,vb br,AV.vnil,vi (Zgl l ix p S A j),vi (Zgk l ix p S A j),vi (Zgj l ix p S A j)]],15,0,false,false⟩]) (asm:=[(1==(Zfa l ix S A j p))==true]) (eqs:=[]) (calls:=[⟨true,true,47,[AV.ptr 0 0 0 0],[⟨[ag [AV.vec fm 9 (List.map Mo.a l),vi S,vi A,vi j,vi ix,vi (wi (p+(N.stX (N.lm (l.getD ix.toNat default).r S) A j (N.lf l ix p)).getD 0 default)),vf (List.map vi (N.stX (N.lm (l.getD ix.toNat default).r S) A j (N.lf l ix p))),vi 1,vb false,vb hd,vb br,AV.vnil,vi qx,vi qy,vi qz]],15,0,false,false⟩],tu [],[⟨[ag [AV.vec fm 9 (List.map Mo.a l),vi S,vi A,vi j,vi (Zgn l ix p S A j),vi (Zgm l ix p S A j),AV.vnil,vi 0,vb false,vb hd,vb br,AV.vnil,vi (Zgl l ix p S A j),vi (Zgk l ix p S A j),vi (Zgj l ix p S A j)]],15,0,false,false⟩]⟩]) (vb true) (by kernel_rfl) (by kernel_rfl) (Zaa (Zam (i_eq.2 d23)) Zae) Zaf (Zaq (fun _=>(by (try rw [w21]);all_goals exact (@evo47_n fm l S A j ix (p+(N.stX (N.lm (l.getD ix.toNat default).r S) A j (N.lf l ix p)).getD 0 default) 1 false hd br qx qy qz (N.stX (N.lm (l.getD ix.toNat default).r S) A j (N.lf l ix p)) k26 d24))) Zag) H
     ·exact Zai (G:=Zab kp10 [] []) 1000 [false] (k:=((atC (cd Try.f10) [1,1,1,1,1,1,1])).tail) (env':=[(2,vb true)]) (L':=[⟨[ag [AV.vec fm 9 (List.map Mo.a l),vi S,vi A,vi j,vi ix,vi (wi (p+(N.stX (N.lm (l.getD ix.toNat default).r S) A j (N.lf l ix p)).getD 0 default)),vf (List.map vi (N.stX (N.lm (l.getD ix.toNat default).r S) A j (N.lf l ix p))),vi 1,vb false,vb hd,vb br,AV.vnil,vi qx,vi qy,vi qz]],15,0,false,false⟩]) (asm:=[(1==(Zfa l ix S A j p))==false]) (eqs:=[]) (calls:=[]) (vb true) (by kernel_rfl) (by kernel_rfl) (Zaa (Zal (fun h=>d23 (i_eq.1 h))) Zae) Zaf Zag (by (try rw [w21]);all_goals exact H)
  ·obtain ⟨k28,H⟩:=H
   have w29:(List.map vi X).length=X.length:=List.length_map ..
   have i30:(decide (k.toNat<(List.map vi X).length))=true ↔ (k.toNat<X.length):=(by (try rw [w29]);all_goals exact Zad)
   obtain ⟨k31,k32,H⟩:=H
   have w33:wi (p+X.getD k.toNat default)=p+X.getD k.toNat default:=wI64 k32
   obtain ⟨k34,H⟩:=H
   have w35:wi (k+1)=k+1:=wI64 k34
   refine Zac (G:=Zab kp10 [(10,13,.elem (vi (X.getD k.toNat default))),(12,1,.call (vb (k+1==(↑X.length:Int))) none)] []) 9 [false] ⟨(atC (cd Try.f10) [1,1,1,1,1,0,1]),[(0,AV.ptr 0 0 0 0),(90,vb (k+1==(↑X.length:Int)))],[⟨[ag [AV.vec fm 9 (List.map Mo.a l),vi S,vi A,vi j,vi ix,vi (wi (p+X.getD k.toNat default)),vf (List.map vi X),vi (wi (k+1)),vb bk,vb hd,vb br,AV.vnil,vi qx,vi qy,vi qz]],15,0,false,false⟩],_,[((List.map vi X).get?Internal k.toNat=some (vi (X.getD k.toNat default)))],[⟨true,true,43,[AV.ptr 0 0 0 0],[⟨[ag [AV.vec fm 9 (List.map Mo.a l),vi S,vi A,vi j,vi ix,vi (wi (p+X.getD k.toNat default)),vf (List.map vi X),vi (wi (k+1)),vb bk,vb hd,vb br,AV.vnil,vi qx,vi qy,vi qz]],15,0,false,false⟩],vb (k+1==(↑X.length:Int)),[⟨[ag [AV.vec fm 9 (List.map Mo.a l),vi S,vi A,vi j,vi ix,vi (wi (p+X.getD k.toNat default)),vf (List.map vi X),vi (wi (k+1)),vb bk,vb hd,vb br,AV.vnil,vi qx,vi qy,vi qz]],15,0,false,false⟩]⟩]⟩ (by kernel_rfl) (bc (Zal (fun h=>d5 (i_eq.1 h))) (bc rfl (bc rfl (bc rfl (bc (Zad.2 k28) (bc (i30.2 k31) (bc rfl (bc rfl (bc rfl b0))))))))) (qc (Zaz k31) q0) (cc (fun _=>(by (try rw [w33]);(try rw [w35]);all_goals exact (@evo43_c fm l S A j ix (p+X.getD k.toNat default) (k+1) bk hd br qx qy qz X))) c0) ?_
   rcases xq H with ⟨d37,H⟩|⟨d37,H⟩
   ·rcases xq H with ⟨d38,H⟩|⟨d38,H⟩
    ·obtain ⟨k39,H⟩:=H
     exact Zai (G:=Zab kp10 [(13,1,.call (tu []) (some [⟨[ag [AV.vec fm 9 (List.map Mo.a l),vi S,vi A,vi j,vi (N.stI l ix (p+X.getD k.toNat default)),vi (N.stK l ix (p+X.getD k.toNat default)),AV.vnil,vi 0,vb false,vb hd,vb br,AV.row 2 0,vi (N.pox l ix (p+X.getD k.toNat default)),vi (N.poy l ix (p+X.getD k.toNat default)),vi (N.poz l ix (p+X.getD k.toNat default))]],15,0,false,false⟩,⟨[(zCxK21 l ix p X k qx qy qz)],9,0,false,false⟩,⟨[(zCxK21 l ix p X k qx qy qz)],9,0,false,true⟩]))] []) 1000 [true] (k:=((atC (cd Try.f10) [1,1,1,1,1,1,1])).tail) (env':=[(2,vb true)]) (L':=[⟨[ag [AV.vec fm 9 (List.map Mo.a l),vi S,vi A,vi j,vi (N.stI l ix (p+X.getD k.toNat default)),vi (N.stK l ix (p+X.getD k.toNat default)),AV.vnil,vi 0,vb false,vb hd,vb br,AV.row 1 0,vi (N.pox l ix (p+X.getD k.toNat default)),vi (N.poy l ix (p+X.getD k.toNat default)),vi (N.poz l ix (p+X.getD k.toNat default))]],15,0,false,false⟩,⟨[(zCxK21 l ix p X k qx qy qz)],9,0,false,true⟩]) (asm:=[(k+1==(↑X.length:Int))==true]) (eqs:=[]) (calls:=[⟨true,true,47,[AV.ptr 0 0 0 0],[⟨[ag [AV.vec fm 9 (List.map Mo.a l),vi S,vi A,vi j,vi ix,vi (wi (p+X.getD k.toNat default)),vf (List.map vi X),vi (wi (k+1)),vb bk,vb hd,vb br,AV.vnil,vi qx,vi qy,vi qz]],15,0,false,false⟩],tu [],[⟨[ag [AV.vec fm 9 (List.map Mo.a l),vi S,vi A,vi j,vi (N.stI l ix (p+X.getD k.toNat default)),vi (N.stK l ix (p+X.getD k.toNat default)),AV.vnil,vi 0,vb false,vb hd,vb br,AV.row 2 0,vi (N.pox l ix (p+X.getD k.toNat default)),vi (N.poy l ix (p+X.getD k.toNat default)),vi (N.poz l ix (p+X.getD k.toNat default))]],15,0,false,false⟩,⟨[(zCxK21 l ix p X k qx qy qz)],9,0,false,false⟩,⟨[(zCxK21 l ix p X k qx qy qz)],9,0,false,true⟩]⟩]) (vb true) (by kernel_rfl) (by kernel_rfl) (Zaa (Zam (i_eq.2 d37)) Zae) Zaf (Zaq (fun _=>(by (try rw [w33]);(try rw [w35]);all_goals exact (@evo47_y fm l S A j ix (p+X.getD k.toNat default) (k+1) bk hd br qx qy qz X k39 d38))) Zag) H
    ·obtain ⟨k40,H⟩:=H
     exact Zai (G:=Zab kp10 [(13,1,.call (tu []) (some [⟨[ag [AV.vec fm 9 (List.map Mo.a l),vi S,vi A,vi j,vi (N.stI l ix (p+X.getD k.toNat default)),vi (N.stK l ix (p+X.getD k.toNat default)),AV.vnil,vi 0,vb false,vb hd,vb br,AV.vnil,vi (N.pox l ix (p+X.getD k.toNat default)),vi (N.poy l ix (p+X.getD k.toNat default)),vi (N.poz l ix (p+X.getD k.toNat default))]],15,0,false,false⟩]))] []) 1000 [true] (k:=((atC (cd Try.f10) [1,1,1,1,1,1,1])).tail) (env':=[(2,vb true)]) (L':=[⟨[ag [AV.vec fm 9 (List.map Mo.a l),vi S,vi A,vi j,vi (N.stI l ix (p+X.getD k.toNat default)),vi (N.stK l ix (p+X.getD k.toNat default)),AV.vnil,vi 0,vb false,vb hd,vb br,AV.vnil,vi (N.pox l ix (p+X.getD k.toNat default)),vi (N.poy l ix (p+X.getD k.toNat default)),vi (N.poz l ix (p+X.getD k.toNat default))]],15,0,false,false⟩]) (asm:=[(k+1==(↑X.length:Int))==true]) (eqs:=[]) (calls:=[⟨true,true,47,[AV.ptr 0 0 0 0],[⟨[ag [AV.vec fm 9 (List.map Mo.a l),vi S,vi A,vi j,vi ix,vi (wi (p+X.getD k.toNat default)),vf (List.map vi X),vi (wi (k+1)),vb bk,vb hd,vb br,AV.vnil,vi qx,vi qy,vi qz]],15,0,false,false⟩],tu [],[⟨[ag [AV.vec fm 9 (List.map Mo.a l),vi S,vi A,vi j,vi (N.stI l ix (p+X.getD k.toNat default)),vi (N.stK l ix (p+X.getD k.toNat default)),AV.vnil,vi 0,vb false,vb hd,vb br,AV.vnil,vi (N.pox l ix (p+X.getD k.toNat default)),vi (N.poy l ix (p+X.getD k.toNat default)),vi (N.poz l ix (p+X.getD k.toNat default))]],15,0,false,false⟩]⟩]) (vb true) (by kernel_rfl) (by kernel_rfl) (Zaa (Zam (i_eq.2 d37)) Zae) Zaf (Zaq (fun _=>(by (try rw [w33]);(try rw [w35]);all_goals exact (@evo47_n fm l S A j ix (p+X.getD k.toNat default) (k+1) bk hd br qx qy qz X k40 d38))) Zag) H
   ·exact Zai (G:=Zab kp10 [] []) 1000 [false] (k:=((atC (cd Try.f10) [1,1,1,1,1,1,1])).tail) (env':=[(2,vb true)]) (L':=[⟨[ag [AV.vec fm 9 (List.map Mo.a l),vi S,vi A,vi j,vi ix,vi (wi (p+X.getD k.toNat default)),vf (List.map vi X),vi (wi (k+1)),vb bk,vb hd,vb br,AV.vnil,vi qx,vi qy,vi qz]],15,0,false,false⟩]) (asm:=[(k+1==(↑X.length:Int))==false]) (eqs:=[]) (calls:=[]) (vb true) (by kernel_rfl) (by kernel_rfl) (Zaa (Zal (fun h=>d37 (i_eq.1 h))) Zae) Zaf Zag (by (try rw [w33]);(try rw [w35]);all_goals exact H)
noncomputable abbrev zCxK31 (l:List Mo) (ix:Int):=ag [vi (l.getD ix.toNat default).x,vi (l.getD ix.toNat default).y,vi (l.getD ix.toNat default).z,vi (l.getD ix.toNat default).u,vi (l.getD ix.toNat default).v,vi (l.getD ix.toNat default).w,vi (l.getD ix.toNat default).r,vi (l.getD ix.toNat default).t,vi (l.getD ix.toNat default).b]
noncomputable abbrev Zgi (l:List Mo) (ix:Int) (S:Int) (A:Int) (j:Int) (p:Int):=(↑(N.stX (N.lm (l.getD ix.toNat default).r S) A j (N.lf l ix p)).length:Int)
noncomputable abbrev zCxK33 (l:List Mo) (ix:Int) (S:Int) (A:Int) (j:Int):=ag [vi (N.lm (l.getD ix.toNat default).r S),vi A,vi j]
noncomputable abbrev zCxK34 (l:List Mo) (ix:Int) (S:Int) (A:Int) (j:Int) (p:Int):=tu [vf (List.map vi (N.stX (N.lm (l.getD ix.toNat default).r S) A j (N.lf l ix p))),vi (N.stE (N.lm (l.getD ix.toNat default).r S) A j (N.lf l ix p))]
noncomputable abbrev zCxK35 (l:List Mo) (ix:Int) (p:Int) (S:Int) (A:Int) (j:Int):=N.stI l ix (p+(N.stX (N.lm (l.getD ix.toNat default).r S) A j (N.lf l ix p)).getD 0 default)
noncomputable abbrev zCxK36 (l:List Mo) (ix:Int) (p:Int) (S:Int) (A:Int) (j:Int):=N.stK l ix (p+(N.stX (N.lm (l.getD ix.toNat default).r S) A j (N.lf l ix p)).getD 0 default)
noncomputable abbrev zCxK37 (l:List Mo) (ix:Int) (p:Int) (S:Int) (A:Int) (j:Int):=N.pox l ix (p+(N.stX (N.lm (l.getD ix.toNat default).r S) A j (N.lf l ix p)).getD 0 default)
noncomputable abbrev zCxK38 (l:List Mo) (ix:Int) (p:Int) (S:Int) (A:Int) (j:Int):=N.poy l ix (p+(N.stX (N.lm (l.getD ix.toNat default).r S) A j (N.lf l ix p)).getD 0 default)
noncomputable abbrev zCxK39 (l:List Mo) (ix:Int) (p:Int) (S:Int) (A:Int) (j:Int):=N.poz l ix (p+(N.stX (N.lm (l.getD ix.toNat default).r S) A j (N.lf l ix p)).getD 0 default)
theorem tcD (fm:Bool) (l:List Mo) (S A j ix p k:Int) (bk hd br:Bool) (qx qy qz:Int) (X:List Int) (P:List Mo) (w:Nat)  (Q:AV->Heap->Prop) (H :
  (((br=true)\/(ix=(↑l.length:Int)))->Q (vb false) [{ elems:=[ag [AV.vec fm 9 (List.map Mo.a l),vi S,vi A,vi j,vi ix,vi p,vf (List.map vi X),vi k,vb bk,vb hd,vb br,AV.row 1 w,vi qx,vi qy,vi qz]],es:=15,ver:=0,frozen:=false,clean:=false },{ elems:=List.map Mo.a P,es:=9,ver:=w,frozen:=false,clean:=true }]) /\
  (¬((br=true)\/(ix=(↑l.length:Int)))->((k=(↑X.length:Int))->((hd=true)->Q (vb false) [{ elems:=[ag [AV.vec fm 9 (List.map Mo.a l),vi S,vi A,vi j,vi ix,vi p,vf (List.map vi X),vi k,vb bk,vb hd,vb br,AV.row 1 w,vi qx,vi qy,vi qz]],es:=15,ver:=0,frozen:=false,clean:=false },{ elems:=List.map Mo.a P,es:=9,ver:=w,frozen:=false,clean:=true }]) /\
    (¬(hd=true)->(N.okG l ix p) /\
     (N.okR (l.getD ix.toNat default).r) /\
     (N.okSt (N.lf l ix p)) /\
     (0<=ix) /\
     (ix.toNat<l.length) /\
     (((¬N.stE (N.lm (l.getD ix.toNat default).r S) A j (N.lf l ix p)=0)\/((↑(N.stX (N.lm (l.getD ix.toNat default).r S) A j (N.lf l ix p)).length:Int)=0))->Q (vb false) [{ elems:=[ag [AV.vec fm 9 (List.map Mo.a l),vi S,vi A,vi j,vi ix,vi p,vf (List.map vi X),vi k,vb bk,vb hd,vb br,AV.row 1 w,vi qx,vi qy,vi qz]],es:=15,ver:=0,frozen:=false,clean:=false },{ elems:=List.map Mo.a P,es:=9,ver:=w,frozen:=false,clean:=true }]) /\
     (¬((¬N.stE (N.lm (l.getD ix.toNat default).r S) A j (N.lf l ix p)=0)\/((↑(N.stX (N.lm (l.getD ix.toNat default).r S) A j (N.lf l ix p)).length:Int)=0))->(0<(N.stX (N.lm (l.getD ix.toNat default).r S) A j (N.lf l ix p)).length) /\
      (-9223372036854775808<=p+(N.stX (N.lm (l.getD ix.toNat default).r S) A j (N.lf l ix p)).getD 0 default/\p+(N.stX (N.lm (l.getD ix.toNat default).r S) A j (N.lf l ix p)).getD 0 default<=9223372036854775807) /\
      ((1=(↑(N.stX (N.lm (l.getD ix.toNat default).r S) A j (N.lf l ix p)).length:Int))->(N.okSq l ix (p+(N.stX (N.lm (l.getD ix.toNat default).r S) A j (N.lf l ix p)).getD 0 default) P) /\
       Q (vb true) [{ elems:=[ag [AV.vec fm 9 (List.map Mo.a l),vi S,vi A,vi j,vi (N.stI l ix (p+(N.stX (N.lm (l.getD ix.toNat default).r S) A j (N.lf l ix p)).getD 0 default)),vi (N.stK l ix (p+(N.stX (N.lm (l.getD ix.toNat default).r S) A j (N.lf l ix p)).getD 0 default)),AV.vnil,vi 0,vb false,vb hd,vb br,AV.row 1 (N.stW l ix (p+(N.stX (N.lm (l.getD ix.toNat default).r S) A j (N.lf l ix p)).getD 0 default) qx qy qz w),vi (N.pox l ix (p+(N.stX (N.lm (l.getD ix.toNat default).r S) A j (N.lf l ix p)).getD 0 default)),vi (N.poy l ix (p+(N.stX (N.lm (l.getD ix.toNat default).r S) A j (N.lf l ix p)).getD 0 default)),vi (N.poz l ix (p+(N.stX (N.lm (l.getD ix.toNat default).r S) A j (N.lf l ix p)).getD 0 default))]],es:=15,ver:=0,frozen:=false,clean:=false },{ elems:=List.map Mo.a (N.stP l ix (p+(N.stX (N.lm (l.getD ix.toNat default).r S) A j (N.lf l ix p)).getD 0 default) qx qy qz P),es:=9,ver:=N.stW l ix (p+(N.stX (N.lm (l.getD ix.toNat default).r S) A j (N.lf l ix p)).getD 0 default) qx qy qz w,frozen:=false,clean:=true }]) /\
      (¬(1=(↑(N.stX (N.lm (l.getD ix.toNat default).r S) A j (N.lf l ix p)).length:Int))->Q (vb true) [{ elems:=[ag [AV.vec fm 9 (List.map Mo.a l),vi S,vi A,vi j,vi ix,vi (p+(N.stX (N.lm (l.getD ix.toNat default).r S) A j (N.lf l ix p)).getD 0 default),vf (List.map vi (N.stX (N.lm (l.getD ix.toNat default).r S) A j (N.lf l ix p))),vi 1,vb false,vb hd,vb br,AV.row 1 w,vi qx,vi qy,vi qz]],es:=15,ver:=0,frozen:=false,clean:=false },{ elems:=List.map Mo.a P,es:=9,ver:=w,frozen:=false,clean:=true }])))) /\
   (¬(k=(↑X.length:Int))->(0<=k) /\
    (k.toNat<X.length) /\
    (-9223372036854775808<=p+X.getD k.toNat default/\p+X.getD k.toNat default<=9223372036854775807) /\
    (-9223372036854775808<=k+1/\k+1<=9223372036854775807) /\
    ((k+1=(↑X.length:Int))->(N.okSq l ix (p+X.getD k.toNat default) P) /\
     Q (vb true) [{ elems:=[ag [AV.vec fm 9 (List.map Mo.a l),vi S,vi A,vi j,vi (N.stI l ix (p+X.getD k.toNat default)),vi (N.stK l ix (p+X.getD k.toNat default)),AV.vnil,vi 0,vb false,vb hd,vb br,AV.row 1 (N.stW l ix (p+X.getD k.toNat default) qx qy qz w),vi (N.pox l ix (p+X.getD k.toNat default)),vi (N.poy l ix (p+X.getD k.toNat default)),vi (N.poz l ix (p+X.getD k.toNat default))]],es:=15,ver:=0,frozen:=false,clean:=false },{ elems:=List.map Mo.a (N.stP l ix (p+X.getD k.toNat default) qx qy qz P),es:=9,ver:=N.stW l ix (p+X.getD k.toNat default) qx qy qz w,frozen:=false,clean:=true }]) /\
    (¬(k+1=(↑X.length:Int))->Q (vb true) [{ elems:=[ag [AV.vec fm 9 (List.map Mo.a l),vi S,vi A,vi j,vi ix,vi (p+X.getD k.toNat default),vf (List.map vi X),vi (k+1),vb bk,vb hd,vb br,AV.row 1 w,vi qx,vi qy,vi qz]],es:=15,ver:=0,frozen:=false,clean:=false },{ elems:=List.map Mo.a P,es:=9,ver:=w,frozen:=false,clean:=true }])))) :
 tcD_at fm l S A j ix p k bk hd br qx qy qz X P w Q:=by
 unfold tcD_at
 have w1:(List.map Mo.a l).length=l.length:=List.length_map ..
 have i2:(bif br then true else ix==(↑(List.map Mo.a l).length:Int))=true ↔ ((br=true)\/(ix=(↑l.length:Int))):=(by (try rw [w1]);all_goals exact (ZaD (Zas _) i_eq))
 rcases xq H with ⟨d3,H⟩|⟨d3,H⟩
 ·exact Zai (G:=Zab kp10 [] []) 1000 [true] (k:=((atC (cd Try.f10) [1,0,1,0,1])).tail) (env':=[(2,vb false)]) (L':=[⟨[ag [AV.vec fm 9 (List.map Mo.a l),vi S,vi A,vi j,vi ix,vi p,vf (List.map vi X),vi k,vb bk,vb hd,vb br,AV.row 1 w,vi qx,vi qy,vi qz]],15,0,false,false⟩,⟨List.map Mo.a P,9,w,false,true⟩]) (asm:=[true,!(br==false&&true)||true,!(br==false&&true)||true,(bif br then true else ix==(↑(List.map Mo.a l).length:Int))==true]) (eqs:=[]) (calls:=[]) (vb false) (by kernel_rfl) (by kernel_rfl) (Zaa rfl (Zaa (Bool.or_true _) (Zaa (Bool.or_true _) (Zaa (Zam (i2.2 d3)) Zae)))) Zaf Zag H
 ·refine Zac (G:=Zab kp10 [(3,1,.call (vb (k==(↑X.length:Int))) none)] []) 10 [false] ⟨(atC (cd Try.f10) [1,1,0,1]),[(0,AV.ptr 0 0 0 0),(22,vb (k==(↑X.length:Int)))],[⟨[ag [AV.vec fm 9 (List.map Mo.a l),vi S,vi A,vi j,vi ix,vi p,vf (List.map vi X),vi k,vb bk,vb hd,vb br,AV.row 1 w,vi qx,vi qy,vi qz]],15,0,false,false⟩,⟨List.map Mo.a P,9,w,false,true⟩],[true,!(br==false&&true)||true,!(br==false&&true)||true,(bif br then true else ix==(↑(List.map Mo.a l).length:Int))==false],[],[⟨true,true,43,[AV.ptr 0 0 0 0],[⟨[ag [AV.vec fm 9 (List.map Mo.a l),vi S,vi A,vi j,vi ix,vi p,vf (List.map vi X),vi k,vb bk,vb hd,vb br,AV.row 1 w,vi qx,vi qy,vi qz]],15,0,false,false⟩,⟨List.map Mo.a P,9,w,false,true⟩],vb (k==(↑X.length:Int)),[⟨[ag [AV.vec fm 9 (List.map Mo.a l),vi S,vi A,vi j,vi ix,vi p,vf (List.map vi X),vi k,vb bk,vb hd,vb br,AV.row 1 w,vi qx,vi qy,vi qz]],15,0,false,false⟩,⟨List.map Mo.a P,9,w,false,true⟩]⟩]⟩ (by kernel_rfl) (bc rfl (bc (Bool.or_true _) (bc (Bool.or_true _) (bc (Zal (fun h=>d3 (i2.1 h))) b0)))) q0 (cc (fun _=>(@evo43_d fm l S A j ix p k bk hd br qx qy qz X P w false)) c0) ?_
  rcases xq H with ⟨d5,H⟩|⟨d5,H⟩
  ·rcases xq H with ⟨d7,H⟩|⟨d7,H⟩
   ·exact Zai (G:=Zab kp10 [] []) 1000 [true,true] (k:=((atC (cd Try.f10) [1,1,0,1,0,0,1,0,1])).tail) (env':=[(2,vb false)]) (L':=[⟨[ag [AV.vec fm 9 (List.map Mo.a l),vi S,vi A,vi j,vi ix,vi p,vf (List.map vi X),vi k,vb bk,vb hd,vb br,AV.row 1 w,vi qx,vi qy,vi qz]],15,0,false,false⟩,⟨List.map Mo.a P,9,w,false,true⟩]) (asm:=[(k==(↑X.length:Int))==true,0==0,(hd)==true]) (eqs:=[]) (calls:=[]) (vb false) (by kernel_rfl) (by kernel_rfl) (Zaa (Zam (i_eq.2 d5)) (Zaa (beq_self_eq_true _) (Zaa (Zam ((Zas _).2 d7)) Zae))) Zaf Zag H
   ·obtain ⟨k8,k9,k10,k12,H⟩:=H
    have i13:(decide (ix.toNat<(List.map Mo.a l).length))=true ↔ (ix.toNat<l.length):=(by (try rw [w1]);all_goals exact Zad)
    obtain ⟨k14,H⟩:=H
    have w15:(List.map vi (N.stX (N.lm (l.getD ix.toNat default).r S) A j (N.lf l ix p))).length=(N.stX (N.lm (l.getD ix.toNat default).r S) A j (N.lf l ix p)).length:=List.length_map ..
    have i16:(bif N.stE (N.lm (l.getD ix.toNat default).r S) A j (N.lf l ix p) != 0 then true else (↑(List.map vi (N.stX (N.lm (l.getD ix.toNat default).r S) A j (N.lf l ix p))).length:Int)==0)=true ↔ ((¬N.stE (N.lm (l.getD ix.toNat default).r S) A j (N.lf l ix p)=0)\/((Zgi l ix S A j p)=0)):=(by (try rw [w15]);all_goals exact (ZaD i_ne i_eq))
    refine Zac (G:=Zab kp10 [(6,1,.call (vi (N.lf l ix p)) none),(6,11,.elem ((zCxK31 l ix))),(6,16,.call ((zCxK33 l ix S A j)) none),(6,17,.call ((zCxK34 l ix S A j p)) none)] [(6,[1001])]) 11 [true,false] ⟨(atC (cd Try.f10) [1,1,0,1,0,1,1,0,1]),[(0,AV.ptr 0 0 0 0),(3,vf (List.map vi (N.stX (N.lm (l.getD ix.toNat default).r S) A j (N.lf l ix p)))),(54,vb (bif N.stE (N.lm (l.getD ix.toNat default).r S) A j (N.lf l ix p) != 0 then true else (↑(List.map vi (N.stX (N.lm (l.getD ix.toNat default).r S) A j (N.lf l ix p))).length:Int)==0))],[⟨[ag [AV.vec fm 9 (List.map Mo.a l),vi S,vi A,vi j,vi ix,vi p,vf (List.map vi X),vi k,vb bk,vb hd,vb br,AV.row 1 w,vi qx,vi qy,vi qz]],15,0,false,false⟩,⟨List.map Mo.a P,9,w,false,true⟩],[(k==(↑X.length:Int))==true,0==0,(hd)==false,true,true,decide (0<=ix),decide (ix.toNat<(List.map Mo.a l).length),true],[((List.map Mo.a l).get?Internal ix.toNat=some ((zCxK31 l ix)))],[⟨true,true,45,[AV.ptr 0 0 0 0],[⟨[ag [AV.vec fm 9 (List.map Mo.a l),vi S,vi A,vi j,vi ix,vi p,vf (List.map vi X),vi k,vb bk,vb hd,vb br,AV.row 1 w,vi qx,vi qy,vi qz]],15,0,false,false⟩,⟨List.map Mo.a P,9,w,false,true⟩],vi (N.lf l ix p),[⟨[ag [AV.vec fm 9 (List.map Mo.a l),vi S,vi A,vi j,vi ix,vi p,vf (List.map vi X),vi k,vb bk,vb hd,vb br,AV.row 1 w,vi qx,vi qy,vi qz]],15,0,false,false⟩,⟨List.map Mo.a P,9,w,false,true⟩]⟩,⟨true,false,46,[(zCxK31 l ix),ag [vi S,vi A,vi j]],[],(zCxK33 l ix S A j),[]⟩,⟨true,false,44,[vi (N.lf l ix p),(zCxK33 l ix S A j)],[],(zCxK34 l ix S A j p),[]⟩]⟩ (by kernel_rfl) (bc (Zam (i_eq.2 d5)) (bc (beq_self_eq_true _) (bc (Zal (fun h=>d7 ((Zas _).1 h))) (bc rfl (bc rfl (bc (Zad.2 k12) (bc (i13.2 k14) (bc rfl b0)))))))) (qc (Zaz k14) q0) (cc (fun _=>(@evo45_d fm l S A j ix p k bk hd br qx qy qz X P w false k8)) (cc (fun _=>(@ev46 ((l.getD ix.toNat default).x) ((l.getD ix.toNat default).y) ((l.getD ix.toNat default).z) ((l.getD ix.toNat default).u) ((l.getD ix.toNat default).v) ((l.getD ix.toNat default).w) ((l.getD ix.toNat default).r) ((l.getD ix.toNat default).t) ((l.getD ix.toNat default).b) S A j k9)) (cc (fun _=>(@ev44 (N.lm (l.getD ix.toNat default).r S) A j (N.lf l ix p) k10)) c0))) ?_
    rcases xq H with ⟨d17,H⟩|⟨d17,H⟩
    ·exact Zai (G:=Zab kp10 [] []) 1000 [true] (k:=((atC (cd Try.f10) [1,1,0,1,0,1,1,0,1,0,1])).tail) (env':=[(2,vb false)]) (L':=[⟨[ag [AV.vec fm 9 (List.map Mo.a l),vi S,vi A,vi j,vi ix,vi p,vf (List.map vi X),vi k,vb bk,vb hd,vb br,AV.row 1 w,vi qx,vi qy,vi qz]],15,0,false,false⟩,⟨List.map Mo.a P,9,w,false,true⟩]) (asm:=[(bif N.stE (N.lm (l.getD ix.toNat default).r S) A j (N.lf l ix p) != 0 then true else (↑(List.map vi (N.stX (N.lm (l.getD ix.toNat default).r S) A j (N.lf l ix p))).length:Int)==0)==true]) (eqs:=[]) (calls:=[]) (vb false) (by kernel_rfl) (by kernel_rfl) (Zaa (Zam (i16.2 d17)) Zae) Zaf Zag H
    ·have i18:(decide (0<(List.map vi (N.stX (N.lm (l.getD ix.toNat default).r S) A j (N.lf l ix p))).length))=true ↔ (0<(N.stX (N.lm (l.getD ix.toNat default).r S) A j (N.lf l ix p)).length):=(by (try rw [w15]);all_goals exact Zad)
     obtain ⟨k19,k20,H⟩:=H
     have w21:wi (p+(N.stX (N.lm (l.getD ix.toNat default).r S) A j (N.lf l ix p)).getD 0 default)=p+(N.stX (N.lm (l.getD ix.toNat default).r S) A j (N.lf l ix p)).getD 0 default:=wI64 k20
     refine Zac (G:=Zab kp10 [(10,13,.elem (vi ((N.stX (N.lm (l.getD ix.toNat default).r S) A j (N.lf l ix p)).getD 0 default))),(12,1,.call (vb (1==(Zgi l ix S A j p))) none)] []) 10 [false] ⟨(atC (cd Try.f10) [1,1,1,1,1,0,1]),[(0,AV.ptr 0 0 0 0),(90,vb (1==(Zgi l ix S A j p)))],[⟨[ag [AV.vec fm 9 (List.map Mo.a l),vi S,vi A,vi j,vi ix,vi (wi (p+(N.stX (N.lm (l.getD ix.toNat default).r S) A j (N.lf l ix p)).getD 0 default)),vf (List.map vi (N.stX (N.lm (l.getD ix.toNat default).r S) A j (N.lf l ix p))),vi 1,vb false,vb hd,vb br,AV.row 1 w,vi qx,vi qy,vi qz]],15,0,false,false⟩,⟨List.map Mo.a P,9,w,false,true⟩],_,[((List.map vi (N.stX (N.lm (l.getD ix.toNat default).r S) A j (N.lf l ix p))).get?Internal 0=some (vi ((N.stX (N.lm (l.getD ix.toNat default).r S) A j (N.lf l ix p)).getD 0 default)))],[⟨true,true,43,[AV.ptr 0 0 0 0],[⟨[ag [AV.vec fm 9 (List.map Mo.a l),vi S,vi A,vi j,vi ix,vi (wi (p+(N.stX (N.lm (l.getD ix.toNat default).r S) A j (N.lf l ix p)).getD 0 default)),vf (List.map vi (N.stX (N.lm (l.getD ix.toNat default).r S) A j (N.lf l ix p))),vi 1,vb false,vb hd,vb br,AV.row 1 w,vi qx,vi qy,vi qz]],15,0,false,false⟩,⟨List.map Mo.a P,9,w,false,true⟩],vb (1==(Zgi l ix S A j p)),[⟨[ag [AV.vec fm 9 (List.map Mo.a l),vi S,vi A,vi j,vi ix,vi (wi (p+(N.stX (N.lm (l.getD ix.toNat default).r S) A j (N.lf l ix p)).getD 0 default)),vf (List.map vi (N.stX (N.lm (l.getD ix.toNat default).r S) A j (N.lf l ix p))),vi 1,vb false,vb hd,vb br,AV.row 1 w,vi qx,vi qy,vi qz]],15,0,false,false⟩,⟨List.map Mo.a P,9,w,false,true⟩]⟩]⟩ (by kernel_rfl) (bc (Zal (fun h=>d17 (i16.1 h))) (bc rfl (bc rfl (bc rfl (bc rfl (bc rfl (bc rfl (bc rfl (bc (i18.2 k19) (bc rfl (bc rfl (bc rfl b0)))))))))))) (qc (Zaz k19) q0) (cc (fun _=>(by (try rw [w21]);all_goals exact (@evo43_d fm l S A j ix (p+(N.stX (N.lm (l.getD ix.toNat default).r S) A j (N.lf l ix p)).getD 0 default) 1 false hd br qx qy qz (N.stX (N.lm (l.getD ix.toNat default).r S) A j (N.lf l ix p)) P w false))) c0) ?_
     rcases xq H with ⟨d23,H⟩|⟨d23,H⟩
     ·obtain ⟨k24,H⟩:=H
      exact Zai (G:=Zab kp10 [(13,1,.call (tu []) (some [⟨[ag [AV.vec fm 9 (List.map Mo.a l),vi S,vi A,vi j,vi (zCxK35 l ix p S A j),vi (zCxK36 l ix p S A j),AV.vnil,vi 0,vb false,vb hd,vb br,AV.row 1 (N.stW l ix (p+(N.stX (N.lm (l.getD ix.toNat default).r S) A j (N.lf l ix p)).getD 0 default) qx qy qz w),vi (zCxK37 l ix p S A j),vi (zCxK38 l ix p S A j),vi (zCxK39 l ix p S A j)]],15,0,false,false⟩,⟨List.map Mo.a (N.stP l ix (p+(N.stX (N.lm (l.getD ix.toNat default).r S) A j (N.lf l ix p)).getD 0 default) qx qy qz P),9,N.stW l ix (p+(N.stX (N.lm (l.getD ix.toNat default).r S) A j (N.lf l ix p)).getD 0 default) qx qy qz w,false,true⟩]))] []) 1000 [true] (k:=((atC (cd Try.f10) [1,1,1,1,1,1,1])).tail) (env':=[(2,vb true)]) (L':=[⟨[ag [AV.vec fm 9 (List.map Mo.a l),vi S,vi A,vi j,vi (zCxK35 l ix p S A j),vi (zCxK36 l ix p S A j),AV.vnil,vi 0,vb false,vb hd,vb br,AV.row 1 (N.stW l ix (p+(N.stX (N.lm (l.getD ix.toNat default).r S) A j (N.lf l ix p)).getD 0 default) qx qy qz w),vi (zCxK37 l ix p S A j),vi (zCxK38 l ix p S A j),vi (zCxK39 l ix p S A j)]],15,0,false,false⟩,⟨List.map Mo.a (N.stP l ix (p+(N.stX (N.lm (l.getD ix.toNat default).r S) A j (N.lf l ix p)).getD 0 default) qx qy qz P),9,N.stW l ix (p+(N.stX (N.lm (l.getD ix.toNat default).r S) A j (N.lf l ix p)).getD 0 default) qx qy qz w,false,true⟩]) (asm:=[(1==(Zgi l ix S A j p))==true]) (eqs:=[]) (calls:=[⟨true,true,47,[AV.ptr 0 0 0 0],[⟨[ag [AV.vec fm 9 (List.map Mo.a l),vi S,vi A,vi j,vi ix,vi (wi (p+(N.stX (N.lm (l.getD ix.toNat default).r S) A j (N.lf l ix p)).getD 0 default)),vf (List.map vi (N.stX (N.lm (l.getD ix.toNat default).r S) A j (N.lf l ix p))),vi 1,vb false,vb hd,vb br,AV.row 1 w,vi qx,vi qy,vi qz]],15,0,false,false⟩,⟨List.map Mo.a P,9,w,false,true⟩],tu [],[⟨[ag [AV.vec fm 9 (List.map Mo.a l),vi S,vi A,vi j,vi (zCxK35 l ix p S A j),vi (zCxK36 l ix p S A j),AV.vnil,vi 0,vb false,vb hd,vb br,AV.row 1 (N.stW l ix (p+(N.stX (N.lm (l.getD ix.toNat default).r S) A j (N.lf l ix p)).getD 0 default) qx qy qz w),vi (zCxK37 l ix p S A j),vi (zCxK38 l ix p S A j),vi (zCxK39 l ix p S A j)]],15,0,false,false⟩,⟨List.map Mo.a (N.stP l ix (p+(N.stX (N.lm (l.getD ix.toNat default).r S) A j (N.lf l ix p)).getD 0 default) qx qy qz P),9,N.stW l ix (p+(N.stX (N.lm (l.getD ix.toNat default).r S) A j (N.lf l ix p)).getD 0 default) qx qy qz w,false,true⟩]⟩]) (vb true) (by kernel_rfl) (by kernel_rfl) (Zaa (Zam (i_eq.2 d23)) Zae) Zaf (Zaq (fun _=>(by (try rw [w21]);all_goals exact (@evo47_d fm l S A j ix (p+(N.stX (N.lm (l.getD ix.toNat default).r S) A j (N.lf l ix p)).getD 0 default) 1 false hd br qx qy qz (N.stX (N.lm (l.getD ix.toNat default).r S) A j (N.lf l ix p)) P w k24))) Zag) H
     ·exact Zai (G:=Zab kp10 [] []) 1000 [false] (k:=((atC (cd Try.f10) [1,1,1,1,1,1,1])).tail) (env':=[(2,vb true)]) (L':=[⟨[ag [AV.vec fm 9 (List.map Mo.a l),vi S,vi A,vi j,vi ix,vi (wi (p+(N.stX (N.lm (l.getD ix.toNat default).r S) A j (N.lf l ix p)).getD 0 default)),vf (List.map vi (N.stX (N.lm (l.getD ix.toNat default).r S) A j (N.lf l ix p))),vi 1,vb false,vb hd,vb br,AV.row 1 w,vi qx,vi qy,vi qz]],15,0,false,false⟩,⟨List.map Mo.a P,9,w,false,true⟩]) (asm:=[(1==(Zgi l ix S A j p))==false]) (eqs:=[]) (calls:=[]) (vb true) (by kernel_rfl) (by kernel_rfl) (Zaa (Zal (fun h=>d23 (i_eq.1 h))) Zae) Zaf Zag (by (try rw [w21]);all_goals exact H)
  ·obtain ⟨k26,H⟩:=H
   have w27:(List.map vi X).length=X.length:=List.length_map ..
   have i28:(decide (k.toNat<(List.map vi X).length))=true ↔ (k.toNat<X.length):=(by (try rw [w27]);all_goals exact Zad)
   obtain ⟨k29,k30,H⟩:=H
   have w31:wi (p+X.getD k.toNat default)=p+X.getD k.toNat default:=wI64 k30
   obtain ⟨k32,H⟩:=H
   have w33:wi (k+1)=k+1:=wI64 k32
   refine Zac (G:=Zab kp10 [(10,13,.elem (vi (X.getD k.toNat default))),(12,1,.call (vb (k+1==(↑X.length:Int))) none)] []) 9 [false] ⟨(atC (cd Try.f10) [1,1,1,1,1,0,1]),[(0,AV.ptr 0 0 0 0),(90,vb (k+1==(↑X.length:Int)))],[⟨[ag [AV.vec fm 9 (List.map Mo.a l),vi S,vi A,vi j,vi ix,vi (wi (p+X.getD k.toNat default)),vf (List.map vi X),vi (wi (k+1)),vb bk,vb hd,vb br,AV.row 1 w,vi qx,vi qy,vi qz]],15,0,false,false⟩,⟨List.map Mo.a P,9,w,false,true⟩],_,[((List.map vi X).get?Internal k.toNat=some (vi (X.getD k.toNat default)))],[⟨true,true,43,[AV.ptr 0 0 0 0],[⟨[ag [AV.vec fm 9 (List.map Mo.a l),vi S,vi A,vi j,vi ix,vi (wi (p+X.getD k.toNat default)),vf (List.map vi X),vi (wi (k+1)),vb bk,vb hd,vb br,AV.row 1 w,vi qx,vi qy,vi qz]],15,0,false,false⟩,⟨List.map Mo.a P,9,w,false,true⟩],vb (k+1==(↑X.length:Int)),[⟨[ag [AV.vec fm 9 (List.map Mo.a l),vi S,vi A,vi j,vi ix,vi (wi (p+X.getD k.toNat default)),vf (List.map vi X),vi (wi (k+1)),vb bk,vb hd,vb br,AV.row 1 w,vi qx,vi qy,vi qz]],15,0,false,false⟩,⟨List.map Mo.a P,9,w,false,true⟩]⟩]⟩ (by kernel_rfl) (bc (Zal (fun h=>d5 (i_eq.1 h))) (bc rfl (bc rfl (bc rfl (bc (Zad.2 k26) (bc (i28.2 k29) (bc rfl (bc rfl (bc rfl b0))))))))) (qc (Zaz k29) q0) (cc (fun _=>(by (try rw [w31]);(try rw [w33]);all_goals exact (@evo43_d fm l S A j ix (p+X.getD k.toNat default) (k+1) bk hd br qx qy qz X P w false))) c0) ?_
   rcases xq H with ⟨d35,H⟩|⟨d35,H⟩
   ·obtain ⟨k36,H⟩:=H
    exact Zai (G:=Zab kp10 [(13,1,.call (tu []) (some [⟨[ag [AV.vec fm 9 (List.map Mo.a l),vi S,vi A,vi j,vi (N.stI l ix (p+X.getD k.toNat default)),vi (N.stK l ix (p+X.getD k.toNat default)),AV.vnil,vi 0,vb false,vb hd,vb br,AV.row 1 (N.stW l ix (p+X.getD k.toNat default) qx qy qz w),vi (N.pox l ix (p+X.getD k.toNat default)),vi (N.poy l ix (p+X.getD k.toNat default)),vi (N.poz l ix (p+X.getD k.toNat default))]],15,0,false,false⟩,⟨List.map Mo.a (N.stP l ix (p+X.getD k.toNat default) qx qy qz P),9,N.stW l ix (p+X.getD k.toNat default) qx qy qz w,false,true⟩]))] []) 1000 [true] (k:=((atC (cd Try.f10) [1,1,1,1,1,1,1])).tail) (env':=[(2,vb true)]) (L':=[⟨[ag [AV.vec fm 9 (List.map Mo.a l),vi S,vi A,vi j,vi (N.stI l ix (p+X.getD k.toNat default)),vi (N.stK l ix (p+X.getD k.toNat default)),AV.vnil,vi 0,vb false,vb hd,vb br,AV.row 1 (N.stW l ix (p+X.getD k.toNat default) qx qy qz w),vi (N.pox l ix (p+X.getD k.toNat default)),vi (N.poy l ix (p+X.getD k.toNat default)),vi (N.poz l ix (p+X.getD k.toNat default))]],15,0,false,false⟩,⟨List.map Mo.a (N.stP l ix (p+X.getD k.toNat default) qx qy qz P),9,N.stW l ix (p+X.getD k.toNat default) qx qy qz w,false,true⟩]) (asm:=[(k+1==(↑X.length:Int))==true]) (eqs:=[]) (calls:=[⟨true,true,47,[AV.ptr 0 0 0 0],[⟨[ag [AV.vec fm 9 (List.map Mo.a l),vi S,vi A,vi j,vi ix,vi (wi (p+X.getD k.toNat default)),vf (List.map vi X),vi (wi (k+1)),vb bk,vb hd,vb br,AV.row 1 w,vi qx,vi qy,vi qz]],15,0,false,false⟩,⟨List.map Mo.a P,9,w,false,true⟩],tu [],[⟨[ag [AV.vec fm 9 (List.map Mo.a l),vi S,vi A,vi j,vi (N.stI l ix (p+X.getD k.toNat default)),vi (N.stK l ix (p+X.getD k.toNat default)),AV.vnil,vi 0,vb false,vb hd,vb br,AV.row 1 (N.stW l ix (p+X.getD k.toNat default) qx qy qz w),vi (N.pox l ix (p+X.getD k.toNat default)),vi (N.poy l ix (p+X.getD k.toNat default)),vi (N.poz l ix (p+X.getD k.toNat default))]],15,0,false,false⟩,⟨List.map Mo.a (N.stP l ix (p+X.getD k.toNat default) qx qy qz P),9,N.stW l ix (p+X.getD k.toNat default) qx qy qz w,false,true⟩]⟩]) (vb true) (by kernel_rfl) (by kernel_rfl) (Zaa (Zam (i_eq.2 d35)) Zae) Zaf (Zaq (fun _=>(by (try rw [w31]);(try rw [w33]);all_goals exact (@evo47_d fm l S A j ix (p+X.getD k.toNat default) (k+1) bk hd br qx qy qz X P w k36))) Zag) H
   ·exact Zai (G:=Zab kp10 [] []) 1000 [false] (k:=((atC (cd Try.f10) [1,1,1,1,1,1,1])).tail) (env':=[(2,vb true)]) (L':=[⟨[ag [AV.vec fm 9 (List.map Mo.a l),vi S,vi A,vi j,vi ix,vi (wi (p+X.getD k.toNat default)),vf (List.map vi X),vi (wi (k+1)),vb bk,vb hd,vb br,AV.row 1 w,vi qx,vi qy,vi qz]],15,0,false,false⟩,⟨List.map Mo.a P,9,w,false,true⟩]) (asm:=[(k+1==(↑X.length:Int))==false]) (eqs:=[]) (calls:=[]) (vb true) (by kernel_rfl) (by kernel_rfl) (Zaa (Zal (fun h=>d35 (i_eq.1 h))) Zae) Zaf Zag (by (try rw [w31]);(try rw [w33]);all_goals exact H)
theorem tcZ (fm:Bool) (l:List Mo) (S A j ix p:Int) (qx qy qz:Int) (P:List Mo) (w:Nat)  (dv:AV) (dK:Heap) (_:ZaB 2 dv dK=true) (H :
  (Zat dv dK) (vb false) [{ elems:=[ag [AV.vec fm 9 (List.map Mo.a l),vi S,vi A,vi j,vi ix,vi p,AV.vnil,vi 0,vb false,vb false,vb true,AV.row 1 w,vi qx,vi qy,vi qz]],es:=15,ver:=0,frozen:=false,clean:=false },{ elems:=List.map Mo.a P,es:=9,ver:=w,frozen:=true,clean:=true }]) :
 tcZ_at fm l S A j ix p qx qy qz P w (Zat dv dK):=by
 unfold tcZ_at
 exact Zai (G:=Zab kp10 [] []) 1000 [true] (k:=((atC (cd Try.f10) [1,0,1,0,1])).tail) (env':=[(2,vb false)]) (L':=[⟨[ag [AV.vec fm 9 (List.map Mo.a l),vi S,vi A,vi j,vi ix,vi p,AV.vnil,vi 0,vb false,vb false,vb true,AV.row 1 w,vi qx,vi qy,vi qz]],15,0,false,false⟩,⟨List.map Mo.a P,9,w,true,true⟩]) (asm:=[true,true,true,true==true]) (eqs:=[]) (calls:=[]) (vb false) (by kernel_rfl) (by kernel_rfl) (Zaa rfl (Zaa rfl (Zaa rfl (Zaa rfl Zae)))) Zaf Zag H
end Go.Av

namespace Go.Av
open Go.Proofs
set_option maxRecDepth 100000
def fi14:Fi:=⟨7,[.tmp 2]⟩
def kp14:List (Nat × List Nat):=[(0,[0]),(1,[2])]
def icA_at (fm:Bool) (l:List Mo) (S A j ix p:Int) (hd br:Bool) (qx qy qz:Int) (Q:AV->Heap->Prop):Prop:=Wp M1 (.run fi14 (atC (cd Try.f14) []) [(0,.ptr 0 0 0 0)] [⟨[.agg [.vec fm 9 (l.map Mo.a),.int .i64 S,.int .i64 A,.int .i64 j,.int .i64 ix,.int .i64 p,.vnil,.int .i64 0,.bool false,.bool hd,.bool br,.vnil,.int .i64 qx,.int .i64 qy,.int .i64 qz]],15,0,false,false⟩]) Q
def icB_at (fm:Bool) (l:List Mo) (S A j ix p:Int) (hd br:Bool) (qx qy qz:Int) (P:List Mo) (w:Nat) (fz:Bool) (Q:AV->Heap->Prop):Prop:=Wp M1 (.run fi14 (atC (cd Try.f14) []) [(0,.ptr 0 0 0 0)] [⟨[.agg [.vec fm 9 (l.map Mo.a),.int .i64 S,.int .i64 A,.int .i64 j,.int .i64 ix,.int .i64 p,.vnil,.int .i64 0,.bool false,.bool hd,.bool br,.row 1 w,.int .i64 qx,.int .i64 qy,.int .i64 qz]],15,0,false,false⟩,⟨P.map Mo.a,9,w,fz,true⟩]) Q
def icC_at (fm:Bool) (l:List Mo) (S A j ix p k:Int) (bk hd br:Bool) (qx qy qz:Int) (X:List Int) (Q:AV->Heap->Prop):Prop:=Wp M1 (.run fi14 (atC (cd Try.f14) []) [(0,.ptr 0 0 0 0)] [⟨[.agg [.vec fm 9 (l.map Mo.a),.int .i64 S,.int .i64 A,.int .i64 j,.int .i64 ix,.int .i64 p,.vec false 1 (X.map (.int .i64)),.int .i64 k,.bool bk,.bool hd,.bool br,.vnil,.int .i64 qx,.int .i64 qy,.int .i64 qz]],15,0,false,false⟩]) Q
def icD_at (fm:Bool) (l:List Mo) (S A j ix p k:Int) (bk hd br:Bool) (qx qy qz:Int) (X:List Int) (P:List Mo) (w:Nat) (fz:Bool) (Q:AV->Heap->Prop):Prop:=Wp M1 (.run fi14 (atC (cd Try.f14) []) [(0,.ptr 0 0 0 0)] [⟨[.agg [.vec fm 9 (l.map Mo.a),.int .i64 S,.int .i64 A,.int .i64 j,.int .i64 ix,.int .i64 p,.vec false 1 (X.map (.int .i64)),.int .i64 k,.bool bk,.bool hd,.bool br,.row 1 w,.int .i64 qx,.int .i64 qy,.int .i64 qz]],15,0,false,false⟩,⟨P.map Mo.a,9,w,fz,true⟩]) Q
theorem Zdv {args:List AV} {L:Heap} {v:AV} {K:Heap} (hk:ZaB L.length v K=true) (h:Wp M1 (.run fi14 [.code (cd Try.f14)] (ZaN 0 args) L) (Zat v K)):Ev M1 (.own 14 args L) v K:=
 Zb3 Try.f14 fi14 (by kernel_rfl) (by kernel_rfl) (by kernel_rfl) (by kernel_rfl) hk h
theorem icA (fm:Bool) (l:List Mo) (S A j ix p:Int) (hd br:Bool) (qx qy qz:Int)  (dv:AV) (dK:Heap) (_:ZaB 1 dv dK=true) (H :
  (Zat dv dK) (vi ix) [{ elems:=[ag [AV.vec fm 9 (List.map Mo.a l),vi S,vi A,vi j,vi ix,vi p,AV.vnil,vi 0,vb false,vb hd,vb br,AV.vnil,vi qx,vi qy,vi qz]],es:=15,ver:=0,frozen:=false,clean:=false }]) :
 icA_at fm l S A j ix p hd br qx qy qz (Zat dv dK):=by
 unfold icA_at
 exact Zai (G:=Zab kp14 [] []) 1000 [] (k:=((atC (cd Try.f14) [1,1])).tail) (env':=[(2,vi ix)]) (L':=[⟨[ag [AV.vec fm 9 (List.map Mo.a l),vi S,vi A,vi j,vi ix,vi p,AV.vnil,vi 0,vb false,vb hd,vb br,AV.vnil,vi qx,vi qy,vi qz]],15,0,false,false⟩]) (asm:=[true]) (eqs:=[]) (calls:=[]) (vi ix) (by kernel_rfl) (by kernel_rfl) (Zaa rfl Zae) Zaf Zag H
theorem icB (fm:Bool) (l:List Mo) (S A j ix p:Int) (hd br:Bool) (qx qy qz:Int) (P:List Mo) (w:Nat) (fz:Bool)  (dv:AV) (dK:Heap) (_:ZaB 2 dv dK=true) (H :
  (Zat dv dK) (vi ix) [{ elems:=[ag [AV.vec fm 9 (List.map Mo.a l),vi S,vi A,vi j,vi ix,vi p,AV.vnil,vi 0,vb false,vb hd,vb br,AV.row 1 w,vi qx,vi qy,vi qz]],es:=15,ver:=0,frozen:=false,clean:=false },{ elems:=List.map Mo.a P,es:=9,ver:=w,frozen:=fz,clean:=true }]) :
 icB_at fm l S A j ix p hd br qx qy qz P w fz (Zat dv dK):=by
 unfold icB_at
 exact Zai (G:=Zab kp14 [] []) 1000 [] (k:=((atC (cd Try.f14) [1,1])).tail) (env':=[(2,vi ix)]) (L':=[⟨[ag [AV.vec fm 9 (List.map Mo.a l),vi S,vi A,vi j,vi ix,vi p,AV.vnil,vi 0,vb false,vb hd,vb br,AV.row 1 w,vi qx,vi qy,vi qz]],15,0,false,false⟩,⟨List.map Mo.a P,9,w,fz,true⟩]) (asm:=[true]) (eqs:=[]) (calls:=[]) (vi ix) (by kernel_rfl) (by kernel_rfl) (Zaa rfl Zae) Zaf Zag H
theorem icC (fm:Bool) (l:List Mo) (S A j ix p k:Int) (bk hd br:Bool) (qx qy qz:Int) (X:List Int)  (dv:AV) (dK:Heap) (_:ZaB 1 dv dK=true) (H :
  (Zat dv dK) (vi ix) [{ elems:=[ag [AV.vec fm 9 (List.map Mo.a l),vi S,vi A,vi j,vi ix,vi p,vf (List.map vi X),vi k,vb bk,vb hd,vb br,AV.vnil,vi qx,vi qy,vi qz]],es:=15,ver:=0,frozen:=false,clean:=false }]) :
 icC_at fm l S A j ix p k bk hd br qx qy qz X (Zat dv dK):=by
 unfold icC_at
 exact Zai (G:=Zab kp14 [] []) 1000 [] (k:=((atC (cd Try.f14) [1,1])).tail) (env':=[(2,vi ix)]) (L':=[⟨[ag [AV.vec fm 9 (List.map Mo.a l),vi S,vi A,vi j,vi ix,vi p,vf (List.map vi X),vi k,vb bk,vb hd,vb br,AV.vnil,vi qx,vi qy,vi qz]],15,0,false,false⟩]) (asm:=[true]) (eqs:=[]) (calls:=[]) (vi ix) (by kernel_rfl) (by kernel_rfl) (Zaa rfl Zae) Zaf Zag H
theorem icD (fm:Bool) (l:List Mo) (S A j ix p k:Int) (bk hd br:Bool) (qx qy qz:Int) (X:List Int) (P:List Mo) (w:Nat) (fz:Bool)  (dv:AV) (dK:Heap) (_:ZaB 2 dv dK=true) (H :
  (Zat dv dK) (vi ix) [{ elems:=[ag [AV.vec fm 9 (List.map Mo.a l),vi S,vi A,vi j,vi ix,vi p,vf (List.map vi X),vi k,vb bk,vb hd,vb br,AV.row 1 w,vi qx,vi qy,vi qz]],es:=15,ver:=0,frozen:=false,clean:=false },{ elems:=List.map Mo.a P,es:=9,ver:=w,frozen:=fz,clean:=true }]) :
 icD_at fm l S A j ix p k bk hd br qx qy qz X P w fz (Zat dv dK):=by
 unfold icD_at
 exact Zai (G:=Zab kp14 [] []) 1000 [] (k:=((atC (cd Try.f14) [1,1])).tail) (env':=[(2,vi ix)]) (L':=[⟨[ag [AV.vec fm 9 (List.map Mo.a l),vi S,vi A,vi j,vi ix,vi p,vf (List.map vi X),vi k,vb bk,vb hd,vb br,AV.row 1 w,vi qx,vi qy,vi qz]],15,0,false,false⟩,⟨List.map Mo.a P,9,w,fz,true⟩]) (asm:=[true]) (eqs:=[]) (calls:=[]) (vi ix) (by kernel_rfl) (by kernel_rfl) (Zaa rfl Zae) Zaf Zag H
end Go.Av

namespace Go.Av
open Go.Proofs
namespace N
def okOff (l:List Mo) (ix:Int) (br hd:Bool):Prop:=(br=true\/ix=l.length)\/hd=true
end N
theorem evo10_a (fm:Bool) (l:List Mo) (S A j ix p:Int) (hd br:Bool) (qx qy qz:Int) (h:N.okOff l ix br hd):Ev M1 (.own 10 [.ptr 0 0 0 0] [⟨[.agg [.vec fm 9 (l.map Mo.a),.int .i64 S,.int .i64 A,.int .i64 j,.int .i64 ix,.int .i64 p,.vnil,.int .i64 0,.bool false,.bool hd,.bool br,.vnil,.int .i64 qx,.int .i64 qy,.int .i64 qz]],15,0,false,false⟩]) (.bool false) [⟨[.agg [.vec fm 9 (l.map Mo.a),.int .i64 S,.int .i64 A,.int .i64 j,.int .i64 ix,.int .i64 p,.vnil,.int .i64 0,.bool false,.bool hd,.bool br,.vnil,.int .i64 qx,.int .i64 qy,.int .i64 qz]],15,0,false,false⟩]:=by
 refine Zet (Zc7 (tcA fm l S A j ix p hd br qx qy qz _ ⟨fun _=>⟨rfl,rfl⟩,fun h1=>⟨fun _=>⟨rfl,rfl⟩,fun h2 => ?_⟩⟩))
 rcases h with h | h
 ·exact absurd h h1
 ·exact absurd h h2
theorem evo14_a (fm:Bool) (l:List Mo) (S A j ix p:Int) (hd br:Bool) (qx qy qz:Int):Ev M1 (.own 14 [.ptr 0 0 0 0] [⟨[.agg [.vec fm 9 (l.map Mo.a),.int .i64 S,.int .i64 A,.int .i64 j,.int .i64 ix,.int .i64 p,.vnil,.int .i64 0,.bool false,.bool hd,.bool br,.vnil,.int .i64 qx,.int .i64 qy,.int .i64 qz]],15,0,false,false⟩]) (.int .i64 ix) [⟨[.agg [.vec fm 9 (l.map Mo.a),.int .i64 S,.int .i64 A,.int .i64 j,.int .i64 ix,.int .i64 p,.vnil,.int .i64 0,.bool false,.bool hd,.bool br,.vnil,.int .i64 qx,.int .i64 qy,.int .i64 qz]],15,0,false,false⟩]:=
 Zdv rfl (icA fm l S A j ix p hd br qx qy qz _ _ rfl ⟨rfl,rfl⟩)
theorem evo14_b (fm:Bool) (l:List Mo) (S A j ix p:Int) (hd br:Bool) (qx qy qz:Int) (P:List Mo) (w:Nat) (fz:Bool):Ev M1 (.own 14 [.ptr 0 0 0 0] [⟨[.agg [.vec fm 9 (l.map Mo.a),.int .i64 S,.int .i64 A,.int .i64 j,.int .i64 ix,.int .i64 p,.vnil,.int .i64 0,.bool false,.bool hd,.bool br,.row 1 w,.int .i64 qx,.int .i64 qy,.int .i64 qz]],15,0,false,false⟩,⟨P.map Mo.a,9,w,fz,true⟩]) (.int .i64 ix) [⟨[.agg [.vec fm 9 (l.map Mo.a),.int .i64 S,.int .i64 A,.int .i64 j,.int .i64 ix,.int .i64 p,.vnil,.int .i64 0,.bool false,.bool hd,.bool br,.row 1 w,.int .i64 qx,.int .i64 qy,.int .i64 qz]],15,0,false,false⟩,⟨P.map Mo.a,9,w,fz,true⟩]:=
 Zdv rfl (icB fm l S A j ix p hd br qx qy qz P w fz _ _ rfl ⟨rfl,rfl⟩)
theorem evo14_c (fm:Bool) (l:List Mo) (S A j ix p k:Int) (bk hd br:Bool) (qx qy qz:Int) (X:List Int):Ev M1 (.own 14 [.ptr 0 0 0 0] [⟨[.agg [.vec fm 9 (l.map Mo.a),.int .i64 S,.int .i64 A,.int .i64 j,.int .i64 ix,.int .i64 p,.vec false 1 (X.map (.int .i64)),.int .i64 k,.bool bk,.bool hd,.bool br,.vnil,.int .i64 qx,.int .i64 qy,.int .i64 qz]],15,0,false,false⟩]) (.int .i64 ix) [⟨[.agg [.vec fm 9 (l.map Mo.a),.int .i64 S,.int .i64 A,.int .i64 j,.int .i64 ix,.int .i64 p,.vec false 1 (X.map (.int .i64)),.int .i64 k,.bool bk,.bool hd,.bool br,.vnil,.int .i64 qx,.int .i64 qy,.int .i64 qz]],15,0,false,false⟩]:=
 Zdv rfl (icC fm l S A j ix p k bk hd br qx qy qz X _ _ rfl ⟨rfl,rfl⟩)
theorem evo14_d (fm:Bool) (l:List Mo) (S A j ix p k:Int) (bk hd br:Bool) (qx qy qz:Int) (X:List Int) (P:List Mo) (w:Nat) (fz:Bool):Ev M1 (.own 14 [.ptr 0 0 0 0] [⟨[.agg [.vec fm 9 (l.map Mo.a),.int .i64 S,.int .i64 A,.int .i64 j,.int .i64 ix,.int .i64 p,.vec false 1 (X.map (.int .i64)),.int .i64 k,.bool bk,.bool hd,.bool br,.row 1 w,.int .i64 qx,.int .i64 qy,.int .i64 qz]],15,0,false,false⟩,⟨P.map Mo.a,9,w,fz,true⟩]) (.int .i64 ix) [⟨[.agg [.vec fm 9 (l.map Mo.a),.int .i64 S,.int .i64 A,.int .i64 j,.int .i64 ix,.int .i64 p,.vec false 1 (X.map (.int .i64)),.int .i64 k,.bool bk,.bool hd,.bool br,.row 1 w,.int .i64 qx,.int .i64 qy,.int .i64 qz]],15,0,false,false⟩,⟨P.map Mo.a,9,w,fz,true⟩]:=
 Zdv rfl (icD fm l S A j ix p k bk hd br qx qy qz X P w fz _ _ rfl ⟨rfl,rfl⟩)
end Go.Av

namespace Go.Av
open Go.Proofs
set_option maxRecDepth 100000
def fi41:Fi:=⟨8,[.tmp 2]⟩
def kp41:List (Nat × List Nat):=[(0,[0]),(1,[0,4]),(2,[2]),(3,[2])]
def clE_at (g:Bool) (Q:AV->Heap->Prop):Prop:=Wp M1 (.run fi41 (atC (cd Try.f41) []) [(0,.vec g 9 [])] []) Q
def clN_at  (Q:AV->Heap->Prop):Prop:=Wp M1 (.run fi41 (atC (cd Try.f41) []) [(0,.vnil)] []) Q
def clC_at (g:Bool) (y:Mo) (l:List Mo) (Q:AV->Heap->Prop):Prop:=Wp M1 (.run fi41 (atC (cd Try.f41) []) [(0,.vec g 9 ((y::l).map Mo.a))] []) Q
theorem call41 {args:List AV} {d:AV} (h:wc M1 fi41 Try.f41 args d):Ev M1 (.pure 41 args) d []:=pcl _ _ (by kernel_rfl) h
theorem clE (g:Bool)  (dq:AV) (H :
  (Weak (AV.vnil) dq) /\
  (Weak (AV.vec true 9 []) dq)) :
 clE_at g (Zaj dq):=by
 unfold clE_at
 refine Zac (G:=Zab kp41 [] []) 4 [] ⟨(atC (cd Try.f41) [1,0,0]),[(0,AV.vec g 9 [])],[],_,[],_⟩ (by kernel_rfl) b0 q0 c0 (wp_nil 1 [0,4] (e1:=[(0,AV.vec g 9 []),(4,vb true)]) (e2:=[(0,AV.vec g 9 []),(4,vb false)]) (L1:=[]) (L2:=[]) (a1:=[]) (a2:=[]) (v1:=[(4,[],vb true),(3,[],AV.vec g 9 []),(0,[],AV.vec g 9 [])]) (v2:=[(4,[],vb false),(3,[],AV.vec g 9 []),(0,[],AV.vec g 9 [])]) (by kernel_rfl) (by kernel_rfl) Zae Zae (by kernel_rfl) (by kernel_rfl) ?_ ?_)
 ·have H:=H.1
  exact ZaX (G:=Zab kp41 [] []) 1000 [true] (AV.vnil) (by kernel_rfl) (bc rfl b0) q0 c0 H
 ·have H:=H.2
  exact ZaX (G:=Zab kp41 [] []) 1000 [false] (AV.vec true 9 []) (by kernel_rfl) (bc rfl b0) q0 c0 H
theorem clN   (dq:AV) (H :
  Weak (AV.vnil) dq) :
 clN_at  (Zaj dq):=by
 unfold clN_at
 exact ZaX (G:=Zab kp41 [] []) 1000 [true] (AV.vnil) (by kernel_rfl) (bc rfl b0) q0 c0 H
noncomputable abbrev zCxN1 (y:Mo):=ag [vi y.x,vi y.y,vi y.z,vi y.u,vi y.v,vi y.w,vi y.r,vi y.t,vi y.b]
theorem clC (g:Bool) (y:Mo) (l:List Mo)  (dq:AV) (H :
  ((0+(l.length+1))*72<=1099511627776) /\
  Weak (AV.vec false 9 (ag [vi y.x,vi y.y,vi y.z,vi y.u,vi y.v,vi y.w,vi y.r,vi y.t,vi y.b]::List.map Mo.a l)) dq) :
 clC_at g y l (Zaj dq):=by
 unfold clC_at
 have w1:(List.map Mo.a l).length=l.length:=List.length_map ..
 have i2:(decide ((0+((List.map Mo.a l).length+1))*72<=1099511627776))=true ↔ ((0+(l.length+1))*72<=1099511627776):=(by (try rw [w1]);all_goals exact Zad)
 obtain ⟨k3,H⟩:=H
 exact Zai (G:=Zab kp41 [] []) 1000 [false] (k:=((atC (cd Try.f41) [1,1,1])).tail) (env':=[(2,AV.row 0 0)]) (L':=[⟨(zCxN1 y)::List.map Mo.a l,9,0,false,true⟩]) (asm:=[false==false,decide ((0+((List.map Mo.a l).length+1))*72<=1099511627776)]) (eqs:=[]) (calls:=[]) (AV.row 0 0) (by kernel_rfl) (by kernel_rfl) (Zaa rfl (Zaa (i2.2 k3) Zae)) Zaf Zag (Zes (d:=(AV.vec false 9 ((zCxN1 y)::List.map Mo.a l))) (bs:=[0==0]) (by kernel_rfl) (by kernel_rfl) (Zaa (beq_self_eq_true _) Zae) (by kernel_rfl) H)
end Go.Av

namespace Go.Av
open Go.Proofs
namespace N
def Zdy (l:List Mo):Prop:=l.length<=1000000000
end N
theorem ev41 (g:Bool) (l:List Mo) (h:N.Zdy l):Ev M1 (.pure 41 [.vec g 9 (l.map Mo.a)]) (.vec false 9 (l.map Mo.a)) []:=by
 unfold N.Zdy at h
 cases l with
 | nil=>exact call41 (clE g _ ⟨.vnil 9,.full 9 []⟩)
 | cons y l=>exact call41 (clC g y l _ ⟨by simp at h;omega,.refl _⟩)
theorem ev41_a:Ev M1 (.pure 41 [.vnil]) (.vec false 9 (([]:List Mo).map Mo.a)) []:=
 call41 (clN _ (.vnil 9))
end Go.Av

namespace Go.Av
open Go.Proofs
set_option maxRecDepth 100000
def fi19:Fi:=⟨27,[.tmp 2]⟩
def kp19:List (Nat × List Nat):=[(0,[0]),(1,[0,3]),(2,[0,3,4,5]),(3,[3,4,21]),(4,[3]),(5,[2])]
def fi22:Fi:=⟨44,[]⟩
def kp22:List (Nat × List Nat):=[(0,[0,7]),(1,[0,2,3]),(2,[0,2,13]),(3,[0]),(4,[0]),(5,[0]),(6,[])]
def bk_A_at (fm:Bool) (l:List Mo) (S A j ix p:Int) (hd br:Bool) (qx qy qz:Int) (Q:AV->Heap->Prop):Prop:=Wp M1 (.run fi22 (atC (cd Try.f22) []) [(0,.ptr 0 0 0 0)] [⟨[.agg [.vec fm 9 (l.map Mo.a),.int .i64 S,.int .i64 A,.int .i64 j,.int .i64 ix,.int .i64 p,.vnil,.int .i64 0,.bool false,.bool hd,.bool br,.vnil,.int .i64 qx,.int .i64 qy,.int .i64 qz]],15,0,false,false⟩]) Q
def bk_B_at (fm:Bool) (l:List Mo) (S A j ix p:Int) (hd br:Bool) (qx qy qz:Int) (P:List Mo) (w:Nat) (Q:AV->Heap->Prop):Prop:=Wp M1 (.run fi22 (atC (cd Try.f22) []) [(0,.ptr 0 0 0 0)] [⟨[.agg [.vec fm 9 (l.map Mo.a),.int .i64 S,.int .i64 A,.int .i64 j,.int .i64 ix,.int .i64 p,.vnil,.int .i64 0,.bool false,.bool hd,.bool br,.row 1 w,.int .i64 qx,.int .i64 qy,.int .i64 qz]],15,0,false,false⟩,⟨P.map Mo.a,9,w,false,true⟩]) Q
def bk_C_at (fm:Bool) (l:List Mo) (S A j ix p k:Int) (bk hd br:Bool) (qx qy qz:Int) (X:List Int) (Q:AV->Heap->Prop):Prop:=Wp M1 (.run fi22 (atC (cd Try.f22) []) [(0,.ptr 0 0 0 0)] [⟨[.agg [.vec fm 9 (l.map Mo.a),.int .i64 S,.int .i64 A,.int .i64 j,.int .i64 ix,.int .i64 p,.vec false 1 (X.map (.int .i64)),.int .i64 k,.bool bk,.bool hd,.bool br,.vnil,.int .i64 qx,.int .i64 qy,.int .i64 qz]],15,0,false,false⟩]) Q
def bk_D_at (fm:Bool) (l:List Mo) (S A j ix p k:Int) (bk hd br:Bool) (qx qy qz:Int) (X:List Int) (P:List Mo) (w:Nat) (Q:AV->Heap->Prop):Prop:=Wp M1 (.run fi22 (atC (cd Try.f22) []) [(0,.ptr 0 0 0 0)] [⟨[.agg [.vec fm 9 (l.map Mo.a),.int .i64 S,.int .i64 A,.int .i64 j,.int .i64 ix,.int .i64 p,.vec false 1 (X.map (.int .i64)),.int .i64 k,.bool bk,.bool hd,.bool br,.row 1 w,.int .i64 qx,.int .i64 qy,.int .i64 qz]],15,0,false,false⟩,⟨P.map Mo.a,9,w,false,true⟩]) Q
def beEb_at (fm:Bool) (l:List Mo) (S A j ix p:Int) (hd br:Bool) (qx qy qz:Int) (m:Mo) (P:List Mo) (w:Nat) (Q:AV->Heap->Prop):Prop:=Wp M1 (.run fi22 (atC (cd Try.f22) [1,1,0]) [(0,.ptr 0 0 0 0)] [⟨[.agg [.vec fm 9 (l.map Mo.a),.int .i64 S,.int .i64 A,.int .i64 j,.int .i64 ix,.int .i64 p,.vnil,.int .i64 0,.bool false,.bool hd,.bool br,.row 2 w,.int .i64 qx,.int .i64 qy,.int .i64 qz]],15,0,false,false⟩,⟨[.agg [.int .i64 m.x,.int .i64 m.y,.int .i64 m.z,.int .i64 m.u,.int .i64 m.v,.int .i64 m.w,.int .i64 m.r,.int .i64 m.t,.int .i64 m.b]],9,0,false,false⟩,⟨P.map Mo.a,9,w,false,true⟩]) Q
def beNb_at (fm:Bool) (l:List Mo) (S A j ix p:Int) (hd br:Bool) (qx qy qz:Int) (m:Mo) (Q:AV->Heap->Prop):Prop:=Wp M1 (.run fi22 (atC (cd Try.f22) [1,1,0]) [(0,.ptr 0 0 0 0)] [⟨[.agg [.vec fm 9 (l.map Mo.a),.int .i64 S,.int .i64 A,.int .i64 j,.int .i64 ix,.int .i64 p,.vnil,.int .i64 0,.bool false,.bool hd,.bool br,.vnil,.int .i64 qx,.int .i64 qy,.int .i64 qz]],15,0,false,false⟩,⟨[.agg [.int .i64 m.x,.int .i64 m.y,.int .i64 m.z,.int .i64 m.u,.int .i64 m.v,.int .i64 m.w,.int .i64 m.r,.int .i64 m.t,.int .i64 m.b]],9,0,false,false⟩]) Q
def beWb_at (fm:Bool) (l:List Mo) (S A j ix p:Int) (hd br:Bool) (qx qy qz:Int) (m:Mo) (P:List Mo) (w:Nat) (Q:AV->Heap->Prop):Prop:=Wp M1 (.run fi22 (atC (cd Try.f22) [1,1,0]) [(0,.ptr 0 0 0 0)] [⟨[.agg [.vec fm 9 (l.map Mo.a),.int .i64 S,.int .i64 A,.int .i64 j,.int .i64 ix,.int .i64 p,.vnil,.int .i64 0,.bool false,.bool hd,.bool br,.row 1 w,.int .i64 qx,.int .i64 qy,.int .i64 qz]],15,0,false,false⟩,⟨P.map Mo.a,9,w,false,true⟩,⟨[.agg [.int .i64 m.x,.int .i64 m.y,.int .i64 m.z,.int .i64 m.u,.int .i64 m.v,.int .i64 m.w,.int .i64 m.r,.int .i64 m.t,.int .i64 m.b]],9,0,false,false⟩]) Q
def beEd_at (fm:Bool) (l:List Mo) (S A j ix p k:Int) (bk hd br:Bool) (qx qy qz:Int) (X:List Int) (m:Mo) (P:List Mo) (w:Nat) (Q:AV->Heap->Prop):Prop:=Wp M1 (.run fi22 (atC (cd Try.f22) [1,1,0]) [(0,.ptr 0 0 0 0)] [⟨[.agg [.vec fm 9 (l.map Mo.a),.int .i64 S,.int .i64 A,.int .i64 j,.int .i64 ix,.int .i64 p,.vec false 1 (X.map (.int .i64)),.int .i64 k,.bool bk,.bool hd,.bool br,.row 2 w,.int .i64 qx,.int .i64 qy,.int .i64 qz]],15,0,false,false⟩,⟨[.agg [.int .i64 m.x,.int .i64 m.y,.int .i64 m.z,.int .i64 m.u,.int .i64 m.v,.int .i64 m.w,.int .i64 m.r,.int .i64 m.t,.int .i64 m.b]],9,0,false,false⟩,⟨P.map Mo.a,9,w,false,true⟩]) Q
def beNd_at (fm:Bool) (l:List Mo) (S A j ix p k:Int) (bk hd br:Bool) (qx qy qz:Int) (X:List Int) (m:Mo) (Q:AV->Heap->Prop):Prop:=Wp M1 (.run fi22 (atC (cd Try.f22) [1,1,0]) [(0,.ptr 0 0 0 0)] [⟨[.agg [.vec fm 9 (l.map Mo.a),.int .i64 S,.int .i64 A,.int .i64 j,.int .i64 ix,.int .i64 p,.vec false 1 (X.map (.int .i64)),.int .i64 k,.bool bk,.bool hd,.bool br,.vnil,.int .i64 qx,.int .i64 qy,.int .i64 qz]],15,0,false,false⟩,⟨[.agg [.int .i64 m.x,.int .i64 m.y,.int .i64 m.z,.int .i64 m.u,.int .i64 m.v,.int .i64 m.w,.int .i64 m.r,.int .i64 m.t,.int .i64 m.b]],9,0,false,false⟩]) Q
def beWd_at (fm:Bool) (l:List Mo) (S A j ix p k:Int) (bk hd br:Bool) (qx qy qz:Int) (X:List Int) (m:Mo) (P:List Mo) (w:Nat) (Q:AV->Heap->Prop):Prop:=Wp M1 (.run fi22 (atC (cd Try.f22) [1,1,0]) [(0,.ptr 0 0 0 0)] [⟨[.agg [.vec fm 9 (l.map Mo.a),.int .i64 S,.int .i64 A,.int .i64 j,.int .i64 ix,.int .i64 p,.vec false 1 (X.map (.int .i64)),.int .i64 k,.bool bk,.bool hd,.bool br,.row 1 w,.int .i64 qx,.int .i64 qy,.int .i64 qz]],15,0,false,false⟩,⟨P.map Mo.a,9,w,false,true⟩,⟨[.agg [.int .i64 m.x,.int .i64 m.y,.int .i64 m.z,.int .i64 m.u,.int .i64 m.v,.int .i64 m.w,.int .i64 m.r,.int .i64 m.t,.int .i64 m.b]],9,0,false,false⟩]) Q
def dnA_at (fm:Bool) (l:List Mo) (S A j ix p:Int) (hd br:Bool) (qx qy qz:Int) (Q:AV->Heap->Prop):Prop:=Wp M1 (.run fi19 (atC (cd Try.f19) []) [(0,.ptr 0 0 0 0)] [⟨[.agg [.vec fm 9 (l.map Mo.a),.int .i64 S,.int .i64 A,.int .i64 j,.int .i64 ix,.int .i64 p,.vnil,.int .i64 0,.bool false,.bool hd,.bool br,.vnil,.int .i64 qx,.int .i64 qy,.int .i64 qz]],15,0,false,false⟩]) Q
def dnB_at (fm:Bool) (l:List Mo) (S A j ix p:Int) (hd br:Bool) (qx qy qz:Int) (P:List Mo) (w:Nat) (Q:AV->Heap->Prop):Prop:=Wp M1 (.run fi19 (atC (cd Try.f19) []) [(0,.ptr 0 0 0 0)] [⟨[.agg [.vec fm 9 (l.map Mo.a),.int .i64 S,.int .i64 A,.int .i64 j,.int .i64 ix,.int .i64 p,.vnil,.int .i64 0,.bool false,.bool hd,.bool br,.row 1 w,.int .i64 qx,.int .i64 qy,.int .i64 qz]],15,0,false,false⟩,⟨P.map Mo.a,9,w,false,true⟩]) Q
def dnT_at (fm:Bool) (l:List Mo) (S A j ix p:Int) (hd br:Bool) (qx qy qz:Int) (P:List Mo) (w:Nat) (Q:AV->Heap->Prop):Prop:=Wp M1 (.run fi19 (atC (cd Try.f19) []) [(0,.ptr 0 0 0 0)] [⟨[.agg [.vec fm 9 (l.map Mo.a),.int .i64 S,.int .i64 A,.int .i64 j,.int .i64 ix,.int .i64 p,.vnil,.int .i64 0,.bool false,.bool hd,.bool br,.row 1 w,.int .i64 qx,.int .i64 qy,.int .i64 qz]],15,0,false,false⟩,⟨P.map Mo.a,9,w,true,true⟩]) Q
theorem Zex {args:List AV} {L:Heap} {v:AV} {K:Heap} (hk:ZaB L.length v K=true) (h:Wp M1 (.run fi19 [.code (cd Try.f19)] (ZaN 0 args) L) (Zat v K)):Ev M1 (.own 19 args L) v K:=
 Zb3 Try.f19 fi19 (by kernel_rfl) (by kernel_rfl) (by kernel_rfl) (by kernel_rfl) hk h
theorem Zef {args:List AV} {L:Heap} {Q:AV->Heap->Prop} (h:Wp M1 (.run fi22 [.code (cd Try.f22)] (ZaN 0 args) L) Q):Wp M1 (.own 22 args L) Q:=
 ZfA Try.f22 fi22 (by kernel_rfl) (by kernel_rfl) (by kernel_rfl) (by kernel_rfl) h
noncomputable abbrev zCxM1 (l:List Mo) (ix:Int) (p:Int) (qx:Int) (qy:Int) (qz:Int):=tu [ag [vi (N.pcM l ix p qx qy qz).x,vi (N.pcM l ix p qx qy qz).y,vi (N.pcM l ix p qx qy qz).z,vi (N.pcM l ix p qx qy qz).u,vi (N.pcM l ix p qx qy qz).v,vi (N.pcM l ix p qx qy qz).w,vi (N.pcM l ix p qx qy qz).r,vi (N.pcM l ix p qx qy qz).t,vi (N.pcM l ix p qx qy qz).b],vb (N.pcB l ix p qx qy qz)]
theorem bk_A (fm:Bool) (l:List Mo) (S A j ix p:Int) (hd br:Bool) (qx qy qz:Int)  (Q:AV->Heap->Prop) (H :
  ((br=true)->Q (tu []) [{ elems:=[ag [AV.vec fm 9 (List.map Mo.a l),vi S,vi A,vi j,vi ix,vi p,AV.vnil,vi 0,vb false,vb hd,vb br,AV.vnil,vi qx,vi qy,vi qz]],es:=15,ver:=0,frozen:=false,clean:=false }]) /\
  (¬(br=true)->(N.okC l ix p) /\
   ((N.pcB l ix p qx qy qz=true)->beEb_at fm l S A j ix p hd br qx qy qz (N.pcM l ix p qx qy qz) ([N.pcM l ix p qx qy qz]) 0 Q) /\
   (¬(N.pcB l ix p qx qy qz=true)->beNb_at fm l S A j ix p hd br qx qy qz (N.pcM l ix p qx qy qz) Q))) :
 bk_A_at fm l S A j ix p hd br qx qy qz Q:=by
 unfold bk_A_at
 rcases xq H with ⟨d2,H⟩|⟨d2,H⟩
 ·exact Zai (G:=Zab kp22 [] []) 1000 [true] (k:=((atC (cd Try.f22) [0,1,0])).tail) (env':=[(0,AV.ptr 0 0 0 0),(7,vb br)]) (L':=[⟨[ag [AV.vec fm 9 (List.map Mo.a l),vi S,vi A,vi j,vi ix,vi p,AV.vnil,vi 0,vb false,vb hd,vb br,AV.vnil,vi qx,vi qy,vi qz]],15,0,false,false⟩]) (asm:=[0==0,(br)==true]) (eqs:=[]) (calls:=[]) (tu []) (by kernel_rfl) (by kernel_rfl) (Zaa (beq_self_eq_true _) (Zaa (Zam ((Zas _).2 d2)) Zae)) Zaf Zag H
 ·obtain ⟨k3,H⟩:=H
  refine Zac (G:=Zab kp22 [(1,1,.call ((zCxM1 l ix p qx qy qz)) none)] []) 10 [false] ⟨(atC (cd Try.f22) [1,0,1,1]),[(0,AV.ptr 0 0 0 0),(2,AV.ptr 1 0 0 0),(13,vb (N.pcB l ix p qx qy qz))],[⟨[ag [AV.vec fm 9 (List.map Mo.a l),vi S,vi A,vi j,vi ix,vi p,AV.vnil,vi 0,vb false,vb hd,vb br,AV.vnil,vi qx,vi qy,vi qz]],15,0,false,false⟩,⟨[ag [vi (N.pcM l ix p qx qy qz).x,vi (N.pcM l ix p qx qy qz).y,vi (N.pcM l ix p qx qy qz).z,vi (N.pcM l ix p qx qy qz).u,vi (N.pcM l ix p qx qy qz).v,vi (N.pcM l ix p qx qy qz).w,vi (N.pcM l ix p qx qy qz).r,vi (N.pcM l ix p qx qy qz).t,vi (N.pcM l ix p qx qy qz).b]],9,0,false,false⟩],[0==0,(br)==false,true],[],[⟨true,true,52,[AV.ptr 0 0 0 0],[⟨[ag [AV.vec fm 9 (List.map Mo.a l),vi S,vi A,vi j,vi ix,vi p,AV.vnil,vi 0,vb false,vb hd,vb br,AV.vnil,vi qx,vi qy,vi qz]],15,0,false,false⟩],(zCxM1 l ix p qx qy qz),[⟨[ag [AV.vec fm 9 (List.map Mo.a l),vi S,vi A,vi j,vi ix,vi p,AV.vnil,vi 0,vb false,vb hd,vb br,AV.vnil,vi qx,vi qy,vi qz]],15,0,false,false⟩]⟩]⟩ (by kernel_rfl) (bc (beq_self_eq_true _) (bc (Zal (fun h=>d2 ((Zas _).1 h))) (bc rfl b0))) q0 (cc (fun _=>(@evo52_a fm l S A j ix p 0 false hd br qx qy qz k3)) c0) ?_
  rcases xq H with ⟨d5,H⟩|⟨d5,H⟩
  ·have w6:[ag [vi (N.pcM l ix p qx qy qz).x,vi (N.pcM l ix p qx qy qz).y,vi (N.pcM l ix p qx qy qz).z,vi (N.pcM l ix p qx qy qz).u,vi (N.pcM l ix p qx qy qz).v,vi (N.pcM l ix p qx qy qz).w,vi (N.pcM l ix p qx qy qz).r,vi (N.pcM l ix p qx qy qz).t,vi (N.pcM l ix p qx qy qz).b]]=List.map Mo.a [N.pcM l ix p qx qy qz]:=rfl
   exact Zac (G:=Zab kp22 [] [(3,[1007])]) 3 [true] ⟨(atC (cd Try.f22) [1,1,0]),[(0,AV.ptr 0 0 0 0)],[⟨[ag [AV.vec fm 9 (List.map Mo.a l),vi S,vi A,vi j,vi ix,vi p,AV.vnil,vi 0,vb false,vb hd,vb br,AV.row 2 0,vi qx,vi qy,vi qz]],15,0,false,false⟩,⟨[ag [vi (N.pcM l ix p qx qy qz).x,vi (N.pcM l ix p qx qy qz).y,vi (N.pcM l ix p qx qy qz).z,vi (N.pcM l ix p qx qy qz).u,vi (N.pcM l ix p qx qy qz).v,vi (N.pcM l ix p qx qy qz).w,vi (N.pcM l ix p qx qy qz).r,vi (N.pcM l ix p qx qy qz).t,vi (N.pcM l ix p qx qy qz).b]],9,0,false,false⟩,⟨[ag [vi (N.pcM l ix p qx qy qz).x,vi (N.pcM l ix p qx qy qz).y,vi (N.pcM l ix p qx qy qz).z,vi (N.pcM l ix p qx qy qz).u,vi (N.pcM l ix p qx qy qz).v,vi (N.pcM l ix p qx qy qz).w,vi (N.pcM l ix p qx qy qz).r,vi (N.pcM l ix p qx qy qz).t,vi (N.pcM l ix p qx qy qz).b]],9,0,false,true⟩],[(N.pcB l ix p qx qy qz)==true,true,true,true,true],[],_⟩ (by kernel_rfl) (bc (Zam ((Zas _).2 d5)) (bc rfl (bc rfl (bc rfl (bc rfl b0))))) q0 c0 (by (try rw [w6]);all_goals exact H)
  ·exact Zac (G:=Zab kp22 [] []) 3 [false] ⟨(atC (cd Try.f22) [1,1,0]),[(0,AV.ptr 0 0 0 0),(2,AV.ptr 1 0 0 0),(13,vb (N.pcB l ix p qx qy qz))],[⟨[ag [AV.vec fm 9 (List.map Mo.a l),vi S,vi A,vi j,vi ix,vi p,AV.vnil,vi 0,vb false,vb hd,vb br,AV.vnil,vi qx,vi qy,vi qz]],15,0,false,false⟩,⟨[ag [vi (N.pcM l ix p qx qy qz).x,vi (N.pcM l ix p qx qy qz).y,vi (N.pcM l ix p qx qy qz).z,vi (N.pcM l ix p qx qy qz).u,vi (N.pcM l ix p qx qy qz).v,vi (N.pcM l ix p qx qy qz).w,vi (N.pcM l ix p qx qy qz).r,vi (N.pcM l ix p qx qy qz).t,vi (N.pcM l ix p qx qy qz).b]],9,0,false,false⟩],[(N.pcB l ix p qx qy qz)==false],[],_⟩ (by kernel_rfl) (bc (Zal (fun h=>d5 ((Zas _).1 h))) b0) q0 c0 (Wp.less [0] H)
noncomputable abbrev zCxM2 (l:List Mo) (ix:Int) (p:Int) (qx:Int) (qy:Int) (qz:Int):=tu [ag [vi (N.pcM l ix p qx qy qz).x,vi (N.pcM l ix p qx qy qz).y,vi (N.pcM l ix p qx qy qz).z,vi (N.pcM l ix p qx qy qz).u,vi (N.pcM l ix p qx qy qz).v,vi (N.pcM l ix p qx qy qz).w,vi (N.pcM l ix p qx qy qz).r,vi (N.pcM l ix p qx qy qz).t,vi (N.pcM l ix p qx qy qz).b],vb (N.pcB l ix p qx qy qz)]
theorem bk_B (fm:Bool) (l:List Mo) (S A j ix p:Int) (hd br:Bool) (qx qy qz:Int) (P:List Mo) (w:Nat)  (Q:AV->Heap->Prop) (H :
  ((br=true)->Q (tu []) [{ elems:=[ag [AV.vec fm 9 (List.map Mo.a l),vi S,vi A,vi j,vi ix,vi p,AV.vnil,vi 0,vb false,vb hd,vb br,AV.row 1 w,vi qx,vi qy,vi qz]],es:=15,ver:=0,frozen:=false,clean:=false },{ elems:=List.map Mo.a P,es:=9,ver:=w,frozen:=false,clean:=true }]) /\
  (¬(br=true)->(N.okC l ix p) /\
   ((N.pcB l ix p qx qy qz=true)->((P.length+1)*72<=1099511627776) /\
    beWb_at fm l S A j ix p hd br qx qy qz (N.pcM l ix p qx qy qz) (P++[N.pcM l ix p qx qy qz]) (w+1) Q) /\
   (¬(N.pcB l ix p qx qy qz=true)->beWb_at fm l S A j ix p hd br qx qy qz (N.pcM l ix p qx qy qz) P w Q))) :
 bk_B_at fm l S A j ix p hd br qx qy qz P w Q:=by
 unfold bk_B_at
 rcases xq H with ⟨d2,H⟩|⟨d2,H⟩
 ·exact Zai (G:=Zab kp22 [] []) 1000 [true] (k:=((atC (cd Try.f22) [0,1,0])).tail) (env':=[(0,AV.ptr 0 0 0 0),(7,vb br)]) (L':=[⟨[ag [AV.vec fm 9 (List.map Mo.a l),vi S,vi A,vi j,vi ix,vi p,AV.vnil,vi 0,vb false,vb hd,vb br,AV.row 1 w,vi qx,vi qy,vi qz]],15,0,false,false⟩,⟨List.map Mo.a P,9,w,false,true⟩]) (asm:=[0==0,(br)==true]) (eqs:=[]) (calls:=[]) (tu []) (by kernel_rfl) (by kernel_rfl) (Zaa (beq_self_eq_true _) (Zaa (Zam ((Zas _).2 d2)) Zae)) Zaf Zag H
 ·obtain ⟨k3,H⟩:=H
  refine Zac (G:=Zab kp22 [(1,1,.call ((zCxM2 l ix p qx qy qz)) none)] []) 10 [false] ⟨(atC (cd Try.f22) [1,0,1,1]),[(0,AV.ptr 0 0 0 0),(2,AV.ptr 2 0 0 0),(13,vb (N.pcB l ix p qx qy qz))],[⟨[ag [AV.vec fm 9 (List.map Mo.a l),vi S,vi A,vi j,vi ix,vi p,AV.vnil,vi 0,vb false,vb hd,vb br,AV.row 1 w,vi qx,vi qy,vi qz]],15,0,false,false⟩,⟨List.map Mo.a P,9,w,false,true⟩,⟨[ag [vi (N.pcM l ix p qx qy qz).x,vi (N.pcM l ix p qx qy qz).y,vi (N.pcM l ix p qx qy qz).z,vi (N.pcM l ix p qx qy qz).u,vi (N.pcM l ix p qx qy qz).v,vi (N.pcM l ix p qx qy qz).w,vi (N.pcM l ix p qx qy qz).r,vi (N.pcM l ix p qx qy qz).t,vi (N.pcM l ix p qx qy qz).b]],9,0,false,false⟩],[0==0,(br)==false,true],[],[⟨true,true,52,[AV.ptr 0 0 0 0],[⟨[ag [AV.vec fm 9 (List.map Mo.a l),vi S,vi A,vi j,vi ix,vi p,AV.vnil,vi 0,vb false,vb hd,vb br,AV.row 1 w,vi qx,vi qy,vi qz]],15,0,false,false⟩,⟨List.map Mo.a P,9,w,false,true⟩],(zCxM2 l ix p qx qy qz),[⟨[ag [AV.vec fm 9 (List.map Mo.a l),vi S,vi A,vi j,vi ix,vi p,AV.vnil,vi 0,vb false,vb hd,vb br,AV.row 1 w,vi qx,vi qy,vi qz]],15,0,false,false⟩,⟨List.map Mo.a P,9,w,false,true⟩]⟩]⟩ (by kernel_rfl) (bc (beq_self_eq_true _) (bc (Zal (fun h=>d2 ((Zas _).1 h))) (bc rfl b0))) q0 (cc (fun _=>(@evo52_b fm l S A j ix p 0 false hd br qx qy qz P w false k3)) c0) ?_
  rcases xq H with ⟨d5,H⟩|⟨d5,H⟩
  ·have w6:(List.map Mo.a P).length=P.length:=List.length_map ..
   have i7:(decide (((List.map Mo.a P).length+1)*72<=1099511627776))=true ↔ ((P.length+1)*72<=1099511627776):=(by (try rw [w6]);all_goals exact Zad)
   obtain ⟨k8,H⟩:=H
   have w9:List.map Mo.a P++[ag [vi (N.pcM l ix p qx qy qz).x,vi (N.pcM l ix p qx qy qz).y,vi (N.pcM l ix p qx qy qz).z,vi (N.pcM l ix p qx qy qz).u,vi (N.pcM l ix p qx qy qz).v,vi (N.pcM l ix p qx qy qz).w,vi (N.pcM l ix p qx qy qz).r,vi (N.pcM l ix p qx qy qz).t,vi (N.pcM l ix p qx qy qz).b]]=List.map Mo.a (P++[N.pcM l ix p qx qy qz]):=(Zdd rfl rfl)
   have w10:[ag [vi (N.pcM l ix p qx qy qz).x,vi (N.pcM l ix p qx qy qz).y,vi (N.pcM l ix p qx qy qz).z,vi (N.pcM l ix p qx qy qz).u,vi (N.pcM l ix p qx qy qz).v,vi (N.pcM l ix p qx qy qz).w,vi (N.pcM l ix p qx qy qz).r,vi (N.pcM l ix p qx qy qz).t,vi (N.pcM l ix p qx qy qz).b]]=List.map Mo.a [N.pcM l ix p qx qy qz]:=rfl
   exact Zac (G:=Zab kp22 [] []) 3 [true] ⟨(atC (cd Try.f22) [1,1,0]),[(0,AV.ptr 0 0 0 0)],[⟨[ag [AV.vec fm 9 (List.map Mo.a l),vi S,vi A,vi j,vi ix,vi p,AV.vnil,vi 0,vb false,vb hd,vb br,AV.row 1 (w+1),vi qx,vi qy,vi qz]],15,0,false,false⟩,⟨List.map Mo.a P++[ag [vi (N.pcM l ix p qx qy qz).x,vi (N.pcM l ix p qx qy qz).y,vi (N.pcM l ix p qx qy qz).z,vi (N.pcM l ix p qx qy qz).u,vi (N.pcM l ix p qx qy qz).v,vi (N.pcM l ix p qx qy qz).w,vi (N.pcM l ix p qx qy qz).r,vi (N.pcM l ix p qx qy qz).t,vi (N.pcM l ix p qx qy qz).b]],9,w+1,false,true⟩,⟨[ag [vi (N.pcM l ix p qx qy qz).x,vi (N.pcM l ix p qx qy qz).y,vi (N.pcM l ix p qx qy qz).z,vi (N.pcM l ix p qx qy qz).u,vi (N.pcM l ix p qx qy qz).v,vi (N.pcM l ix p qx qy qz).w,vi (N.pcM l ix p qx qy qz).r,vi (N.pcM l ix p qx qy qz).t,vi (N.pcM l ix p qx qy qz).b]],9,0,false,false⟩],[(N.pcB l ix p qx qy qz)==true,true,true,w==w,decide (((List.map Mo.a P).length+1)*72<=1099511627776),true],[],_⟩ (by kernel_rfl) (bc (Zam ((Zas _).2 d5)) (bc rfl (bc rfl (bc (beq_self_eq_true _) (bc (i7.2 k8) (bc rfl b0)))))) q0 c0 (by (try rw [w9]);(try rw [w10]);all_goals exact H)
  ·have w11:[ag [vi (N.pcM l ix p qx qy qz).x,vi (N.pcM l ix p qx qy qz).y,vi (N.pcM l ix p qx qy qz).z,vi (N.pcM l ix p qx qy qz).u,vi (N.pcM l ix p qx qy qz).v,vi (N.pcM l ix p qx qy qz).w,vi (N.pcM l ix p qx qy qz).r,vi (N.pcM l ix p qx qy qz).t,vi (N.pcM l ix p qx qy qz).b]]=List.map Mo.a [N.pcM l ix p qx qy qz]:=rfl
   exact Zac (G:=Zab kp22 [] []) 3 [false] ⟨(atC (cd Try.f22) [1,1,0]),[(0,AV.ptr 0 0 0 0),(2,AV.ptr 2 0 0 0),(13,vb (N.pcB l ix p qx qy qz))],[⟨[ag [AV.vec fm 9 (List.map Mo.a l),vi S,vi A,vi j,vi ix,vi p,AV.vnil,vi 0,vb false,vb hd,vb br,AV.row 1 w,vi qx,vi qy,vi qz]],15,0,false,false⟩,⟨List.map Mo.a P,9,w,false,true⟩,⟨[ag [vi (N.pcM l ix p qx qy qz).x,vi (N.pcM l ix p qx qy qz).y,vi (N.pcM l ix p qx qy qz).z,vi (N.pcM l ix p qx qy qz).u,vi (N.pcM l ix p qx qy qz).v,vi (N.pcM l ix p qx qy qz).w,vi (N.pcM l ix p qx qy qz).r,vi (N.pcM l ix p qx qy qz).t,vi (N.pcM l ix p qx qy qz).b]],9,0,false,false⟩],[(N.pcB l ix p qx qy qz)==false],[],_⟩ (by kernel_rfl) (bc (Zal (fun h=>d5 ((Zas _).1 h))) b0) q0 c0 (by (try rw [w11]);all_goals exact Wp.less [0] H)
noncomputable abbrev zCxM3 (l:List Mo) (ix:Int) (p:Int) (qx:Int) (qy:Int) (qz:Int):=tu [ag [vi (N.pcM l ix p qx qy qz).x,vi (N.pcM l ix p qx qy qz).y,vi (N.pcM l ix p qx qy qz).z,vi (N.pcM l ix p qx qy qz).u,vi (N.pcM l ix p qx qy qz).v,vi (N.pcM l ix p qx qy qz).w,vi (N.pcM l ix p qx qy qz).r,vi (N.pcM l ix p qx qy qz).t,vi (N.pcM l ix p qx qy qz).b],vb (N.pcB l ix p qx qy qz)]
theorem bk_C (fm:Bool) (l:List Mo) (S A j ix p k:Int) (bk hd br:Bool) (qx qy qz:Int) (X:List Int)  (Q:AV->Heap->Prop) (H :
  ((br=true)->Q (tu []) [{ elems:=[ag [AV.vec fm 9 (List.map Mo.a l),vi S,vi A,vi j,vi ix,vi p,vf (List.map vi X),vi k,vb bk,vb hd,vb br,AV.vnil,vi qx,vi qy,vi qz]],es:=15,ver:=0,frozen:=false,clean:=false }]) /\
  (¬(br=true)->(N.okC l ix p) /\
   ((N.pcB l ix p qx qy qz=true)->beEd_at fm l S A j ix p k bk hd br qx qy qz X (N.pcM l ix p qx qy qz) ([N.pcM l ix p qx qy qz]) 0 Q) /\
   (¬(N.pcB l ix p qx qy qz=true)->beNd_at fm l S A j ix p k bk hd br qx qy qz X (N.pcM l ix p qx qy qz) Q))) :
 bk_C_at fm l S A j ix p k bk hd br qx qy qz X Q:=by
 unfold bk_C_at
 rcases xq H with ⟨d2,H⟩|⟨d2,H⟩
 ·exact Zai (G:=Zab kp22 [] []) 1000 [true] (k:=((atC (cd Try.f22) [0,1,0])).tail) (env':=[(0,AV.ptr 0 0 0 0),(7,vb br)]) (L':=[⟨[ag [AV.vec fm 9 (List.map Mo.a l),vi S,vi A,vi j,vi ix,vi p,vf (List.map vi X),vi k,vb bk,vb hd,vb br,AV.vnil,vi qx,vi qy,vi qz]],15,0,false,false⟩]) (asm:=[0==0,(br)==true]) (eqs:=[]) (calls:=[]) (tu []) (by kernel_rfl) (by kernel_rfl) (Zaa (beq_self_eq_true _) (Zaa (Zam ((Zas _).2 d2)) Zae)) Zaf Zag H
 ·obtain ⟨k3,H⟩:=H
  refine Zac (G:=Zab kp22 [(1,1,.call ((zCxM3 l ix p qx qy qz)) none)] []) 10 [false] ⟨(atC (cd Try.f22) [1,0,1,1]),[(0,AV.ptr 0 0 0 0),(2,AV.ptr 1 0 0 0),(13,vb (N.pcB l ix p qx qy qz))],[⟨[ag [AV.vec fm 9 (List.map Mo.a l),vi S,vi A,vi j,vi ix,vi p,vf (List.map vi X),vi k,vb bk,vb hd,vb br,AV.vnil,vi qx,vi qy,vi qz]],15,0,false,false⟩,⟨[ag [vi (N.pcM l ix p qx qy qz).x,vi (N.pcM l ix p qx qy qz).y,vi (N.pcM l ix p qx qy qz).z,vi (N.pcM l ix p qx qy qz).u,vi (N.pcM l ix p qx qy qz).v,vi (N.pcM l ix p qx qy qz).w,vi (N.pcM l ix p qx qy qz).r,vi (N.pcM l ix p qx qy qz).t,vi (N.pcM l ix p qx qy qz).b]],9,0,false,false⟩],[0==0,(br)==false,true],[],[⟨true,true,52,[AV.ptr 0 0 0 0],[⟨[ag [AV.vec fm 9 (List.map Mo.a l),vi S,vi A,vi j,vi ix,vi p,vf (List.map vi X),vi k,vb bk,vb hd,vb br,AV.vnil,vi qx,vi qy,vi qz]],15,0,false,false⟩],(zCxM3 l ix p qx qy qz),[⟨[ag [AV.vec fm 9 (List.map Mo.a l),vi S,vi A,vi j,vi ix,vi p,vf (List.map vi X),vi k,vb bk,vb hd,vb br,AV.vnil,vi qx,vi qy,vi qz]],15,0,false,false⟩]⟩]⟩ (by kernel_rfl) (bc (beq_self_eq_true _) (bc (Zal (fun h=>d2 ((Zas _).1 h))) (bc rfl b0))) q0 (cc (fun _=>(@evo52_c fm l S A j ix p k bk hd br qx qy qz X k3)) c0) ?_
  rcases xq H with ⟨d5,H⟩|⟨d5,H⟩
  ·have w6:[ag [vi (N.pcM l ix p qx qy qz).x,vi (N.pcM l ix p qx qy qz).y,vi (N.pcM l ix p qx qy qz).z,vi (N.pcM l ix p qx qy qz).u,vi (N.pcM l ix p qx qy qz).v,vi (N.pcM l ix p qx qy qz).w,vi (N.pcM l ix p qx qy qz).r,vi (N.pcM l ix p qx qy qz).t,vi (N.pcM l ix p qx qy qz).b]]=List.map Mo.a [N.pcM l ix p qx qy qz]:=rfl
   exact Zac (G:=Zab kp22 [] [(3,[1007])]) 3 [true] ⟨(atC (cd Try.f22) [1,1,0]),[(0,AV.ptr 0 0 0 0)],[⟨[ag [AV.vec fm 9 (List.map Mo.a l),vi S,vi A,vi j,vi ix,vi p,vf (List.map vi X),vi k,vb bk,vb hd,vb br,AV.row 2 0,vi qx,vi qy,vi qz]],15,0,false,false⟩,⟨[ag [vi (N.pcM l ix p qx qy qz).x,vi (N.pcM l ix p qx qy qz).y,vi (N.pcM l ix p qx qy qz).z,vi (N.pcM l ix p qx qy qz).u,vi (N.pcM l ix p qx qy qz).v,vi (N.pcM l ix p qx qy qz).w,vi (N.pcM l ix p qx qy qz).r,vi (N.pcM l ix p qx qy qz).t,vi (N.pcM l ix p qx qy qz).b]],9,0,false,false⟩,⟨[ag [vi (N.pcM l ix p qx qy qz).x,vi (N.pcM l ix p qx qy qz).y,vi (N.pcM l ix p qx qy qz).z,vi (N.pcM l ix p qx qy qz).u,vi (N.pcM l ix p qx qy qz).v,vi (N.pcM l ix p qx qy qz).w,vi (N.pcM l ix p qx qy qz).r,vi (N.pcM l ix p qx qy qz).t,vi (N.pcM l ix p qx qy qz).b]],9,0,false,true⟩],[(N.pcB l ix p qx qy qz)==true,true,true,true,true],[],_⟩ (by kernel_rfl) (bc (Zam ((Zas _).2 d5)) (bc rfl (bc rfl (bc rfl (bc rfl b0))))) q0 c0 (by (try rw [w6]);all_goals exact H)
  ·exact Zac (G:=Zab kp22 [] []) 3 [false] ⟨(atC (cd Try.f22) [1,1,0]),[(0,AV.ptr 0 0 0 0),(2,AV.ptr 1 0 0 0),(13,vb (N.pcB l ix p qx qy qz))],[⟨[ag [AV.vec fm 9 (List.map Mo.a l),vi S,vi A,vi j,vi ix,vi p,vf (List.map vi X),vi k,vb bk,vb hd,vb br,AV.vnil,vi qx,vi qy,vi qz]],15,0,false,false⟩,⟨[ag [vi (N.pcM l ix p qx qy qz).x,vi (N.pcM l ix p qx qy qz).y,vi (N.pcM l ix p qx qy qz).z,vi (N.pcM l ix p qx qy qz).u,vi (N.pcM l ix p qx qy qz).v,vi (N.pcM l ix p qx qy qz).w,vi (N.pcM l ix p qx qy qz).r,vi (N.pcM l ix p qx qy qz).t,vi (N.pcM l ix p qx qy qz).b]],9,0,false,false⟩],[(N.pcB l ix p qx qy qz)==false],[],_⟩ (by kernel_rfl) (bc (Zal (fun h=>d5 ((Zas _).1 h))) b0) q0 c0 (Wp.less [0] H)
noncomputable abbrev zCxM4 (l:List Mo) (ix:Int) (p:Int) (qx:Int) (qy:Int) (qz:Int):=tu [ag [vi (N.pcM l ix p qx qy qz).x,vi (N.pcM l ix p qx qy qz).y,vi (N.pcM l ix p qx qy qz).z,vi (N.pcM l ix p qx qy qz).u,vi (N.pcM l ix p qx qy qz).v,vi (N.pcM l ix p qx qy qz).w,vi (N.pcM l ix p qx qy qz).r,vi (N.pcM l ix p qx qy qz).t,vi (N.pcM l ix p qx qy qz).b],vb (N.pcB l ix p qx qy qz)]
theorem bk_D (fm:Bool) (l:List Mo) (S A j ix p k:Int) (bk hd br:Bool) (qx qy qz:Int) (X:List Int) (P:List Mo) (w:Nat)  (Q:AV->Heap->Prop) (H :
  ((br=true)->Q (tu []) [{ elems:=[ag [AV.vec fm 9 (List.map Mo.a l),vi S,vi A,vi j,vi ix,vi p,vf (List.map vi X),vi k,vb bk,vb hd,vb br,AV.row 1 w,vi qx,vi qy,vi qz]],es:=15,ver:=0,frozen:=false,clean:=false },{ elems:=List.map Mo.a P,es:=9,ver:=w,frozen:=false,clean:=true }]) /\
  (¬(br=true)->(N.okC l ix p) /\
   ((N.pcB l ix p qx qy qz=true)->((P.length+1)*72<=1099511627776) /\
    beWd_at fm l S A j ix p k bk hd br qx qy qz X (N.pcM l ix p qx qy qz) (P++[N.pcM l ix p qx qy qz]) (w+1) Q) /\
   (¬(N.pcB l ix p qx qy qz=true)->beWd_at fm l S A j ix p k bk hd br qx qy qz X (N.pcM l ix p qx qy qz) P w Q))) :
 bk_D_at fm l S A j ix p k bk hd br qx qy qz X P w Q:=by
 unfold bk_D_at
 rcases xq H with ⟨d2,H⟩|⟨d2,H⟩
 ·exact Zai (G:=Zab kp22 [] []) 1000 [true] (k:=((atC (cd Try.f22) [0,1,0])).tail) (env':=[(0,AV.ptr 0 0 0 0),(7,vb br)]) (L':=[⟨[ag [AV.vec fm 9 (List.map Mo.a l),vi S,vi A,vi j,vi ix,vi p,vf (List.map vi X),vi k,vb bk,vb hd,vb br,AV.row 1 w,vi qx,vi qy,vi qz]],15,0,false,false⟩,⟨List.map Mo.a P,9,w,false,true⟩]) (asm:=[0==0,(br)==true]) (eqs:=[]) (calls:=[]) (tu []) (by kernel_rfl) (by kernel_rfl) (Zaa (beq_self_eq_true _) (Zaa (Zam ((Zas _).2 d2)) Zae)) Zaf Zag H
 ·obtain ⟨k3,H⟩:=H
  refine Zac (G:=Zab kp22 [(1,1,.call ((zCxM4 l ix p qx qy qz)) none)] []) 10 [false] ⟨(atC (cd Try.f22) [1,0,1,1]),[(0,AV.ptr 0 0 0 0),(2,AV.ptr 2 0 0 0),(13,vb (N.pcB l ix p qx qy qz))],[⟨[ag [AV.vec fm 9 (List.map Mo.a l),vi S,vi A,vi j,vi ix,vi p,vf (List.map vi X),vi k,vb bk,vb hd,vb br,AV.row 1 w,vi qx,vi qy,vi qz]],15,0,false,false⟩,⟨List.map Mo.a P,9,w,false,true⟩,⟨[ag [vi (N.pcM l ix p qx qy qz).x,vi (N.pcM l ix p qx qy qz).y,vi (N.pcM l ix p qx qy qz).z,vi (N.pcM l ix p qx qy qz).u,vi (N.pcM l ix p qx qy qz).v,vi (N.pcM l ix p qx qy qz).w,vi (N.pcM l ix p qx qy qz).r,vi (N.pcM l ix p qx qy qz).t,vi (N.pcM l ix p qx qy qz).b]],9,0,false,false⟩],[0==0,(br)==false,true],[],[⟨true,true,52,[AV.ptr 0 0 0 0],[⟨[ag [AV.vec fm 9 (List.map Mo.a l),vi S,vi A,vi j,vi ix,vi p,vf (List.map vi X),vi k,vb bk,vb hd,vb br,AV.row 1 w,vi qx,vi qy,vi qz]],15,0,false,false⟩,⟨List.map Mo.a P,9,w,false,true⟩],(zCxM4 l ix p qx qy qz),[⟨[ag [AV.vec fm 9 (List.map Mo.a l),vi S,vi A,vi j,vi ix,vi p,vf (List.map vi X),vi k,vb bk,vb hd,vb br,AV.row 1 w,vi qx,vi qy,vi qz]],15,0,false,false⟩,⟨List.map Mo.a P,9,w,false,true⟩]⟩]⟩ (by kernel_rfl) (bc (beq_self_eq_true _) (bc (Zal (fun h=>d2 ((Zas _).1 h))) (bc rfl b0))) q0 (cc (fun _=>(@evo52_d fm l S A j ix p k bk hd br qx qy qz X P w false k3)) c0) ?_
  rcases xq H with ⟨d5,H⟩|⟨d5,H⟩
  ·have w6:(List.map Mo.a P).length=P.length:=List.length_map ..
   have i7:(decide (((List.map Mo.a P).length+1)*72<=1099511627776))=true ↔ ((P.length+1)*72<=1099511627776):=(by (try rw [w6]);all_goals exact Zad)
   obtain ⟨k8,H⟩:=H
   have w9:List.map Mo.a P++[ag [vi (N.pcM l ix p qx qy qz).x,vi (N.pcM l ix p qx qy qz).y,vi (N.pcM l ix p qx qy qz).z,vi (N.pcM l ix p qx qy qz).u,vi (N.pcM l ix p qx qy qz).v,vi (N.pcM l ix p qx qy qz).w,vi (N.pcM l ix p qx qy qz).r,vi (N.pcM l ix p qx qy qz).t,vi (N.pcM l ix p qx qy qz).b]]=List.map Mo.a (P++[N.pcM l ix p qx qy qz]):=(Zdd rfl rfl)
   have w10:[ag [vi (N.pcM l ix p qx qy qz).x,vi (N.pcM l ix p qx qy qz).y,vi (N.pcM l ix p qx qy qz).z,vi (N.pcM l ix p qx qy qz).u,vi (N.pcM l ix p qx qy qz).v,vi (N.pcM l ix p qx qy qz).w,vi (N.pcM l ix p qx qy qz).r,vi (N.pcM l ix p qx qy qz).t,vi (N.pcM l ix p qx qy qz).b]]=List.map Mo.a [N.pcM l ix p qx qy qz]:=rfl
   exact Zac (G:=Zab kp22 [] []) 3 [true] ⟨(atC (cd Try.f22) [1,1,0]),[(0,AV.ptr 0 0 0 0)],[⟨[ag [AV.vec fm 9 (List.map Mo.a l),vi S,vi A,vi j,vi ix,vi p,vf (List.map vi X),vi k,vb bk,vb hd,vb br,AV.row 1 (w+1),vi qx,vi qy,vi qz]],15,0,false,false⟩,⟨List.map Mo.a P++[ag [vi (N.pcM l ix p qx qy qz).x,vi (N.pcM l ix p qx qy qz).y,vi (N.pcM l ix p qx qy qz).z,vi (N.pcM l ix p qx qy qz).u,vi (N.pcM l ix p qx qy qz).v,vi (N.pcM l ix p qx qy qz).w,vi (N.pcM l ix p qx qy qz).r,vi (N.pcM l ix p qx qy qz).t,vi (N.pcM l ix p qx qy qz).b]],9,w+1,false,true⟩,⟨[ag [vi (N.pcM l ix p qx qy qz).x,vi (N.pcM l ix p qx qy qz).y,vi (N.pcM l ix p qx qy qz).z,vi (N.pcM l ix p qx qy qz).u,vi (N.pcM l ix p qx qy qz).v,vi (N.pcM l ix p qx qy qz).w,vi (N.pcM l ix p qx qy qz).r,vi (N.pcM l ix p qx qy qz).t,vi (N.pcM l ix p qx qy qz).b]],9,0,false,false⟩],[(N.pcB l ix p qx qy qz)==true,true,true,w==w,decide (((List.map Mo.a P).length+1)*72<=1099511627776),true],[],_⟩ (by kernel_rfl) (bc (Zam ((Zas _).2 d5)) (bc rfl (bc rfl (bc (beq_self_eq_true _) (bc (i7.2 k8) (bc rfl b0)))))) q0 c0 (by (try rw [w9]);(try rw [w10]);all_goals exact H)
  ·have w11:[ag [vi (N.pcM l ix p qx qy qz).x,vi (N.pcM l ix p qx qy qz).y,vi (N.pcM l ix p qx qy qz).z,vi (N.pcM l ix p qx qy qz).u,vi (N.pcM l ix p qx qy qz).v,vi (N.pcM l ix p qx qy qz).w,vi (N.pcM l ix p qx qy qz).r,vi (N.pcM l ix p qx qy qz).t,vi (N.pcM l ix p qx qy qz).b]]=List.map Mo.a [N.pcM l ix p qx qy qz]:=rfl
   exact Zac (G:=Zab kp22 [] []) 3 [false] ⟨(atC (cd Try.f22) [1,1,0]),[(0,AV.ptr 0 0 0 0),(2,AV.ptr 2 0 0 0),(13,vb (N.pcB l ix p qx qy qz))],[⟨[ag [AV.vec fm 9 (List.map Mo.a l),vi S,vi A,vi j,vi ix,vi p,vf (List.map vi X),vi k,vb bk,vb hd,vb br,AV.row 1 w,vi qx,vi qy,vi qz]],15,0,false,false⟩,⟨List.map Mo.a P,9,w,false,true⟩,⟨[ag [vi (N.pcM l ix p qx qy qz).x,vi (N.pcM l ix p qx qy qz).y,vi (N.pcM l ix p qx qy qz).z,vi (N.pcM l ix p qx qy qz).u,vi (N.pcM l ix p qx qy qz).v,vi (N.pcM l ix p qx qy qz).w,vi (N.pcM l ix p qx qy qz).r,vi (N.pcM l ix p qx qy qz).t,vi (N.pcM l ix p qx qy qz).b]],9,0,false,false⟩],[(N.pcB l ix p qx qy qz)==false],[],_⟩ (by kernel_rfl) (bc (Zal (fun h=>d5 ((Zas _).1 h))) b0) q0 c0 (by (try rw [w11]);all_goals exact Wp.less [0] H)
theorem beEb (fm:Bool) (l:List Mo) (S A j ix p:Int) (hd br:Bool) (qx qy qz:Int) (m:Mo) (P:List Mo) (w:Nat)  (Q:AV->Heap->Prop) (H :
  (N.okC l ix p) /\
  Q (tu []) [{ elems:=[ag [AV.vec fm 9 (List.map Mo.a l),vi S,vi A,vi j,vi ix,vi p,AV.vnil,vi 0,vb false,vb false,vb true,AV.row 2 w,vi (N.pox l ix p),vi (N.poy l ix p),vi (N.poz l ix p)]],es:=15,ver:=0,frozen:=false,clean:=false },{ elems:=[ag [vi m.x,vi m.y,vi m.z,vi m.u,vi m.v,vi m.w,vi m.r,vi m.t,vi m.b]],es:=9,ver:=0,frozen:=false,clean:=false },{ elems:=List.map Mo.a P,es:=9,ver:=w,frozen:=false,clean:=true }]) :
 beEb_at fm l S A j ix p hd br qx qy qz m P w Q:=by
 unfold beEb_at
 obtain ⟨k1,H⟩:=H
 exact Zbc (G:=Zab kp22 [(4,2,.call (ag [vi (N.pox l ix p),vi (N.poy l ix p),vi (N.poz l ix p)]) none)] []) 1000 [] (env':=[]) (L':=[⟨[ag [AV.vec fm 9 (List.map Mo.a l),vi S,vi A,vi j,vi ix,vi p,AV.vnil,vi 0,vb false,vb false,vb true,AV.row 2 w,vi (N.pox l ix p),vi (N.poy l ix p),vi (N.poz l ix p)]],15,0,false,false⟩,⟨[ag [vi m.x,vi m.y,vi m.z,vi m.u,vi m.v,vi m.w,vi m.r,vi m.t,vi m.b]],9,0,false,false⟩,⟨List.map Mo.a P,9,w,false,true⟩]) (asm:=[0==0,true,true,true,true,true]) (eqs:=[]) (calls:=[⟨true,true,13,[AV.ptr 0 0 0 0],[⟨[ag [AV.vec fm 9 (List.map Mo.a l),vi S,vi A,vi j,vi ix,vi p,AV.vnil,vi 0,vb false,vb hd,vb br,AV.row 1 w,vi qx,vi qy,vi qz]],15,0,false,false⟩,⟨List.map Mo.a P,9,w,false,true⟩],ag [vi (N.pox l ix p),vi (N.poy l ix p),vi (N.poz l ix p)],[⟨[ag [AV.vec fm 9 (List.map Mo.a l),vi S,vi A,vi j,vi ix,vi p,AV.vnil,vi 0,vb false,vb hd,vb br,AV.row 1 w,vi qx,vi qy,vi qz]],15,0,false,false⟩,⟨List.map Mo.a P,9,w,false,true⟩]⟩]) (tu []) (by kernel_rfl) (by kernel_rfl) (Zaa (beq_self_eq_true _) (Zaa rfl (Zaa rfl (Zaa rfl (Zaa rfl (Zaa rfl Zae)))))) Zaf (Zaq (fun _=>(@ZdP fm l S A j ix p 0 false hd br qx qy qz P w false k1)) Zag) H
theorem beNb (fm:Bool) (l:List Mo) (S A j ix p:Int) (hd br:Bool) (qx qy qz:Int) (m:Mo)  (Q:AV->Heap->Prop) (H :
  (N.okC l ix p) /\
  Q (tu []) [{ elems:=[ag [AV.vec fm 9 (List.map Mo.a l),vi S,vi A,vi j,vi ix,vi p,AV.vnil,vi 0,vb false,vb false,vb true,AV.vnil,vi (N.pox l ix p),vi (N.poy l ix p),vi (N.poz l ix p)]],es:=15,ver:=0,frozen:=false,clean:=false },{ elems:=[ag [vi m.x,vi m.y,vi m.z,vi m.u,vi m.v,vi m.w,vi m.r,vi m.t,vi m.b]],es:=9,ver:=0,frozen:=false,clean:=false }]) :
 beNb_at fm l S A j ix p hd br qx qy qz m Q:=by
 unfold beNb_at
 obtain ⟨k1,H⟩:=H
 exact Zbc (G:=Zab kp22 [(4,2,.call (ag [vi (N.pox l ix p),vi (N.poy l ix p),vi (N.poz l ix p)]) none)] []) 1000 [] (env':=[]) (L':=[⟨[ag [AV.vec fm 9 (List.map Mo.a l),vi S,vi A,vi j,vi ix,vi p,AV.vnil,vi 0,vb false,vb false,vb true,AV.vnil,vi (N.pox l ix p),vi (N.poy l ix p),vi (N.poz l ix p)]],15,0,false,false⟩,⟨[ag [vi m.x,vi m.y,vi m.z,vi m.u,vi m.v,vi m.w,vi m.r,vi m.t,vi m.b]],9,0,false,false⟩]) (asm:=[0==0,true,true,true,true,true]) (eqs:=[]) (calls:=[⟨true,true,13,[AV.ptr 0 0 0 0],[⟨[ag [AV.vec fm 9 (List.map Mo.a l),vi S,vi A,vi j,vi ix,vi p,AV.vnil,vi 0,vb false,vb hd,vb br,AV.vnil,vi qx,vi qy,vi qz]],15,0,false,false⟩],ag [vi (N.pox l ix p),vi (N.poy l ix p),vi (N.poz l ix p)],[⟨[ag [AV.vec fm 9 (List.map Mo.a l),vi S,vi A,vi j,vi ix,vi p,AV.vnil,vi 0,vb false,vb hd,vb br,AV.vnil,vi qx,vi qy,vi qz]],15,0,false,false⟩]⟩]) (tu []) (by kernel_rfl) (by kernel_rfl) (Zaa (beq_self_eq_true _) (Zaa rfl (Zaa rfl (Zaa rfl (Zaa rfl (Zaa rfl Zae)))))) Zaf (Zaq (fun _=>(@ZfS fm l S A j ix p 0 false hd br qx qy qz k1)) Zag) H
theorem beWb (fm:Bool) (l:List Mo) (S A j ix p:Int) (hd br:Bool) (qx qy qz:Int) (m:Mo) (P:List Mo) (w:Nat)  (Q:AV->Heap->Prop) (H :
  (N.okC l ix p) /\
  Q (tu []) [{ elems:=[ag [AV.vec fm 9 (List.map Mo.a l),vi S,vi A,vi j,vi ix,vi p,AV.vnil,vi 0,vb false,vb false,vb true,AV.row 1 w,vi (N.pox l ix p),vi (N.poy l ix p),vi (N.poz l ix p)]],es:=15,ver:=0,frozen:=false,clean:=false },{ elems:=List.map Mo.a P,es:=9,ver:=w,frozen:=false,clean:=true },{ elems:=[ag [vi m.x,vi m.y,vi m.z,vi m.u,vi m.v,vi m.w,vi m.r,vi m.t,vi m.b]],es:=9,ver:=0,frozen:=false,clean:=false }]) :
 beWb_at fm l S A j ix p hd br qx qy qz m P w Q:=by
 unfold beWb_at
 obtain ⟨k1,H⟩:=H
 exact Zbc (G:=Zab kp22 [(4,2,.call (ag [vi (N.pox l ix p),vi (N.poy l ix p),vi (N.poz l ix p)]) none)] []) 1000 [] (env':=[]) (L':=[⟨[ag [AV.vec fm 9 (List.map Mo.a l),vi S,vi A,vi j,vi ix,vi p,AV.vnil,vi 0,vb false,vb false,vb true,AV.row 1 w,vi (N.pox l ix p),vi (N.poy l ix p),vi (N.poz l ix p)]],15,0,false,false⟩,⟨List.map Mo.a P,9,w,false,true⟩,⟨[ag [vi m.x,vi m.y,vi m.z,vi m.u,vi m.v,vi m.w,vi m.r,vi m.t,vi m.b]],9,0,false,false⟩]) (asm:=[0==0,true,true,true,true,true]) (eqs:=[]) (calls:=[⟨true,true,13,[AV.ptr 0 0 0 0],[⟨[ag [AV.vec fm 9 (List.map Mo.a l),vi S,vi A,vi j,vi ix,vi p,AV.vnil,vi 0,vb false,vb hd,vb br,AV.row 1 w,vi qx,vi qy,vi qz]],15,0,false,false⟩,⟨List.map Mo.a P,9,w,false,true⟩],ag [vi (N.pox l ix p),vi (N.poy l ix p),vi (N.poz l ix p)],[⟨[ag [AV.vec fm 9 (List.map Mo.a l),vi S,vi A,vi j,vi ix,vi p,AV.vnil,vi 0,vb false,vb hd,vb br,AV.row 1 w,vi qx,vi qy,vi qz]],15,0,false,false⟩,⟨List.map Mo.a P,9,w,false,true⟩]⟩]) (tu []) (by kernel_rfl) (by kernel_rfl) (Zaa (beq_self_eq_true _) (Zaa rfl (Zaa rfl (Zaa rfl (Zaa rfl (Zaa rfl Zae)))))) Zaf (Zaq (fun _=>(@ZdP fm l S A j ix p 0 false hd br qx qy qz P w false k1)) Zag) H
theorem beEd (fm:Bool) (l:List Mo) (S A j ix p k:Int) (bk hd br:Bool) (qx qy qz:Int) (X:List Int) (m:Mo) (P:List Mo) (w:Nat)  (Q:AV->Heap->Prop) (H :
  (N.okC l ix p) /\
  Q (tu []) [{ elems:=[ag [AV.vec fm 9 (List.map Mo.a l),vi S,vi A,vi j,vi ix,vi p,AV.vnil,vi 0,vb false,vb false,vb true,AV.row 2 w,vi (N.pox l ix p),vi (N.poy l ix p),vi (N.poz l ix p)]],es:=15,ver:=0,frozen:=false,clean:=false },{ elems:=[ag [vi m.x,vi m.y,vi m.z,vi m.u,vi m.v,vi m.w,vi m.r,vi m.t,vi m.b]],es:=9,ver:=0,frozen:=false,clean:=false },{ elems:=List.map Mo.a P,es:=9,ver:=w,frozen:=false,clean:=true }]) :
 beEd_at fm l S A j ix p k bk hd br qx qy qz X m P w Q:=by
 unfold beEd_at
 obtain ⟨k1,H⟩:=H
 exact Zbc (G:=Zab kp22 [(4,2,.call (ag [vi (N.pox l ix p),vi (N.poy l ix p),vi (N.poz l ix p)]) none)] []) 1000 [] (env':=[]) (L':=[⟨[ag [AV.vec fm 9 (List.map Mo.a l),vi S,vi A,vi j,vi ix,vi p,AV.vnil,vi 0,vb false,vb false,vb true,AV.row 2 w,vi (N.pox l ix p),vi (N.poy l ix p),vi (N.poz l ix p)]],15,0,false,false⟩,⟨[ag [vi m.x,vi m.y,vi m.z,vi m.u,vi m.v,vi m.w,vi m.r,vi m.t,vi m.b]],9,0,false,false⟩,⟨List.map Mo.a P,9,w,false,true⟩]) (asm:=[0==0,true,true,true,true,true]) (eqs:=[]) (calls:=[⟨true,true,13,[AV.ptr 0 0 0 0],[⟨[ag [AV.vec fm 9 (List.map Mo.a l),vi S,vi A,vi j,vi ix,vi p,vf (List.map vi X),vi k,vb bk,vb hd,vb br,AV.row 1 w,vi qx,vi qy,vi qz]],15,0,false,false⟩,⟨List.map Mo.a P,9,w,false,true⟩],ag [vi (N.pox l ix p),vi (N.poy l ix p),vi (N.poz l ix p)],[⟨[ag [AV.vec fm 9 (List.map Mo.a l),vi S,vi A,vi j,vi ix,vi p,vf (List.map vi X),vi k,vb bk,vb hd,vb br,AV.row 1 w,vi qx,vi qy,vi qz]],15,0,false,false⟩,⟨List.map Mo.a P,9,w,false,true⟩]⟩]) (tu []) (by kernel_rfl) (by kernel_rfl) (Zaa (beq_self_eq_true _) (Zaa rfl (Zaa rfl (Zaa rfl (Zaa rfl (Zaa rfl Zae)))))) Zaf (Zaq (fun _=>(@evo13_d fm l S A j ix p k bk hd br qx qy qz X P w false k1)) Zag) H
theorem beNd (fm:Bool) (l:List Mo) (S A j ix p k:Int) (bk hd br:Bool) (qx qy qz:Int) (X:List Int) (m:Mo)  (Q:AV->Heap->Prop) (H :
  (N.okC l ix p) /\
  Q (tu []) [{ elems:=[ag [AV.vec fm 9 (List.map Mo.a l),vi S,vi A,vi j,vi ix,vi p,AV.vnil,vi 0,vb false,vb false,vb true,AV.vnil,vi (N.pox l ix p),vi (N.poy l ix p),vi (N.poz l ix p)]],es:=15,ver:=0,frozen:=false,clean:=false },{ elems:=[ag [vi m.x,vi m.y,vi m.z,vi m.u,vi m.v,vi m.w,vi m.r,vi m.t,vi m.b]],es:=9,ver:=0,frozen:=false,clean:=false }]) :
 beNd_at fm l S A j ix p k bk hd br qx qy qz X m Q:=by
 unfold beNd_at
 obtain ⟨k1,H⟩:=H
 exact Zbc (G:=Zab kp22 [(4,2,.call (ag [vi (N.pox l ix p),vi (N.poy l ix p),vi (N.poz l ix p)]) none)] []) 1000 [] (env':=[]) (L':=[⟨[ag [AV.vec fm 9 (List.map Mo.a l),vi S,vi A,vi j,vi ix,vi p,AV.vnil,vi 0,vb false,vb false,vb true,AV.vnil,vi (N.pox l ix p),vi (N.poy l ix p),vi (N.poz l ix p)]],15,0,false,false⟩,⟨[ag [vi m.x,vi m.y,vi m.z,vi m.u,vi m.v,vi m.w,vi m.r,vi m.t,vi m.b]],9,0,false,false⟩]) (asm:=[0==0,true,true,true,true,true]) (eqs:=[]) (calls:=[⟨true,true,13,[AV.ptr 0 0 0 0],[⟨[ag [AV.vec fm 9 (List.map Mo.a l),vi S,vi A,vi j,vi ix,vi p,vf (List.map vi X),vi k,vb bk,vb hd,vb br,AV.vnil,vi qx,vi qy,vi qz]],15,0,false,false⟩],ag [vi (N.pox l ix p),vi (N.poy l ix p),vi (N.poz l ix p)],[⟨[ag [AV.vec fm 9 (List.map Mo.a l),vi S,vi A,vi j,vi ix,vi p,vf (List.map vi X),vi k,vb bk,vb hd,vb br,AV.vnil,vi qx,vi qy,vi qz]],15,0,false,false⟩]⟩]) (tu []) (by kernel_rfl) (by kernel_rfl) (Zaa (beq_self_eq_true _) (Zaa rfl (Zaa rfl (Zaa rfl (Zaa rfl (Zaa rfl Zae)))))) Zaf (Zaq (fun _=>(@evo13_c fm l S A j ix p k bk hd br qx qy qz X k1)) Zag) H
theorem beWd (fm:Bool) (l:List Mo) (S A j ix p k:Int) (bk hd br:Bool) (qx qy qz:Int) (X:List Int) (m:Mo) (P:List Mo) (w:Nat)  (Q:AV->Heap->Prop) (H :
  (N.okC l ix p) /\
  Q (tu []) [{ elems:=[ag [AV.vec fm 9 (List.map Mo.a l),vi S,vi A,vi j,vi ix,vi p,AV.vnil,vi 0,vb false,vb false,vb true,AV.row 1 w,vi (N.pox l ix p),vi (N.poy l ix p),vi (N.poz l ix p)]],es:=15,ver:=0,frozen:=false,clean:=false },{ elems:=List.map Mo.a P,es:=9,ver:=w,frozen:=false,clean:=true },{ elems:=[ag [vi m.x,vi m.y,vi m.z,vi m.u,vi m.v,vi m.w,vi m.r,vi m.t,vi m.b]],es:=9,ver:=0,frozen:=false,clean:=false }]) :
 beWd_at fm l S A j ix p k bk hd br qx qy qz X m P w Q:=by
 unfold beWd_at
 obtain ⟨k1,H⟩:=H
 exact Zbc (G:=Zab kp22 [(4,2,.call (ag [vi (N.pox l ix p),vi (N.poy l ix p),vi (N.poz l ix p)]) none)] []) 1000 [] (env':=[]) (L':=[⟨[ag [AV.vec fm 9 (List.map Mo.a l),vi S,vi A,vi j,vi ix,vi p,AV.vnil,vi 0,vb false,vb false,vb true,AV.row 1 w,vi (N.pox l ix p),vi (N.poy l ix p),vi (N.poz l ix p)]],15,0,false,false⟩,⟨List.map Mo.a P,9,w,false,true⟩,⟨[ag [vi m.x,vi m.y,vi m.z,vi m.u,vi m.v,vi m.w,vi m.r,vi m.t,vi m.b]],9,0,false,false⟩]) (asm:=[0==0,true,true,true,true,true]) (eqs:=[]) (calls:=[⟨true,true,13,[AV.ptr 0 0 0 0],[⟨[ag [AV.vec fm 9 (List.map Mo.a l),vi S,vi A,vi j,vi ix,vi p,vf (List.map vi X),vi k,vb bk,vb hd,vb br,AV.row 1 w,vi qx,vi qy,vi qz]],15,0,false,false⟩,⟨List.map Mo.a P,9,w,false,true⟩],ag [vi (N.pox l ix p),vi (N.poy l ix p),vi (N.poz l ix p)],[⟨[ag [AV.vec fm 9 (List.map Mo.a l),vi S,vi A,vi j,vi ix,vi p,vf (List.map vi X),vi k,vb bk,vb hd,vb br,AV.row 1 w,vi qx,vi qy,vi qz]],15,0,false,false⟩,⟨List.map Mo.a P,9,w,false,true⟩]⟩]) (tu []) (by kernel_rfl) (by kernel_rfl) (Zaa (beq_self_eq_true _) (Zaa rfl (Zaa rfl (Zaa rfl (Zaa rfl (Zaa rfl Zae)))))) Zaf (Zaq (fun _=>(@evo13_d fm l S A j ix p k bk hd br qx qy qz X P w false k1)) Zag) H
noncomputable abbrev zCxM5 (l:List Mo) (ix:Int) (p:Int) (qx:Int) (qy:Int) (qz:Int):=ag [vi (N.pcM l ix p qx qy qz).x,vi (N.pcM l ix p qx qy qz).y,vi (N.pcM l ix p qx qy qz).z,vi (N.pcM l ix p qx qy qz).u,vi (N.pcM l ix p qx qy qz).v,vi (N.pcM l ix p qx qy qz).w,vi (N.pcM l ix p qx qy qz).r,vi (N.pcM l ix p qx qy qz).t,vi (N.pcM l ix p qx qy qz).b]
theorem dnA (fm:Bool) (l:List Mo) (S A j ix p:Int) (hd br:Bool) (qx qy qz:Int)  (dv:AV) (dK:Heap) (_:ZaB 1 dv dK=true) (H :
  (N.okC l ix p) /\
  (((N.pcB l ix p qx qy qz=true)/\(false=true))->False) /\
  (¬((N.pcB l ix p qx qy qz=true)/\(false=true))->(Zat dv dK) (AV.vec false 9 []) [{ elems:=[ag [AV.vec fm 9 (List.map Mo.a l),vi S,vi A,vi j,vi ix,vi p,AV.vnil,vi 0,vb false,vb hd,vb br,AV.vnil,vi qx,vi qy,vi qz]],es:=15,ver:=0,frozen:=false,clean:=false },{ elems:=[ag [vi (N.pcM l ix p qx qy qz).x,vi (N.pcM l ix p qx qy qz).y,vi (N.pcM l ix p qx qy qz).z,vi (N.pcM l ix p qx qy qz).u,vi (N.pcM l ix p qx qy qz).v,vi (N.pcM l ix p qx qy qz).w,vi (N.pcM l ix p qx qy qz).r,vi (N.pcM l ix p qx qy qz).t,vi (N.pcM l ix p qx qy qz).b]],es:=9,ver:=0,frozen:=false,clean:=false }])) :
 dnA_at fm l S A j ix p hd br qx qy qz (Zat dv dK):=by
 unfold dnA_at
 obtain ⟨k1,H⟩:=H
 refine Zac (G:=Zab kp19 [(1,4,.call (AV.vec false 9 []) none),(2,1,.call (tu [(zCxM5 l ix p qx qy qz),vb (N.pcB l ix p qx qy qz)]) none),(3,3,.call (vb true) none)] []) 9 [] ⟨(atC (cd Try.f19) [1,1,0,1,1]),[(3,AV.vec false 9 []),(4,AV.ptr 1 0 0 0),(21,vb (bif N.pcB l ix p qx qy qz then false else false))],[⟨[ag [AV.vec fm 9 (List.map Mo.a l),vi S,vi A,vi j,vi ix,vi p,AV.vnil,vi 0,vb false,vb hd,vb br,AV.vnil,vi qx,vi qy,vi qz]],15,0,false,false⟩,⟨[(zCxM5 l ix p qx qy qz)],9,0,false,false⟩],_,[],[⟨true,false,41,[AV.vnil],[],AV.vec false 9 [],[]⟩,⟨true,true,52,[AV.ptr 0 0 0 0],[⟨[ag [AV.vec fm 9 (List.map Mo.a l),vi S,vi A,vi j,vi ix,vi p,AV.vnil,vi 0,vb false,vb hd,vb br,AV.vnil,vi qx,vi qy,vi qz]],15,0,false,false⟩],tu [(zCxM5 l ix p qx qy qz),vb (N.pcB l ix p qx qy qz)],[⟨[ag [AV.vec fm 9 (List.map Mo.a l),vi S,vi A,vi j,vi ix,vi p,AV.vnil,vi 0,vb false,vb hd,vb br,AV.vnil,vi qx,vi qy,vi qz]],15,0,false,false⟩]⟩,⟨N.pcB l ix p qx qy qz==true&&true&&true,true,43,[AV.ptr 0 0 0 0],[⟨[ag [AV.vec fm 9 (List.map Mo.a l),vi S,vi A,vi j,vi ix,vi p,AV.vnil,vi 0,vb false,vb hd,vb br,AV.vnil,vi qx,vi qy,vi qz]],15,0,false,false⟩],vb true,[⟨[ag [AV.vec fm 9 (List.map Mo.a l),vi S,vi A,vi j,vi ix,vi p,AV.vnil,vi 0,vb false,vb hd,vb br,AV.vnil,vi qx,vi qy,vi qz]],15,0,false,false⟩]⟩]⟩ (by kernel_rfl) (bc rfl (bc rfl b0)) q0 (cc (fun _=>(@ev41_a )) (cc (fun _=>(@evo52_a fm l S A j ix p 0 false hd br qx qy qz k1)) (cc (fun hc=>((@evo43_a fm l S A j ix p 0 false hd br qx qy qz):Ev M1 (Conf.own 43 [AV.ptr 0 0 0 0] [⟨[ag [AV.vec fm 9 (List.map Mo.a l),vi S,vi A,vi j,vi ix,vi p,AV.vnil,vi 0,vb false,vb hd,vb br,AV.vnil,vi qx,vi qy,vi qz]],15,0,false,false⟩]) (vb true) [⟨[ag [AV.vec fm 9 (List.map Mo.a l),vi S,vi A,vi j,vi ix,vi p,AV.vnil,vi 0,vb false,vb hd,vb br,AV.vnil,vi qx,vi qy,vi qz]],15,0,false,false⟩])) c0))) ?_
 rcases xq H with ⟨d4,H⟩|⟨d4,H⟩
 ·exact False.elim H
 ·exact Zai (G:=Zab kp19 [] []) 1000 [false] (k:=((atC (cd Try.f19) [1,1,1,1])).tail) (env':=[(2,AV.vec false 9 [])]) (L':=[⟨[ag [AV.vec fm 9 (List.map Mo.a l),vi S,vi A,vi j,vi ix,vi p,AV.vnil,vi 0,vb false,vb hd,vb br,AV.vnil,vi qx,vi qy,vi qz]],15,0,false,false⟩,⟨[(zCxM5 l ix p qx qy qz)],9,0,false,false⟩]) (asm:=[(bif N.pcB l ix p qx qy qz then false else false)==false]) (eqs:=[]) (calls:=[]) (AV.vec false 9 []) (by kernel_rfl) (by kernel_rfl) (Zaa (Zal (fun h=>d4 ((Za9 (Zas _) (Zas _)).1 h))) Zae) Zaf Zag H
noncomputable abbrev zCxM6 (l:List Mo) (ix:Int) (p:Int) (qx:Int) (qy:Int) (qz:Int):=ag [vi (N.pcM l ix p qx qy qz).x,vi (N.pcM l ix p qx qy qz).y,vi (N.pcM l ix p qx qy qz).z,vi (N.pcM l ix p qx qy qz).u,vi (N.pcM l ix p qx qy qz).v,vi (N.pcM l ix p qx qy qz).w,vi (N.pcM l ix p qx qy qz).r,vi (N.pcM l ix p qx qy qz).t,vi (N.pcM l ix p qx qy qz).b]
theorem dnB (fm:Bool) (l:List Mo) (S A j ix p:Int) (hd br:Bool) (qx qy qz:Int) (P:List Mo) (w:Nat)  (dv:AV) (dK:Heap) (_:ZaB 2 dv dK=true) (H :
  (N.Zdy P) /\
  (N.okC l ix p) /\
  (((N.pcB l ix p qx qy qz=true)/\(false=true))->False) /\
  (¬((N.pcB l ix p qx qy qz=true)/\(false=true))->(Zat dv dK) (AV.vec false 9 (List.map Mo.a P)) [{ elems:=[ag [AV.vec fm 9 (List.map Mo.a l),vi S,vi A,vi j,vi ix,vi p,AV.vnil,vi 0,vb false,vb hd,vb br,AV.row 1 w,vi qx,vi qy,vi qz]],es:=15,ver:=0,frozen:=false,clean:=false },{ elems:=List.map Mo.a P,es:=9,ver:=w,frozen:=true,clean:=true },{ elems:=[ag [vi (N.pcM l ix p qx qy qz).x,vi (N.pcM l ix p qx qy qz).y,vi (N.pcM l ix p qx qy qz).z,vi (N.pcM l ix p qx qy qz).u,vi (N.pcM l ix p qx qy qz).v,vi (N.pcM l ix p qx qy qz).w,vi (N.pcM l ix p qx qy qz).r,vi (N.pcM l ix p qx qy qz).t,vi (N.pcM l ix p qx qy qz).b]],es:=9,ver:=0,frozen:=false,clean:=false }])) :
 dnB_at fm l S A j ix p hd br qx qy qz P w (Zat dv dK):=by
 unfold dnB_at
 obtain ⟨k1,k2,H⟩:=H
 refine Zac (G:=Zab kp19 [(1,4,.call (AV.vec false 9 (List.map Mo.a P)) none),(2,1,.call (tu [(zCxM6 l ix p qx qy qz),vb (N.pcB l ix p qx qy qz)]) none),(3,3,.call (vb true) none)] []) 9 [] ⟨(atC (cd Try.f19) [1,1,0,1,1]),[(3,AV.vec false 9 (List.map Mo.a P)),(4,AV.ptr 2 0 0 0),(21,vb (bif N.pcB l ix p qx qy qz then false else false))],[⟨[ag [AV.vec fm 9 (List.map Mo.a l),vi S,vi A,vi j,vi ix,vi p,AV.vnil,vi 0,vb false,vb hd,vb br,AV.row 1 w,vi qx,vi qy,vi qz]],15,0,false,false⟩,⟨List.map Mo.a P,9,w,true,true⟩,⟨[(zCxM6 l ix p qx qy qz)],9,0,false,false⟩],[true,w==w,true],[],[⟨true,false,41,[AV.vec false 9 (List.map Mo.a P)],[],AV.vec false 9 (List.map Mo.a P),[]⟩,⟨true,true,52,[AV.ptr 0 0 0 0],[⟨[ag [AV.vec fm 9 (List.map Mo.a l),vi S,vi A,vi j,vi ix,vi p,AV.vnil,vi 0,vb false,vb hd,vb br,AV.row 1 w,vi qx,vi qy,vi qz]],15,0,false,false⟩,⟨List.map Mo.a P,9,w,true,true⟩],tu [(zCxM6 l ix p qx qy qz),vb (N.pcB l ix p qx qy qz)],[⟨[ag [AV.vec fm 9 (List.map Mo.a l),vi S,vi A,vi j,vi ix,vi p,AV.vnil,vi 0,vb false,vb hd,vb br,AV.row 1 w,vi qx,vi qy,vi qz]],15,0,false,false⟩,⟨List.map Mo.a P,9,w,true,true⟩]⟩,⟨N.pcB l ix p qx qy qz==true&&true&&true,true,43,[AV.ptr 0 0 0 0],[⟨[ag [AV.vec fm 9 (List.map Mo.a l),vi S,vi A,vi j,vi ix,vi p,AV.vnil,vi 0,vb false,vb hd,vb br,AV.row 1 w,vi qx,vi qy,vi qz]],15,0,false,false⟩,⟨List.map Mo.a P,9,w,true,true⟩],vb true,[⟨[ag [AV.vec fm 9 (List.map Mo.a l),vi S,vi A,vi j,vi ix,vi p,AV.vnil,vi 0,vb false,vb hd,vb br,AV.row 1 w,vi qx,vi qy,vi qz]],15,0,false,false⟩,⟨List.map Mo.a P,9,w,true,true⟩]⟩]⟩ (by kernel_rfl) (bc rfl (bc (beq_self_eq_true _) (bc rfl b0))) q0 (cc (fun _=>(@ev41 false P k1)) (cc (fun _=>(@evo52_b fm l S A j ix p 0 false hd br qx qy qz P w true k2)) (cc (fun hc=>((@evo43_b fm l S A j ix p 0 false hd br qx qy qz P w true):Ev M1 (Conf.own 43 [AV.ptr 0 0 0 0] [⟨[ag [AV.vec fm 9 (List.map Mo.a l),vi S,vi A,vi j,vi ix,vi p,AV.vnil,vi 0,vb false,vb hd,vb br,AV.row 1 w,vi qx,vi qy,vi qz]],15,0,false,false⟩,⟨List.map Mo.a P,9,w,true,true⟩]) (vb true) [⟨[ag [AV.vec fm 9 (List.map Mo.a l),vi S,vi A,vi j,vi ix,vi p,AV.vnil,vi 0,vb false,vb hd,vb br,AV.row 1 w,vi qx,vi qy,vi qz]],15,0,false,false⟩,⟨List.map Mo.a P,9,w,true,true⟩])) c0))) ?_
 rcases xq H with ⟨d5,H⟩|⟨d5,H⟩
 ·exact False.elim H
 ·exact Zai (G:=Zab kp19 [] []) 1000 [false] (k:=((atC (cd Try.f19) [1,1,1,1])).tail) (env':=[(2,AV.vec false 9 (List.map Mo.a P))]) (L':=[⟨[ag [AV.vec fm 9 (List.map Mo.a l),vi S,vi A,vi j,vi ix,vi p,AV.vnil,vi 0,vb false,vb hd,vb br,AV.row 1 w,vi qx,vi qy,vi qz]],15,0,false,false⟩,⟨List.map Mo.a P,9,w,true,true⟩,⟨[(zCxM6 l ix p qx qy qz)],9,0,false,false⟩]) (asm:=[(bif N.pcB l ix p qx qy qz then false else false)==false]) (eqs:=[]) (calls:=[]) (AV.vec false 9 (List.map Mo.a P)) (by kernel_rfl) (by kernel_rfl) (Zaa (Zal (fun h=>d5 ((Za9 (Zas _) (Zas _)).1 h))) Zae) Zaf Zag H
noncomputable abbrev zCxM7 (l:List Mo) (ix:Int) (p:Int) (qx:Int) (qy:Int) (qz:Int):=ag [vi (N.pcM l ix p qx qy qz).x,vi (N.pcM l ix p qx qy qz).y,vi (N.pcM l ix p qx qy qz).z,vi (N.pcM l ix p qx qy qz).u,vi (N.pcM l ix p qx qy qz).v,vi (N.pcM l ix p qx qy qz).w,vi (N.pcM l ix p qx qy qz).r,vi (N.pcM l ix p qx qy qz).t,vi (N.pcM l ix p qx qy qz).b]
theorem dnT (fm:Bool) (l:List Mo) (S A j ix p:Int) (hd br:Bool) (qx qy qz:Int) (P:List Mo) (w:Nat)  (dv:AV) (dK:Heap) (_:ZaB 2 dv dK=true) (H :
  (N.Zdy P) /\
  (N.okC l ix p) /\
  (((N.pcB l ix p qx qy qz=true)/\(false=true))->False) /\
  (¬((N.pcB l ix p qx qy qz=true)/\(false=true))->(Zat dv dK) (AV.vec false 9 (List.map Mo.a P)) [{ elems:=[ag [AV.vec fm 9 (List.map Mo.a l),vi S,vi A,vi j,vi ix,vi p,AV.vnil,vi 0,vb false,vb hd,vb br,AV.row 1 w,vi qx,vi qy,vi qz]],es:=15,ver:=0,frozen:=false,clean:=false },{ elems:=List.map Mo.a P,es:=9,ver:=w,frozen:=true,clean:=true },{ elems:=[ag [vi (N.pcM l ix p qx qy qz).x,vi (N.pcM l ix p qx qy qz).y,vi (N.pcM l ix p qx qy qz).z,vi (N.pcM l ix p qx qy qz).u,vi (N.pcM l ix p qx qy qz).v,vi (N.pcM l ix p qx qy qz).w,vi (N.pcM l ix p qx qy qz).r,vi (N.pcM l ix p qx qy qz).t,vi (N.pcM l ix p qx qy qz).b]],es:=9,ver:=0,frozen:=false,clean:=false }])) :
 dnT_at fm l S A j ix p hd br qx qy qz P w (Zat dv dK):=by
 unfold dnT_at
 obtain ⟨k1,k2,H⟩:=H
 refine Zac (G:=Zab kp19 [(1,4,.call (AV.vec false 9 (List.map Mo.a P)) none),(2,1,.call (tu [(zCxM7 l ix p qx qy qz),vb (N.pcB l ix p qx qy qz)]) none),(3,3,.call (vb true) none)] []) 9 [] ⟨(atC (cd Try.f19) [1,1,0,1,1]),[(3,AV.vec false 9 (List.map Mo.a P)),(4,AV.ptr 2 0 0 0),(21,vb (bif N.pcB l ix p qx qy qz then false else false))],[⟨[ag [AV.vec fm 9 (List.map Mo.a l),vi S,vi A,vi j,vi ix,vi p,AV.vnil,vi 0,vb false,vb hd,vb br,AV.row 1 w,vi qx,vi qy,vi qz]],15,0,false,false⟩,⟨List.map Mo.a P,9,w,true,true⟩,⟨[(zCxM7 l ix p qx qy qz)],9,0,false,false⟩],[true,w==w,true],[],[⟨true,false,41,[AV.vec false 9 (List.map Mo.a P)],[],AV.vec false 9 (List.map Mo.a P),[]⟩,⟨true,true,52,[AV.ptr 0 0 0 0],[⟨[ag [AV.vec fm 9 (List.map Mo.a l),vi S,vi A,vi j,vi ix,vi p,AV.vnil,vi 0,vb false,vb hd,vb br,AV.row 1 w,vi qx,vi qy,vi qz]],15,0,false,false⟩,⟨List.map Mo.a P,9,w,true,true⟩],tu [(zCxM7 l ix p qx qy qz),vb (N.pcB l ix p qx qy qz)],[⟨[ag [AV.vec fm 9 (List.map Mo.a l),vi S,vi A,vi j,vi ix,vi p,AV.vnil,vi 0,vb false,vb hd,vb br,AV.row 1 w,vi qx,vi qy,vi qz]],15,0,false,false⟩,⟨List.map Mo.a P,9,w,true,true⟩]⟩,⟨N.pcB l ix p qx qy qz==true&&true&&true,true,43,[AV.ptr 0 0 0 0],[⟨[ag [AV.vec fm 9 (List.map Mo.a l),vi S,vi A,vi j,vi ix,vi p,AV.vnil,vi 0,vb false,vb hd,vb br,AV.row 1 w,vi qx,vi qy,vi qz]],15,0,false,false⟩,⟨List.map Mo.a P,9,w,true,true⟩],vb true,[⟨[ag [AV.vec fm 9 (List.map Mo.a l),vi S,vi A,vi j,vi ix,vi p,AV.vnil,vi 0,vb false,vb hd,vb br,AV.row 1 w,vi qx,vi qy,vi qz]],15,0,false,false⟩,⟨List.map Mo.a P,9,w,true,true⟩]⟩]⟩ (by kernel_rfl) (bc rfl (bc (beq_self_eq_true _) (bc rfl b0))) q0 (cc (fun _=>(@ev41 false P k1)) (cc (fun _=>(@evo52_b fm l S A j ix p 0 false hd br qx qy qz P w true k2)) (cc (fun hc=>((@evo43_b fm l S A j ix p 0 false hd br qx qy qz P w true):Ev M1 (Conf.own 43 [AV.ptr 0 0 0 0] [⟨[ag [AV.vec fm 9 (List.map Mo.a l),vi S,vi A,vi j,vi ix,vi p,AV.vnil,vi 0,vb false,vb hd,vb br,AV.row 1 w,vi qx,vi qy,vi qz]],15,0,false,false⟩,⟨List.map Mo.a P,9,w,true,true⟩]) (vb true) [⟨[ag [AV.vec fm 9 (List.map Mo.a l),vi S,vi A,vi j,vi ix,vi p,AV.vnil,vi 0,vb false,vb hd,vb br,AV.row 1 w,vi qx,vi qy,vi qz]],15,0,false,false⟩,⟨List.map Mo.a P,9,w,true,true⟩])) c0))) ?_
 rcases xq H with ⟨d5,H⟩|⟨d5,H⟩
 ·exact False.elim H
 ·exact Zai (G:=Zab kp19 [] []) 1000 [false] (k:=((atC (cd Try.f19) [1,1,1,1])).tail) (env':=[(2,AV.vec false 9 (List.map Mo.a P))]) (L':=[⟨[ag [AV.vec fm 9 (List.map Mo.a l),vi S,vi A,vi j,vi ix,vi p,AV.vnil,vi 0,vb false,vb hd,vb br,AV.row 1 w,vi qx,vi qy,vi qz]],15,0,false,false⟩,⟨List.map Mo.a P,9,w,true,true⟩,⟨[(zCxM7 l ix p qx qy qz)],9,0,false,false⟩]) (asm:=[(bif N.pcB l ix p qx qy qz then false else false)==false]) (eqs:=[]) (calls:=[]) (AV.vec false 9 (List.map Mo.a P)) (by kernel_rfl) (by kernel_rfl) (Zaa (Zal (fun h=>d5 ((Za9 (Zas _) (Zas _)).1 h))) Zae) Zaf Zag H
end Go.Av

namespace Go.Av
structure Cs where
 ix:Int
 p:Int
 X:Option (List Int)
 k:Int
 bk:Bool
 hd:Bool
 br:Bool
 P:List Mo
 q:Ps
namespace N
noncomputable def stpN (l:List Mo) (s:Cs):Cs:={ s with X:=none,k:=0,bk:=false,P:=stP l s.ix s.p s.q.x s.q.y s.q.z s.P,q:=po l s.ix s.p,ix:=stI l s.ix s.p,p:=stK l s.ix s.p }
noncomputable def adv (l:List Mo) (s:Cs) (X:List Int) (k:Int):Cs:=if k+1=X.length then stpN l { s with p:=s.p+X.getD k.toNat default } else { s with X:=some X,k:=k+1,p:=s.p+X.getD k.toNat default }
noncomputable def plan (l:List Mo) (S A j:Int) (s:Cs):List Int:=stX (lm (l.getD s.ix.toNat default).r S) A j (lf l s.ix s.p)
noncomputable def planE (l:List Mo) (S A j:Int) (s:Cs):Int:=stE (lm (l.getD s.ix.toNat default).r S) A j (lf l s.ix s.p)
noncomputable def Zbt (l:List Mo) (S A j:Int) (s:Cs):Cs × Bool:=
 if s.br=true\/s.ix=l.length then (s,false) else
 match s.X with
 | some X=>(adv l s X s.k,true)
 | none=>if s.hd=true then (s,false) else if ¬planE l S A j s=0\/((plan l S A j s).length:Int)=0 then (s,false) else (adv l s (plan l S A j s) 0,true)
noncomputable def D (l:List Mo) (ix p:Int):Int:=((l.drop ix.toNat).map ml).sum-p
def okT (l:List Mo):Prop:=okL l/\chain l
def hasB (l:List Mo):Prop:=∀ i,i<l.length->(l.getD i default).b=i
end N
structure Iv (l:List Mo) (B:Int) (s:Cs):Prop where
 ixr:0<=s.ix/\s.ix<=l.length
 mot:s.ix<l.length->¬N.ml (l.getD s.ix.toNat default)=0/\0<=s.p/\s.p<N.ml (l.getD s.ix.toNat default)
 fin:s.ix=l.length->s.p=0/\s.X=none
 plan:∀ X,s.X=some X->(0<=s.k/\s.k<X.length/\X.length<=1000000)/\(∀ x ∈ X,1<=x)/\s.p+(X.drop s.k.toNat).sum<=N.ml (l.getD s.ix.toNat default)
 rest:s.X=none->s.k=0/\s.bk=false/\s.q=N.po l s.ix s.p
 pb:∀ X,s.X=some X -> ∀ x ∈ X,x<=1000000
 kb:∀ X,s.X=some X->s.bk=false->1<=s.k
 wi:N.hasB l->WI l s.P s.ix.toNat s.q
 few:(s.P.length:Int)+N.D l s.ix s.p+(if s.X=none then 0 else 1)<=B
section
variable {l:List Mo} {B:Int}
theorem skF_sum:∀ (k i:Nat),i+k=l.length->((l.drop (N.skF l k i)).map N.ml).sum=((l.drop i).map N.ml).sum
 | 0,i,_=>rfl
 | k+1,i,h=>by
  unfold N.skF
  by_cases hc:i<l.length/\N.ml (l.getD i default)=0
  ·rw [if_pos hc,skF_sum k (i+1) (by omega),List.drop_eq_getElem_cons hc.1,List.map_cons,List.sum_cons]
   have:=hc.2
   rw [List.getD_eq_getElem?_getD,List.getElem?_eq_getElem hc.1,Option.getD_some] at this
   omega
  ·rw [if_neg hc]
theorem drop_sum {i:Nat} (h:i<l.length):((l.drop i).map N.ml).sum=N.ml (l.getD i default)+((l.drop (i+1)).map N.ml).sum:=by
 rw [List.drop_eq_getElem_cons h,List.map_cons,List.sum_cons,List.getD_eq_getElem?_getD,List.getElem?_eq_getElem h];rfl
theorem ZfW {X:List Int} {i:Nat} (h:i<X.length):(X.drop i).sum=X.getD i default+(X.drop (i+1)).sum:=by
 rw [List.drop_eq_getElem_cons h,List.sum_cons,List.getD_eq_getElem?_getD,List.getElem?_eq_getElem h];rfl
theorem sum_ml_nn:∀ L:List Mo,0<=(L.map N.ml).sum
 | []=>Int.le_refl _
 | m::L=>by rw [List.map_cons,List.sum_cons];have:=ZeL m;have:=sum_ml_nn L;omega
theorem po_mid {ix p:Int} (h0:0<=ix) (h:ix<l.length):N.po l ix p=N.at3 (l.getD ix.toNat default) p:=by
 unfold N.po
 rw [if_neg (by omega),if_neg (by omega)]
theorem stpN_ok (ht:N.okT l) {s:Cs} (h0:0<=s.ix/\s.ix<l.length) (hm:¬N.ml (l.getD s.ix.toNat default)=0) (hp:0<=s.p/\s.p<=N.ml (l.getD s.ix.toNat default)) (hw:N.hasB l->WI l s.P s.ix.toNat s.q) (hB:(s.P.length:Int)+N.D l s.ix s.p+1<=B) :
  Iv l B (N.stpN l s)/\N.D l (N.stpN l s).ix (N.stpN l s).p=N.D l s.ix s.p/\(N.stpN l s).hd=s.hd/\(N.stpN l s).br=s.br:=by
 obtain ⟨hl,hc⟩:=ht
 obtain ⟨i,hi⟩:=Int.eq_ofNat_of_zero_le h0.1
 obtain ⟨ix,p,X,k,bk,hd,br,P,q⟩:=s
 simp only at h0 hm hp hw hB hi
 subst hi
 rw [Int.toNat_natCast] at hm hp hw
 have hlt:i<l.length:=by omega
 have hpo:N.po l (i:Int) p=N.at3 (l.getD i default) p:=by rw [po_mid (by omega) h0.2,Int.toNat_natCast]
 have hw2:(N.hasB l->WI l (N.stP l (i:Int) p q.x q.y q.z P) i (N.po l (i:Int) p))/\((N.stP l (i:Int) p q.x q.y q.z P).length:Int)<=P.length+1:=by
  unfold N.stP
  by_cases hcq:N.pcB l (i:Int) p q.x q.y q.z=true
  ·rw [if_pos hcq]
   refine ⟨?_,by rw [List.length_append,List.length_singleton];omega⟩
   have e:N.pcM l (i:Int) p q.x q.y q.z=(l.getD i default).cut q (N.po l (i:Int) p):=by
    unfold N.pcM
    rw [if_neg (by omega),Int.toNat_natCast]
   rw [e]
   exact fun hb=>wi_piece hb hlt (hw hb)
  ·rw [if_neg hcq]
   have:q=N.po l (i:Int) p:=by
    have:=(pcB_iff (l:=l) (ix:=(i:Int)) (p:=p) (qx:=q.x) (qy:=q.y) (qz:=q.z) (by omega))
    exact Classical.byContradiction fun y=>hcq (this.2 y)
   rw [<- this]
   exact ⟨hw,by omega⟩
 have hDn:N.D l (i:Int) p=N.ml (l.getD i default)+((l.drop (i+1)).map N.ml).sum-p:=by
  unfold N.D
  rw [Int.toNat_natCast,drop_sum hlt]
 by_cases hz:N.lf l (i:Int) p=0
 ·have hz':p=N.ml (l.getD i default):=by unfold N.lf at hz;rw [Int.toNat_natCast] at hz;omega
  have eI:N.stI l (i:Int) p=((N.sk l (i+1):Nat):Int):=by
   unfold N.stI N.skI
   rw [if_pos hz,show ((i:Int)+1).toNat=i+1 by omega]
  have eK:N.stK l (i:Int) p=0:=by unfold N.stK;rw [if_pos hz]
  obtain ⟨⟨k1,k2⟩,k3,k4⟩:=ZdF (L:=l) (i:=i+1) (by omega)
  have hdst:N.po l (i:Int) p=(l.getD i default).dst:=by rw [hpo,hz',at3_full hm]
  have hwd:=fun hb=>wi_done hc hlt hm (hw2.1 hb) hdst
  have hDs:N.D l ((N.sk l (i+1):Nat):Int) 0=N.D l (i:Int) p:=by
   rw [hDn]
   unfold N.D N.sk
   rw [Int.toNat_natCast,skF_sum _ _ (by omega)];omega
  have hposk:N.po l ((N.sk l (i+1):Nat):Int) 0=(l.getD i default).dst:=by
   have e1:N.pos l (N.sk l (i+1))=(l.getD i default).dst:=by rw [sk_pos hc (by omega),Ze4 hc hlt]
   rw [<- e1]
   unfold N.pos
   by_cases hq:N.sk l (i+1)<l.length
   ·rw [if_pos hq,po_mid (by omega) (by omega),Int.toNat_natCast,at3_zero (k3 hq)]
   ·rw [if_neg hq]
    unfold N.po
    rw [if_neg (by omega),if_pos (by omega),show (((N.sk l (i+1):Nat):Int)-1).toNat=l.length-1 by omega]
  unfold N.stpN
  simp only [eI,eK]
  refine ⟨⟨?_,?_,?_,?_,?_,(fun X hX=>nomatch hX),?_,?_,?_⟩,hDs,trivial,trivial⟩
  ·simp only;omega
  ·simp only
   intro hq
   rw [Int.toNat_natCast]
   have:=k3 (by omega)
   have:=ZeL (l.getD (N.sk l (i+1)) default)
   exact ⟨k3 (by omega),by omega,by omega⟩
  ·simp only;intro _;exact ⟨trivial,trivial⟩
  ·simp only;intro X hX;cases hX
  ·simp only;intro _;exact ⟨trivial,trivial,by rw [hposk,hdst]⟩
  ·simp only;intro X hX;cases hX
  ·simp only;rw [Int.toNat_natCast];exact hwd
  ·simp only
   rw [hDs,if_pos trivial]
   have:=hw2.2
   omega
 ·have eI:N.stI l (i:Int) p=(i:Int):=by unfold N.stI;rw [if_neg hz]
  have eK:N.stK l (i:Int) p=p:=by unfold N.stK;rw [if_neg hz]
  have hz':p<N.ml (l.getD i default):=by unfold N.lf at hz;rw [Int.toNat_natCast] at hz;omega
  unfold N.stpN
  simp only [eI,eK]
  refine ⟨⟨?_,?_,?_,?_,?_,(fun X hX=>nomatch hX),?_,?_,?_⟩,trivial,trivial,trivial⟩
  ·simp only;omega
  ·simp only
   intro _
   rw [Int.toNat_natCast]
   exact ⟨hm,hp.1,hz'⟩
  ·simp only;intro hq;omega
  ·simp only;intro X hX;cases hX
  ·simp only;intro _;exact ⟨trivial,trivial,trivial⟩
  ·simp only;intro X hX;cases hX
  ·simp only;rw [Int.toNat_natCast];exact hw2.1
  ·simp only
   rw [if_pos trivial]
   have:=hw2.2
   omega
theorem adv_ok (ht:N.okT l) {s:Cs} {X:List Int} {k:Int} (hs:Iv l B s) (h0:s.ix<l.length) (hk:0<=k/\k<X.length/\X.length<=1000000) (hX:∀ x ∈ X,1<=x) (hXb:∀ x ∈ X,x<=1000000) (hsum:s.p+(X.drop k.toNat).sum<=N.ml (l.getD s.ix.toNat default)) (_:s.X=none\/s.X=some X) :
  Iv l B (N.adv l s X k)/\N.D l (N.adv l s X k).ix (N.adv l s X k).p<N.D l s.ix s.p/\(N.adv l s X k).hd=s.hd/\(N.adv l s X k).br=s.br:=by
 have hx:1<=X.getD k.toNat default:=by
  refine hX _ ?_
  rw [List.getD_eq_getElem?_getD,List.getElem?_eq_getElem (by omega)]
  exact List.getElem_mem _
 have hd:=ZfW (X:=X) (i:=k.toNat) (by omega)
 have hrest:0<=(X.drop (k.toNat+1)).sum:=by
  have:=ZcZ (X.drop (k.toNat+1)) fun x hx=>hX x (List.mem_of_mem_drop hx)
  omega
 obtain ⟨hm,hp1,hp2⟩:=hs.mot h0
 have hfew:=hs.few
 have hD:N.D l s.ix (s.p+X.getD k.toNat default)=N.D l s.ix s.p-X.getD k.toNat default:=by unfold N.D;omega
 unfold N.adv
 by_cases he:k+1=X.length
 ·rw [if_pos he]
  obtain ⟨q1,q2,q3,q4⟩:=stpN_ok (B:=B) ht (s:={ s with p:=s.p+X.getD k.toNat default }) ⟨hs.ixr.1,h0⟩ hm ⟨by simp only;omega,by simp only;omega⟩ hs.wi (by
   simp only
   rw [hD]
   split at hfew <;> omega)
  refine ⟨q1,?_,q3,q4⟩
  rw [q2]
  simp only
  omega
 ·rw [if_neg he]
  have hlast:1<=(X.drop (k.toNat+1)).sum:=by
   have:=ZcZ (X.drop (k.toNat+1)) fun x hx=>hX x (List.mem_of_mem_drop hx)
   rw [List.length_drop] at this
   omega
  refine ⟨⟨hs.ixr,fun _=>⟨hm,by simp only;omega,by simp only;omega⟩,fun h=>absurd h (by simp only;omega),fun Y hY => ?_,fun h=>(nomatch h),fun Y hY => ?_,fun Y hY _=>by simp only;omega,hs.wi,?_⟩,by simp only;omega,rfl,rfl⟩
  ·simp only [Option.some.injEq] at hY
   subst hY
   simp only
   rw [show (k+1).toNat=k.toNat+1 by omega]
   exact ⟨by omega,hX,by omega⟩
  ·simp only [Option.some.injEq] at hY
   subst hY
   exact hXb
  ·simp only
   rw [hD,if_neg (by simp)]
   split at hfew <;> omega
end
end Go.Av

namespace Go.Av
open Go.Proofs
namespace N
def plA:Option (List Int)->AV
 | none => .vnil
 | some X => .vec false 1 (X.map (.int .i64))
def Cr (fm:Bool) (l:List Mo) (S A j:Int) (s:Cs) (pc:AV):Row:=⟨[.agg [.vec fm 9 (l.map Mo.a),.int .i64 S,.int .i64 A,.int .i64 j,.int .i64 s.ix,.int .i64 s.p,plA s.X,.int .i64 s.k,.bool s.bk,.bool s.hd,.bool s.br,pc,.int .i64 s.q.x,.int .i64 s.q.y,.int .i64 s.q.z]],15,0,false,false⟩
def Rw (P:List Mo) (w:Nat):Row:=⟨P.map Mo.a,9,w,false,true⟩
def good (l:List Mo) (S A j:Int):Prop:=∀ i,i<l.length->okR (l.getD i default).r /\ ∀ n:Int,0<=n->n<=400000->stE (lm (l.getD i default).r S) A j n=0
end N
inductive RM (fm:Bool) (l:List Mo) (S A j:Int) (s:Cs):Heap->Prop
 | nil:s.P=[]->RM fm l S A j s [N.Cr fm l S A j s .vnil]
 | row (w:Nat):RM fm l S A j s [N.Cr fm l S A j s (.row 1 w),N.Rw s.P w]
section
variable {l:List Mo} {B S A j:Int} {fm:Bool}
theorem sum_nn:∀ L:List Mo,0<=(L.map N.ml).sum:=sum_ml_nn
theorem le_sum:∀ L:List Int,(∀ x ∈ L,1<=x) -> ∀ x ∈ L,x<=L.sum:=by
 intro L
 induction L with
 | nil=>intro _ x h;cases h
 | cons y L ih =>
  intro hl x hx
  have hy:=hl y (List.mem_cons_self ..)
  have hs:=ZcZ L fun z hz=>hl z (List.mem_cons_of_mem _ hz)
  rw [List.sum_cons]
  rcases List.mem_cons.1 hx with e | e
  ·omega
  ·have:=ih (fun z hz=>hl z (List.mem_cons_of_mem _ hz)) x e
   omega
theorem iv_D {s:Cs} (hs:Iv l B s):0<=N.D l s.ix s.p:=by
 have h1:=hs.ixr
 obtain ⟨i,hi⟩:=Int.eq_ofNat_of_zero_le h1.1
 unfold N.D
 by_cases h:s.ix<l.length
 ·have hm:=hs.mot h
  rw [drop_sum (by omega)]
  have:=sum_nn (l.drop (s.ix.toNat+1))
  omega
 ·have:=hs.fin (by omega)
  have:=sum_nn (l.drop s.ix.toNat)
  omega
theorem iv_G (hl:N.okL l) {s:Cs} (hs:Iv l B s) (h:s.ix<l.length):(N.okG l s.ix s.p/\1<=N.lf l s.ix s.p/\N.lf l s.ix s.p<=400000)/\0<=s.ix/\s.ix.toNat<l.length/\s.p<=400000:=by
 have h1:=hs.ixr
 obtain ⟨m1,m2,m3⟩:=hs.mot h
 have hm:=ZbQ (hl.2 s.ix.toNat (by omega))
 unfold N.lf
 exact ⟨⟨⟨hl,⟨h1.1,h⟩,m2,by omega⟩,by omega,by omega⟩,h1.1,by omega,by omega⟩
theorem ZfH (hl:N.okL l) (hg:N.good l S A j) {s:Cs} (hs:Iv l B s) (h:s.ix<l.length):N.okR (l.getD s.ix.toNat default).r/\N.planE l S A j s=0/\(0<(N.plan l S A j s).length/\(∀ x ∈ N.plan l S A j s,1<=x)/\(N.plan l S A j s).sum=N.lf l s.ix s.p/\(N.plan l S A j s).length<=1000000 /\ ∀ x ∈ N.plan l S A j s,x<=1000000):=by
 obtain ⟨⟨g1,g2,g3⟩,g4,g5,_⟩:=iv_G hl hs h
 obtain ⟨q1,q2⟩:=hg s.ix.toNat g5
 have q3:=q2 _ (show 0<=N.lf l s.ix s.p by omega) g3
 obtain ⟨_,⟨⟨k1,k2⟩,k3⟩,k4,_⟩:=stX_ok (by omega) q3
 refine ⟨q1,q3,?_,k2,k1,by unfold N.plan;omega,fun x hx=>by have:=le_sum _ k2 x hx;omega⟩
 unfold N.plan
 rcases List.eq_nil_or_concat (N.stX (N.lm (l.getD s.ix.toNat default).r S) A j (N.lf l s.ix s.p)) with e | ⟨Y,y,e⟩
 ·rw [e] at k1
  simp at k1
  omega
 ·rw [e];simp
theorem adv_sp (hl:N.okL l) {s:Cs} {X:List Int} {k:Int} (hs:Iv l B s) (hB:B<=1000000000) (h0:s.ix<l.length) (hk:0<=k/\k<X.length) (hX:∀ x ∈ X,1<=x) (hsum:s.p+(X.drop k.toNat).sum<=N.ml (l.getD s.ix.toNat default)) :
  N.okSq l s.ix (s.p+X.getD k.toNat default) s.P /\ -9223372036854775808<=s.p+X.getD k.toNat default/\s.p+X.getD k.toNat default<=9223372036854775807:=by
 have hx:1<=X.getD k.toNat default:=by
  refine hX _ ?_
  rw [List.getD_eq_getElem?_getD,List.getElem?_eq_getElem (by omega)]
  exact List.getElem_mem _
 have hd:=ZfW (X:=X) (i:=k.toNat) (by omega)
 have hrest:0<=(X.drop (k.toNat+1)).sum:=by
  have:=ZcZ (X.drop (k.toNat+1)) fun x hx=>hX x (List.mem_of_mem_drop hx)
  omega
 obtain ⟨hm,hp1,hp2⟩:=hs.mot h0
 have h1:=hs.ixr
 have hfew:=hs.few
 have hD:=iv_D hs
 have hmm:=ZbQ (hl.2 s.ix.toNat (by omega))
 exact ⟨⟨⟨⟨hl,h1,fun _=>⟨hm,by omega,by omega⟩⟩,h0⟩,by split at hfew <;> omega⟩,by omega,by omega⟩
theorem Zdn {s:Cs} (h:s.br=true\/s.ix=l.length):N.Zbt l S A j s=(s,false):=by unfold N.Zbt;rw [if_pos h]
theorem Zd2 {s:Cs} {X:List Int} (h:¬(s.br=true\/s.ix=l.length)) (hX:s.X=some X):N.Zbt l S A j s=(N.adv l s X s.k,true):=by unfold N.Zbt;rw [if_neg h,hX]
theorem ZeY {s:Cs} (h:¬(s.br=true\/s.ix=l.length)) (hX:s.X=none) (hh:s.hd=true):N.Zbt l S A j s=(s,false):=by unfold N.Zbt;rw [if_neg h,hX];simp only;rw [if_pos hh]
theorem Zd1 (hl:N.okL l) (hg:N.good l S A j) {s:Cs} (hs:Iv l B s) (h:¬(s.br=true\/s.ix=l.length)) (hX:s.X=none) (hh:¬s.hd=true):N.Zbt l S A j s=(N.adv l s (N.plan l S A j s) 0,true):=by
 have h1:=hs.ixr
 have hlt:s.ix<l.length:=by have:¬s.ix=l.length:=fun y=>h (.inr y);omega
 obtain ⟨_,p2,p3,_⟩:=ZfH hl hg hs hlt
 unfold N.Zbt
 rw [if_neg h,hX]
 simp only
 rw [if_neg hh,if_neg (by rintro (y | y);exact y p2;omega)]
theorem Zb6 {s:Cs} {X:List Int} {k:Int} (h:k+1=X.length):N.adv l s X k=N.stpN l { s with p:=s.p+X.getD k.toNat default }:=by unfold N.adv;rw [if_pos h]
theorem ZcO {s:Cs} {X:List Int} {k:Int} (h:¬k+1=X.length):N.adv l s X k = { s with X:=some X,k:=k+1,p:=s.p+X.getD k.toNat default }:=by unfold N.adv;rw [if_neg h]
theorem stP_y {ix p qx qy qz:Int} {P:List Mo} (h:N.pcB l ix p qx qy qz=true):N.stP l ix p qx qy qz P=P++[N.pcM l ix p qx qy qz]:=by unfold N.stP;rw [if_pos h]
theorem stP_n {ix p qx qy qz:Int} {P:List Mo} (h:¬N.pcB l ix p qx qy qz=true):N.stP l ix p qx qy qz P=P:=by unfold N.stP;rw [if_neg h]
theorem tick_ok (ht:N.okT l) (hg:N.good l S A j) {s:Cs} (hs:Iv l B s) (h:¬(s.br=true\/s.ix=l.length)) (hm:s.X=none->¬s.hd=true) :
  (N.Zbt l S A j s).2=true/\Iv l B (N.Zbt l S A j s).1/\N.D l (N.Zbt l S A j s).1.ix (N.Zbt l S A j s).1.p<N.D l s.ix s.p/\(N.Zbt l S A j s).1.hd=s.hd/\(N.Zbt l S A j s).1.br=s.br:=by
 have hlt:s.ix<l.length:=by
  have:=hs.ixr
  have:¬s.ix=l.length:=fun y=>h (.inr y)
  omega
 cases hX:s.X with
 | none =>
  rw [Zd1 ht.1 hg hs h hX (hm hX)]
  obtain ⟨_,_,p3,p4,p5,p6,p7⟩:=ZfH ht.1 hg hs hlt
  exact ⟨rfl,adv_ok ht hs hlt ⟨Int.le_refl _,by omega,p6⟩ p4 p7 (by rw [Int.toNat_zero,List.drop_zero,p5];unfold N.lf;omega) (.inl hX)⟩
 | some X =>
  rw [Zd2 h hX]
  obtain ⟨k1,k2,k3⟩:=hs.plan X hX
  exact ⟨rfl,adv_ok ht hs hlt k1 k2 (hs.pb X hX) k3 (.inr hX)⟩
theorem tick_no {s:Cs} (h:(s.br=true\/s.ix=l.length)\/s.X=none/\s.hd=true):N.Zbt l S A j s=(s,false):=by
 by_cases h1:s.br=true\/s.ix=l.length
 ·exact Zdn h1
 ·rcases h with h | h
  ·exact absurd h h1
  ·exact ZeY h1 h.1 h.2
end
end Go.Av
