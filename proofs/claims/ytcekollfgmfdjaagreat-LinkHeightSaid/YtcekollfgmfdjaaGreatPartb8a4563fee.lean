/- PART 6 of the texts of a claim, joined by a program: what each part shows stands at its head. -/
import Derived.Test.YtcekollfgmfdjaaGreatPart7e989d2229

namespace Go.Av
open Go.Proofs
namespace N
noncomputable def farS (p0 q0 p1 q1 a1 a2 b1 b2:Rat):Rat:=mn (seg a1 a2 b1 b2 p0 q1 p0 q0) (mn (seg a1 a2 b1 b2 p1 q1 p0 q1) (mn (seg a1 a2 b1 b2 p1 q0 p1 q1) (seg a1 a2 b1 b2 p0 q0 p1 q0)))
noncomputable def farQ (x0 y0 x1 y1 ax ay bx by_:Int):Rat:=if hld x0 y0 x1 y1 ax ay\/hld x0 y0 x1 y1 bx by_ then qi 0 else farS (qi x0) (qi y0) (qi x1) (qi y1) (qi ax) (qi ay) (qi bx) (qi by_)
def okFa (x0 y0 x1 y1 ax ay bx by_:Int):Prop:=cc x0/\cc y0/\cc x1/\cc y1/\cc ax/\cc ay/\cc bx/\cc by_
end N
theorem mn_lt {r q m:Rat}:N.mn r q<m ↔ r<m\/q<m:=by
 unfold N.mn
 split <;> constructor <;> intro h <;> grind
theorem far_lt {p0 q0 p1 q1 a1 a2 b1 b2 m:Rat}:N.farS p0 q0 p1 q1 a1 a2 b1 b2<m ↔ N.neS p0 q0 p1 q1 a1 a2 b1 b2 m:=by
 unfold N.farS N.neS
 rw [mn_lt,mn_lt,mn_lt]
 constructor
 ·rintro (h | h | h | h)
  ·exact .inr (.inr (.inr h))
  ·exact .inr (.inr (.inl h))
  ·exact .inr (.inl h)
  ·exact .inl h
 ·rintro (h | h | h | h)
  ·exact .inr (.inr (.inr h))
  ·exact .inr (.inr (.inl h))
  ·exact .inr (.inl h)
  ·exact .inl h
theorem near_far {x0 y0 x1 y1 ax ay bx by_ r:Int}:N.nea x0 y0 x1 y1 ax ay bx by_ r ↔ r>0/\N.farQ x0 y0 x1 y1 ax ay bx by_<N.qi r*N.qi r:=by
 unfold N.nea N.farQ
 constructor
 ·rintro ⟨h,k⟩
  refine ⟨by omega,?_⟩
  split
  ·rename_i j
   rw [qi_eq,qi_eq]
   have:(0:Rat)<(r:Rat):=Rat.intCast_lt_intCast (a:=0).2 (by omega)
   have:=Rat.mul_pos this this
   simpa using this
  ·rename_i j
   rcases k with k | k | k
   ·exact absurd (.inl k) j
   ·exact absurd (.inr k) j
   ·exact far_lt.2 k
 ·rintro ⟨h,k⟩
  refine ⟨by omega,?_⟩
  split at k
  ·rename_i j;rcases j with j | j
   ·exact .inl j
   ·exact .inr (.inl j)
  ·exact .inr (.inr (far_lt.1 k))
theorem okT_farS {p0 q0 p1 q1 a1 a2 b1 b2:Rat} (h1:N.okV p0 q0) (h2:N.okV p1 q1) (h3:N.okV a1 a2) (h4:N.okV b1 b2):N.okT 400 (N.farS p0 q0 p1 q1 a1 a2 b1 b2):=by
 have g1:N.okV p1 q0:=⟨h2.1,h1.2⟩
 have g2:N.okV p0 q1:=⟨h1.1,h2.2⟩
 exact Zg8 (ZbL ⟨h3,h4,g2,h1⟩) (Zg8 (ZbL ⟨h3,h4,h2,g2⟩) (Zg8 (ZbL ⟨h3,h4,g1,h2⟩) (ZbL ⟨h3,h4,h1,g1⟩)))
theorem okT_farQ {x0 y0 x1 y1 ax ay bx by_:Int} (h:N.okFa x0 y0 x1 y1 ax ay bx by_):N.okT 400 (N.farQ x0 y0 x1 y1 ax ay bx by_):=by
 obtain ⟨c1,c2,c3,c4,c5,c6,c7,c8⟩:=h
 unfold N.farQ
 split
 ·exact Zcc (okT_int (by unfold N.inI;omega)) (by omega)
 ·exact okT_farS ⟨Zbz c1,Zbz c2⟩ ⟨Zbz c3,Zbz c4⟩ ⟨Zbz c5,Zbz c6⟩ ⟨Zbz c7,Zbz c8⟩
theorem farq_loop {u0 v0 u1 v1:Rat} {ax ay bx by_:Int} (h1:N.okV u0 v0) (h2:N.okV u1 v1) (c1:N.cc ax) (c2:N.cc ay) (c3:N.cc bx) (c4:N.cc by_) :
  Zfn u0 v0 u1 v1 ax ay bx by_ (Zaf (ratF (N.farS u0 v0 u1 v1 (N.qi ax) (N.qi ay) (N.qi bx) (N.qi by_)))):=by
 have R {r:Rat} (h:N.okT 400 r):N.okR r:=ZaX h (by omega)
 have J {u v:Int} (a:N.cc u) (b:N.cc v):N.Zga u v:=⟨ZeH a,ZeH b⟩
 have ja:=J c1 c2
 have jb:=J c3 c4
 have g3:N.okV (N.qi ax) (N.qi ay):=⟨Zbz c1,Zbz c2⟩
 have g4:N.okV (N.qi bx) (N.qi by_):=⟨Zbz c3,Zbz c4⟩
 have g1:N.okV u1 v0:=⟨h2.1,h1.2⟩
 have g2:N.okV u0 v1:=⟨h1.1,h2.2⟩
 have k0:N.ZfZ (N.qi ax) (N.qi ay) (N.qi bx) (N.qi by_) u0 v0 u1 v0:=⟨g3,g4,h1,g1⟩
 have k1:N.ZfZ (N.qi ax) (N.qi ay) (N.qi bx) (N.qi by_) u1 v0 u1 v1:=⟨g3,g4,g1,h2⟩
 have k2:N.ZfZ (N.qi ax) (N.qi ay) (N.qi bx) (N.qi by_) u1 v1 u0 v1:=⟨g3,g4,h2,g2⟩
 have k3:N.ZfZ (N.qi ax) (N.qi ay) (N.qi bx) (N.qi by_) u0 v1 u0 v0:=⟨g3,g4,g2,h1⟩
 have s4:∀ q,Zem u0 v0 u1 v1 ax ay bx by_ q (Zaf (ratF q)):=fun q=>qXfa4 _ _ _ _ _ _ _ _ _ _ (.refl _)
 have s3:∀ q,N.okT 400 q->Zen u0 v0 u1 v1 ax ay bx by_ q (Zaf (ratF (N.mn (N.seg (N.qi ax) (N.qi ay) (N.qi bx) (N.qi by_) u0 v1 u0 v0) q))):=fun q hq =>
  qXfa3 _ _ _ _ _ _ _ _ _ _ ⟨ja,jb,k3,fun _=>⟨R (ZbL k3),R hq⟩,fun k=>by rw [mn_y k];exact s4 _,fun k=>by rw [mn_n k];exact s4 _⟩
 have s2:∀ q,N.okT 400 q->Zeo u0 v0 u1 v1 ax ay bx by_ q (Zaf (ratF (N.mn (N.seg (N.qi ax) (N.qi ay) (N.qi bx) (N.qi by_) u0 v1 u0 v0) (N.mn (N.seg (N.qi ax) (N.qi ay) (N.qi bx) (N.qi by_) u1 v1 u0 v1) q)))):=fun q hq =>
  qXfa2 _ _ _ _ _ _ _ _ _ _ ⟨ja,jb,k2,fun _=>⟨R (ZbL k2),R hq⟩,fun k=>by rw [mn_y k];exact s3 _ (ZbL k2),fun k=>by rw [mn_n k];exact s3 _ hq⟩
 have s1:∀ q,N.okT 400 q->Zfm u0 v0 u1 v1 ax ay bx by_ q (Zaf (ratF (N.mn (N.seg (N.qi ax) (N.qi ay) (N.qi bx) (N.qi by_) u0 v1 u0 v0) (N.mn (N.seg (N.qi ax) (N.qi ay) (N.qi bx) (N.qi by_) u1 v1 u0 v1) (N.mn (N.seg (N.qi ax) (N.qi ay) (N.qi bx) (N.qi by_) u1 v0 u1 v1) q))))):=fun q hq =>
  qXfa1 _ _ _ _ _ _ _ _ _ _ ⟨ja,jb,k1,fun _=>⟨R (ZbL k1),R hq⟩,fun k=>by rw [mn_y k];exact s2 _ (ZbL k1),fun k=>by rw [mn_n k];exact s2 _ hq⟩
 exact qXfa0 _ _ _ _ _ _ _ _ _ ⟨ja,jb,k0,0,fun h=>absurd rfl h,s1 _ (ZbL k0)⟩
theorem ev48 (x0 y0 x1 y1 tp ax ay bx by_:Int) (h:N.okFa x0 y0 x1 y1 ax ay bx by_):Ev M1 (.pure 48 [.agg [.int .i64 x0,.int .i64 y0,.int .i64 x1,.int .i64 y1,.int .i64 tp],.agg [.int .i64 ax,.int .i64 ay],.agg [.int .i64 bx,.int .i64 by_]]) (ratF (N.farQ x0 y0 x1 y1 ax ay bx by_)) []:=by
 obtain ⟨c1,c2,c3,c4,c5,c6,c7,c8⟩:=h
 have V {u v:Int} (a:N.cc u) (b:N.cc v):N.okV (N.qi u) (N.qi v):=⟨Zbz a,Zbz b⟩
 have J {u v:Int} (a:N.cc u) (b:N.cc v):N.Zga u v:=⟨ZeH a,ZeH b⟩
 refine call48 (qXfa _ _ _ _ _ _ _ _ _ _ ⟨fun k=>⟨by unfold N.inI;omega,?_⟩,fun k=>⟨J c1 c2,J c3 c2,J c3 c4,J c1 c4,?_⟩⟩)
 ·unfold N.farQ;rw [if_pos k];exact .refl _
 ·unfold N.farQ;rw [if_neg k];exact farq_loop (V c1 c2) (V c3 c4) c5 c6 c7 c8
end Go.Av

namespace Go.Av
open Go.Proofs
set_option maxRecDepth 100000
def fi22:Fi:=⟨53,[.tmp 8,.tmp 9]⟩
def kp22:List (Nat × List Nat):=[(0,[3,4,5,6]),(1,[3,4,5,6,10,11]),(2,[3,4,5,6,10,11,12]),(3,[3,4,5,6,10,11,12,18]),(4,[3,4,5,6,10,11,12]),(5,[3,4,5,6,10,11,12,13]),(6,[3,4,5,6,10,11,12,13,48]),(7,[3,4,5,6,10,11,12]),(8,[8,9])]
def qXhi_at (f:Bool) (cs:List Bx) (u0 v0 u1 v1 th gp sf:Int) (ax ay bx by_ r:Int) (Q:AV->Heap->Prop):Prop:=Wp M1 (.run fi22 (atC (cd Tryz.f22) []) [(0,.agg [.int .i64 u0,.int .i64 v0,.int .i64 u1,.int .i64 v1,.int .i64 th,.int .i64 gp,.vec f 5 (cs.map Bx.a),.int .i64 sf]),(1,.agg [.int .i64 ax,.int .i64 ay]),(2,.agg [.int .i64 bx,.int .i64 by_]),(3,.int .i64 r)] []) Q
def ZdL (f:Bool) (cs:List Bx) (u0 v0 u1 v1 th gp sf:Int) (ax ay bx by_ r t:Int) (fo:Bool) (i:Int) (Q:AV->Heap->Prop):Prop:=Wp M1 (.run fi22 (atC (cd Tryz.f22) [1,1,0,1,0,0]) [(3,.int .i64 r),(4,.ptr 0 0 0 0),(5,.ptr 1 0 0 0),(6,.ptr 2 0 0 0),(10,.int .i64 t),(11,.bool fo),(12,.int .i64 i)] [⟨[.agg [.int .i64 u0,.int .i64 v0,.int .i64 u1,.int .i64 v1,.int .i64 th,.int .i64 gp,.vec f 5 (cs.map Bx.a),.int .i64 sf]],8,0,false,false⟩,⟨[.agg [.int .i64 ax,.int .i64 ay]],2,0,false,false⟩,⟨[.agg [.int .i64 bx,.int .i64 by_]],2,0,false,false⟩]) Q
theorem call22 {args:List AV} {d:AV} (h:wc M1 fi22 Tryz.f22 args d):Ev M1 (.pure 22 args) d []:=pcl _ _ (by kernel_rfl) h
theorem qXhi (f:Bool) (cs:List Bx) (u0 v0 u1 v1 th gp sf:Int) (ax ay bx by_ r:Int)  (dq:AV) (H :
  ZdL f cs u0 v0 u1 v1 th gp sf ax ay bx by_ r 0 false 0 (Zaf dq)) :
 qXhi_at f cs u0 v0 u1 v1 th gp sf ax ay bx by_ r (Zaf dq):=by
 unfold qXhi_at
 exact Zad (G:=Zae kp22 [] []) 1000 [] ⟨(atC (cd Tryz.f22) [1,1,0,1,0,0]),[(3,vi r),(4,AV.ptr 0 0 0 0),(5,AV.ptr 1 0 0 0),(6,AV.ptr 2 0 0 0),(10,vi 0),(11,vb false),(12,vi 0)],[⟨[ag [vi u0,vi v0,vi u1,vi v1,vi th,vi gp,AV.vec f 5 (List.map Bx.a cs),vi sf]],8,0,false,false⟩,⟨[ag [vi ax,vi ay]],2,0,false,false⟩,⟨[ag [vi bx,vi by_]],2,0,false,false⟩],_,[],_⟩ (by kernel_rfl) b0 q0 c0 H
noncomputable abbrev ZgB (cs:List Bx) (i:Int) (ax:Int) (ay:Int) (bx:Int) (by_:Int):=N.farQ (cs.getD i.toNat default).x0 (cs.getD i.toNat default).y0 (cs.getD i.toNat default).x1 (cs.getD i.toNat default).y1 ax ay bx by_
noncomputable abbrev zNrE2 (cs:List Bx) (i:Int):=ag [vi (cs.getD i.toNat default).x0,vi (cs.getD i.toNat default).y0,vi (cs.getD i.toNat default).x1,vi (cs.getD i.toNat default).y1,vi (cs.getD i.toNat default).top]
noncomputable abbrev zNrE3 (cs:List Bx) (i:Int) (ax:Int) (ay:Int) (bx:Int) (by_:Int) (r:Int):=N.sgnI ((ZgB cs i ax ay bx by_).num*(↑(N.qi r*N.qi r).den:Int)-(N.qi r*N.qi r).num*(↑(ZgB cs i ax ay bx by_).den:Int))<0
noncomputable abbrev zNrE4 (cs:List Bx) (i:Int) (ax:Int) (ay:Int) (bx:Int) (by_:Int) (r:Int):=N.sgnI ((ZgB cs i ax ay bx by_).num*(↑(N.qi r*N.qi r).den:Int)-(N.qi r*N.qi r).num*(↑(ZgB cs i ax ay bx by_).den:Int))
noncomputable abbrev zNrE5 (ax:Int) (ay:Int):=ag [vi ax,vi ay]
noncomputable abbrev zNrE6 (r:Int) (cs:List Bx) (i:Int) (ax:Int) (ay:Int) (bx:Int) (by_:Int) (fo:Bool) (t:Int):=bif bif decide (r>0) then decide (zNrE3 cs i ax ay bx by_ r) else false then bif !fo then true else decide ((cs.getD i.toNat default).top>t) else false
noncomputable abbrev zNrE7 (bx:Int) (by_:Int):=ag [vi bx,vi by_]
theorem qXhiL (f:Bool) (cs:List Bx) (u0 v0 u1 v1 th gp sf:Int) (ax ay bx by_ r t:Int) (fo:Bool) (i:Int)  (dq:AV) (H :
  ((i<(↑cs.length:Int))->(0<=i) /\
   (i.toNat<cs.length) /\
   ((r>0)->(N.okFa (cs.getD i.toNat default).x0 (cs.getD i.toNat default).y0 (cs.getD i.toNat default).x1 (cs.getD i.toNat default).y1 ax ay bx by_)) /\
   ((r>0)->(N.inI r)) /\
   ((r>0)->(N.okR (N.qi r))) /\
   ((r>0)->(N.okR (N.farQ (cs.getD i.toNat default).x0 (cs.getD i.toNat default).y0 (cs.getD i.toNat default).x1 (cs.getD i.toNat default).y1 ax ay bx by_)/\N.okR (N.qi r*N.qi r))) /\
   ((((r>0)/\(N.sgnI ((N.farQ (cs.getD i.toNat default).x0 (cs.getD i.toNat default).y0 (cs.getD i.toNat default).x1 (cs.getD i.toNat default).y1 ax ay bx by_).num*(↑(N.qi r*N.qi r).den:Int)-(N.qi r*N.qi r).num*(↑(N.farQ (cs.getD i.toNat default).x0 (cs.getD i.toNat default).y0 (cs.getD i.toNat default).x1 (cs.getD i.toNat default).y1 ax ay bx by_).den:Int))<0))/\((¬(fo=true))\/((cs.getD i.toNat default).top>t)))->(-9223372036854775808<=i+1/\i+1<=9223372036854775807) /\
    ZdL f cs u0 v0 u1 v1 th gp sf ax ay bx by_ r ((cs.getD i.toNat default).top) true (i+1) (Zaf dq)) /\
   (¬(((r>0)/\(N.sgnI ((N.farQ (cs.getD i.toNat default).x0 (cs.getD i.toNat default).y0 (cs.getD i.toNat default).x1 (cs.getD i.toNat default).y1 ax ay bx by_).num*(↑(N.qi r*N.qi r).den:Int)-(N.qi r*N.qi r).num*(↑(N.farQ (cs.getD i.toNat default).x0 (cs.getD i.toNat default).y0 (cs.getD i.toNat default).x1 (cs.getD i.toNat default).y1 ax ay bx by_).den:Int))<0))/\((¬(fo=true))\/((cs.getD i.toNat default).top>t)))->(-9223372036854775808<=i+1/\i+1<=9223372036854775807) /\
    ZdL f cs u0 v0 u1 v1 th gp sf ax ay bx by_ r t fo (i+1) (Zaf dq))) /\
  (¬(i<(↑cs.length:Int))->tu [vi t,vb fo]=dq)) :
 ZdL f cs u0 v0 u1 v1 th gp sf ax ay bx by_ r t fo i (Zaf dq):=by
 unfold ZdL
 have w1:(List.map Bx.a cs).length=cs.length:=List.length_map ..
 have i2:(decide (i<(↑(List.map Bx.a cs).length:Int)))=true ↔ (i<(↑cs.length:Int)):=(by (try rw [w1]);all_goals exact Zab)
 rcases xq H with ⟨d3,H⟩|⟨d3,H⟩
 ·obtain ⟨k5,H⟩:=H
  have i6:(decide (i.toNat<(List.map Bx.a cs).length))=true ↔ (i.toNat<cs.length):=(by (try rw [w1]);all_goals exact Zab)
  obtain ⟨k7,k9,k11,k13,k15,H⟩:=H
  refine Zad (G:=Zae kp22 [(5,4,.elem ((zNrE2 cs i))),(6,6,.call (ratF (ZgB cs i ax ay bx by_)) none),(6,8,.call (ratF (N.qi r)) none),(6,9,.call (ratF (N.qi r*N.qi r)) none),(6,10,.call (vi (zNrE4 cs i ax ay bx by_ r)) none)] []) 11 [true] ⟨(atC (cd Tryz.f22) [1,1,0,1,0,0,1,0,0,1,1]),[(3,vi r),(4,AV.ptr 0 0 0 0),(5,AV.ptr 1 0 0 0),(6,AV.ptr 2 0 0 0),(10,vi t),(11,vb fo),(12,vi i),(13,AV.ptr 3 0 0 0),(48,vb (zNrE6 r cs i ax ay bx by_ fo t))],[⟨[ag [vi u0,vi v0,vi u1,vi v1,vi th,vi gp,AV.vec f 5 (List.map Bx.a cs),vi sf]],8,0,false,false⟩,⟨[(zNrE5 ax ay)],2,0,false,false⟩,⟨[(zNrE7 bx by_)],2,0,false,false⟩,⟨[(zNrE2 cs i)],5,0,false,false⟩],[true,(decide (i<(↑(List.map Bx.a cs).length:Int)))==true,true,decide (0<=i),decide (i.toNat<(List.map Bx.a cs).length),true,!(decide (r>0)==true&&true)||true,!(decide (r>0)==true&&true)||true,!(decide (r>0)==true&&true)||true,!((!fo)==false&&((bif decide (r>0) then decide (zNrE3 cs i ax ay bx by_ r) else false)==true&&true))||true],[((List.map Bx.a cs).get?Internal i.toNat=some ((zNrE2 cs i)))],[⟨decide (r>0)==true&&true&&true,false,48,[(zNrE2 cs i),(zNrE5 ax ay),(zNrE7 bx by_)],[],ratF (ZgB cs i ax ay bx by_),[]⟩,⟨decide (r>0)==true&&true&&true,false,50,[vi r],[],ratF (N.qi r),[]⟩,⟨decide (r>0)==true&&true&&true,false,49,[ratF (N.qi r)],[],ratF (N.qi r*N.qi r),[]⟩,⟨decide (r>0)==true&&true&&true,false,47,[ratF (ZgB cs i ax ay bx by_),ratF (N.qi r*N.qi r)],[],vi (zNrE4 cs i ax ay bx by_ r),[]⟩]⟩ (by kernel_rfl) (bc rfl (bc (Zan (i2.2 d3)) (bc rfl (bc (Zab.2 k5) (bc (i6.2 k7) (bc rfl (bc (Bool.or_true _) (bc (Bool.or_true _) (bc (Bool.or_true _) (bc (Bool.or_true _) b0)))))))))) (qc (Zao k7) q0) (cc (fun hc=>((@ev48 ((cs.getD i.toNat default).x0) ((cs.getD i.toNat default).y0) ((cs.getD i.toNat default).x1) ((cs.getD i.toNat default).y1) ((cs.getD i.toNat default).top) ax ay bx by_ (k9 ((i_at (i_at (i_bt Zab))).1 hc))):Ev M1 (Conf.pure 48 [(zNrE2 cs i),(zNrE5 ax ay),(zNrE7 bx by_)]) (ratF (ZgB cs i ax ay bx by_)) [])) (cc (fun hc=>((@ev50 r (k11 ((i_at (i_at (i_bt Zab))).1 hc))):Ev M1 (Conf.pure 50 [vi r]) (ratF (N.qi r)) [])) (cc (fun hc=>((@ev49 false false (N.qi r) (k13 ((i_at (i_at (i_bt Zab))).1 hc))):Ev M1 (Conf.pure 49 [ratF (N.qi r)]) (ratF (N.qi r*N.qi r)) [])) (cc (fun hc=>((@ev47 false false false false (ZgB cs i ax ay bx by_) (N.qi r*N.qi r) (k15 ((i_at (i_at (i_bt Zab))).1 hc))):Ev M1 (Conf.pure 47 [ratF (ZgB cs i ax ay bx by_),ratF (N.qi r*N.qi r)]) (vi (zNrE4 cs i ax ay bx by_ r)) [])) c0)))) ?_
  rcases xq H with ⟨d17,H⟩|⟨d17,H⟩
  ·obtain ⟨k18,H⟩:=H
   have w19:wi (i+1)=i+1:=wI64 k18
   exact Zad (G:=Zae kp22 [] []) 1000 [true] ⟨(atC (cd Tryz.f22) [1,1,0,1,0,0]),[(3,vi r),(4,AV.ptr 0 0 0 0),(5,AV.ptr 1 0 0 0),(6,AV.ptr 2 0 0 0),(10,vi (cs.getD i.toNat default).top),(11,vb true),(12,vi (wi (i+1)))],[⟨[ag [vi u0,vi v0,vi u1,vi v1,vi th,vi gp,AV.vec f 5 (List.map Bx.a cs),vi sf]],8,0,false,false⟩,⟨[(zNrE5 ax ay)],2,0,false,false⟩,⟨[(zNrE7 bx by_)],2,0,false,false⟩,⟨[(zNrE2 cs i)],5,0,false,false⟩],[(zNrE6 r cs i ax ay bx by_ fo t)==true,true],[],_⟩ (by kernel_rfl) (bc (Zan ((Zbt (Zbt Zab Zab) (Zdf (ZcJ (Zbq _)) Zab)).2 d17)) (bc rfl b0)) q0 c0 (by (try rw [w19]);all_goals exact Zas [0,1,2] (by kernel_rfl) H)
  ·obtain ⟨k20,H⟩:=H
   have w21:wi (i+1)=i+1:=wI64 k20
   exact Zad (G:=Zae kp22 [] []) 1000 [false] ⟨(atC (cd Tryz.f22) [1,1,0,1,0,0]),[(3,vi r),(4,AV.ptr 0 0 0 0),(5,AV.ptr 1 0 0 0),(6,AV.ptr 2 0 0 0),(10,vi t),(11,vb fo),(12,vi (wi (i+1)))],[⟨[ag [vi u0,vi v0,vi u1,vi v1,vi th,vi gp,AV.vec f 5 (List.map Bx.a cs),vi sf]],8,0,false,false⟩,⟨[(zNrE5 ax ay)],2,0,false,false⟩,⟨[(zNrE7 bx by_)],2,0,false,false⟩,⟨[(zNrE2 cs i)],5,0,false,false⟩],[(zNrE6 r cs i ax ay bx by_ fo t)==false],[],_⟩ (by kernel_rfl) (bc (Zam (fun h=>d17 ((Zbt (Zbt Zab Zab) (Zdf (ZcJ (Zbq _)) Zab)).1 h))) b0) q0 c0 (by (try rw [w21]);all_goals exact Zas [0,1,2] (by kernel_rfl) H)
 ·exact Zaq (G:=Zae kp22 [] []) 1000 [false] (tu [vi t,vb fo]) (by kernel_rfl) (bc rfl (bc (Zam (fun h=>d3 (i2.1 h))) b0)) q0 c0 H
end Go.Av

namespace Go.Av
open Go.Proofs
section
variable {f:Bool} {cs:List Bx} {u0 v0 u1 v1 th gp sf ax ay bx by_ r:Int}
theorem hiF_no:∀ (cs:List Bx) (t:Int) (fo:Bool),(fo=false->t=0)->(N.hiF ax ay bx by_ r cs t fo).2=false->(N.hiF ax ay bx by_ r cs t fo).1=0
 | [],_,_,h,k=>h k
 | c::cs,t,fo,h,k=>by
  rw [N.hiF] at k ⊢
  split
  ·rename_i j
   rw [if_pos j] at k
   exact hiF_no cs c.top true (fun x=>absurd x (by decide)) k
  ·rename_i j
   rw [if_neg j] at k
   exact hiF_no cs t fo h k
theorem hgt_ref (h:¬(N.hiF ax ay bx by_ r cs 0 false).2=true\/(N.hiF ax ay bx by_ r cs 0 false).1<0):N.hgt cs ax ay bx by_ r=1000:=by
 unfold N.hgt
 rcases h with h | h
 ·have:=hiF_no cs 0 false (fun _=>rfl) (by simpa using h)
  rw [this];rfl
 ·rw [if_neg (by omega)];rfl
theorem hgt_ref2 (h:¬(¬(N.hiF ax ay bx by_ r cs 0 false).2=true\/(N.hiF ax ay bx by_ r cs 0 false).1<0)):N.hgt cs ax ay bx by_ r=(N.hiF ax ay bx by_ r cs 0 false).1+1000:=by
 unfold N.hgt
 split <;> omega
theorem xhi_loop (h:N.okHi cs ax ay bx by_ r) (m:Nat):∀ (i:Nat) (t:Int) (fo:Bool),i+m=cs.length ->
  ZdL f cs u0 v0 u1 v1 th gp sf ax ay bx by_ r t fo i (Zaf (.tup [.int .i64 (N.hiF ax ay bx by_ r (cs.drop i) t fo).1,.bool (N.hiF ax ay bx by_ r (cs.drop i) t fo).2])):=by
 obtain ⟨h1,h2,h3,h4,h5,h6,h7⟩:=h
 induction m with
 | zero =>
  intro i t fo e
  refine qXhiL _ _ _ _ _ _ _ _ _ _ _ _ _ _ _ _ _ _ ⟨fun x=>by omega,fun _ => ?_⟩
  rw [List.drop_eq_nil_of_le (by omega)];rfl
 | succ m ih =>
  intro i t fo e
  have hi:i<cs.length:=by omega
  refine qXhiL _ _ _ _ _ _ _ _ _ _ _ _ _ _ _ _ _ _ ⟨fun x => ?_,fun x=>by omega⟩
  rw [Int.toNat_natCast,show (i:Int)+1=((i+1:Nat):Int) by omega,Zbu hi]
  obtain ⟨c1,c2,c3,c4⟩:=h2 _ (ZcM hi)
  have hr:N.okR (N.qi r):=ZaX (Zbz h7) (by omega)
  have hrr:N.okR (N.qi r*N.qi r):=ZaX (Zbs (Zbz h7) (Zbz h7)) (by omega)
  have hfa:N.okFa (cs.getD i default).x0 (cs.getD i default).y0 (cs.getD i default).x1 (cs.getD i default).y1 ax ay bx by_:=⟨c1,c2,c3,c4,h3,h4,h5,h6⟩
  refine ⟨by omega,hi,fun _=>hfa,fun _=>ZeH h7,fun _=>hr,fun _=>⟨ZaX (okT_farQ hfa) (by omega),hrr⟩,fun k=>⟨by omega,?_⟩,fun k=>⟨by omega,?_⟩⟩
  ·rw [N.hiF,if_pos ⟨near_far.2 ⟨k.1.1,Zci.1 k.1.2⟩,k.2⟩];exact ih (i+1) _ _ (by omega)
  ·rw [N.hiF,if_neg fun x=>k ⟨⟨(near_far.1 x.1).1,Zci.2 (near_far.1 x.1).2⟩,x.2⟩];exact ih (i+1) _ _ (by omega)
end
theorem ev22 (f:Bool) (cs:List Bx) (u0 v0 u1 v1 th gp sf ax ay bx by_ r:Int) (h:N.okHi cs ax ay bx by_ r):Ev M1 (.pure 22 [.agg [.int .i64 u0,.int .i64 v0,.int .i64 u1,.int .i64 v1,.int .i64 th,.int .i64 gp,.vec f 5 (cs.map Bx.a),.int .i64 sf],.agg [.int .i64 ax,.int .i64 ay],.agg [.int .i64 bx,.int .i64 by_],.int .i64 r]) (.tup [.int .i64 (N.hiF ax ay bx by_ r cs 0 false).1,.bool (N.hiF ax ay bx by_ r cs 0 false).2]) []:=by
 have:=xhi_loop (f:=f) (u0:=u0) (v0:=v0) (u1:=u1) (v1:=v1) (th:=th) (gp:=gp) (sf:=sf) h cs.length 0 0 false (by omega)
 exact call22 (qXhi _ _ _ _ _ _ _ _ _ _ _ _ _ _ _ this)
end Go.Av

namespace Go.Av
open Go.Proofs
set_option maxRecDepth 100000
def fi10:Fi:=⟨27,[.tmp 8]⟩
def kp10:List (Nat × List Nat):=[(0,[3,4,5,6]),(1,[9,10]),(2,[9,24]),(3,[9]),(4,[8])]
def qXhg_at (f:Bool) (cs:List Bx) (u0 v0 u1 v1 th gp sf:Int) (ax ay bx by_ r:Int) (Q:AV->Heap->Prop):Prop:=Wp M1 (.run fi10 (atC (cd Tryz.f10) []) [(0,.agg [.int .i64 u0,.int .i64 v0,.int .i64 u1,.int .i64 v1,.int .i64 th,.int .i64 gp,.vec f 5 (cs.map Bx.a),.int .i64 sf]),(1,.agg [.int .i64 ax,.int .i64 ay]),(2,.agg [.int .i64 bx,.int .i64 by_]),(3,.int .i64 r)] []) Q
theorem call10 {args:List AV} {d:AV} (h:wc M1 fi10 Tryz.f10 args d):Ev M1 (.pure 10 args) d []:=pcl _ _ (by kernel_rfl) h
noncomputable abbrev zNrF1 (ax:Int) (ay:Int) (bx:Int) (by_:Int) (r:Int) (cs:List Bx):=bif !(N.hiF ax ay bx by_ r cs 0 false).2 then true else decide ((N.hiF ax ay bx by_ r cs 0 false).fst<0)
theorem qXhg (f:Bool) (cs:List Bx) (u0 v0 u1 v1 th gp sf:Int) (ax ay bx by_ r:Int)  (dq:AV) (H :
  (N.okHi cs ax ay bx by_ r) /\
  (((¬((N.hiF ax ay bx by_ r cs 0 false).2=true))\/((N.hiF ax ay bx by_ r cs 0 false).fst<0))->vi 1000=dq) /\
  (¬((¬((N.hiF ax ay bx by_ r cs 0 false).2=true))\/((N.hiF ax ay bx by_ r cs 0 false).fst<0))->(-9223372036854775808<=(N.hiF ax ay bx by_ r cs 0 false).fst+1000/\(N.hiF ax ay bx by_ r cs 0 false).fst+1000<=9223372036854775807) /\
   vi ((N.hiF ax ay bx by_ r cs 0 false).fst+1000)=dq)) :
 qXhg_at f cs u0 v0 u1 v1 th gp sf ax ay bx by_ r (Zaf dq):=by
 unfold qXhg_at
 obtain ⟨k1,H⟩:=H
 refine Zad (G:=Zae kp10 [(1,4,.call (tu [vi (N.hiF ax ay bx by_ r cs 0 false).fst,vb (N.hiF ax ay bx by_ r cs 0 false).2]) none)] []) 7 [] ⟨(atC (cd Tryz.f10) [1,1,0,1]),[(9,vi (N.hiF ax ay bx by_ r cs 0 false).fst),(24,vb (zNrF1 ax ay bx by_ r cs))],[⟨[ag [vi u0,vi v0,vi u1,vi v1,vi th,vi gp,AV.vec f 5 (List.map Bx.a cs),vi sf]],8,0,false,false⟩,⟨[ag [vi ax,vi ay]],2,0,false,false⟩,⟨[ag [vi bx,vi by_]],2,0,false,false⟩],_,[],_⟩ (by kernel_rfl) (bc rfl (bc rfl (bc rfl b0))) q0 (ce (@ev22 f cs u0 v0 u1 v1 th gp sf ax ay bx by_ r k1) c0) ?_
 rcases xq H with ⟨d3,H⟩|⟨d3,H⟩
 ·exact Zaq (G:=Zae kp10 [] []) 1000 [true] (asm:=[(zNrF1 ax ay bx by_ r cs)==true]) (vi 1000) (by kernel_rfl) (bc (Zan ((Zdf (ZcJ (Zbq _)) Zab).2 d3)) b0) q0 c0 H
 ·obtain ⟨k4,H⟩:=H
  have w5:wi ((N.hiF ax ay bx by_ r cs 0 false).fst+1000)=(N.hiF ax ay bx by_ r cs 0 false).fst+1000:=wI64 k4
  exact Zaq (G:=Zae kp10 [] []) 1000 [false] (asm:=[(zNrF1 ax ay bx by_ r cs)==false]) (vi (wi ((N.hiF ax ay bx by_ r cs 0 false).fst+1000))) (by kernel_rfl) (bc (Zam (fun h=>d3 ((Zdf (ZcJ (Zbq _)) Zab).1 h))) b0) q0 c0 (by (try rw [w5]);all_goals exact H)
end Go.Av

namespace Go.Av
open Go.Proofs
theorem ev10 (f:Bool) (cs:List Bx) (u0 v0 u1 v1 th gp sf ax ay bx by_ r:Int) (h:N.okHg cs ax ay bx by_ r):Ev M1 (.pure 10 [.agg [.int .i64 u0,.int .i64 v0,.int .i64 u1,.int .i64 v1,.int .i64 th,.int .i64 gp,.vec f 5 (cs.map Bx.a),.int .i64 sf],.agg [.int .i64 ax,.int .i64 ay],.agg [.int .i64 bx,.int .i64 by_],.int .i64 r]) (.int .i64 (N.hgt cs ax ay bx by_ r)) []:=by
 have b:=hgt_bd h
 refine call10 (qXhg _ _ _ _ _ _ _ _ _ _ _ _ _ _ _ ⟨h.1,fun k => ?_,fun k => ?_⟩)
 ·rw [hgt_ref k]
 ·rw [hgt_ref2 k];rw [hgt_ref2 k] at b;exact ⟨by omega,rfl⟩
end Go.Av

namespace Go.Av
open Go.Proofs
set_option maxRecDepth 100000
end Go.Av

namespace Go.Av
open Go.Proofs
end Go.Av

namespace Go.Av
open Go.Proofs
set_option maxRecDepth 100000
end Go.Av

namespace Go.Av
open Go.Proofs
namespace N
def inr (l:List Int):Prop:=∀ n ∈ l,¬fr1 n
def rg6 (cs:List Bx) (u0 v0 u1 v1 th gp sf a b c d e g:Int):Prop:=((¬fr1 a/\¬fr1 b/\¬fr1 c)/\¬fr1 d/\¬fr1 e/\¬fr1 g)/\rgt cs u0 v0 u1 v1 th gp sf
end N
noncomputable instance (cs:List Bx) (u0 v0 u1 v1 th gp sf a b c d e g:Int):Decidable (N.rg6 cs u0 v0 u1 v1 th gp sf a b c d e g):=Classical.propDecidable _
open Classical in
theorem rgt_loop {f nf:Bool} {cs:List Bx} {u0 v0 u1 v1 th gp sf:Int} {ns:List Int} (hn:ns.length<=100) (m:Nat):∀ i:Nat,i+m=ns.length ->
  Zes f cs u0 v0 u1 v1 th gp sf nf ns ns.length i (Zaf (.bool (decide (N.inr (ns.drop i)/\N.rgt cs u0 v0 u1 v1 th gp sf)))):=by
 induction m with
 | zero =>
  intro i e
  refine qRgtL _ _ _ _ _ _ _ _ _ _ _ _ _ _ ⟨fun x=>by omega,fun _=>⟨fun _=>by omega,congrArg AV.bool ?_⟩⟩
  rw [List.drop_eq_nil_of_le (by omega),Bool.eq_iff_iff]
  unfold N.rgt N.inr
  by_cases k:cs.length<=6
  ·by_cases j:N.vaP cs u0 v0 u1 v1 th gp sf
   ·simp [k,j,va_y j]
   ·simp [k,j,va_n j]
  ·simp [k]
 | succ m ih =>
  intro i e
  have hi:i<ns.length:=by omega
  refine qRgtL _ _ _ _ _ _ _ _ _ _ _ _ _ _ ⟨fun x => ?_,fun x=>by omega⟩
  rw [Int.toNat_natCast,show (i:Int)+1=((i+1:Nat):Int) by omega,Zbu hi]
  refine ⟨by omega,hi,fun k => ?_,fun k=>⟨by omega,?_⟩⟩
  ·rw [decide_eq_false fun x=>x.1 _ (.head _) k]
  ·have:=ih (i+1) (by omega)
   have e:(N.inr (ns.drop (i+1))/\N.rgt cs u0 v0 u1 v1 th gp sf) ↔ (N.inr (ns.getD i default::ns.drop (i+1))/\N.rgt cs u0 v0 u1 v1 th gp sf):=
    ⟨fun x=>⟨fun n hn=>by rcases List.mem_cons.1 hn with rfl | hn;exact k;exact x.1 n hn,x.2⟩,fun x=>⟨fun n hn=>x.1 n (.tail _ hn),x.2⟩⟩
   rw [Zc9 e] at this
   exact this
open Classical in
theorem ev6_a (f:Bool) (cs:List Bx) (u0 v0 u1 v1 th gp sf a b c d e g:Int):Ev M1 (.pure 6 [.agg [.int .i64 u0,.int .i64 v0,.int .i64 u1,.int .i64 v1,.int .i64 th,.int .i64 gp,.vec f 5 (cs.map Bx.a),.int .i64 sf],.vec true 1 [.int .i64 a,.int .i64 b,.int .i64 c,.int .i64 d,.int .i64 e,.int .i64 g]]) (.bool (decide (N.rg6 cs u0 v0 u1 v1 th gp sf a b c d e g))) []:=by
 have h:=rgt_loop (f:=f) (nf:=true) (cs:=cs) (u0:=u0) (v0:=v0) (u1:=u1) (v1:=v1) (th:=th) (gp:=gp) (sf:=sf) (ns:=[a,b,c,d,e,g]) (by simp) 6 0 rfl
 have q:(N.inr ([a,b,c,d,e,g].drop 0)/\N.rgt cs u0 v0 u1 v1 th gp sf) ↔ N.rg6 cs u0 v0 u1 v1 th gp sf a b c d e g:=by
  unfold N.inr N.rg6
  simp only [List.drop_zero,List.mem_cons,List.not_mem_nil,or_false,forall_eq_or_imp,forall_eq,and_assoc]
 rw [Zc9 q] at h
 exact call6 (qRgt _ _ _ _ _ _ _ _ _ _ _ _ h)
end Go.Av

namespace Go.Av
open Go.Proofs
set_option maxRecDepth 100000
def fi3:Fi:=⟨86,[.tmp 6]⟩
def kp3:List (Nat × List Nat):=[(0,[3,4,5]),(1,[3,7,8,9,10]),(2,[3,7,8,9,10,43]),(3,[6]),(4,[3,7,8,9,11,12]),(5,[11,12,70]),(6,[6]),(7,[11,12,72,73]),(8,[11,12,72,73,74]),(9,[11,12,13,72,73]),(10,[11,12,72,73,84]),(11,[6]),(12,[11,12,72,73]),(13,[6])]
def qXht_at (f:Bool) (cs:List Bx) (u0 v0 u1 v1 th gp sf:Int) (ax ay bx by_ r z:Int) (Q:AV->Heap->Prop):Prop:=Wp M1 (.run fi3 (atC (cd Tryz.f3) []) [(0,.agg [.int .i64 u0,.int .i64 v0,.int .i64 u1,.int .i64 v1,.int .i64 th,.int .i64 gp,.vec f 5 (cs.map Bx.a),.int .i64 sf]),(1,.agg [.int .i64 ax,.int .i64 ay,.int .i64 bx,.int .i64 by_]),(2,.agg [.int .i64 r,.int .i64 z])] []) Q
def Zel (fb gb:Bool) (bs ds:List Bx) (n i:Int) (Q:AV->Heap->Prop):Prop:=Wp M1 (.run fi3 (atC (cd Tryz.f3) [1,1,1,1,1,0,1,0,0]) [(11,.vec fb 5 (bs.map Bx.a)),(12,.vec gb 5 (ds.map Bx.a)),(72,.int .i64 n),(73,.int .i64 i)] []) Q
theorem call3 {args:List AV} {d:AV} (h:wc M1 fi3 Tryz.f3 args d):Ev M1 (.pure 3 args) d []:=pcl _ _ (by kernel_rfl) h
noncomputable abbrev zNrH1 (ax:Int) (ay:Int) (bx:Int) (by_:Int):=ag [vi ax,vi ay,vi bx,vi by_]
noncomputable abbrev zNrH2 (ax:Int) (ay:Int):=ag [vi ax,vi ay]
noncomputable abbrev zNrH3 (bx:Int) (by_:Int):=ag [vi bx,vi by_]
noncomputable abbrev zNrH4 (r:Int) (z:Int):=ag [vi r,vi z]
theorem qXht (f:Bool) (cs:List Bx) (u0 v0 u1 v1 th gp sf:Int) (ax ay bx by_ r z:Int)  (dq:AV) (H :
  (((¬(N.rg6 cs u0 v0 u1 v1 th gp sf ax ay bx by_ r z))\/(r<0))->vb true=dq) /\
  (¬((¬(N.rg6 cs u0 v0 u1 v1 th gp sf ax ay bx by_ r z))\/(r<0))->(N.okBlk cs r) /\
   ((¬(¬(↑(N.blk cs z r).length:Int)=(↑(N.blk cs z r).length:Int)))->(N.okHg cs ax ay bx by_ r)) /\
   (((¬(↑(N.blk cs z r).length:Int)=(↑(N.blk cs z r).length:Int))\/(¬N.hgt cs ax ay bx by_ r=N.hgt cs ax ay bx by_ r))->vb false=dq) /\
   (¬((¬(↑(N.blk cs z r).length:Int)=(↑(N.blk cs z r).length:Int))\/(¬N.hgt cs ax ay bx by_ r=N.hgt cs ax ay bx by_ r))->Zel false false (N.blk cs z r) (N.blk cs z r) ((↑(N.blk cs z r).length:Int)) 0 (Zaf dq)))) :
 qXht_at f cs u0 v0 u1 v1 th gp sf ax ay bx by_ r z (Zaf dq):=by
 unfold qXht_at
 refine Zad (G:=Zae kp3 [] [(1,[6011,5010,6009,5008,4007,4006,4005,4004,3003,3002,3001,3000])]) 3 [] ⟨(atC (cd Tryz.f3) [1,0]),[(3,AV.ptr 0 0 0 0),(4,AV.ptr 1 0 0 0),(5,AV.ptr 2 0 0 0)],[⟨[ag [vi u0,vi v0,vi u1,vi v1,vi th,vi gp,AV.vec f 5 (List.map Bx.a cs),vi sf]],8,0,false,false⟩,⟨[(zNrH1 ax ay bx by_)],4,0,false,false⟩,⟨[(zNrH4 r z)],2,0,false,false⟩],_,[],_⟩ (by kernel_rfl) b0 q0 c0 (ZcN (G:=Zae kp3 [] [(1,[6011,5010,6009,5008,4007,4006,4005,4004,3003,3002,3001,3000])]) [0,1,2,4,3] 8 (e1:=[(3,AV.ptr 0 0 0 0),(7,AV.ptr 3 0 0 0),(8,AV.ptr 4 0 0 0),(9,vi r),(10,vi z)]) (L1:=[⟨[ag [vi u0,vi v0,vi u1,vi v1,vi th,vi gp,AV.vec f 5 (List.map Bx.a cs),vi sf]],8,0,false,false⟩,⟨[(zNrH1 ax ay bx by_)],4,0,false,false⟩,⟨[(zNrH4 r z)],2,0,false,false⟩,⟨[(zNrH2 ax ay)],2,0,false,false⟩,⟨[(zNrH3 bx by_)],2,0,false,false⟩]) (a:=[true,true,true,true,true,true,true,true,true,true,true,true,true,true]) (q:=[]) (cs:=[]) (by kernel_rfl) (by kernel_rfl) (Zag rfl (Zag rfl (Zag rfl (Zag rfl (Zag rfl (Zag rfl (Zag rfl (Zag rfl (Zag rfl (Zag rfl (Zag rfl (Zag rfl (Zag rfl (Zag rfl ZaB)))))))))))))) ZaV ZaW ?_)
 refine Zad (G:=Zae kp3 [(2,0,.call (vb true) none),(2,15,.call (vb (decide (N.rg6 cs u0 v0 u1 v1 th gp sf ax ay bx by_ r z))) none)] []) 3 [] ⟨(atC (cd Tryz.f3) [1,1,0,1]),[(3,AV.ptr 0 0 0 0),(7,AV.ptr 3 0 0 0),(8,AV.ptr 4 0 0 0),(9,vi r),(10,vi z),(43,vb (bif !decide (N.rg6 cs u0 v0 u1 v1 th gp sf ax ay bx by_ r z) then true else decide (r<0)))],[⟨[ag [vi u0,vi v0,vi u1,vi v1,vi th,vi gp,AV.vec f 5 (List.map Bx.a cs),vi sf]],8,0,false,false⟩,⟨[(zNrH1 ax ay bx by_)],4,0,false,false⟩,⟨[(zNrH4 r z)],2,0,false,false⟩,⟨[(zNrH2 ax ay)],2,0,false,false⟩,⟨[(zNrH3 bx by_)],2,0,false,false⟩],_,[],_⟩ (by kernel_rfl) (bc rfl (bc rfl (bc rfl (bc rfl (bc rfl b0))))) q0 (ce (@ev5 ) (ce (@ev6_a f cs u0 v0 u1 v1 th gp sf ax ay bx by_ r z) c0)) ?_
 rcases xq H with ⟨d2,H⟩|⟨d2,H⟩
 ·exact Zaq (G:=Zae kp3 [(3,0,.call (vb true) none)] []) 1000 [true] (vb true) (by kernel_rfl) (bc (Zan ((Zdf (ZcJ Zab) Zab).2 d2)) b0) q0 (ce (@ev5 ) c0) H
 ·obtain ⟨k3,H⟩:=H
  have w4:(List.map Bx.a (N.blk cs z r)).length=(N.blk cs z r).length:=List.length_map ..
  have i5:(((↑(List.map Bx.a (N.blk cs z r)).length:Int) != (↑(List.map Bx.a (N.blk cs z r)).length:Int))==false&&true&&true)=true ↔ (¬(¬(↑(N.blk cs z r).length:Int)=(↑(N.blk cs z r).length:Int))):=(by (try rw [w4]);all_goals exact (i_at (i_at (i_bf i_ne))))
  obtain ⟨k6,H⟩:=H
  have i7:(((↑(List.map Bx.a (N.blk cs z r)).length:Int) != (↑(List.map Bx.a (N.blk cs z r)).length:Int))==false&&true&&true)=true ↔ (¬(¬(↑(N.blk cs z r).length:Int)=(↑(N.blk cs z r).length:Int))):=(by (try rw [w4]);all_goals exact (i_at (i_at (i_bf i_ne))))
  have i8:(bif (↑(List.map Bx.a (N.blk cs z r)).length:Int) != (↑(List.map Bx.a (N.blk cs z r)).length:Int) then true else N.hgt cs ax ay bx by_ r != N.hgt cs ax ay bx by_ r)=true ↔ ((¬(↑(N.blk cs z r).length:Int)=(↑(N.blk cs z r).length:Int))\/(¬N.hgt cs ax ay bx by_ r=N.hgt cs ax ay bx by_ r)):=(by (try rw [w4]);all_goals exact (Zdf i_ne i_ne))
  refine Zad (G:=Zae kp3 [(4,3,.call (AV.vec false 5 (List.map Bx.a (N.blk cs z r))) none),(4,7,.call (AV.vec false 5 (List.map Bx.a (N.blk cs z r))) none),(5,10,.call (vi (N.hgt cs ax ay bx by_ r)) none),(5,15,.call (vi (N.hgt cs ax ay bx by_ r)) none)] []) 7 [false] ⟨(atC (cd Tryz.f3) [1,1,1,1,0,1]),[(11,AV.vec false 5 (List.map Bx.a (N.blk cs z r))),(12,AV.vec false 5 (List.map Bx.a (N.blk cs z r))),(70,vb (bif (↑(List.map Bx.a (N.blk cs z r)).length:Int) != (↑(List.map Bx.a (N.blk cs z r)).length:Int) then true else N.hgt cs ax ay bx by_ r != N.hgt cs ax ay bx by_ r))],[⟨[ag [vi u0,vi v0,vi u1,vi v1,vi th,vi gp,AV.vec f 5 (List.map Bx.a cs),vi sf]],8,0,false,false⟩,⟨[(zNrH1 ax ay bx by_)],4,0,false,false⟩,⟨[(zNrH4 r z)],2,0,false,false⟩,⟨[(zNrH2 ax ay)],2,0,false,false⟩,⟨[(zNrH3 bx by_)],2,0,false,false⟩],[(bif !decide (N.rg6 cs u0 v0 u1 v1 th gp sf ax ay bx by_ r z) then true else decide (r<0))==false,true,true,!(((↑(List.map Bx.a (N.blk cs z r)).length:Int) != (↑(List.map Bx.a (N.blk cs z r)).length:Int))==false&&true)||true,!(((↑(List.map Bx.a (N.blk cs z r)).length:Int) != (↑(List.map Bx.a (N.blk cs z r)).length:Int))==false&&true)||true,!(((↑(List.map Bx.a (N.blk cs z r)).length:Int) != (↑(List.map Bx.a (N.blk cs z r)).length:Int))==false&&true)||true,!(((↑(List.map Bx.a (N.blk cs z r)).length:Int) != (↑(List.map Bx.a (N.blk cs z r)).length:Int))==false&&true)||true,!(((↑(List.map Bx.a (N.blk cs z r)).length:Int) != (↑(List.map Bx.a (N.blk cs z r)).length:Int))==false&&true)||true,!(((↑(List.map Bx.a (N.blk cs z r)).length:Int) != (↑(List.map Bx.a (N.blk cs z r)).length:Int))==false&&true)||true],[],[⟨true,false,7,[ag [vi u0,vi v0,vi u1,vi v1,vi th,vi gp,AV.vec f 5 (List.map Bx.a cs),vi sf],vi z,vi r],[],AV.vec false 5 (List.map Bx.a (N.blk cs z r)),[]⟩,⟨true,false,8,[ag [vi u0,vi v0,vi u1,vi v1,vi th,vi gp,AV.vec f 5 (List.map Bx.a cs),vi sf],vi z,vi r],[],AV.vec false 5 (List.map Bx.a (N.blk cs z r)),[]⟩,⟨((↑(List.map Bx.a (N.blk cs z r)).length:Int) != (↑(List.map Bx.a (N.blk cs z r)).length:Int))==false&&true&&true,false,9,[ag [vi u0,vi v0,vi u1,vi v1,vi th,vi gp,AV.vec f 5 (List.map Bx.a cs),vi sf],(zNrH2 ax ay),(zNrH3 bx by_),vi r],[],vi (N.hgt cs ax ay bx by_ r),[]⟩,⟨((↑(List.map Bx.a (N.blk cs z r)).length:Int) != (↑(List.map Bx.a (N.blk cs z r)).length:Int))==false&&true&&true,false,10,[ag [vi u0,vi v0,vi u1,vi v1,vi th,vi gp,AV.vec f 5 (List.map Bx.a cs),vi sf],(zNrH2 ax ay),(zNrH3 bx by_),vi r],[],vi (N.hgt cs ax ay bx by_ r),[]⟩]⟩ (by kernel_rfl) (bc (Zam (fun h=>d2 ((Zdf (ZcJ Zab) Zab).1 h))) (bc rfl (bc rfl (bc (Bool.or_true _) (bc (Bool.or_true _) (bc (Bool.or_true _) (bc (Bool.or_true _) (bc (Bool.or_true _) (bc (Bool.or_true _) b0))))))))) q0 (cc (fun _=>(@ev7 f cs u0 v0 u1 v1 th gp sf z r k3)) (cc (fun _=>(@ev8 f cs u0 v0 u1 v1 th gp sf z r k3)) (cc (fun hc=>((@ev9 f cs u0 v0 u1 v1 th gp sf ax ay bx by_ r (k6 (i5.1 hc))):Ev M1 (Conf.pure 9 [ag [vi u0,vi v0,vi u1,vi v1,vi th,vi gp,AV.vec f 5 (List.map Bx.a cs),vi sf],(zNrH2 ax ay),(zNrH3 bx by_),vi r]) (vi (N.hgt cs ax ay bx by_ r)) [])) (cc (fun hc=>((@ev10 f cs u0 v0 u1 v1 th gp sf ax ay bx by_ r (k6 (i7.1 hc))):Ev M1 (Conf.pure 10 [ag [vi u0,vi v0,vi u1,vi v1,vi th,vi gp,AV.vec f 5 (List.map Bx.a cs),vi sf],(zNrH2 ax ay),(zNrH3 bx by_),vi r]) (vi (N.hgt cs ax ay bx by_ r)) [])) c0)))) ?_
  rcases xq H with ⟨d9,H⟩|⟨d9,H⟩
  ·exact Zaq (G:=Zae kp3 [] []) 1000 [true] (vb false) (by kernel_rfl) (bc (Zan (i8.2 d9)) b0) q0 c0 H
  ·exact Zad (G:=Zae kp3 [] []) 1000 [false] ⟨(atC (cd Tryz.f3) [1,1,1,1,1,0,1,0,0]),[(11,AV.vec false 5 (List.map Bx.a (N.blk cs z r))),(12,AV.vec false 5 (List.map Bx.a (N.blk cs z r))),(72,vi (↑(List.map Bx.a (N.blk cs z r)).length:Int)),(73,vi 0)],[⟨[ag [vi u0,vi v0,vi u1,vi v1,vi th,vi gp,AV.vec f 5 (List.map Bx.a cs),vi sf]],8,0,false,false⟩,⟨[(zNrH1 ax ay bx by_)],4,0,false,false⟩,⟨[(zNrH4 r z)],2,0,false,false⟩,⟨[(zNrH2 ax ay)],2,0,false,false⟩,⟨[(zNrH3 bx by_)],2,0,false,false⟩],_,[],_⟩ (by kernel_rfl) (bc (Zam (fun h=>d9 (i8.1 h))) b0) q0 c0 (by (try rw [w4]);all_goals exact Zas [] (by kernel_rfl) H)
noncomputable abbrev zNrH5 (bs:List Bx) (i:Int):=ag [vi (bs.getD i.toNat default).x0,vi (bs.getD i.toNat default).y0,vi (bs.getD i.toNat default).x1,vi (bs.getD i.toNat default).y1,vi (bs.getD i.toNat default).top]
noncomputable abbrev zNrH6 (ds:List Bx) (i:Int):=ag [vi (ds.getD i.toNat default).x0,vi (ds.getD i.toNat default).y0,vi (ds.getD i.toNat default).x1,vi (ds.getD i.toNat default).y1,vi (ds.getD i.toNat default).top]
theorem qXhtL (fb gb:Bool) (bs ds:List Bx) (n i:Int)  (dq:AV) (H :
  ((i<n)->(0<=i) /\
   (i.toNat<bs.length) /\
   (i.toNat<ds.length) /\
   ((¬(((bs.getD i.toNat default).x0=(ds.getD i.toNat default).x0)/\(((bs.getD i.toNat default).y0=(ds.getD i.toNat default).y0)/\(((bs.getD i.toNat default).x1=(ds.getD i.toNat default).x1)/\(((bs.getD i.toNat default).y1=(ds.getD i.toNat default).y1)/\((bs.getD i.toNat default).top=(ds.getD i.toNat default).top))))))->vb false=dq) /\
   (¬(¬(((bs.getD i.toNat default).x0=(ds.getD i.toNat default).x0)/\(((bs.getD i.toNat default).y0=(ds.getD i.toNat default).y0)/\(((bs.getD i.toNat default).x1=(ds.getD i.toNat default).x1)/\(((bs.getD i.toNat default).y1=(ds.getD i.toNat default).y1)/\((bs.getD i.toNat default).top=(ds.getD i.toNat default).top))))))->(-9223372036854775808<=i+1/\i+1<=9223372036854775807) /\
    Zel fb gb bs ds n (i+1) (Zaf dq))) /\
  (¬(i<n)->vb true=dq)) :
 Zel fb gb bs ds n i (Zaf dq):=by
 unfold Zel
 rcases xq H with ⟨d2,H⟩|⟨d2,H⟩
 ·obtain ⟨k4,H⟩:=H
  have w5:(List.map Bx.a bs).length=bs.length:=List.length_map ..
  have i6:(decide (i.toNat<(List.map Bx.a bs).length))=true ↔ (i.toNat<bs.length):=(by (try rw [w5]);all_goals exact Zab)
  obtain ⟨k7,H⟩:=H
  have w9:(List.map Bx.a ds).length=ds.length:=List.length_map ..
  have i10:(decide (i.toNat<(List.map Bx.a ds).length))=true ↔ (i.toNat<ds.length):=(by (try rw [w9]);all_goals exact Zab)
  obtain ⟨k11,H⟩:=H
  refine Zad (G:=Zae kp3 [(10,3,.elem (zNrH5 bs i)),(10,7,.elem (zNrH6 ds i))] []) 11 [true] ⟨(atC (cd Tryz.f3) [1,1,1,1,1,0,1,0,0,1,1,0,0,1,1]),[(11,AV.vec fb 5 (List.map Bx.a bs)),(12,AV.vec gb 5 (List.map Bx.a ds)),(72,vi n),(73,vi i),(84,vb !((bs.getD i.toNat default).x0==(ds.getD i.toNat default).x0&&((bs.getD i.toNat default).y0==(ds.getD i.toNat default).y0&&((bs.getD i.toNat default).x1==(ds.getD i.toNat default).x1&&((bs.getD i.toNat default).y1==(ds.getD i.toNat default).y1&&((bs.getD i.toNat default).top==(ds.getD i.toNat default).top&&true))))))],[],_,[((List.map Bx.a bs).get?Internal i.toNat=some (zNrH5 bs i)),((List.map Bx.a ds).get?Internal i.toNat=some (zNrH6 ds i))],_⟩ (by kernel_rfl) (bc (Zan (Zab.2 d2)) (bc (Zab.2 k4) (bc (i6.2 k7) (bc (Zab.2 k4) (bc (i10.2 k11) b0))))) (qc (Zao k7) (qc (Zao k11) q0)) c0 ?_
  rcases xq H with ⟨d13,H⟩|⟨d13,H⟩
  ·exact Zaq (G:=Zae kp3 [] []) 1000 [true] (vb false) (by kernel_rfl) (bc (Zan ((ZcJ (i_and i_eq (i_and i_eq (i_and i_eq (i_and i_eq (i_at i_eq)))))).2 d13)) b0) q0 c0 H
  ·obtain ⟨k14,H⟩:=H
   have w15:wi (i+1)=i+1:=wI64 k14
   exact Zad (G:=Zae kp3 [] []) 1000 [false] ⟨(atC (cd Tryz.f3) [1,1,1,1,1,0,1,0,0]),[(11,AV.vec fb 5 (List.map Bx.a bs)),(12,AV.vec gb 5 (List.map Bx.a ds)),(72,vi n),(73,vi (wi (i+1)))],[],_,[],_⟩ (by kernel_rfl) (bc (Zam (fun h=>d13 ((ZcJ (i_and i_eq (i_and i_eq (i_and i_eq (i_and i_eq (i_at i_eq)))))).1 h))) b0) q0 c0 (by (try rw [w15]);all_goals exact H)
 ·exact Zaq (G:=Zae kp3 [] []) 1000 [false] (vb true) (by kernel_rfl) (bc (Zam (fun h=>d2 (Zab.1 h))) b0) q0 c0 H
end Go.Av

namespace Go.Av
open Go.Proofs
theorem xht_loop {bs:List Bx} (hl:bs.length<=100000) (m:Nat):∀ i:Nat,i+m=bs.length->Zel false false bs bs bs.length i (Zaf (.bool true)):=by
 induction m with
 | zero=>exact fun i e=>qXhtL _ _ _ _ _ _ _ ⟨fun x=>by omega,fun _=>rfl⟩
 | succ m ih =>
  intro i e
  have hi:i<bs.length:=by omega
  refine qXhtL _ _ _ _ _ _ _ ⟨fun x => ?_,fun x=>by omega⟩
  rw [Int.toNat_natCast,show (i:Int)+1=((i+1:Nat):Int) by omega]
  exact ⟨by omega,hi,hi,fun k=>absurd ⟨rfl,rfl,rfl,rfl,rfl⟩ k,fun _=>⟨by omega,ih (i+1) (by omega)⟩⟩
theorem lh_ev (f:Bool) (cs:List Bx) (u0 v0 u1 v1 th gp sf ax ay bx by_ r z:Int) :
  Ev M1 (.pure 3 [.agg [.int .i64 u0,.int .i64 v0,.int .i64 u1,.int .i64 v1,.int .i64 th,.int .i64 gp,.vec f 5 (cs.map Bx.a),.int .i64 sf],.agg [.int .i64 ax,.int .i64 ay,.int .i64 bx,.int .i64 by_],.agg [.int .i64 r,.int .i64 z]]) (.bool true) []:=by
 refine call3 (qXht _ _ _ _ _ _ _ _ _ _ _ _ _ _ _ _ ⟨fun _=>rfl,fun k => ?_⟩)
 have k1:N.rg6 cs u0 v0 u1 v1 th gp sf ax ay bx by_ r z:=Classical.not_not.1 fun x=>k (.inl x)
 obtain ⟨⟨⟨n1,n2,n3⟩,n4,n5,n6⟩,h6,v⟩:=k1
 have hr:N.cc r:=by unfold N.fr1 at n5;unfold N.cc;omega
 have hh:N.okHg cs ax ay bx by_ r:=va_okH v (by simp only [N.fr1] at n1 n2 n3 n4;unfold N.cc at hr ⊢;omega)
 have bl:=blk_len cs z r
 exact ⟨va_okB v hr,fun _=>hh,fun x=>by rcases x with x | x <;> exact absurd rfl x,fun _=>xht_loop (by omega) (N.blk cs z r).length 0 (by omega)⟩
end Go.Av
