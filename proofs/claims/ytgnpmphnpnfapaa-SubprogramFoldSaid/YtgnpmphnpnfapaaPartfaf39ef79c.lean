/- PART 4 of the texts of a claim, joined by a program: what each part shows stands at its head. -/
import Derived.Test.YtgnpmphnpnfapaaParta056a74a57

namespace Go.Av
open Go.Proofs
namespace Sp
def letB (ws:List Wo) (c:Int):Bool:=decide (0 < (codes ws c).length)
def endB (ws:List Wo):Bool:=hasW ws 77 30000
def backB (ws:List Wo):Bool:=hasW ws 77 99000
def mkB (ws:List Wo):Bool:=letB ws 79 || (endB ws || backB ws)
def eqB (sk tk:Bool) (ws vs:List Wo) (cm dm:List UInt8):Bool:=decide (sk = tk /\ cm = dm /\ ws = vs)
def eqW (ws vs:List Wo):Bool:=decide (ws = vs)
end Sp
theorem gt_pos (n:Nat):decide ((n:Int) > 0) = decide (0 < n):=decide_eq_decide.2 (by omega)
theorem ev77 (sk f:Bool) (ws:List Wo) (cm:List UInt8) (h:Sp.few6 ws.length):Ev M1 (.pure 77 [bkA sk f ws cm]) (.bool (Sp.mkB ws)) []:=by
 refine call77 (suMk sk f ws cm _ ⟨h,?_⟩)
 unfold Sp.mkB Sp.letB Sp.endB Sp.backB
 rw [gt_pos]
 cases decide (0 < (Sp.codes ws 79).length) <;> cases Sp.hasW ws 77 30000 <;> rfl
theorem ev66 (sk f:Bool) (ws:List Wo) (cm:List UInt8) (c:Int) (h:Sp.few6 ws.length):Ev M1 (.pure 66 [bkA sk f ws cm,.int .u8 c]) (.bool (Sp.letB ws c)) []:=
 call66 (suLt sk f ws cm c _ ⟨h,by rw [gt_pos];rfl⟩)
theorem ev64 (sk f:Bool) (ws:List Wo) (cm:List UInt8) (h:Sp.few6 ws.length):Ev M1 (.pure 64 [bkA sk f ws cm]) (.bool (Sp.endB ws)) []:=
 call64 (suEn sk f ws cm _ ⟨h,rfl⟩)
theorem ev65 (sk f:Bool) (ws:List Wo) (cm:List UInt8) (h:Sp.few6 ws.length):Ev M1 (.pure 65 [bkA sk f ws cm]) (.bool (Sp.backB ws)) []:=
 call65 (suRe sk f ws cm _ ⟨h,rfl⟩)
theorem wo_eq {a b:Wo}:a = b ↔ a.l = b.l /\ a.v = b.v:=⟨fun h => by rw [h];exact ⟨rfl,rfl⟩,fun ⟨h1,h2⟩ => by cases a;cases b;simp_all⟩
theorem suEw_loop {f g:Bool} {ws vs:List Wo} {dq:AV} (he:ws.length = vs.length) (hl:ws.length <= 1000000):∀ (k i:Nat),i + k = ws.length -> AV.bool (decide (ws.drop i = vs.drop i)) = dq -> suEwa_at f g ws vs ws.length i (PureQ dq):=by
 intro k
 induction k with
 | zero =>
  intro i hi hq
  rw [List.drop_eq_nil_of_le (by omega),List.drop_eq_nil_of_le (by omega)] at hq
  exact suEwa _ _ _ _ _ _ _ ⟨fun h => by omega,fun _ => hq⟩
 | succ k ih =>
  intro i hi hq
  rw [drop_getD (show i < ws.length by omega),drop_getD (show i < vs.length by omega)] at hq
  refine suEwa _ _ _ _ _ _ _ ⟨fun _ => ?_,fun h => by omega⟩
  rw [Int.toNat_natCast]
  refine ⟨by omega,by omega,by omega,fun h => ?_,fun h => ⟨by omega,ih (i + 1) (by omega) ?_⟩⟩
  ·rw [decide_eq_false (fun e => h (wo_eq.1 (List.cons.inj e).1))] at hq
   exact hq
  ·rw [<- hq]
   congr 1
   rw [decide_eq_decide]
   have:=wo_eq.2 (Classical.not_not.1 h)
   rw [this];simp
theorem ev85 (f g:Bool) (ws vs:List Wo) (h:Sp.few6 ws.length):Ev M1 (.pure 85 [.vec f 2 (ws.map Wo.a),.vec g 2 (vs.map Wo.a)]) (.bool (Sp.eqW ws vs)) []:=by
 unfold Sp.eqW
 refine call85 (suEw f g ws vs _ ⟨fun k => ?_,fun k => suEw_loop (by omega) h ws.length 0 (by omega) rfl⟩)
 rw [decide_eq_false (fun e => k (by rw [e]))]
theorem suEq_loop {sk f tk g:Bool} {ws vs:List Wo} {cm dm:List UInt8} {dq:AV} (he:ws.length = vs.length) (hl:ws.length <= 1000000):∀ (k i:Nat),i + k = ws.length -> AV.bool (decide (ws.drop i = vs.drop i)) = dq -> suEqa_at sk f tk g ws vs cm dm i (PureQ dq):=by
 intro k
 induction k with
 | zero =>
  intro i hi hq
  rw [List.drop_eq_nil_of_le (by omega),List.drop_eq_nil_of_le (by omega)] at hq
  exact suEqa _ _ _ _ _ _ _ _ _ _ ⟨fun h => by omega,fun _ => hq⟩
 | succ k ih =>
  intro i hi hq
  rw [drop_getD (show i < ws.length by omega),drop_getD (show i < vs.length by omega)] at hq
  refine suEqa _ _ _ _ _ _ _ _ _ _ ⟨fun _ => ?_,fun h => by omega⟩
  rw [Int.toNat_natCast]
  refine ⟨by omega,by omega,by omega,fun h => ?_,fun h => ⟨by omega,ih (i + 1) (by omega) ?_⟩⟩
  ·rw [decide_eq_false (fun e => h (wo_eq.1 (List.cons.inj e).1))] at hq
   exact hq
  ·rw [<- hq]
   congr 1
   rw [decide_eq_decide]
   have:=wo_eq.2 (Classical.not_not.1 h)
   rw [this];simp
theorem ev48 (sk f tk g:Bool) (ws vs:List Wo) (cm dm:List UInt8) (h:Sp.few6 ws.length):Ev M1 (.pure 48 [bkA sk f ws cm,bkA tk g vs dm]) (.bool (Sp.eqB sk tk ws vs cm dm)) []:=by
 unfold Sp.eqB
 refine call48 (suEq sk f tk g ws vs cm dm _ ⟨fun k => ?_,fun k => suEq_loop (by omega) h ws.length 0 (by omega) ?_⟩)
 ·rw [decide_eq_false]
  rintro ⟨rfl,rfl,rfl⟩
  simp at k
 ·have k1:sk = tk:=Classical.byContradiction fun e => k (.inl (.inl e))
  have k2:cm = dm:=Classical.byContradiction fun e => k (.inl (.inr e))
  congr 1
  rw [decide_eq_decide]
  simp [k1,k2]
end Go.Av

namespace Go.Av
open Go.Proofs
set_option maxRecDepth 100000
def fi18:Fi:=⟨27,[.tmp 4]⟩
def kp18:List (Nat × List Nat):=[(0,[0,1]),(1,[0,1,10]),(2,[4]),(3,[0,1,5]),(4,[0,1,5,14]),(5,[0,1,5]),(6,[0,1,5,26]),(7,[4]),(8,[4])]
def fi73:Fi:=⟨17,[.tmp 2]⟩
def kp73:List (Nat × List Nat):=[(0,[1]),(1,[2])]
def fi74:Fi:=⟨24,[.tmp 4]⟩
def kp74:List (Nat × List Nat):=[(0,[2,3]),(1,[4])]
def fi75:Fi:=⟨26,[.tmp 2]⟩
def kp75:List (Nat × List Nat):=[(0,[1]),(1,[2])]
def suQe_at (sk f tk g:Bool) (ws vs:List Wo) (cm dm:List UInt8) (Q:AV -> Heap -> Prop):Prop:=Wp M1 (.run fi74 (atC (cd Try.f74) []) [(0,.agg [.bool sk,.vec f 2 (ws.map Wo.a),.str cm]),(1,.agg [.bool tk,.vec g 2 (vs.map Wo.a),.str dm])] []) Q
def suFo_at (sk f:Bool) (ws:List Wo) (cm:List UInt8) (Q:AV -> Heap -> Prop):Prop:=Wp M1 (.run fi73 (atC (cd Try.f73) []) [(0,.agg [.bool sk,.vec f 2 (ws.map Wo.a),.str cm])] []) Q
def suFd_at (sk f:Bool) (ws:List Wo) (cm:List UInt8) (Q:AV -> Heap -> Prop):Prop:=Wp M1 (.run fi75 (atC (cd Try.f75) []) [(0,.agg [.bool sk,.vec f 2 (ws.map Wo.a),.str cm])] []) Q
def suSm_at (g h:Bool) (l q:List Bk) (Q:AV -> Heap -> Prop):Prop:=Wp M1 (.run fi18 (atC (cd Try.f18) []) [(0,.vec g 3 (l.map Bk.a)),(1,.vec h 3 (q.map Bk.a))] []) Q
def suSma_at (g h:Bool) (l q:List Bk) (i:Int) (Q:AV -> Heap -> Prop):Prop:=Wp M1 (.run fi18 (atC (cd Try.f18) [1,1,0,1,0,0]) [(0,.vec g 3 (l.map Bk.a)),(1,.vec h 3 (q.map Bk.a)),(5,.int .i64 i)] []) Q
theorem call18 {args:List AV} {d:AV} (h:wc M1 fi18 Try.f18 args d):Ev M1 (.pure 18 args) d []:=pcl _ _ (by kernel_rfl) h
theorem call73 {args:List AV} {d:AV} (h:wc M1 fi73 Try.f73 args d):Ev M1 (.pure 73 args) d []:=pcl _ _ (by kernel_rfl) h
theorem call74 {args:List AV} {d:AV} (h:wc M1 fi74 Try.f74 args d):Ev M1 (.pure 74 args) d []:=pcl _ _ (by kernel_rfl) h
theorem call75 {args:List AV} {d:AV} (h:wc M1 fi75 Try.f75 args d):Ev M1 (.pure 75 args) d []:=pcl _ _ (by kernel_rfl) h
theorem suQe (sk f tk g:Bool) (ws vs:List Wo) (cm dm:List UInt8)  (dq:AV) (H :
  (((sk = tk) /\ (cm = dm)) -> (Sp.few6 ws.length)) /\
  vb (bif bif sk == tk then cm == dm else false then Sp.eqW ws vs else false) = dq) :
 suQe_at sk f tk g ws vs cm dm (PureQ dq):=by
 unfold suQe_at
 obtain ⟨k2,H⟩:=H
 exact path_re (G:=given kp74 [(1,17,.call (vb (Sp.eqW ws vs)) none)] []) 1000 [] (asm:=[true,true,!((sk == tk) == true && true) || true,!((sk == tk) == true && true) || true,!((bif sk == tk then cm == dm else false) == true && true) || true,!((bif sk == tk then cm == dm else false) == true && true) || true]) (calls:=[⟨(bif sk == tk then cm == dm else false) == true && true && true,false,85,[AV.vec f 2 (List.map Wo.a ws),AV.vec g 2 (List.map Wo.a vs)],[],vb (Sp.eqW ws vs),[]⟩]) (vb (bif bif sk == tk then cm == dm else false then Sp.eqW ws vs else false)) (by kernel_rfl) (bc rfl (bc rfl (bc (Bool.or_true _) (bc (Bool.or_true _) (bc (Bool.or_true _) (bc (Bool.or_true _) b0)))))) q0 (cc (fun hc => ((@ev85 (f) (g) (ws) (vs) (k2 ((i_at (i_at (i_bt (i_band i_eq i_eq)))).1 hc))):Ev M1 (Conf.pure 85 [AV.vec f 2 (List.map Wo.a ws),AV.vec g 2 (List.map Wo.a vs)]) (vb (Sp.eqW ws vs)) [])) c0) H
theorem suFo (sk f:Bool) (ws:List Wo) (cm:List UInt8)  (dq:AV) (H :
  (Sp.few6 ws.length) /\
  (vb (bif bif !Sp.mkB ws then (↑(Sp.codes ws 78).length:Int) == 0 else false then !Sp.hasW ws 77 98000 else false)) = dq) :
 suFo_at sk f ws cm (PureQ dq):=by
 unfold suFo_at
 obtain ⟨k1,H⟩:=H
 have w3:(List.map (vi) (Sp.codes ws 78)).length = (Sp.codes ws 78).length:=List.length_map ..
 have i4:((bif !Sp.mkB ws then (↑(List.map (vi) (Sp.codes ws 78)).length:Int) == 0 else false) == true && true && true) = true ↔ ((¬(Sp.mkB ws = true)) /\ ((↑(Sp.codes ws 78).length:Int) = 0)):=(by (try rw [w3]);all_goals exact (i_at (i_at (i_bt (i_band (i_not (i_var _)) i_eq)))))
 exact path_re (G:=given kp73 [(1,1,.call (vb (Sp.mkB ws)) none),(1,5,.call (vf (List.map (vi) (Sp.codes ws 78))) none),(1,11,.call (vb (Sp.hasW ws 77 98000)) none)] []) 1000 [] (asm:=[true,!((!Sp.mkB ws) == true && true) || true,!((bif !Sp.mkB ws then (↑(List.map (vi) (Sp.codes ws 78)).length:Int) == 0 else false) == true && true) || true]) (calls:=[⟨true,false,77,[ag [vb sk,AV.vec f 2 (List.map Wo.a ws),AV.str cm]],[],vb (Sp.mkB ws),[]⟩,⟨(!Sp.mkB ws) == true && true && true,false,70,[ag [vb sk,AV.vec f 2 (List.map Wo.a ws),AV.str cm],AV.int IntKind.u8 78],[],vf (List.map (vi) (Sp.codes ws 78)),[]⟩,⟨(bif !Sp.mkB ws then (↑(List.map (vi) (Sp.codes ws 78)).length:Int) == 0 else false) == true && true && true,false,40,[ag [vb sk,AV.vec f 2 (List.map Wo.a ws),AV.str cm],AV.int IntKind.u8 77,vi 98000],[],vb (Sp.hasW ws 77 98000),[]⟩]) (vb (bif bif !Sp.mkB ws then (↑(List.map (vi) (Sp.codes ws 78)).length:Int) == 0 else false then !Sp.hasW ws 77 98000 else false)) (by kernel_rfl) (bc rfl (bc (Bool.or_true _) (bc (Bool.or_true _) b0))) q0 (cc (fun _ => (@ev77 (sk) (f) (ws) (cm) k1)) (cc (fun hc => ((@ev70 (sk) (f) (ws) (cm) (78) k1):Ev M1 (Conf.pure 70 [ag [vb sk,AV.vec f 2 (List.map Wo.a ws),AV.str cm],AV.int IntKind.u8 78]) (vf (List.map (vi) (Sp.codes ws 78))) [])) (cc (fun hc => ((@ev40 (sk) (f) (ws) (cm) (77) (98000) k1):Ev M1 (Conf.pure 40 [ag [vb sk,AV.vec f 2 (List.map Wo.a ws),AV.str cm],AV.int IntKind.u8 77,vi 98000]) (vb (Sp.hasW ws 77 98000)) [])) c0))) (by (try rw [w3]);all_goals exact H)
noncomputable abbrev zSpG1 (ws:List Wo):=bif bif bif !Sp.letB ws 78 then !Sp.letB ws 79 else false then !Sp.endB ws else false then !Sp.backB ws else false
theorem suFd (sk f:Bool) (ws:List Wo) (cm:List UInt8)  (dq:AV) (H :
  (Sp.few6 ws.length) /\
  (vb (bif bif bif bif !Sp.letB ws 78 then !Sp.letB ws 79 else false then !Sp.endB ws else false then !Sp.backB ws else false then !Sp.hasW ws 77 98000 else false)) = dq) :
 suFd_at sk f ws cm (PureQ dq):=by
 unfold suFd_at
 obtain ⟨k1,H⟩:=H
 exact path_re (G:=given kp75 [(1,1,.call (vb (Sp.letB ws 78)) none),(1,5,.call (vb (Sp.letB ws 79)) none),(1,10,.call (vb (Sp.endB ws)) none),(1,15,.call (vb (Sp.backB ws)) none),(1,20,.call (vb (Sp.hasW ws 77 98000)) none)] []) 1000 [] (asm:=[true,!((!Sp.letB ws 78) == true && true) || true,!((bif !Sp.letB ws 78 then !Sp.letB ws 79 else false) == true && true) || true,!((bif bif !Sp.letB ws 78 then !Sp.letB ws 79 else false then !Sp.endB ws else false) == true && true) || true,!((zSpG1 ws) == true && true) || true]) (calls:=[⟨true,false,66,[ag [vb sk,AV.vec f 2 (List.map Wo.a ws),AV.str cm],AV.int IntKind.u8 78],[],vb (Sp.letB ws 78),[]⟩,⟨(!Sp.letB ws 78) == true && true && true,false,66,[ag [vb sk,AV.vec f 2 (List.map Wo.a ws),AV.str cm],AV.int IntKind.u8 79],[],vb (Sp.letB ws 79),[]⟩,⟨(bif !Sp.letB ws 78 then !Sp.letB ws 79 else false) == true && true && true,false,64,[ag [vb sk,AV.vec f 2 (List.map Wo.a ws),AV.str cm]],[],vb (Sp.endB ws),[]⟩,⟨(bif bif !Sp.letB ws 78 then !Sp.letB ws 79 else false then !Sp.endB ws else false) == true && true && true,false,65,[ag [vb sk,AV.vec f 2 (List.map Wo.a ws),AV.str cm]],[],vb (Sp.backB ws),[]⟩,⟨(zSpG1 ws) == true && true && true,false,42,[ag [vb sk,AV.vec f 2 (List.map Wo.a ws),AV.str cm],AV.int IntKind.u8 77,vi 98000],[],vb (Sp.hasW ws 77 98000),[]⟩]) (vb (bif bif bif bif !Sp.letB ws 78 then !Sp.letB ws 79 else false then !Sp.endB ws else false then !Sp.backB ws else false then !Sp.hasW ws 77 98000 else false)) (by kernel_rfl) (bc rfl (bc (Bool.or_true _) (bc (Bool.or_true _) (bc (Bool.or_true _) (bc (Bool.or_true _) b0))))) q0 (cc (fun _ => (@ev66 (sk) (f) (ws) (cm) (78) k1)) (cc (fun hc => ((@ev66 (sk) (f) (ws) (cm) (79) k1):Ev M1 (Conf.pure 66 [ag [vb sk,AV.vec f 2 (List.map Wo.a ws),AV.str cm],AV.int IntKind.u8 79]) (vb (Sp.letB ws 79)) [])) (cc (fun hc => ((@ev64 (sk) (f) (ws) (cm) k1):Ev M1 (Conf.pure 64 [ag [vb sk,AV.vec f 2 (List.map Wo.a ws),AV.str cm]]) (vb (Sp.endB ws)) [])) (cc (fun hc => ((@ev65 (sk) (f) (ws) (cm) k1):Ev M1 (Conf.pure 65 [ag [vb sk,AV.vec f 2 (List.map Wo.a ws),AV.str cm]]) (vb (Sp.backB ws)) [])) (cc (fun hc => ((@ev42 (sk) (f) (ws) (cm) (77) (98000) k1):Ev M1 (Conf.pure 42 [ag [vb sk,AV.vec f 2 (List.map Wo.a ws),AV.str cm],AV.int IntKind.u8 77,vi 98000]) (vb (Sp.hasW ws 77 98000)) [])) c0))))) H
theorem suSm (g h:Bool) (l q:List Bk)  (dq:AV) (H :
  ((¬(↑l.length:Int) = (↑q.length:Int)) -> vb false = dq) /\
  (¬(¬(↑l.length:Int) = (↑q.length:Int)) -> suSma_at (g) (h) (l) (q) (0) (PureQ dq))) :
 suSm_at g h l q (PureQ dq):=by
 unfold suSm_at
 have w1:(List.map Bk.a l).length = l.length:=List.length_map ..
 have w2:(List.map Bk.a q).length = q.length:=List.length_map ..
 have i3:((↑(List.map Bk.a l).length:Int) != (↑(List.map Bk.a q).length:Int)) = true ↔ (¬(↑l.length:Int) = (↑q.length:Int)):=(by (try rw [w1]);(try rw [w2]);all_goals exact i_ne)
 rcases xm (¬(↑l.length:Int) = (↑q.length:Int)) with d4 | d4
 ·have H:=H.1 d4
  exact path_re (G:=given kp18 [] []) 1000 [true] (vb false) (by kernel_rfl) (bc (beq_t (i3.2 d4)) b0) q0 c0 H
 ·have H:=H.2 d4
  exact path_wp (G:=given kp18 [] []) 1000 [false] ⟨(atC (cd Try.f18) [1,1,0,1,0,0]),[(0,AV.vec g 3 (List.map Bk.a l)),(1,AV.vec h 3 (List.map Bk.a q)),(5,vi 0)],[],_,[],_⟩ (by kernel_rfl) (bc (beq_f (fun h => d4 (i3.1 h))) b0) q0 c0 (H)
theorem suSma (g h:Bool) (l q:List Bk) (i:Int)  (dq:AV) (H :
  ((i < (↑l.length:Int)) -> (Sp.few6 (l.getD i.toNat default).3.length) /\
   (0 <= i) /\
   (i.toNat < l.length) /\
   (i.toNat < q.length) /\
   ((¬(Sp.eqB (l.getD i.toNat default).1 (q.getD i.toNat default).1 (l.getD i.toNat default).3 (q.getD i.toNat default).3 (l.getD i.toNat default).4 (q.getD i.toNat default).4 = true)) -> vb false = dq) /\
   (¬(¬(Sp.eqB (l.getD i.toNat default).1 (q.getD i.toNat default).1 (l.getD i.toNat default).3 (q.getD i.toNat default).3 (l.getD i.toNat default).4 (q.getD i.toNat default).4 = true)) -> (-9223372036854775808 <= i + 1 /\ i + 1 <= 9223372036854775807) /\
    suSma_at (g) (h) (l) (q) (i + 1) (PureQ dq))) /\
  (¬(i < (↑l.length:Int)) -> vb true = dq)) :
 suSma_at g h l q i (PureQ dq):=by
 unfold suSma_at
 have w1:(List.map Bk.a l).length = l.length:=List.length_map ..
 have i2:(decide (i < (↑(List.map Bk.a l).length:Int))) = true ↔ (i < (↑l.length:Int)):=(by (try rw [w1]);all_goals exact i_dec)
 rcases xm (i < (↑l.length:Int)) with d3 | d3
 ·have H:=H.1 d3
  obtain ⟨k4,H⟩:=H
  obtain ⟨k6,H⟩:=H
  have i7:(decide (i.toNat < (List.map Bk.a l).length)) = true ↔ (i.toNat < l.length):=(by (try rw [w1]);all_goals exact i_dec)
  obtain ⟨k8,H⟩:=H
  have w10:(List.map Bk.a q).length = q.length:=List.length_map ..
  have i11:(decide (i.toNat < (List.map Bk.a q).length)) = true ↔ (i.toNat < q.length):=(by (try rw [w10]);all_goals exact i_dec)
  obtain ⟨k12,H⟩:=H
  refine path_wp (G:=given kp18 [(6,3,.elem (ag [vb (l.getD i.toNat default).1,AV.vec (l.getD i.toNat default).2 2 (List.map Wo.a (l.getD i.toNat default).3),AV.str (l.getD i.toNat default).4])),(6,7,.elem (ag [vb (q.getD i.toNat default).1,AV.vec (q.getD i.toNat default).2 2 (List.map Wo.a (q.getD i.toNat default).3),AV.str (q.getD i.toNat default).4])),(6,8,.call (vb (Sp.eqB (l.getD i.toNat default).1 (q.getD i.toNat default).1 (l.getD i.toNat default).3 (q.getD i.toNat default).3 (l.getD i.toNat default).4 (q.getD i.toNat default).4)) none)] []) 9 [true] ⟨(atC (cd Try.f18) [1,1,0,1,0,0,1,0,0,1]),[(0,AV.vec g 3 (List.map Bk.a l)),(1,AV.vec h 3 (List.map Bk.a q)),(5,vi i),(26,vb !Sp.eqB (l.getD i.toNat default).1 (q.getD i.toNat default).1 (l.getD i.toNat default).3 (q.getD i.toNat default).3 (l.getD i.toNat default).4 (q.getD i.toNat default).4)],[],_,[((List.map Bk.a l).get?Internal i.toNat = some (ag [vb (l.getD i.toNat default).1,AV.vec (l.getD i.toNat default).2 2 (List.map Wo.a (l.getD i.toNat default).3),AV.str (l.getD i.toNat default).4])),((List.map Bk.a q).get?Internal i.toNat = some (ag [vb (q.getD i.toNat default).1,AV.vec (q.getD i.toNat default).2 2 (List.map Wo.a (q.getD i.toNat default).3),AV.str (q.getD i.toNat default).4]))],_⟩ (by kernel_rfl) (bc (beq_t (i2.2 d3)) (bc (i_dec.2 k6) (bc (i7.2 k8) (bc (i_dec.2 k6) (bc (i11.2 k12) b0))))) (qc (el_map k8) (qc (el_map k12) q0)) (ce (@ev48 ((l.getD i.toNat default).1) ((l.getD i.toNat default).2) ((q.getD i.toNat default).1) ((q.getD i.toNat default).2) ((l.getD i.toNat default).3) ((q.getD i.toNat default).3) ((l.getD i.toNat default).4) ((q.getD i.toNat default).4) k4) c0) ?_
  rcases xm (¬(Sp.eqB (l.getD i.toNat default).1 (q.getD i.toNat default).1 (l.getD i.toNat default).3 (q.getD i.toNat default).3 (l.getD i.toNat default).4 (q.getD i.toNat default).4 = true)) with d14 | d14
  ·have H:=H.1 d14
   exact path_re (G:=given kp18 [] []) 1000 [true] (asm:=[(!Sp.eqB (l.getD i.toNat default).1 (q.getD i.toNat default).1 (l.getD i.toNat default).3 (q.getD i.toNat default).3 (l.getD i.toNat default).4 (q.getD i.toNat default).4) == true]) (vb false) (by kernel_rfl) (bc (beq_t ((i_not (i_var _)).2 d14)) b0) q0 c0 H
  ·have H:=H.2 d14
   obtain ⟨k15,H⟩:=H
   have w16:wi (i + 1) = i + 1:=wI64 k15
   exact path_wp (G:=given kp18 [] []) 1000 [false] ⟨(atC (cd Try.f18) [1,1,0,1,0,0]),[(0,AV.vec g 3 (List.map Bk.a l)),(1,AV.vec h 3 (List.map Bk.a q)),(5,vi (wi (i + 1)))],[],[(!Sp.eqB (l.getD i.toNat default).1 (q.getD i.toNat default).1 (l.getD i.toNat default).3 (q.getD i.toNat default).3 (l.getD i.toNat default).4 (q.getD i.toNat default).4) == false],[],_⟩ (by kernel_rfl) (bc (beq_f (fun h => d14 ((i_not (i_var _)).1 h))) b0) q0 c0 (by (try rw [w16]);all_goals exact H)
 ·have H:=H.2 d3
  exact path_re (G:=given kp18 [] []) 1000 [false] (vb true) (by kernel_rfl) (bc (beq_f (fun h => d3 (i2.1 h))) b0) q0 c0 H
end Go.Av

namespace Go.Av
open Go.Proofs
def Bk.key (b:Bk):Bool × List Wo × List UInt8:=(b.sk,b.ws,b.cm)
namespace Sp
def foldB (ws:List Wo):Bool:=!(mkB ws) && (!(letB ws 78) && !(hasW ws 77 98000))
def same (b c:Bk):Bool:=eqB b.sk c.sk b.ws c.ws b.cm c.cm
def sameL (l q:List Bk):Bool:=decide (l.map Bk.key = q.map Bk.key)
def okBs (l:List Bk):Prop:=l.length <= 1000000 /\ ∀ b ∈ l,okW b.ws
end Sp
theorem same_iff {b c:Bk}:Sp.same b c = true ↔ b.key = c.key:=by
 unfold Sp.same Sp.eqB Bk.key
 simp only [decide_eq_true_eq,Prod.mk.injEq]
 exact ⟨fun ⟨h1,h2,h3⟩ => ⟨h1,h3,h2⟩,fun ⟨h1,h2,h3⟩ => ⟨h1,h3,h2⟩⟩
theorem ev74 (sk f tk g:Bool) (ws vs:List Wo) (cm dm:List UInt8) (h:Sp.few6 ws.length):Ev M1 (.pure 74 [bkA sk f ws cm,bkA tk g vs dm]) (.bool (Sp.eqB sk tk ws vs cm dm)) []:=by
 refine call74 (suQe sk f tk g ws vs cm dm _ ⟨fun _ => h,?_⟩)
 congr 1
 unfold Sp.eqB Sp.eqW
 by_cases h1:sk = tk <;> by_cases h2:cm = dm <;> by_cases h3:ws = vs <;> simp [h1,h2,h3]
theorem ev73 (sk f:Bool) (ws:List Wo) (cm:List UInt8) (h:Sp.few6 ws.length):Ev M1 (.pure 73 [bkA sk f ws cm]) (.bool (Sp.foldB ws)) []:=by
 refine call73 (suFo sk f ws cm _ ⟨h,?_⟩)
 congr 1
 unfold Sp.foldB
 have e:((((Sp.codes ws 78).length:Nat):Int) == 0) = !(Sp.letB ws 78):=by
  unfold Sp.letB
  rw [Bool.eq_iff_iff];simp
 rw [e]
 cases Sp.mkB ws <;> cases Sp.letB ws 78 <;> cases Sp.hasW ws 77 98000 <;> rfl
theorem ev75 (sk f:Bool) (ws:List Wo) (cm:List UInt8) (h:Sp.few6 ws.length):Ev M1 (.pure 75 [bkA sk f ws cm]) (.bool (Sp.foldB ws)) []:=by
 refine call75 (suFd sk f ws cm _ ⟨h,?_⟩)
 congr 1
 unfold Sp.foldB Sp.mkB
 cases Sp.letB ws 79 <;> cases Sp.endB ws <;> cases Sp.backB ws <;> cases Sp.letB ws 78 <;> cases Sp.hasW ws 77 98000 <;> rfl
theorem suSm_loop {g h:Bool} {l q:List Bk} {dq:AV} (hk:Sp.okBs l) (he:l.length = q.length):∀ (k i:Nat),i + k = l.length -> AV.bool (Sp.sameL (l.drop i) (q.drop i)) = dq -> suSma_at g h l q i (PureQ dq):=by
 have hl:=hk.1
 intro k
 induction k with
 | zero =>
  intro i hi hq
  rw [List.drop_eq_nil_of_le (by omega),List.drop_eq_nil_of_le (by omega)] at hq
  exact suSma _ _ _ _ _ _ ⟨fun h => by omega,fun _ => hq⟩
 | succ k ih =>
  intro i hi hq
  have hm:=hk.2 _ (getD_mem (show i < l.length by omega))
  rw [drop_getD (show i < l.length by omega),drop_getD (show i < q.length by omega)] at hq
  unfold Sp.sameL at hq
  rw [List.map_cons,List.map_cons] at hq
  refine suSma _ _ _ _ _ _ ⟨fun _ => ?_,fun h => by omega⟩
  rw [Int.toNat_natCast]
  refine ⟨hm.1,by omega,by omega,by omega,fun h => ?_,fun h => ⟨by omega,ih (i + 1) (by omega) ?_⟩⟩
  ·rw [decide_eq_false (fun e => h (same_iff.2 (List.cons.inj e).1))] at hq
   exact hq
  ·rw [<- hq]
   congr 1
   unfold Sp.sameL
   rw [decide_eq_decide]
   have:=same_iff.1 (Classical.not_not.1 h)
   rw [this];simp
theorem ev18 (g h:Bool) (l q:List Bk) (hk:Sp.okBs l):Ev M1 (.pure 18 [bsA g l,bsA h q]) (.bool (Sp.sameL l q)) []:=by
 refine call18 (suSm g h l q _ ⟨fun k => ?_,fun k => suSm_loop hk (by omega) l.length 0 (by omega) rfl⟩)
 unfold Sp.sameL
 rw [decide_eq_false (fun e => k (by have:=congrArg List.length e;simp only [List.length_map] at this;omega))]
end Go.Av

namespace Go.Av
open Go.Proofs
set_option maxRecDepth 100000
def fi51:Fi:=⟨39,[.tmp 8]⟩
def kp51:List (Nat × List Nat):=[(0,[0,1,2,3]),(1,[0,1,2,10,11]),(2,[0,1,2,10,11,12]),(3,[0,1,2,9,10,11]),(4,[0,1,2,10,11,37]),(5,[8]),(6,[0,1,2,10,11]),(7,[8])]
def fi52:Fi:=⟨45,[.tmp 8]⟩
def kp52:List (Nat × List Nat):=[(0,[0,1,2,3]),(1,[0,1,2,3,15]),(2,[8]),(3,[0,1,2,3,9]),(4,[0,1,2,3,9,18]),(5,[0,1,2,3,9]),(6,[0,1,2,3,9,44]),(7,[8]),(8,[8])]
def suRu_at (g:Bool) (l:List Bk) (i k n:Int) (Q:AV -> Heap -> Prop):Prop:=Wp M1 (.run fi51 (atC (cd Try.f51) []) [(0,.vec g 3 (l.map Bk.a)),(1,.int .i64 i),(2,.int .i64 k),(3,.int .i64 n)] []) Q
def suRua_at (g:Bool) (l:List Bk) (i k n j:Int) (Q:AV -> Heap -> Prop):Prop:=Wp M1 (.run fi51 (atC (cd Try.f51) [1,0,1,0,0]) [(0,.vec g 3 (l.map Bk.a)),(1,.int .i64 i),(2,.int .i64 k),(10,.int .i64 n),(11,.int .i64 j)] []) Q
def suRn_at (g:Bool) (l:List Bk) (i k n:Int) (Q:AV -> Heap -> Prop):Prop:=Wp M1 (.run fi52 (atC (cd Try.f52) []) [(0,.vec g 3 (l.map Bk.a)),(1,.int .i64 i),(2,.int .i64 k),(3,.int .i64 n)] []) Q
def suRna_at (g:Bool) (l:List Bk) (i k n j:Int) (Q:AV -> Heap -> Prop):Prop:=Wp M1 (.run fi52 (atC (cd Try.f52) [1,1,0,1,0,0]) [(0,.vec g 3 (l.map Bk.a)),(1,.int .i64 i),(2,.int .i64 k),(3,.int .i64 n),(9,.int .i64 j)] []) Q
theorem call51 {args:List AV} {d:AV} (h:wc M1 fi51 Try.f51 args d):Ev M1 (.pure 51 args) d []:=pcl _ _ (by kernel_rfl) h
theorem call52 {args:List AV} {d:AV} (h:wc M1 fi52 Try.f52 args d):Ev M1 (.pure 52 args) d []:=pcl _ _ (by kernel_rfl) h
theorem suRu (g:Bool) (l:List Bk) (i k n:Int)  (dq:AV) (H :
  suRua_at (g) (l) (i) (k) (n) (0) (PureQ dq)) :
 suRu_at g l i k n (PureQ dq):=by
 unfold suRu_at
 exact path_wp (G:=given kp51 [] []) 1000 [] ⟨(atC (cd Try.f51) [1,0,1,0,0]),[(0,AV.vec g 3 (List.map Bk.a l)),(1,vi i),(2,vi k),(10,vi n),(11,vi 0)],[],_,[],_⟩ (by kernel_rfl) b0 q0 c0 (H)
noncomputable abbrev zSpH1 (l:List Bk) (i:Int) (j:Int) (k:Int):=bif !Sp.foldB (l.getD (i + j).toNat default).3 then true else !Sp.eqB (l.getD (i + j).toNat default).1 (l.getD (k + j).toNat default).1 (l.getD (i + j).toNat default).3 (l.getD (k + j).toNat default).3 (l.getD (i + j).toNat default).4 (l.getD (k + j).toNat default).4
noncomputable abbrev zSpH2 (l:List Bk) (i:Int) (j:Int) (k:Int):=Sp.eqB (l.getD (i + j).toNat default).1 (l.getD (k + j).toNat default).1 (l.getD (i + j).toNat default).3 (l.getD (k + j).toNat default).3 (l.getD (i + j).toNat default).4 (l.getD (k + j).toNat default).4
noncomputable abbrev zSpH3 (l:List Bk) (i:Int) (j:Int):=Sp.foldB (l.getD (i + j).toNat default).3 = true
theorem suRua (g:Bool) (l:List Bk) (i k n j:Int)  (dq:AV) (H :
  ((j < n) -> (-9223372036854775808 <= i + j /\ i + j <= 9223372036854775807) /\
   (Sp.few6 (l.getD (i + j).toNat default).3.length) /\
   (-9223372036854775808 <= k + j /\ k + j <= 9223372036854775807) /\
   (0 <= i + j) /\
   ((i + j).toNat < l.length) /\
   ((¬(¬(Sp.foldB (l.getD (i + j).toNat default).3 = true))) -> (0 <= k + j)) /\
   ((¬(¬(Sp.foldB (l.getD (i + j).toNat default).3 = true))) -> ((k + j).toNat < l.length)) /\
   (((¬(Sp.foldB (l.getD (i + j).toNat default).3 = true)) \/ (¬(Sp.eqB (l.getD (i + j).toNat default).1 (l.getD (k + j).toNat default).1 (l.getD (i + j).toNat default).3 (l.getD (k + j).toNat default).3 (l.getD (i + j).toNat default).4 (l.getD (k + j).toNat default).4 = true))) -> vb false = dq) /\
   (¬((¬(Sp.foldB (l.getD (i + j).toNat default).3 = true)) \/ (¬(Sp.eqB (l.getD (i + j).toNat default).1 (l.getD (k + j).toNat default).1 (l.getD (i + j).toNat default).3 (l.getD (k + j).toNat default).3 (l.getD (i + j).toNat default).4 (l.getD (k + j).toNat default).4 = true))) -> (-9223372036854775808 <= j + 1 /\ j + 1 <= 9223372036854775807) /\
    suRua_at (g) (l) (i) (k) (n) (j + 1) (PureQ dq))) /\
  (¬(j < n) -> vb true = dq)) :
 suRua_at g l i k n j (PureQ dq):=by
 unfold suRua_at
 rcases xm (j < n) with d2 | d2
 ·have H:=H.1 d2
  obtain ⟨k3,H⟩:=H
  have w4:wi (i + j) = i + j:=wI64 k3
  obtain ⟨k5,H⟩:=H
  obtain ⟨k6,H⟩:=H
  have w7:wi (k + j) = k + j:=wI64 k6
  have i9:(decide (0 <= wi (i + j))) = true ↔ (0 <= i + j):=(by (try rw [w4]);all_goals exact i_dec)
  obtain ⟨k10,H⟩:=H
  have w11:(List.map Bk.a l).length = l.length:=List.length_map ..
  have i12:(decide ((wi (i + j)).toNat < (List.map Bk.a l).length)) = true ↔ ((i + j).toNat < l.length):=(by (try rw [w4]);(try rw [w11]);all_goals exact i_dec)
  obtain ⟨k13,H⟩:=H
  have i14:(!((!Sp.foldB (l.getD (i + j).toNat default).3) == false && true) || decide (0 <= wi (i + j))) = true ↔ ((¬(¬(zSpH3 l i j))) -> (0 <= i + j)):=(by (try rw [w4]);all_goals exact (i_imp (i_at (i_bf (i_not (i_var _)))) i_dec))
  have i15:(!((!Sp.foldB (l.getD (i + j).toNat default).3) == false && true) || decide ((wi (i + j)).toNat < (List.map Bk.a l).length)) = true ↔ ((¬(¬(zSpH3 l i j))) -> ((i + j).toNat < l.length)):=(by (try rw [w4]);(try rw [w11]);all_goals exact (i_imp (i_at (i_bf (i_not (i_var _)))) i_dec))
  have i16:(!((!Sp.foldB (l.getD (i + j).toNat default).3) == false && true) || decide (0 <= wi (k + j))) = true ↔ ((¬(¬(zSpH3 l i j))) -> (0 <= k + j)):=(by (try rw [w7]);all_goals exact (i_imp (i_at (i_bf (i_not (i_var _)))) i_dec))
  obtain ⟨k17,H⟩:=H
  have i18:(!((!Sp.foldB (l.getD (i + j).toNat default).3) == false && true) || decide ((wi (k + j)).toNat < (List.map Bk.a l).length)) = true ↔ ((¬(¬(zSpH3 l i j))) -> ((k + j).toNat < l.length)):=(by (try rw [w7]);(try rw [w11]);all_goals exact (i_imp (i_at (i_bf (i_not (i_var _)))) i_dec))
  obtain ⟨k19,H⟩:=H
  refine path_wp (G:=given kp51 [(4,5,.elem (ag [vb (l.getD (i + j).toNat default).1,AV.vec (l.getD (i + j).toNat default).2 2 (List.map Wo.a (l.getD (i + j).toNat default).3),AV.str (l.getD (i + j).toNat default).4])),(4,6,.call (vb (Sp.foldB (l.getD (i + j).toNat default).3)) none),(4,14,.elem (ag [vb (l.getD (i + j).toNat default).1,AV.vec (l.getD (i + j).toNat default).2 2 (List.map Wo.a (l.getD (i + j).toNat default).3),AV.str (l.getD (i + j).toNat default).4])),(4,20,.elem (ag [vb (l.getD (k + j).toNat default).1,AV.vec (l.getD (k + j).toNat default).2 2 (List.map Wo.a (l.getD (k + j).toNat default).3),AV.str (l.getD (k + j).toNat default).4])),(4,21,.call (vb (zSpH2 l i j k)) none)] []) 11 [true] ⟨(atC (cd Try.f51) [1,0,1,0,0,1,1,0,0,1,1]),[(0,AV.vec g 3 (List.map Bk.a l)),(1,vi i),(2,vi k),(10,vi n),(11,vi j),(37,vb (zSpH1 l i j k))],[],[(decide (j < n)) == true,decide (0 <= wi (i + j)),decide ((wi (i + j)).toNat < (List.map Bk.a l).length),!((!Sp.foldB (l.getD (i + j).toNat default).3) == false && true) || decide (0 <= wi (i + j)),!((!Sp.foldB (l.getD (i + j).toNat default).3) == false && true) || decide ((wi (i + j)).toNat < (List.map Bk.a l).length),!((!Sp.foldB (l.getD (i + j).toNat default).3) == false && true) || decide (0 <= wi (k + j)),!((!Sp.foldB (l.getD (i + j).toNat default).3) == false && true) || decide ((wi (k + j)).toNat < (List.map Bk.a l).length)],[((List.map Bk.a l).get?Internal (wi (i + j)).toNat = some (ag [vb (l.getD (i + j).toNat default).1,AV.vec (l.getD (i + j).toNat default).2 2 (List.map Wo.a (l.getD (i + j).toNat default).3),AV.str (l.getD (i + j).toNat default).4])),(((!Sp.foldB (l.getD (i + j).toNat default).3) == false && true) = true -> (List.map Bk.a l).get?Internal (wi (i + j)).toNat = some (ag [vb (l.getD (i + j).toNat default).1,AV.vec (l.getD (i + j).toNat default).2 2 (List.map Wo.a (l.getD (i + j).toNat default).3),AV.str (l.getD (i + j).toNat default).4])),(((!Sp.foldB (l.getD (i + j).toNat default).3) == false && true) = true -> (List.map Bk.a l).get?Internal (wi (k + j)).toNat = some (ag [vb (l.getD (k + j).toNat default).1,AV.vec (l.getD (k + j).toNat default).2 2 (List.map Wo.a (l.getD (k + j).toNat default).3),AV.str (l.getD (k + j).toNat default).4]))],[⟨true,false,73,[ag [vb (l.getD (i + j).toNat default).1,AV.vec (l.getD (i + j).toNat default).2 2 (List.map Wo.a (l.getD (i + j).toNat default).3),AV.str (l.getD (i + j).toNat default).4]],[],vb (Sp.foldB (l.getD (i + j).toNat default).3),[]⟩,⟨(!Sp.foldB (l.getD (i + j).toNat default).3) == false && true && true,false,74,[ag [vb (l.getD (i + j).toNat default).1,AV.vec (l.getD (i + j).toNat default).2 2 (List.map Wo.a (l.getD (i + j).toNat default).3),AV.str (l.getD (i + j).toNat default).4],ag [vb (l.getD (k + j).toNat default).1,AV.vec (l.getD (k + j).toNat default).2 2 (List.map Wo.a (l.getD (k + j).toNat default).3),AV.str (l.getD (k + j).toNat default).4]],[],vb (zSpH2 l i j k),[]⟩]⟩ (by kernel_rfl) (bc (beq_t (i_dec.2 d2)) (bc (i9.2 k10) (bc (i12.2 k13) (bc (i14.2 (fun _ => k10)) (bc (i15.2 (fun _ => k13)) (bc (i16.2 k17) (bc (i18.2 k19) b0))))))) (qc (by (try rw [w4]);all_goals exact (el_map k13)) (qc (by (try rw [w4]);all_goals exact (fun h => el_map k13)) (qc (by (try rw [w7]);all_goals exact (fun h => el_map (k19 ((i_at (i_bf (i_not (i_var _)))).1 h)))) q0))) (cc (fun _ => (@ev73 ((l.getD (i + j).toNat default).1) ((l.getD (i + j).toNat default).2) ((l.getD (i + j).toNat default).3) ((l.getD (i + j).toNat default).4) k5)) (cc (fun hc => ((@ev74 ((l.getD (i + j).toNat default).1) ((l.getD (i + j).toNat default).2) ((l.getD (k + j).toNat default).1) ((l.getD (k + j).toNat default).2) ((l.getD (i + j).toNat default).3) ((l.getD (k + j).toNat default).3) ((l.getD (i + j).toNat default).4) ((l.getD (k + j).toNat default).4) k5):Ev M1 (Conf.pure 74 [ag [vb (l.getD (i + j).toNat default).1,AV.vec (l.getD (i + j).toNat default).2 2 (List.map Wo.a (l.getD (i + j).toNat default).3),AV.str (l.getD (i + j).toNat default).4],ag [vb (l.getD (k + j).toNat default).1,AV.vec (l.getD (k + j).toNat default).2 2 (List.map Wo.a (l.getD (k + j).toNat default).3),AV.str (l.getD (k + j).toNat default).4]]) (vb (zSpH2 l i j k)) [])) c0)) ?_
  rcases xm ((¬(zSpH3 l i j)) \/ (¬(Sp.eqB (l.getD (i + j).toNat default).1 (l.getD (k + j).toNat default).1 (l.getD (i + j).toNat default).3 (l.getD (k + j).toNat default).3 (l.getD (i + j).toNat default).4 (l.getD (k + j).toNat default).4 = true))) with d23 | d23
  ·have H:=H.1 d23
   exact path_re (G:=given kp51 [] []) 1000 [true] (asm:=[(zSpH1 l i j k) == true]) (vb false) (by kernel_rfl) (bc (beq_t ((i_bor (i_not (i_var _)) (i_not (i_var _))).2 d23)) b0) q0 c0 H
  ·have H:=H.2 d23
   obtain ⟨k24,H⟩:=H
   have w25:wi (j + 1) = j + 1:=wI64 k24
   exact path_wp (G:=given kp51 [] []) 1000 [false] ⟨(atC (cd Try.f51) [1,0,1,0,0]),[(0,AV.vec g 3 (List.map Bk.a l)),(1,vi i),(2,vi k),(10,vi n),(11,vi (wi (j + 1)))],[],[(zSpH1 l i j k) == false],[],_⟩ (by kernel_rfl) (bc (beq_f (fun h => d23 ((i_bor (i_not (i_var _)) (i_not (i_var _))).1 h))) b0) q0 c0 (by (try rw [w25]);all_goals exact H)
 ·have H:=H.2 d2
  exact path_re (G:=given kp51 [] []) 1000 [false] (vb true) (by kernel_rfl) (bc (beq_f (fun h => d2 (i_dec.1 h))) b0) q0 c0 H
theorem suRn (g:Bool) (l:List Bk) (i k n:Int)  (dq:AV) (H :
  (-9223372036854775808 <= k + n /\ k + n <= 9223372036854775807) /\
  ((k + n > (↑l.length:Int)) -> vb false = dq) /\
  (¬(k + n > (↑l.length:Int)) -> suRna_at (g) (l) (i) (k) (n) (0) (PureQ dq))) :
 suRn_at g l i k n (PureQ dq):=by
 unfold suRn_at
 obtain ⟨k1,H⟩:=H
 have w2:wi (k + n) = k + n:=wI64 k1
 have w3:(List.map Bk.a l).length = l.length:=List.length_map ..
 have i4:(decide (wi (k + n) > (↑(List.map Bk.a l).length:Int))) = true ↔ (k + n > (↑l.length:Int)):=(by (try rw [w2]);(try rw [w3]);all_goals exact i_dec)
 rcases xm (k + n > (↑l.length:Int)) with d5 | d5
 ·have H:=H.1 d5
  exact path_re (G:=given kp52 [] []) 1000 [true] (vb false) (by kernel_rfl) (bc (beq_t (i4.2 d5)) b0) q0 c0 H
 ·have H:=H.2 d5
  exact path_wp (G:=given kp52 [] []) 1000 [false] ⟨(atC (cd Try.f52) [1,1,0,1,0,0]),[(0,AV.vec g 3 (List.map Bk.a l)),(1,vi i),(2,vi k),(3,vi n),(9,vi 0)],[],_,[],_⟩ (by kernel_rfl) (bc (beq_f (fun h => d5 (i4.1 h))) b0) q0 c0 (H)
noncomputable abbrev zSpH4 (l:List Bk) (i:Int) (j:Int) (k:Int):=bif !Sp.foldB (l.getD (i + j).toNat default).3 then true else !Sp.eqB (l.getD (i + j).toNat default).1 (l.getD (k + j).toNat default).1 (l.getD (i + j).toNat default).3 (l.getD (k + j).toNat default).3 (l.getD (i + j).toNat default).4 (l.getD (k + j).toNat default).4
noncomputable abbrev zSpH5 (l:List Bk) (i:Int) (j:Int) (k:Int):=Sp.eqB (l.getD (i + j).toNat default).1 (l.getD (k + j).toNat default).1 (l.getD (i + j).toNat default).3 (l.getD (k + j).toNat default).3 (l.getD (i + j).toNat default).4 (l.getD (k + j).toNat default).4
noncomputable abbrev zSpH6 (l:List Bk) (i:Int) (j:Int):=Sp.foldB (l.getD (i + j).toNat default).3 = true
theorem suRna (g:Bool) (l:List Bk) (i k n j:Int)  (dq:AV) (H :
  ((j < n) -> (-9223372036854775808 <= i + j /\ i + j <= 9223372036854775807) /\
   (Sp.few6 (l.getD (i + j).toNat default).3.length) /\
   (-9223372036854775808 <= k + j /\ k + j <= 9223372036854775807) /\
   (0 <= i + j) /\
   ((i + j).toNat < l.length) /\
   ((¬(¬(Sp.foldB (l.getD (i + j).toNat default).3 = true))) -> (0 <= k + j)) /\
   ((¬(¬(Sp.foldB (l.getD (i + j).toNat default).3 = true))) -> ((k + j).toNat < l.length)) /\
   (((¬(Sp.foldB (l.getD (i + j).toNat default).3 = true)) \/ (¬(Sp.eqB (l.getD (i + j).toNat default).1 (l.getD (k + j).toNat default).1 (l.getD (i + j).toNat default).3 (l.getD (k + j).toNat default).3 (l.getD (i + j).toNat default).4 (l.getD (k + j).toNat default).4 = true))) -> vb false = dq) /\
   (¬((¬(Sp.foldB (l.getD (i + j).toNat default).3 = true)) \/ (¬(Sp.eqB (l.getD (i + j).toNat default).1 (l.getD (k + j).toNat default).1 (l.getD (i + j).toNat default).3 (l.getD (k + j).toNat default).3 (l.getD (i + j).toNat default).4 (l.getD (k + j).toNat default).4 = true))) -> (-9223372036854775808 <= j + 1 /\ j + 1 <= 9223372036854775807) /\
    suRna_at (g) (l) (i) (k) (n) (j + 1) (PureQ dq))) /\
  (¬(j < n) -> vb true = dq)) :
 suRna_at g l i k n j (PureQ dq):=by
 unfold suRna_at
 rcases xm (j < n) with d2 | d2
 ·have H:=H.1 d2
  obtain ⟨k3,H⟩:=H
  have w4:wi (i + j) = i + j:=wI64 k3
  obtain ⟨k5,H⟩:=H
  obtain ⟨k6,H⟩:=H
  have w7:wi (k + j) = k + j:=wI64 k6
  have i9:(decide (0 <= wi (i + j))) = true ↔ (0 <= i + j):=(by (try rw [w4]);all_goals exact i_dec)
  obtain ⟨k10,H⟩:=H
  have w11:(List.map Bk.a l).length = l.length:=List.length_map ..
  have i12:(decide ((wi (i + j)).toNat < (List.map Bk.a l).length)) = true ↔ ((i + j).toNat < l.length):=(by (try rw [w4]);(try rw [w11]);all_goals exact i_dec)
  obtain ⟨k13,H⟩:=H
  have i14:(!((!Sp.foldB (l.getD (i + j).toNat default).3) == false && true) || decide (0 <= wi (i + j))) = true ↔ ((¬(¬(zSpH6 l i j))) -> (0 <= i + j)):=(by (try rw [w4]);all_goals exact (i_imp (i_at (i_bf (i_not (i_var _)))) i_dec))
  have i15:(!((!Sp.foldB (l.getD (i + j).toNat default).3) == false && true) || decide ((wi (i + j)).toNat < (List.map Bk.a l).length)) = true ↔ ((¬(¬(zSpH6 l i j))) -> ((i + j).toNat < l.length)):=(by (try rw [w4]);(try rw [w11]);all_goals exact (i_imp (i_at (i_bf (i_not (i_var _)))) i_dec))
  have i16:(!((!Sp.foldB (l.getD (i + j).toNat default).3) == false && true) || decide (0 <= wi (k + j))) = true ↔ ((¬(¬(zSpH6 l i j))) -> (0 <= k + j)):=(by (try rw [w7]);all_goals exact (i_imp (i_at (i_bf (i_not (i_var _)))) i_dec))
  obtain ⟨k17,H⟩:=H
  have i18:(!((!Sp.foldB (l.getD (i + j).toNat default).3) == false && true) || decide ((wi (k + j)).toNat < (List.map Bk.a l).length)) = true ↔ ((¬(¬(zSpH6 l i j))) -> ((k + j).toNat < l.length)):=(by (try rw [w7]);(try rw [w11]);all_goals exact (i_imp (i_at (i_bf (i_not (i_var _)))) i_dec))
  obtain ⟨k19,H⟩:=H
  refine path_wp (G:=given kp52 [(6,5,.elem (ag [vb (l.getD (i + j).toNat default).1,AV.vec (l.getD (i + j).toNat default).2 2 (List.map Wo.a (l.getD (i + j).toNat default).3),AV.str (l.getD (i + j).toNat default).4])),(6,6,.call (vb (Sp.foldB (l.getD (i + j).toNat default).3)) none),(6,14,.elem (ag [vb (l.getD (i + j).toNat default).1,AV.vec (l.getD (i + j).toNat default).2 2 (List.map Wo.a (l.getD (i + j).toNat default).3),AV.str (l.getD (i + j).toNat default).4])),(6,20,.elem (ag [vb (l.getD (k + j).toNat default).1,AV.vec (l.getD (k + j).toNat default).2 2 (List.map Wo.a (l.getD (k + j).toNat default).3),AV.str (l.getD (k + j).toNat default).4])),(6,21,.call (vb (zSpH5 l i j k)) none)] []) 9 [true] ⟨(atC (cd Try.f52) [1,1,0,1,0,0,1,0,0,1]),[(0,AV.vec g 3 (List.map Bk.a l)),(1,vi i),(2,vi k),(3,vi n),(9,vi j),(44,vb (zSpH4 l i j k))],[],[(decide (j < n)) == true,decide (0 <= wi (i + j)),decide ((wi (i + j)).toNat < (List.map Bk.a l).length),!((!Sp.foldB (l.getD (i + j).toNat default).3) == false && true) || decide (0 <= wi (i + j)),!((!Sp.foldB (l.getD (i + j).toNat default).3) == false && true) || decide ((wi (i + j)).toNat < (List.map Bk.a l).length),!((!Sp.foldB (l.getD (i + j).toNat default).3) == false && true) || decide (0 <= wi (k + j)),!((!Sp.foldB (l.getD (i + j).toNat default).3) == false && true) || decide ((wi (k + j)).toNat < (List.map Bk.a l).length)],[((List.map Bk.a l).get?Internal (wi (i + j)).toNat = some (ag [vb (l.getD (i + j).toNat default).1,AV.vec (l.getD (i + j).toNat default).2 2 (List.map Wo.a (l.getD (i + j).toNat default).3),AV.str (l.getD (i + j).toNat default).4])),(((!Sp.foldB (l.getD (i + j).toNat default).3) == false && true) = true -> (List.map Bk.a l).get?Internal (wi (i + j)).toNat = some (ag [vb (l.getD (i + j).toNat default).1,AV.vec (l.getD (i + j).toNat default).2 2 (List.map Wo.a (l.getD (i + j).toNat default).3),AV.str (l.getD (i + j).toNat default).4])),(((!Sp.foldB (l.getD (i + j).toNat default).3) == false && true) = true -> (List.map Bk.a l).get?Internal (wi (k + j)).toNat = some (ag [vb (l.getD (k + j).toNat default).1,AV.vec (l.getD (k + j).toNat default).2 2 (List.map Wo.a (l.getD (k + j).toNat default).3),AV.str (l.getD (k + j).toNat default).4]))],[⟨true,false,75,[ag [vb (l.getD (i + j).toNat default).1,AV.vec (l.getD (i + j).toNat default).2 2 (List.map Wo.a (l.getD (i + j).toNat default).3),AV.str (l.getD (i + j).toNat default).4]],[],vb (Sp.foldB (l.getD (i + j).toNat default).3),[]⟩,⟨(!Sp.foldB (l.getD (i + j).toNat default).3) == false && true && true,false,48,[ag [vb (l.getD (i + j).toNat default).1,AV.vec (l.getD (i + j).toNat default).2 2 (List.map Wo.a (l.getD (i + j).toNat default).3),AV.str (l.getD (i + j).toNat default).4],ag [vb (l.getD (k + j).toNat default).1,AV.vec (l.getD (k + j).toNat default).2 2 (List.map Wo.a (l.getD (k + j).toNat default).3),AV.str (l.getD (k + j).toNat default).4]],[],vb (zSpH5 l i j k),[]⟩]⟩ (by kernel_rfl) (bc (beq_t (i_dec.2 d2)) (bc (i9.2 k10) (bc (i12.2 k13) (bc (i14.2 (fun _ => k10)) (bc (i15.2 (fun _ => k13)) (bc (i16.2 k17) (bc (i18.2 k19) b0))))))) (qc (by (try rw [w4]);all_goals exact (el_map k13)) (qc (by (try rw [w4]);all_goals exact (fun h => el_map k13)) (qc (by (try rw [w7]);all_goals exact (fun h => el_map (k19 ((i_at (i_bf (i_not (i_var _)))).1 h)))) q0))) (cc (fun _ => (@ev75 ((l.getD (i + j).toNat default).1) ((l.getD (i + j).toNat default).2) ((l.getD (i + j).toNat default).3) ((l.getD (i + j).toNat default).4) k5)) (cc (fun hc => ((@ev48 ((l.getD (i + j).toNat default).1) ((l.getD (i + j).toNat default).2) ((l.getD (k + j).toNat default).1) ((l.getD (k + j).toNat default).2) ((l.getD (i + j).toNat default).3) ((l.getD (k + j).toNat default).3) ((l.getD (i + j).toNat default).4) ((l.getD (k + j).toNat default).4) k5):Ev M1 (Conf.pure 48 [ag [vb (l.getD (i + j).toNat default).1,AV.vec (l.getD (i + j).toNat default).2 2 (List.map Wo.a (l.getD (i + j).toNat default).3),AV.str (l.getD (i + j).toNat default).4],ag [vb (l.getD (k + j).toNat default).1,AV.vec (l.getD (k + j).toNat default).2 2 (List.map Wo.a (l.getD (k + j).toNat default).3),AV.str (l.getD (k + j).toNat default).4]]) (vb (zSpH5 l i j k)) [])) c0)) ?_
  rcases xm ((¬(zSpH6 l i j)) \/ (¬(Sp.eqB (l.getD (i + j).toNat default).1 (l.getD (k + j).toNat default).1 (l.getD (i + j).toNat default).3 (l.getD (k + j).toNat default).3 (l.getD (i + j).toNat default).4 (l.getD (k + j).toNat default).4 = true))) with d23 | d23
  ·have H:=H.1 d23
   exact path_re (G:=given kp52 [] []) 1000 [true] (asm:=[(zSpH4 l i j k) == true]) (vb false) (by kernel_rfl) (bc (beq_t ((i_bor (i_not (i_var _)) (i_not (i_var _))).2 d23)) b0) q0 c0 H
  ·have H:=H.2 d23
   obtain ⟨k24,H⟩:=H
   have w25:wi (j + 1) = j + 1:=wI64 k24
   exact path_wp (G:=given kp52 [] []) 1000 [false] ⟨(atC (cd Try.f52) [1,1,0,1,0,0]),[(0,AV.vec g 3 (List.map Bk.a l)),(1,vi i),(2,vi k),(3,vi n),(9,vi (wi (j + 1)))],[],[(zSpH4 l i j k) == false],[],_⟩ (by kernel_rfl) (bc (beq_f (fun h => d23 ((i_bor (i_not (i_var _)) (i_not (i_var _))).1 h))) b0) q0 c0 (by (try rw [w25]);all_goals exact H)
 ·have H:=H.2 d2
  exact path_re (G:=given kp52 [] []) 1000 [false] (vb true) (by kernel_rfl) (bc (beq_f (fun h => d2 (i_dec.1 h))) b0) q0 c0 H
end Go.Av

namespace Go.Av
open Go.Proofs
namespace Sp
def rn (l:List Bk) (i k:Nat) (j:Nat):Bool:=foldB (l.getD (i + j) default).ws && same (l.getD (i + j) default) (l.getD (k + j) default)
def runB (l:List Bk) (i k n:Int):Bool:=(List.range' 0 n.toNat).all (rn l i.toNat k.toNat)
def runR (l:List Bk) (i k n:Int):Bool:=if k + n > (l.length:Int) then false else runB l i k n
def inR (l:List Bk) (i k n:Int):Prop:=okBs l /\ 0 <= i /\ 0 <= k /\ 0 <= n /\ i + n <= l.length /\ k + n <= l.length
def inQ (l:List Bk) (i k n:Int):Prop:=okBs l /\ 0 <= i /\ 0 <= k /\ k <= l.length /\ 0 <= n /\ i + n <= l.length
end Sp
theorem suRua_loop {g:Bool} {l:List Bk} {i k n:Nat} {dq:AV} (hk:Sp.okBs l) (h1:i + n <= l.length) (h2:k + n <= l.length):∀ (c j:Nat),j + c = n -> AV.bool ((List.range' j c).all (Sp.rn l i k)) = dq -> suRua_at g l i k n j (PureQ dq):=by
 have hl:=hk.1
 intro c
 induction c with
 | zero =>
  intro j hj hq
  exact suRua _ _ _ _ _ _ _ ⟨fun h => by omega,fun _ => hq⟩
 | succ c ih =>
  intro j hj hq
  have hm:=hk.2 _ (getD_mem (show i + j < l.length by omega))
  rw [List.range'_succ,List.all_cons] at hq
  unfold Sp.rn at hq
  refine suRua _ _ _ _ _ _ _ ⟨fun _ => ?_,fun h => by omega⟩
  rw [show (i:Int) + (j:Int) = ((i + j:Nat):Int) by omega,show (k:Int) + (j:Int) = ((k + j:Nat):Int) by omega,Int.toNat_natCast,Int.toNat_natCast]
  refine ⟨by omega,hm.1,by omega,by omega,by omega,fun _ => by omega,fun _ => by omega,fun h => ?_,fun h => ⟨by omega,ih (j + 1) (by omega) ?_⟩⟩
  ·rw [show (Sp.foldB (l.getD (i + j) default).ws && Sp.same (l.getD (i + j) default) (l.getD (k + j) default)) = false by
    rw [Bool.and_eq_false_iff]
    exact h.elim (fun x => .inl (by simpa using x)) (fun x => .inr (Bool.eq_false_iff.2 x)),Bool.false_and] at hq
   exact hq
  ·have a1:Sp.foldB (l.getD (i + j) default).ws = true:=Classical.byContradiction fun x => h (.inl x)
   have a2:Sp.same (l.getD (i + j) default) (l.getD (k + j) default) = true:=Classical.byContradiction fun x => h (.inr x)
   rw [a1,a2,Bool.true_and,Bool.true_and] at hq
   exact hq
theorem ev51 (g:Bool) (l:List Bk) (i k n:Int) (h:Sp.inR l i k n):Ev M1 (.pure 51 [bsA g l,.int .i64 i,.int .i64 k,.int .i64 n]) (.bool (Sp.runB l i k n)) []:=by
 obtain ⟨hk,h1,h2,h3,h4,h5⟩:=h
 obtain ⟨i,rfl⟩:=Int.eq_ofNat_of_zero_le h1
 obtain ⟨k,rfl⟩:=Int.eq_ofNat_of_zero_le h2
 obtain ⟨n,rfl⟩:=Int.eq_ofNat_of_zero_le h3
 exact call51 (suRu g l i k n _ (suRua_loop hk (by omega) (by omega) n 0 (by omega) rfl))
theorem suRna_loop {g:Bool} {l:List Bk} {i k n:Nat} {dq:AV} (hk:Sp.okBs l) (h1:i + n <= l.length) (h2:k + n <= l.length):∀ (c j:Nat),j + c = n -> AV.bool ((List.range' j c).all (Sp.rn l i k)) = dq -> suRna_at g l i k n j (PureQ dq):=by
 have hl:=hk.1
 intro c
 induction c with
 | zero =>
  intro j hj hq
  exact suRna _ _ _ _ _ _ _ ⟨fun h => by omega,fun _ => hq⟩
 | succ c ih =>
  intro j hj hq
  have hm:=hk.2 _ (getD_mem (show i + j < l.length by omega))
  rw [List.range'_succ,List.all_cons] at hq
  unfold Sp.rn at hq
  refine suRna _ _ _ _ _ _ _ ⟨fun _ => ?_,fun h => by omega⟩
  rw [show (i:Int) + (j:Int) = ((i + j:Nat):Int) by omega,show (k:Int) + (j:Int) = ((k + j:Nat):Int) by omega,Int.toNat_natCast,Int.toNat_natCast]
  refine ⟨by omega,hm.1,by omega,by omega,by omega,fun _ => by omega,fun _ => by omega,fun h => ?_,fun h => ⟨by omega,ih (j + 1) (by omega) ?_⟩⟩
  ·rw [show (Sp.foldB (l.getD (i + j) default).ws && Sp.same (l.getD (i + j) default) (l.getD (k + j) default)) = false by
    rw [Bool.and_eq_false_iff]
    exact h.elim (fun x => .inl (by simpa using x)) (fun x => .inr (Bool.eq_false_iff.2 x)),Bool.false_and] at hq
   exact hq
  ·have a1:Sp.foldB (l.getD (i + j) default).ws = true:=Classical.byContradiction fun x => h (.inl x)
   have a2:Sp.same (l.getD (i + j) default) (l.getD (k + j) default) = true:=Classical.byContradiction fun x => h (.inr x)
   rw [a1,a2,Bool.true_and,Bool.true_and] at hq
   exact hq
theorem ev52 (g:Bool) (l:List Bk) (i k n:Int) (h:Sp.inQ l i k n):Ev M1 (.pure 52 [bsA g l,.int .i64 i,.int .i64 k,.int .i64 n]) (.bool (Sp.runR l i k n)) []:=by
 obtain ⟨hk,h1,h2,h2',h3,h4⟩:=h
 have hl:=hk.1
 obtain ⟨i,rfl⟩:=Int.eq_ofNat_of_zero_le h1
 obtain ⟨k,rfl⟩:=Int.eq_ofNat_of_zero_le h2
 obtain ⟨n,rfl⟩:=Int.eq_ofNat_of_zero_le h3
 unfold Sp.runR
 refine call52 (suRn g l i k n _ ⟨by omega,fun h => by rw [if_pos h],fun h => suRna_loop hk (by omega) (by omega) n 0 (by omega) ?_⟩)
 rw [if_neg h];rfl
end Go.Av

namespace Go.Av
open Go.Proofs
set_option maxRecDepth 100000
def fi22:Fi:=⟨8,[.tmp 2]⟩
def kp22:List (Nat × List Nat):=[(0,[0]),(1,[0,4]),(2,[2]),(3,[2])]
def fi50:Fi:=⟨34,[.tmp 4]⟩
def kp50:List (Nat × List Nat):=[(0,[0,1]),(1,[0,1,5]),(2,[0,1,5,14]),(3,[0,1,5]),(4,[0,1,5,6]),(5,[0,1,5,6,25]),(6,[0,1,5,6]),(7,[0,1,5,6,32]),(8,[4]),(9,[4])]
def suKe_at (g:Bool) (Q:AV -> Heap -> Prop):Prop:=Wp M1 (.run fi22 (atC (cd Try.f22) []) [(0,.vec g 3 [])] []) Q
def suKc_at (g:Bool) (y:Bk) (l:List Bk) (Q:AV -> Heap -> Prop):Prop:=Wp M1 (.run fi22 (atC (cd Try.f22) []) [(0,.vec g 3 ((y :: l).map Bk.a))] []) Q
def suFi_at (g:Bool) (l:List Bk) (n:Int) (Q:AV -> Heap -> Prop):Prop:=Wp M1 (.run fi50 (atC (cd Try.f50) []) [(0,.vec g 3 (l.map Bk.a)),(1,.int .i64 n)] []) Q
def suFia_at (g:Bool) (l:List Bk) (n i:Int) (Q:AV -> Heap -> Prop):Prop:=Wp M1 (.run fi50 (atC (cd Try.f50) [1,0,1,0,0]) [(0,.vec g 3 (l.map Bk.a)),(1,.int .i64 n),(5,.int .i64 i)] []) Q
def suFib_at (g:Bool) (l:List Bk) (n i k:Int) (Q:AV -> Heap -> Prop):Prop:=Wp M1 (.run fi50 (atC (cd Try.f50) [1,0,1,0,0,1,0,0,1,0,0]) [(0,.vec g 3 (l.map Bk.a)),(1,.int .i64 n),(5,.int .i64 i),(6,.int .i64 k)] []) Q
theorem call22 {args:List AV} {d:AV} (h:wc M1 fi22 Try.f22 args d):Ev M1 (.pure 22 args) d []:=pcl _ _ (by kernel_rfl) h
theorem call50 {args:List AV} {d:AV} (h:wc M1 fi50 Try.f50 args d):Ev M1 (.pure 50 args) d []:=pcl _ _ (by kernel_rfl) h
theorem suKe (g:Bool)  (dq:AV) (H :
  (Weak (AV.vnil) dq) /\
  (Weak (AV.vec true 3 []) dq)) :
 suKe_at g (PureQ dq):=by
 unfold suKe_at
 refine path_wp (G:=given kp22 [] []) 4 [] ⟨(atC (cd Try.f22) [1,0,0]),[(0,AV.vec g 3 [])],[],_,[],_⟩ (by kernel_rfl) b0 q0 c0 (wp_nil 1 [0,4] (e1:=[(0,AV.vec g 3 []),(4,vb true)]) (e2:=[(0,AV.vec g 3 []),(4,vb false)]) (L1:=[]) (L2:=[]) (a1:=[]) (a2:=[]) (v1:=[(4,[],vb true),(3,[],AV.vec g 3 []),(0,[],AV.vec g 3 [])]) (v2:=[(4,[],vb false),(3,[],AV.vec g 3 []),(0,[],AV.vec g 3 [])]) (by kernel_rfl) (by kernel_rfl) allB_nil allB_nil (by kernel_rfl) (by kernel_rfl) ?_ ?_)
 ·have H:=H.1
  exact path_rq (G:=given kp22 [] []) 1000 [true] (AV.vnil) (by kernel_rfl) (bc rfl b0) q0 c0 H
 ·have H:=H.2
  exact path_rq (G:=given kp22 [] []) 1000 [false] (AV.vec true 3 []) (by kernel_rfl) (bc rfl b0) q0 c0 H
theorem suKc (g:Bool) (y:Bk) (l:List Bk)  (dq:AV) (H :
  ((0 + (l.length + 1)) * 48 <= 1099511627776) /\
  Weak (AV.vec false 3 (ag [vb y.1,AV.vec y.2 2 (List.map Wo.a y.3),AV.str y.4] :: List.map Bk.a l)) dq) :
 suKc_at g y l (PureQ dq):=by
 unfold suKc_at
 have w1:(List.map Bk.a l).length = l.length:=List.length_map ..
 have i2:(decide ((0 + ((List.map Bk.a l).length + 1)) * 48 <= 1099511627776)) = true ↔ ((0 + (l.length + 1)) * 48 <= 1099511627776):=(by (try rw [w1]);all_goals exact i_dec)
 obtain ⟨k3,H⟩:=H
 exact path_ret (G:=given kp22 [] []) 1000 [false] (k:=((atC (cd Try.f22) [1,1,1])).tail) (env':=[(2,AV.row 0 0)]) (L':=[⟨ag [vb y.1,AV.vec y.2 2 (List.map Wo.a y.3),AV.str y.4] :: List.map Bk.a l,3,0,false,true⟩]) (asm:=[false == false,decide ((0 + ((List.map Bk.a l).length + 1)) * 48 <= 1099511627776)]) (eqs:=[]) (calls:=[]) (AV.row 0 0) (by kernel_rfl) (by kernel_rfl) (allB_cons rfl (allB_cons (i2.2 k3) allB_nil)) allP_nil allC_nil (pq_weak (d:=(AV.vec false 3 (ag [vb y.1,AV.vec y.2 2 (List.map Wo.a y.3),AV.str y.4] :: List.map Bk.a l))) (bs:=[0 == 0]) (by kernel_rfl) (by kernel_rfl) (allB_cons (beq_self_eq_true _) allB_nil) (by kernel_rfl) H)
theorem suFi (g:Bool) (l:List Bk) (n:Int)  (dq:AV) (H :
  suFia_at (g) (l) (n) (0) (PureQ dq)) :
 suFi_at g l n (PureQ dq):=by
 unfold suFi_at
 exact path_wp (G:=given kp50 [] []) 1000 [] ⟨(atC (cd Try.f50) [1,0,1,0,0]),[(0,AV.vec g 3 (List.map Bk.a l)),(1,vi n),(5,vi 0)],[],_,[],_⟩ (by kernel_rfl) b0 q0 c0 (H)
theorem suFia (g:Bool) (l:List Bk) (n i:Int)  (dq:AV) (H :
  (-9223372036854775808 <= i + n /\ i + n <= 9223372036854775807) /\
  (-9223372036854775808 <= (↑l.length:Int) - n /\ (↑l.length:Int) - n <= 9223372036854775807) /\
  ((i + n <= (↑l.length:Int) - n) -> suFib_at (g) (l) (n) (i) (i + n) (PureQ dq)) /\
  (¬(i + n <= (↑l.length:Int) - n) -> vi (-1) = dq)) :
 suFia_at g l n i (PureQ dq):=by
 unfold suFia_at
 obtain ⟨k1,H⟩:=H
 have w2:wi (i + n) = i + n:=wI64 k1
 have w3:(List.map Bk.a l).length = l.length:=List.length_map ..
 obtain ⟨k4,H⟩:=H
 have w5:wi ((↑l.length:Int) - n) = (↑l.length:Int) - n:=wI64 k4
 have i6:(decide (wi (i + n) <= wi ((↑(List.map Bk.a l).length:Int) - n))) = true ↔ (i + n <= (↑l.length:Int) - n):=(by (try rw [w2]);(try rw [w3]);(try rw [w5]);all_goals exact i_dec)
 rcases xm (i + n <= (↑l.length:Int) - n) with d7 | d7
 ·have H:=H.1 d7
  exact path_wp (G:=given kp50 [] []) 1000 [true] ⟨(atC (cd Try.f50) [1,0,1,0,0,1,0,0,1,0,0]),[(0,AV.vec g 3 (List.map Bk.a l)),(1,vi n),(5,vi i),(6,vi (wi (i + n)))],[],_,[],_⟩ (by kernel_rfl) (bc (beq_t (i6.2 d7)) b0) q0 c0 (by (try rw [w2]);all_goals exact H)
 ·have H:=H.2 d7
  exact path_re (G:=given kp50 [] []) 1000 [false] (vi (-1)) (by kernel_rfl) (bc (beq_f (fun h => d7 (i6.1 h))) b0) q0 c0 H
theorem suFib (g:Bool) (l:List Bk) (n i k:Int)  (dq:AV) (H :
  (-9223372036854775808 <= k + n /\ k + n <= 9223372036854775807) /\
  ((k + n <= (↑l.length:Int)) -> (Sp.inR l i k n) /\
   ((Sp.runB l i k n = true) -> vi i = dq) /\
   (¬(Sp.runB l i k n = true) -> (-9223372036854775808 <= k + 1 /\ k + 1 <= 9223372036854775807) /\
    suFib_at (g) (l) (n) (i) (k + 1) (PureQ dq))) /\
  (¬(k + n <= (↑l.length:Int)) -> (-9223372036854775808 <= i + 1 /\ i + 1 <= 9223372036854775807) /\
   suFia_at (g) (l) (n) (i + 1) (PureQ dq))) :
 suFib_at g l n i k (PureQ dq):=by
 unfold suFib_at
 obtain ⟨k1,H⟩:=H
 have w2:wi (k + n) = k + n:=wI64 k1
 have w3:(List.map Bk.a l).length = l.length:=List.length_map ..
 have i4:(decide (wi (k + n) <= (↑(List.map Bk.a l).length:Int))) = true ↔ (k + n <= (↑l.length:Int)):=(by (try rw [w2]);(try rw [w3]);all_goals exact i_dec)
 rcases xm (k + n <= (↑l.length:Int)) with d5 | d5
 ·have H:=H.1 d5
  obtain ⟨k6,H⟩:=H
  refine path_wp (G:=given kp50 [(7,4,.call (vb (Sp.runB l i k n)) none)] []) 9 [true] ⟨(atC (cd Try.f50) [1,0,1,0,0,1,0,0,1,0,0,1,0,0,1]),[(0,AV.vec g 3 (List.map Bk.a l)),(1,vi n),(5,vi i),(6,vi k),(32,vb (Sp.runB l i k n))],[],_,[],_⟩ (by kernel_rfl) (bc (beq_t (i4.2 d5)) b0) q0 (ce (@ev51 (g) (l) (i) (k) (n) k6) c0) ?_
  rcases xm (Sp.runB l i k n = true) with d8 | d8
  ·have H:=H.1 d8
   exact path_re (G:=given kp50 [] []) 1000 [true] (asm:=[(Sp.runB l i k n) == true]) (vi i) (by kernel_rfl) (bc (beq_t ((i_var _).2 d8)) b0) q0 c0 H
  ·have H:=H.2 d8
   obtain ⟨k9,H⟩:=H
   have w10:wi (k + 1) = k + 1:=wI64 k9
   exact path_wp (G:=given kp50 [] []) 1000 [false] ⟨(atC (cd Try.f50) [1,0,1,0,0,1,0,0,1,0,0]),[(0,AV.vec g 3 (List.map Bk.a l)),(1,vi n),(5,vi i),(6,vi (wi (k + 1)))],[],[(Sp.runB l i k n) == false],[],_⟩ (by kernel_rfl) (bc (beq_f (fun h => d8 ((i_var _).1 h))) b0) q0 c0 (by (try rw [w10]);all_goals exact H)
 ·have H:=H.2 d5
  obtain ⟨k11,H⟩:=H
  have w12:wi (i + 1) = i + 1:=wI64 k11
  exact path_wp (G:=given kp50 [] []) 1000 [false] ⟨(atC (cd Try.f50) [1,0,1,0,0]),[(0,AV.vec g 3 (List.map Bk.a l)),(1,vi n),(5,vi (wi (i + 1)))],[],_,[],_⟩ (by kernel_rfl) (bc (beq_f (fun h => d5 (i4.1 h))) b0) q0 c0 (by (try rw [w12]);all_goals exact H)
end Go.Av

namespace Go.Av
open Go.Proofs
theorem ev22 (g:Bool) (l:List Bk) (h:Sp.few6 l.length):Ev M1 (.pure 22 [bsA g l]) (bsA false l) []:=by
 unfold Sp.few6 at h
 cases l with
 | nil => exact call22 (suKe g _ ⟨.vnil 3,.full 3 []⟩)
 | cons y l => exact call22 (suKc g y l _ ⟨by simp at h;omega,.refl _⟩)
namespace Sp
def hasRun (l:List Bk) (n i:Nat):Nat -> Nat -> Bool
 | 0,_ => false
 | c + 1,k => runB l i k n || hasRun l n i c (k + 1)
def findF (l:List Bk) (n:Nat):Nat -> Nat -> Int
 | 0,_ => -1
 | c + 1,i => if hasRun l n i (l.length + 1 - (i + 2 * n)) (i + n) = true then i else findF l n c (i + 1)
def fst (l:List Bk) (n:Int):Int:=findF l n.toNat (l.length + 1 - 2 * n.toNat) 0
def inF (l:List Bk) (n:Int):Prop:=okBs l /\ 1 <= n /\ 2 * n <= l.length
end Sp
theorem suFi_loop {g:Bool} {l:List Bk} {n:Nat} {dq:AV} (hk:Sp.okBs l) (h1:1 <= n) (h2:2 * n <= l.length):∀ (c i:Nat),i + c = l.length + 1 - 2 * n -> AV.int .i64 (Sp.findF l n c i) = dq -> suFia_at g l n i (PureQ dq):=by
 have hl:=hk.1
 intro c
 induction c with
 | zero =>
  intro i hi hq
  exact suFia _ _ _ _ _ ⟨by omega,by omega,fun h => by omega,fun _ => hq⟩
 | succ c ih =>
  intro i hi hq
  have inner:∀ (d k:Nat),k + d = l.length + 1 - n -> AV.int .i64 (if Sp.hasRun l n i d k = true then (i:Int) else Sp.findF l n c (i + 1)) = dq -> i + n <= k -> suFib_at g l n i k (PureQ dq):=by
   intro d
   induction d with
   | zero =>
    intro k hk2 hq hik
    refine suFib _ _ _ _ _ _ ⟨by omega,fun h => by omega,fun _ => ⟨by omega,ih (i + 1) (by omega) ?_⟩⟩
    rw [Sp.hasRun,if_neg (by simp)] at hq
    exact hq
   | succ d ihd =>
    intro k hk2 hq hik
    rw [Sp.hasRun] at hq
    refine suFib _ _ _ _ _ _ ⟨by omega,fun _ => ⟨⟨hk,by omega,by omega,by omega,by omega,by omega⟩,fun h => ?_,fun h => ⟨by omega,ihd (k + 1) (by omega) ?_ (by omega)⟩⟩,fun h => by omega⟩
    ·rw [h,Bool.true_or,if_pos rfl] at hq
     exact hq
    ·rw [Bool.eq_false_iff.2 h,Bool.false_or] at hq
     exact hq
  rw [Sp.findF] at hq
  refine suFia _ _ _ _ _ ⟨by omega,by omega,fun _ => ?_,fun h => by omega⟩
  exact inner (l.length + 1 - (i + 2 * n)) (i + n) (by omega) hq (by omega)
theorem ev50 (g:Bool) (l:List Bk) (n:Int) (h:Sp.inF l n):Ev M1 (.pure 50 [bsA g l,.int .i64 n]) (.int .i64 (Sp.fst l n)) []:=by
 obtain ⟨hk,h1,h2⟩:=h
 obtain ⟨n,rfl⟩:=Int.eq_ofNat_of_zero_le (show 0 <= n by omega)
 exact call50 (suFi g l n _ (suFi_loop hk (by omega) (by omega) _ 0 (by omega) rfl))
end Go.Av

namespace Go.Av
open Go.Proofs
set_option maxRecDepth 100000
def fi21:Fi:=⟨85,[.cell 6 40,.tmp 7]⟩
def kp21:List (Nat × List Nat):=[(0,[0,1,2,6]),(1,[0,1,2,6,20]),(2,[6,7]),(3,[0,1,2,6,8]),(4,[0,1,2,6,8,26]),(5,[0,1,2,6,8]),(6,[0,1,2,6,8,31]),(7,[6,7]),(8,[0,1,2,6,8,9]),(9,[0,1,2,6,8,9,10]),(10,[0,1,2,6,8,9,10,38]),(11,[0,1,2,6,8,9,10,51]),(12,[0,1,2,6,8,9,10]),(13,[0,1,2,6,8,9,10]),(14,[0,1,2,6,8,9,10]),(15,[0,1,2,6,8,9,10]),(16,[6,7])]
def suFl_at (g:Bool) (l:List Bk) (m n:Int) (Q:AV -> Heap -> Prop):Prop:=Wp M1 (.run fi21 (atC (cd Try.f21) []) [(0,.vec g 3 (l.map Bk.a)),(1,.int .i64 m),(2,.int .i64 n)] []) Q
def suFlz_at (g:Bool) (l:List Bk) (m n a i:Int) (Q:AV -> Heap -> Prop):Prop:=Wp M1 (.run fi21 (atC (cd Try.f21) [1,1,1,1,1,1,0,1,0,0]) [(0,.vec g 3 (l.map Bk.a)),(1,.int .i64 m),(2,.int .i64 n),(6,.ptr 0 0 0 0),(8,.int .i64 a),(9,.vnil),(10,.int .i64 i)] [⟨[.agg [.vnil,.vnil]],2,0,false,false⟩]) Q
def suFla_at (g:Bool) (l:List Bk) (m n a i:Int) (q:List Bk) (v:Nat) (Q:AV -> Heap -> Prop):Prop:=Wp M1 (.run fi21 (atC (cd Try.f21) [1,1,1,1,1,1,0,1,0,0]) [(0,.vec g 3 (l.map Bk.a)),(1,.int .i64 m),(2,.int .i64 n),(6,.ptr 0 0 0 0),(8,.int .i64 a),(9,.row 1 v),(10,.int .i64 i)] [⟨[.agg [.vnil,.vnil]],2,0,false,false⟩,⟨q.map Bk.a,3,v,false,true⟩]) Q
theorem call21 {args:List AV} {d:AV} (h:wc M1 fi21 Try.f21 args d):Ev M1 (.pure 21 args) d []:=pcl _ _ (by kernel_rfl) h
theorem suFl (g:Bool) (l:List Bk) (m n:Int)  (dq:AV) (H :
  ((((m < 1) \/ (m > 9999)) \/ (n < 1)) -> Weak (tu [ag [AV.vnil,AV.vnil],vi 1]) dq) /\
  (¬(((m < 1) \/ (m > 9999)) \/ (n < 1)) -> (-9223372036854775808 <= (↑l.length:Int).tdiv 2 /\ (↑l.length:Int).tdiv 2 <= 9223372036854775807) /\
   ((n <= (↑l.length:Int).tdiv 2) -> (Sp.inF l n) /\
    ((Sp.fst l n < 0) -> (Sp.few6 l.length) /\
     Weak (tu [ag [AV.vec false 3 (List.map Bk.a l),AV.vnil],vi 0]) dq) /\
    (¬(Sp.fst l n < 0) -> suFlz_at (g) (l) (m) (n) (Sp.fst l n) (0) (PureQ dq))) /\
   (¬(n <= (↑l.length:Int).tdiv 2) -> (Sp.few6 l.length) /\
    Weak (tu [ag [AV.vec false 3 (List.map Bk.a l),AV.vnil],vi 0]) dq))) :
 suFl_at g l m n (PureQ dq):=by
 unfold suFl_at
 rcases xm (((m < 1) \/ (m > 9999)) \/ (n < 1)) with d2 | d2
 ·have H:=H.1 d2
  exact path_rq (G:=given kp21 [] []) 1000 [true] (tu [ag [AV.vnil,AV.vnil],vi 1]) (by kernel_rfl) (bc (beq_t ((i_bor (i_bor i_dec i_dec) i_dec).2 d2)) (bc rfl b0)) q0 c0 H
 ·have H:=H.2 d2
  have w3:(List.map Bk.a l).length = l.length:=List.length_map ..
  obtain ⟨k4,H⟩:=H
  have w5:wi ((↑l.length:Int).tdiv 2) = (↑l.length:Int).tdiv 2:=wI64 k4
  have i6:(decide (n <= wi ((↑(List.map Bk.a l).length:Int).tdiv 2))) = true ↔ (n <= (↑l.length:Int).tdiv 2):=(by (try rw [w3]);(try rw [w5]);all_goals exact i_dec)
  rcases xm (n <= (↑l.length:Int).tdiv 2) with d7 | d7
  ·have H:=H.1 d7
   obtain ⟨k8,H⟩:=H
   refine path_wp (G:=given kp21 [(5,2,.call (vi (Sp.fst l n)) none)] []) 17 [false,true] ⟨(atC (cd Try.f21) [1,1,1,1,0,1]),[(0,AV.vec g 3 (List.map Bk.a l)),(1,vi m),(2,vi n),(6,AV.ptr 0 0 0 0),(8,vi (Sp.fst l n)),(31,vb (decide (Sp.fst l n < 0)))],[⟨[ag [AV.vnil,AV.vnil]],2,0,false,false⟩],_,[],_⟩ (by kernel_rfl) (bc (beq_f (fun h => d2 ((i_bor (i_bor i_dec i_dec) i_dec).1 h))) (bc rfl (bc (beq_t (i6.2 d7)) b0))) q0 (ce (@ev50 (g) (l) (n) k8) c0) ?_
   rcases xm (Sp.fst l n < 0) with d10 | d10
   ·have H:=H.1 d10
    obtain ⟨k11,H⟩:=H
    exact path_rq (G:=given kp21 [(7,1,.call (AV.vec false 3 (List.map Bk.a l)) none)] []) 1000 [true] (tu [ag [AV.vec false 3 (List.map Bk.a l),AV.vnil],vi 0]) (by kernel_rfl) (bc (beq_t (i_dec.2 d10)) (bc rfl b0)) q0 (ce (@ev22 (g) (l) k11) c0) H
   ·have H:=H.2 d10
    exact path_wp (G:=given kp21 [] []) 1000 [false] ⟨(atC (cd Try.f21) [1,1,1,1,1,1,0,1,0,0]),[(0,AV.vec g 3 (List.map Bk.a l)),(1,vi m),(2,vi n),(6,AV.ptr 0 0 0 0),(8,vi (Sp.fst l n)),(9,AV.vnil),(10,vi 0)],[⟨[ag [AV.vnil,AV.vnil]],2,0,false,false⟩],_,[],_⟩ (by kernel_rfl) (bc (beq_f (fun h => d10 (i_dec.1 h))) b0) q0 c0 (H)
  ·have H:=H.2 d7
   obtain ⟨k12,H⟩:=H
   exact path_rq (G:=given kp21 [(7,1,.call (AV.vec false 3 (List.map Bk.a l)) none)] []) 1000 [false,false,true] (tu [ag [AV.vec false 3 (List.map Bk.a l),AV.vnil],vi 0]) (by kernel_rfl) (bc (beq_f (fun h => d2 ((i_bor (i_bor i_dec i_dec) i_dec).1 h))) (bc rfl (bc (beq_f (fun h => d7 (i6.1 h))) (bc rfl (bc rfl b0))))) q0 (ce (@ev22 (g) (l) k12) c0) H
theorem suFlz (g:Bool) (l:List Bk) (m n a i:Int)  (dq:AV) (H :
  ((i < (↑l.length:Int)) -> (-9223372036854775808 <= i + n /\ i + n <= 9223372036854775807) /\
   ((i + n <= (↑l.length:Int)) -> (Sp.inR l a i n)) /\
   (((i + n <= (↑l.length:Int)) /\ (Sp.runB l a i n = true)) -> (-9223372036854775808 <= 1000 * m /\ 1000 * m <= 9223372036854775807) /\
    Wp M1 (.run fi21 (atC (cd Try.f21) [1,1,1,1,1,1,0,1,0,0]) [(0,AV.vec g 3 (List.map Bk.a l)),(1,vi m),(2,vi n),(6,AV.ptr 0 0 0 0),(8,vi a),(9,AV.row 1 0),(10,vi (i + n))] [{ elems:=[ag [AV.vnil,AV.vnil]],es:=2,ver:=0,frozen:=false,clean:=false },{ elems:=[ag [vb false,AV.vec true 2 [ag [AV.int IntKind.u8 77,vi 98000],ag [AV.int IntKind.u8 80,vi (1000 * m)]],AV.str []]],es:=3,ver:=0,frozen:=false,clean:=true }]) (PureQ dq)) /\
   (¬((i + n <= (↑l.length:Int)) /\ (Sp.runB l a i n = true)) -> (0 <= i) /\
    (i.toNat < l.length) /\
    (-9223372036854775808 <= i + 1 /\ i + 1 <= 9223372036854775807) /\
    suFla_at (g) (l) (m) (n) (a) (i + 1) ([{ sk:=(l.getD i.toNat default).1,f:=(l.getD i.toNat default).2,ws:=(l.getD i.toNat default).3,cm:=(l.getD i.toNat default).4 }]) (0) (PureQ dq))) /\
  (¬(i < (↑l.length:Int)) -> (-9223372036854775808 <= a + n /\ a + n <= 9223372036854775807) /\
   (Sp.few6 (List.drop a.toNat (List.take (a + n).toNat l)).length) /\
   (0 <= a) /\
   (0 <= a + n) /\
   (a.toNat <= (a + n).toNat) /\
   ((a + n).toNat <= l.length) /\
   Weak (tu [ag [AV.vnil,AV.vec true 2 [ag [vi m,AV.vec false 3 (List.map Bk.a (List.drop a.toNat (List.take (a + n).toNat l)))]]],vi 0]) dq)) :
 suFlz_at g l m n a i (PureQ dq):=by
 unfold suFlz_at
 have w1:(List.map Bk.a l).length = l.length:=List.length_map ..
 have i2:(decide (i < (↑(List.map Bk.a l).length:Int))) = true ↔ (i < (↑l.length:Int)):=(by (try rw [w1]);all_goals exact i_dec)
 rcases xm (i < (↑l.length:Int)) with d3 | d3
 ·have H:=H.1 d3
  obtain ⟨k4,H⟩:=H
  have w5:wi (i + n) = i + n:=wI64 k4
  have i6:(decide (wi (i + n) <= (↑(List.map Bk.a l).length:Int)) == true && true && true) = true ↔ (i + n <= (↑l.length:Int)):=(by (try rw [w1]);(try rw [w5]);all_goals exact (i_at (i_at (i_bt i_dec))))
  obtain ⟨k7,H⟩:=H
  have i8:(bif decide (wi (i + n) <= (↑(List.map Bk.a l).length:Int)) then Sp.runB l a i n else false) = true ↔ ((i + n <= (↑l.length:Int)) /\ (Sp.runB l a i n = true)):=(by (try rw [w1]);(try rw [w5]);all_goals exact (i_band i_dec (i_var _)))
  refine path_wp (G:=given kp21 [(11,11,.call (vb (Sp.runB l a i n)) none)] []) 9 [true] ⟨(atC (cd Try.f21) [1,1,1,1,1,1,0,1,0,0,1,0,0,1]),[(0,AV.vec g 3 (List.map Bk.a l)),(1,vi m),(2,vi n),(6,AV.ptr 0 0 0 0),(8,vi a),(9,AV.vnil),(10,vi i),(51,vb (bif decide (wi (i + n) <= (↑(List.map Bk.a l).length:Int)) then Sp.runB l a i n else false))],[⟨[ag [AV.vnil,AV.vnil]],2,0,false,false⟩],_,[],[⟨decide (wi (i + n) <= (↑(List.map Bk.a l).length:Int)) == true && true && true,false,51,[AV.vec g 3 (List.map Bk.a l),vi a,vi i,vi n],[],vb (Sp.runB l a i n),[]⟩]⟩ (by kernel_rfl) (bc (beq_t (i2.2 d3)) b0) q0 (cc (fun hc => ((@ev51 (g) (l) (a) (i) (n) (k7 (i6.1 hc))):Ev M1 (Conf.pure 51 [AV.vec g 3 (List.map Bk.a l),vi a,vi i,vi n]) (vb (Sp.runB l a i n)) [])) c0) ?_
  rcases xm ((i + n <= (↑l.length:Int)) /\ (Sp.runB l a i n = true)) with d9 | d9
  ·have H:=H.1 d9
   obtain ⟨k10,H⟩:=H
   have w11:wi (1000 * m) = 1000 * m:=wI64 k10
   exact path_wp (G:=given kp21 [] []) 1000 [true] ⟨(atC (cd Try.f21) [1,1,1,1,1,1,0,1,0,0]),[(0,AV.vec g 3 (List.map Bk.a l)),(1,vi m),(2,vi n),(6,AV.ptr 0 0 0 0),(8,vi a),(9,AV.row 1 0),(10,vi (wi (i + n)))],[⟨[ag [AV.vnil,AV.vnil]],2,0,false,false⟩,⟨[ag [vb false,AV.vec true 2 [ag [AV.int IntKind.u8 77,vi 98000],ag [AV.int IntKind.u8 80,vi (wi (1000 * m))]],AV.str []]],3,0,false,true⟩],_,[],_⟩ (by kernel_rfl) (bc (beq_t (i8.2 d9)) (bc rfl b0)) q0 c0 (by (try rw [w5]);(try rw [w11]);all_goals exact H)
  ·have H:=H.2 d9
   obtain ⟨k13,H⟩:=H
   have i14:(decide (i.toNat < (List.map Bk.a l).length)) = true ↔ (i.toNat < l.length):=(by (try rw [w1]);all_goals exact i_dec)
   obtain ⟨k15,H⟩:=H
   obtain ⟨k16,H⟩:=H
   have w17:wi (i + 1) = i + 1:=wI64 k16
   have w18:[ag [vb (l.getD i.toNat default).1,AV.vec (l.getD i.toNat default).2 2 (List.map Wo.a (l.getD i.toNat default).3),AV.str (l.getD i.toNat default).4]] = List.map Bk.a [{ sk:=(l.getD i.toNat default).1,f:=(l.getD i.toNat default).2,ws:=(l.getD i.toNat default).3,cm:=(l.getD i.toNat default).4 }]:=rfl
   exact path_wp (G:=given kp21 [(14,4,.elem (ag [vb (l.getD i.toNat default).1,AV.vec (l.getD i.toNat default).2 2 (List.map Wo.a (l.getD i.toNat default).3),AV.str (l.getD i.toNat default).4]))] []) 1000 [false] ⟨(atC (cd Try.f21) [1,1,1,1,1,1,0,1,0,0]),[(0,AV.vec g 3 (List.map Bk.a l)),(1,vi m),(2,vi n),(6,AV.ptr 0 0 0 0),(8,vi a),(9,AV.row 1 0),(10,vi (wi (i + 1)))],[⟨[ag [AV.vnil,AV.vnil]],2,0,false,false⟩,⟨[ag [vb (l.getD i.toNat default).1,AV.vec (l.getD i.toNat default).2 2 (List.map Wo.a (l.getD i.toNat default).3),AV.str (l.getD i.toNat default).4]],3,0,false,true⟩],_,[((List.map Bk.a l).get?Internal i.toNat = some (ag [vb (l.getD i.toNat default).1,AV.vec (l.getD i.toNat default).2 2 (List.map Wo.a (l.getD i.toNat default).3),AV.str (l.getD i.toNat default).4]))],_⟩ (by kernel_rfl) (bc (beq_f (fun h => d9 (i8.1 h))) (bc (i_dec.2 k13) (bc (i14.2 k15) (bc rfl b0)))) (qc (el_map k15) q0) c0 (by (try rw [w17]);(try rw [w18]);all_goals exact H)
 ·have H:=H.2 d3
  obtain ⟨k19,H⟩:=H
  have w20:wi (a + n) = a + n:=wI64 k19
  have w21:List.take (a + n).toNat (List.map Bk.a l) = List.map Bk.a (List.take (a + n).toNat l):=(lm_take rfl)
  have w22:List.drop a.toNat (List.map Bk.a (List.take (a + n).toNat l)) = List.map Bk.a (List.drop a.toNat (List.take (a + n).toNat l)):=(lm_drop rfl)
  obtain ⟨k23,H⟩:=H
  obtain ⟨k25,H⟩:=H
  have i26:(decide (0 <= wi (a + n))) = true ↔ (0 <= a + n):=(by (try rw [w20]);all_goals exact i_dec)
  obtain ⟨k27,H⟩:=H
  have i28:(decide (a.toNat <= (wi (a + n)).toNat)) = true ↔ (a.toNat <= (a + n).toNat):=(by (try rw [w20]);all_goals exact i_dec)
  obtain ⟨k29,H⟩:=H
  have i30:(decide ((wi (a + n)).toNat <= (List.map Bk.a l).length)) = true ↔ ((a + n).toNat <= l.length):=(by (try rw [w1]);(try rw [w20]);all_goals exact i_dec)
  obtain ⟨k31,H⟩:=H
  exact path_rq (G:=given kp21 [(16,8,.call (AV.vec false 3 (List.map Bk.a (List.drop a.toNat (List.take (a + n).toNat l)))) none)] []) 1000 [false] (calls:=[pc 22 [AV.vec (g && false) 3 (List.drop a.toNat (List.take (wi (a + n)).toNat (List.map Bk.a l)))] (AV.vec false 3 (List.map Bk.a (List.drop a.toNat (List.take (a + n).toNat l))))]) (tu [ag [AV.vnil,AV.vec true 2 [ag [vi m,AV.vec false 3 (List.map Bk.a (List.drop a.toNat (List.take (a + n).toNat l)))]]],vi 0]) (by kernel_rfl) (bc (beq_f (fun h => d3 (i2.1 h))) (bc (i_dec.2 k25) (bc (i26.2 k27) (bc (i28.2 k29) (bc (i30.2 k31) (bc rfl b0)))))) q0 (ce (by (try rw [w20]);(try rw [w21]);(try rw [w22]);all_goals exact (@ev22 (g && false) (List.drop a.toNat (List.take (a + n).toNat l)) k23)) c0) H
theorem suFla (g:Bool) (l:List Bk) (m n a i:Int) (q:List Bk) (v:Nat)  (dq:AV) (H :
  ((i < (↑l.length:Int)) -> (-9223372036854775808 <= i + n /\ i + n <= 9223372036854775807) /\
   ((i + n <= (↑l.length:Int)) -> (Sp.inR l a i n)) /\
   (((i + n <= (↑l.length:Int)) /\ (Sp.runB l a i n = true)) -> (-9223372036854775808 <= 1000 * m /\ 1000 * m <= 9223372036854775807) /\
    ((q.length + 1) * 48 <= 1099511627776) /\
    Wp M1 (.run fi21 (atC (cd Try.f21) [1,1,1,1,1,1,0,1,0,0]) [(0,AV.vec g 3 (List.map Bk.a l)),(1,vi m),(2,vi n),(6,AV.ptr 0 0 0 0),(8,vi a),(9,AV.row 1 (v + 1)),(10,vi (i + n))] [{ elems:=[ag [AV.vnil,AV.vnil]],es:=2,ver:=0,frozen:=false,clean:=false },{ elems:=List.map Bk.a q ++ [ag [vb false,AV.vec true 2 [ag [AV.int IntKind.u8 77,vi 98000],ag [AV.int IntKind.u8 80,vi (1000 * m)]],AV.str []]],es:=3,ver:=v + 1,frozen:=false,clean:=true }]) (PureQ dq)) /\
   (¬((i + n <= (↑l.length:Int)) /\ (Sp.runB l a i n = true)) -> (0 <= i) /\
    (i.toNat < l.length) /\
    ((q.length + 1) * 48 <= 1099511627776) /\
    (-9223372036854775808 <= i + 1 /\ i + 1 <= 9223372036854775807) /\
    suFla_at (g) (l) (m) (n) (a) (i + 1) (q ++ [{ sk:=(l.getD i.toNat default).1,f:=(l.getD i.toNat default).2,ws:=(l.getD i.toNat default).3,cm:=(l.getD i.toNat default).4 }]) (v + 1) (PureQ dq))) /\
  (¬(i < (↑l.length:Int)) -> (-9223372036854775808 <= a + n /\ a + n <= 9223372036854775807) /\
   (Sp.few6 (List.drop a.toNat (List.take (a + n).toNat l)).length) /\
   (0 <= a) /\
   (0 <= a + n) /\
   (a.toNat <= (a + n).toNat) /\
   ((a + n).toNat <= l.length) /\
   Weak (tu [ag [AV.vec false 3 (List.map Bk.a q),AV.vec true 2 [ag [vi m,AV.vec false 3 (List.map Bk.a (List.drop a.toNat (List.take (a + n).toNat l)))]]],vi 0]) dq)) :
 suFla_at g l m n a i q v (PureQ dq):=by
 unfold suFla_at
 have w1:(List.map Bk.a l).length = l.length:=List.length_map ..
 have i2:(decide (i < (↑(List.map Bk.a l).length:Int))) = true ↔ (i < (↑l.length:Int)):=(by (try rw [w1]);all_goals exact i_dec)
 rcases xm (i < (↑l.length:Int)) with d3 | d3
 ·have H:=H.1 d3
  obtain ⟨k4,H⟩:=H
  have w5:wi (i + n) = i + n:=wI64 k4
  have i6:(decide (wi (i + n) <= (↑(List.map Bk.a l).length:Int)) == true && true && true) = true ↔ (i + n <= (↑l.length:Int)):=(by (try rw [w1]);(try rw [w5]);all_goals exact (i_at (i_at (i_bt i_dec))))
  obtain ⟨k7,H⟩:=H
  have i8:(bif decide (wi (i + n) <= (↑(List.map Bk.a l).length:Int)) then Sp.runB l a i n else false) = true ↔ ((i + n <= (↑l.length:Int)) /\ (Sp.runB l a i n = true)):=(by (try rw [w1]);(try rw [w5]);all_goals exact (i_band i_dec (i_var _)))
  refine path_wp (G:=given kp21 [(11,11,.call (vb (Sp.runB l a i n)) none)] []) 9 [true] ⟨(atC (cd Try.f21) [1,1,1,1,1,1,0,1,0,0,1,0,0,1]),[(0,AV.vec g 3 (List.map Bk.a l)),(1,vi m),(2,vi n),(6,AV.ptr 0 0 0 0),(8,vi a),(9,AV.row 1 v),(10,vi i),(51,vb (bif decide (wi (i + n) <= (↑(List.map Bk.a l).length:Int)) then Sp.runB l a i n else false))],[⟨[ag [AV.vnil,AV.vnil]],2,0,false,false⟩,⟨List.map Bk.a q,3,v,false,true⟩],_,[],[⟨decide (wi (i + n) <= (↑(List.map Bk.a l).length:Int)) == true && true && true,false,51,[AV.vec g 3 (List.map Bk.a l),vi a,vi i,vi n],[],vb (Sp.runB l a i n),[]⟩]⟩ (by kernel_rfl) (bc (beq_t (i2.2 d3)) b0) q0 (cc (fun hc => ((@ev51 (g) (l) (a) (i) (n) (k7 (i6.1 hc))):Ev M1 (Conf.pure 51 [AV.vec g 3 (List.map Bk.a l),vi a,vi i,vi n]) (vb (Sp.runB l a i n)) [])) c0) ?_
  rcases xm ((i + n <= (↑l.length:Int)) /\ (Sp.runB l a i n = true)) with d9 | d9
  ·have H:=H.1 d9
   have w10:(List.map Bk.a q).length = q.length:=List.length_map ..
   obtain ⟨k11,H⟩:=H
   have w12:wi (1000 * m) = 1000 * m:=wI64 k11
   have i13:(decide (((List.map Bk.a q).length + 1) * 48 <= 1099511627776)) = true ↔ ((q.length + 1) * 48 <= 1099511627776):=(by (try rw [w10]);(try rw [w12]);all_goals exact i_dec)
   obtain ⟨k14,H⟩:=H
   exact path_wp (G:=given kp21 [] []) 1000 [true] ⟨(atC (cd Try.f21) [1,1,1,1,1,1,0,1,0,0]),[(0,AV.vec g 3 (List.map Bk.a l)),(1,vi m),(2,vi n),(6,AV.ptr 0 0 0 0),(8,vi a),(9,AV.row 1 (v + 1)),(10,vi (wi (i + n)))],[⟨[ag [AV.vnil,AV.vnil]],2,0,false,false⟩,⟨List.map Bk.a q ++ [ag [vb false,AV.vec true 2 [ag [AV.int IntKind.u8 77,vi 98000],ag [AV.int IntKind.u8 80,vi (wi (1000 * m))]],AV.str []]],3,v + 1,false,true⟩],[(bif decide (wi (i + n) <= (↑(List.map Bk.a l).length:Int)) then Sp.runB l a i n else false) == true,v == v,decide (((List.map Bk.a q).length + 1) * 48 <= 1099511627776)],[],_⟩ (by kernel_rfl) (bc (beq_t (i8.2 d9)) (bc (beq_self_eq_true _) (bc (i13.2 k14) b0))) q0 c0 (by (try rw [w5]);(try rw [w12]);all_goals exact H)
  ·have H:=H.2 d9
   obtain ⟨k16,H⟩:=H
   have i17:(decide (i.toNat < (List.map Bk.a l).length)) = true ↔ (i.toNat < l.length):=(by (try rw [w1]);all_goals exact i_dec)
   obtain ⟨k18,H⟩:=H
   have w19:(List.map Bk.a q).length = q.length:=List.length_map ..
   have i20:(decide (((List.map Bk.a q).length + 1) * 48 <= 1099511627776)) = true ↔ ((q.length + 1) * 48 <= 1099511627776):=(by (try rw [w19]);all_goals exact i_dec)
   obtain ⟨k21,H⟩:=H
   have w22:List.map Bk.a q ++ [ag [vb (l.getD i.toNat default).1,AV.vec (l.getD i.toNat default).2 2 (List.map Wo.a (l.getD i.toNat default).3),AV.str (l.getD i.toNat default).4]] = List.map Bk.a (q ++ [{ sk:=(l.getD i.toNat default).1,f:=(l.getD i.toNat default).2,ws:=(l.getD i.toNat default).3,cm:=(l.getD i.toNat default).4 }]):=(lm_app rfl rfl)
   obtain ⟨k23,H⟩:=H
   have w24:wi (i + 1) = i + 1:=wI64 k23
   exact path_wp (G:=given kp21 [(14,4,.elem (ag [vb (l.getD i.toNat default).1,AV.vec (l.getD i.toNat default).2 2 (List.map Wo.a (l.getD i.toNat default).3),AV.str (l.getD i.toNat default).4]))] []) 1000 [false] ⟨(atC (cd Try.f21) [1,1,1,1,1,1,0,1,0,0]),[(0,AV.vec g 3 (List.map Bk.a l)),(1,vi m),(2,vi n),(6,AV.ptr 0 0 0 0),(8,vi a),(9,AV.row 1 (v + 1)),(10,vi (wi (i + 1)))],[⟨[ag [AV.vnil,AV.vnil]],2,0,false,false⟩,⟨List.map Bk.a q ++ [ag [vb (l.getD i.toNat default).1,AV.vec (l.getD i.toNat default).2 2 (List.map Wo.a (l.getD i.toNat default).3),AV.str (l.getD i.toNat default).4]],3,v + 1,false,true⟩],[(bif decide (wi (i + n) <= (↑(List.map Bk.a l).length:Int)) then Sp.runB l a i n else false) == false,decide (0 <= i),decide (i.toNat < (List.map Bk.a l).length),v == v,decide (((List.map Bk.a q).length + 1) * 48 <= 1099511627776)],[((List.map Bk.a l).get?Internal i.toNat = some (ag [vb (l.getD i.toNat default).1,AV.vec (l.getD i.toNat default).2 2 (List.map Wo.a (l.getD i.toNat default).3),AV.str (l.getD i.toNat default).4]))],_⟩ (by kernel_rfl) (bc (beq_f (fun h => d9 (i8.1 h))) (bc (i_dec.2 k16) (bc (i17.2 k18) (bc (beq_self_eq_true _) (bc (i20.2 k21) b0))))) (qc (el_map k18) q0) c0 (by (try rw [w22]);(try rw [w24]);all_goals exact H)
 ·have H:=H.2 d3
  obtain ⟨k25,H⟩:=H
  have w26:wi (a + n) = a + n:=wI64 k25
  have w27:List.take (a + n).toNat (List.map Bk.a l) = List.map Bk.a (List.take (a + n).toNat l):=(lm_take rfl)
  have w28:List.drop a.toNat (List.map Bk.a (List.take (a + n).toNat l)) = List.map Bk.a (List.drop a.toNat (List.take (a + n).toNat l)):=(lm_drop rfl)
  obtain ⟨k29,H⟩:=H
  obtain ⟨k31,H⟩:=H
  have i32:(decide (0 <= wi (a + n))) = true ↔ (0 <= a + n):=(by (try rw [w26]);all_goals exact i_dec)
  obtain ⟨k33,H⟩:=H
  have i34:(decide (a.toNat <= (wi (a + n)).toNat)) = true ↔ (a.toNat <= (a + n).toNat):=(by (try rw [w26]);all_goals exact i_dec)
  obtain ⟨k35,H⟩:=H
  have i36:(decide ((wi (a + n)).toNat <= (List.map Bk.a l).length)) = true ↔ ((a + n).toNat <= l.length):=(by (try rw [w1]);(try rw [w26]);all_goals exact i_dec)
  obtain ⟨k37,H⟩:=H
  exact path_ret (G:=given kp21 [(16,8,.call (AV.vec false 3 (List.map Bk.a (List.drop a.toNat (List.take (a + n).toNat l)))) none)] []) 1000 [false] (k:=((atC (cd Try.f21) [1,1,1,1,1,1,1,1])).tail) (env':=[(6,AV.ptr 0 0 0 0),(7,vi 0)]) (L':=[⟨[ag [AV.row 1 v,AV.vec true 2 [ag [vi m,AV.vec false 3 (List.map Bk.a (List.drop a.toNat (List.take (a + n).toNat l)))]]]],2,0,false,false⟩,⟨List.map Bk.a q,3,v,false,true⟩]) (asm:=[(decide (i < (↑(List.map Bk.a l).length:Int))) == false,decide (0 <= a),decide (0 <= wi (a + n)),decide (a.toNat <= (wi (a + n)).toNat),decide ((wi (a + n)).toNat <= (List.map Bk.a l).length),true]) (eqs:=[]) (calls:=[⟨true,false,22,[AV.vec (g && false) 3 (List.drop a.toNat (List.take (wi (a + n)).toNat (List.map Bk.a l)))],[],AV.vec false 3 (List.map Bk.a (List.drop a.toNat (List.take (a + n).toNat l))),[]⟩]) (tu [ag [AV.row 1 v,AV.vec true 2 [ag [vi m,AV.vec false 3 (List.map Bk.a (List.drop a.toNat (List.take (a + n).toNat l)))]]],vi 0]) (by kernel_rfl) (by kernel_rfl) (allB_cons (beq_f (fun h => d3 (i2.1 h))) (allB_cons (i_dec.2 k31) (allB_cons (i32.2 k33) (allB_cons (i34.2 k35) (allB_cons (i36.2 k37) (allB_cons rfl allB_nil)))))) allP_nil (allC_cons (fun _ => (by (try rw [w26]);(try rw [w27]);(try rw [w28]);all_goals exact (@ev22 (g && false) (List.drop a.toNat (List.take (a + n).toNat l)) k29))) allC_nil) (pq_weak (d:=(tu [ag [AV.vec false 3 (List.map Bk.a q),AV.vec true 2 [ag [vi m,AV.vec false 3 (List.map Bk.a (List.drop a.toNat (List.take (a + n).toNat l)))]]],vi 0])) (bs:=[v == v]) (by kernel_rfl) (by kernel_rfl) (allB_cons (beq_self_eq_true _) allB_nil) (by kernel_rfl) H)
end Go.Av

namespace Go.Av
open Go.Proofs
abbrev sbA (g:Bool) (s:List Sb):AV:=.vec g 2 (s.map Sb.a)
namespace Sp
def callB (m:Int):Bk:=⟨false,true,[⟨77,98000⟩,⟨80,1000 * m⟩],[]⟩
def build (l:List Bk) (m:Int) (n a:Nat):Nat -> Nat -> List Bk
 | 0,_ => []
 | f + 1,i => if i < l.length then (if runR l a i n = true then callB m :: build l m n a f (i + n) else l.getD i default :: build l m n a f (i + 1)) else []
def fdOk (m n:Int):Prop:=¬(((m < 1) \/ (m > 9999)) \/ (n < 1))
def fdIs (l:List Bk) (n:Int):Prop:=2 * n <= l.length /\ ¬fst l n < 0
noncomputable def fdM (l:List Bk) (m n:Int):List Bk:=open Classical in if fdOk m n then (if fdIs l n then build l m n.toNat (fst l n).toNat l.length 0 else l) else []
noncomputable def fdS (l:List Bk) (m n:Int):List Sb:=open Classical in if fdOk m n /\ fdIs l n then [⟨m,false,(l.take ((fst l n).toNat + n.toNat)).drop (fst l n).toNat⟩] else []
noncomputable def fdE (m n:Int):Int:=open Classical in if fdOk m n then 0 else 1
end Sp
theorem findF_in {l:List Bk} {n:Nat}:∀ (c i:Nat),(Sp.findF l n c i = -1) \/ ((i:Int) <= Sp.findF l n c i /\ Sp.findF l n c i < i + c)
 | 0,i => .inl rfl
 | c + 1,i => by
  rw [Sp.findF]
  split
  ·right;omega
  ·rcases findF_in (l:=l) (n:=n) c (i + 1) with h | h
   ·exact .inl h
   ·right;omega
theorem weak_tup2' {a a' b:AV} (h:Weak a a'):Weak (.tup [a,b]) (.tup [a',b]):=by
 refine .tup _ _ rfl fun i x y hx hy => ?_
 match i with
 | 0 => simp at hx hy;subst hx;subst hy;exact h
 | 1 => simp at hx hy;subst hx;subst hy;exact .refl _
 | i + 2 => simp at hx
theorem weak_agg2 {a a' b b':AV} (h:Weak a a') (k:Weak b b'):Weak (.agg [a,b]) (.agg [a',b']):=by
 refine .agg _ _ rfl fun i x y hx hy => ?_
 match i with
 | 0 => simp at hx hy;subst hx;subst hy;exact h
 | 1 => simp at hx hy;subst hx;subst hy;exact k
 | i + 2 => simp at hx
theorem suFla_loop {g:Bool} {l:List Bk} {m:Int} {n a:Nat} {dq:AV} (hk:Sp.okBs l) (hm:1 <= m /\ m <= 9999) (hn:1 <= n) (ha:a + n <= l.length) :
  ∀ (f i:Nat) (q:List Bk) (v:Nat),l.length <= i + f -> q.length <= i -> i <= l.length -> Weak (.tup [.agg [bsA false (q ++ Sp.build l m n a f i),sbA true [⟨m,false,(l.take (a + n)).drop a⟩]],.int .i64 0]) dq -> suFla_at g l m n a i q v (PureQ dq):=by
 have hl:=hk.1
 have fin:∀ (i:Nat) (q:List Bk) (v:Nat),l.length <= i -> i <= l.length -> Weak (.tup [.agg [bsA false q,sbA true [⟨m,false,(l.take (a + n)).drop a⟩]],.int .i64 0]) dq -> suFla_at g l m n a i q v (PureQ dq):=by
  intro i q v h1 h2 hq
  refine suFla _ _ _ _ _ _ _ _ _ ⟨fun h => by omega,fun _ => ?_⟩
  have e:(a:Int) + (n:Int) = ((a + n:Nat):Int):=by omega
  rw [e,Int.toNat_natCast,Int.toNat_natCast]
  exact ⟨by omega,by unfold Sp.few6;simp;omega,by omega,by omega,by omega,by omega,hq⟩
 intro f
 induction f with
 | zero =>
  intro i q v hf hqi hil hq
  rw [Sp.build,List.append_nil] at hq
  exact fin i q v (by omega) hil hq
 | succ f ih =>
  intro i q v hf hqi hil hq
  rw [Sp.build] at hq
  by_cases hi:i < l.length
  ·rw [if_pos hi] at hq
   have hrun:Sp.runR l a i n = true ↔ ((i:Int) + (n:Int) <= l.length /\ Sp.runB l a i n = true):=by
    unfold Sp.runR
    split
    ·rename_i k;exact ⟨fun h => by simp at h,fun h => by omega⟩
    ·rename_i k;exact ⟨fun h => ⟨by omega,h⟩,fun h => h.2⟩
   refine suFla _ _ _ _ _ _ _ _ _ ⟨fun _ => ?_,fun h => by omega⟩
   rw [Int.toNat_natCast]
   refine ⟨by omega,fun h => ⟨hk,by omega,by omega,by omega,by omega,by omega⟩,fun h => ?_,fun h => ?_⟩
   ·rw [if_pos (hrun.2 h)] at hq
    refine ⟨by omega,by omega,?_⟩
    have:=ih (i + n) (q ++ [Sp.callB m]) (v + 1) (by omega) (by simp;omega) (by omega) (by rw [List.append_assoc];exact hq)
    unfold suFla_at at this
    rw [List.map_append] at this
    exact this
   ·rw [if_neg (fun x => h (hrun.1 x))] at hq
    exact ⟨by omega,by omega,by omega,by omega,ih (i + 1) (q ++ [l.getD i default]) (v + 1) (by omega) (by simp;omega) (by omega) (by rw [List.append_assoc];exact hq)⟩
  ·rw [if_neg hi,List.append_nil] at hq
   exact fin i q v (by omega) hil hq
theorem suFlz_loop {g:Bool} {l:List Bk} {m:Int} {n a:Nat} {dq:AV} (hk:Sp.okBs l) (hm:1 <= m /\ m <= 9999) (hn:1 <= n) (ha:a + n <= l.length) (hq:Weak (.tup [.agg [bsA false (Sp.build l m n a l.length 0),sbA true [⟨m,false,(l.take (a + n)).drop a⟩]],.int .i64 0]) dq):suFlz_at g l m n a 0 (PureQ dq):=by
 have hl:=hk.1
 obtain ⟨f,hf⟩:∃ f,l.length = f + 1:=⟨l.length - 1,by omega⟩
 rw [hf,Sp.build,if_pos (by omega)] at hq
 have hrun:Sp.runR l a (0:Nat) n = true ↔ ((0:Int) + (n:Int) <= l.length /\ Sp.runB l a 0 n = true):=by
  unfold Sp.runR
  split
  ·rename_i k;exact ⟨fun h => by simp at h,fun h => by omega⟩
  ·rename_i k;exact ⟨fun h => ⟨by omega,h⟩,fun h => h.2⟩
 refine suFlz _ _ _ _ _ _ _ ⟨fun _ => ?_,fun h => by omega⟩
 refine ⟨by omega,fun h => ⟨hk,by omega,by omega,by omega,by omega,by omega⟩,fun h => ?_,fun h => ?_⟩
 ·rw [if_pos (hrun.2 h)] at hq
  refine ⟨by omega,?_⟩
  have:=suFla_loop (g:=g) hk hm hn ha f n [Sp.callB m] 0 (by omega) (by simpa using hn) (by omega) (by simpa using hq)
  unfold suFla_at at this
  rw [show (0:Int) + (n:Int) = (n:Int) by omega]
  exact this
 ·rw [if_neg (fun x => h (hrun.1 x))] at hq
  exact ⟨by omega,by show (0:Nat) < _;omega,by omega,suFla_loop (g:=g) hk hm hn ha f 1 [l.getD 0 default] 0 (by omega) (by simp) (by omega) hq⟩
theorem ev21 (g:Bool) (l:List Bk) (m n:Int) (hk:Sp.okBs l):Ev M1 (.pure 21 [bsA g l,.int .i64 m,.int .i64 n]) (.tup [.agg [bsA false (Sp.fdM l m n),sbA false (Sp.fdS l m n)],.int .i64 (Sp.fdE m n)]) []:=by
 have hl:=hk.1
 unfold Sp.fdM Sp.fdS Sp.fdE
 by_cases ho:Sp.fdOk m n
 ·have ho':¬(((m < 1) \/ (m > 9999)) \/ (n < 1)):=ho
  obtain ⟨n,rfl⟩:=Int.eq_ofNat_of_zero_le (show 0 <= n by omega)
  rw [if_pos ho,if_pos ho]
  have copy:¬Sp.fdIs l n -> Weak (.tup [.agg [bsA false l,.vnil],.int .i64 0]) (.tup [.agg [bsA false (open Classical in if Sp.fdIs l n then Sp.build l m (n:Int).toNat (Sp.fst l n).toNat l.length 0 else l),sbA false (open Classical in if Sp.fdOk m n /\ Sp.fdIs l n then [⟨m,false,(l.take ((Sp.fst l n).toNat + (n:Int).toNat)).drop (Sp.fst l n).toNat⟩] else [])],.int .i64 0]):=by
   intro h
   rw [if_neg h,if_neg (fun x => h x.2)]
   exact weak_tup2' (weak_agg2 (.refl _) (.vnil 2))
  refine call21 (suFl g l m n _ ⟨fun h => absurd h ho,fun _ => ?_⟩)
  have e2:(l.length:Int).tdiv 2 = (l.length:Int) / 2:=Int.tdiv_eq_ediv_of_nonneg (by omega)
  rw [e2]
  refine ⟨by omega,fun h => ⟨⟨hk,by omega,by omega⟩,fun k => ⟨show l.length <= 1000000 from hl,copy (fun x => x.2 k)⟩,fun k => ?_⟩,fun h => ⟨show l.length <= 1000000 from hl,copy (fun x => by have:=x.1;omega)⟩⟩
  have his:Sp.fdIs l n:=⟨by omega,k⟩
  rcases findF_in (l:=l) (n:=n) (l.length + 1 - 2 * n) 0 with e | ⟨e3,e4⟩
  ·exact absurd (show Sp.fst l n < 0 by unfold Sp.fst;rw [Int.toNat_natCast,e];omega) k
  ·have hf:Sp.fst l n = Sp.findF l n (l.length + 1 - 2 * n) 0:=by unfold Sp.fst;rw [Int.toNat_natCast]
   obtain ⟨a,ha⟩:=Int.eq_ofNat_of_zero_le (show 0 <= Sp.fst l n by omega)
   rw [if_pos his,if_pos ⟨ho,his⟩,ha,Int.toNat_natCast,Int.toNat_natCast]
   exact suFlz_loop hk (by omega) (by omega) (by omega) (weak_tup2' (weak_agg2 (.refl _) (.full 2 _)))
 ·rw [if_neg ho,if_neg ho,if_neg (fun x => ho x.1)]
  have ho':((m < 1) \/ (m > 9999)) \/ (n < 1):=Classical.not_not.1 ho
  exact call21 (suFl g l m n _ ⟨fun _ => weak_tup2' (weak_agg2 (.vnil 3) (.vnil 2)),fun h => absurd ho' h⟩)
end Go.Av

namespace Go.Av
open Go.Proofs
set_option maxRecDepth 100000
def fi23:Fi:=⟨106,[.cell 6 34,.tmp 7]⟩
def kp23:List (Nat × List Nat):=[(0,[0,1,2,6]),(1,[0,1,2,6,22]),(2,[6,7]),(3,[0,1,2,6,8]),(4,[0,1,2,6,8,29]),(5,[0,1,2,6,8]),(6,[0,1,2,6,8,9]),(7,[0,1,2,6,8,9,10]),(8,[0,1,2,6,8,9,10,44]),(9,[0,1,2,6,8,9,10]),(10,[0,1,2,6,8,9,10]),(11,[0,1,2,6,8,53]),(12,[0,1,2,6,8,11]),(13,[0,1,2,6,8,11,12]),(14,[0,1,2,6,8,11,12,57]),(15,[0,1,2,6,8,11,12,63]),(16,[0,1,2,6,8,11,12]),(17,[0,1,2,6,8,11,12]),(18,[0,1,2,6,8,11,12]),(19,[0,1,2,6,8,11,12]),(20,[6,11]),(21,[6,7]),(22,[6,7])]
def svGl_at (g:Bool) (l:List Bk) (m n:Int) (Q:AV -> Heap -> Prop):Prop:=Wp M1 (.run fi23 (atC (cd Try.f23) []) [(0,.vec g 3 (l.map Bk.a)),(1,.int .i64 m),(2,.int .i64 n)] []) Q
def svGi_at (g:Bool) (l:List Bk) (m n i:Int) (Q:AV -> Heap -> Prop):Prop:=Wp M1 (.run fi23 (atC (cd Try.f23) [1,1,0,1,0,0]) [(0,.vec g 3 (l.map Bk.a)),(1,.int .i64 m),(2,.int .i64 n),(6,.ptr 0 0 0 0),(8,.int .i64 i)] [⟨[.agg [.vnil,.vnil]],2,0,false,false⟩]) Q
def svGic_at (g:Bool) (y:Bk) (l:List Bk) (m n i:Int) (Q:AV -> Heap -> Prop):Prop:=Wp M1 (.run fi23 (atC (cd Try.f23) [1,1,0,1,0,0]) [(0,.vec g 3 ((y :: l).map Bk.a)),(1,.int .i64 m),(2,.int .i64 n),(6,.ptr 0 0 0 0),(8,.int .i64 i)] [⟨[.agg [.vnil,.vnil]],2,0,false,false⟩]) Q
def svGie_at (g:Bool) (m n i:Int) (Q:AV -> Heap -> Prop):Prop:=Wp M1 (.run fi23 (atC (cd Try.f23) [1,1,0,1,0,0]) [(0,.vec g 3 []),(1,.int .i64 m),(2,.int .i64 n),(6,.ptr 0 0 0 0),(8,.int .i64 i)] [⟨[.agg [.vnil,.vnil]],2,0,false,false⟩]) Q
def svGj_at (g:Bool) (l:List Bk) (m n i j:Int) (b:Bool) (Q:AV -> Heap -> Prop):Prop:=Wp M1 (.run fi23 (atC (cd Try.f23) [1,1,0,1,0,0,1,0,0,1,0,1,0,0]) [(0,.vec g 3 (l.map Bk.a)),(1,.int .i64 m),(2,.int .i64 n),(6,.ptr 0 0 0 0),(8,.int .i64 i),(9,.bool b),(10,.int .i64 j)] [⟨[.agg [.vnil,.vnil]],2,0,false,false⟩]) Q
def svGz_at (g:Bool) (l:List Bk) (m n i j:Int) (Q:AV -> Heap -> Prop):Prop:=Wp M1 (.run fi23 (atC (cd Try.f23) [1,1,0,1,0,0,1,0,0,1,1,1,1,0,1,0,0]) [(0,.vec g 3 (l.map Bk.a)),(1,.int .i64 m),(2,.int .i64 n),(6,.ptr 0 0 0 0),(8,.int .i64 i),(11,.ptr 1 0 0 0),(12,.int .i64 j)] [⟨[.agg [.vnil,.vnil]],2,0,false,false⟩,⟨[.agg [.vnil,.vnil]],2,0,false,false⟩]) Q
def svGa_at (g:Bool) (l:List Bk) (m n i j:Int) (q:List Bk) (v:Nat) (Q:AV -> Heap -> Prop):Prop:=Wp M1 (.run fi23 (atC (cd Try.f23) [1,1,0,1,0,0,1,0,0,1,1,1,1,0,1,0,0]) [(0,.vec g 3 (l.map Bk.a)),(1,.int .i64 m),(2,.int .i64 n),(6,.ptr 0 0 0 0),(8,.int .i64 i),(11,.ptr 1 0 0 0),(12,.int .i64 j)] [⟨[.agg [.vnil,.vnil]],2,0,false,false⟩,⟨[.agg [.row 2 v,.vnil]],2,0,false,false⟩,⟨q.map Bk.a,3,v,false,true⟩]) Q
def svGs_at (m:Int) (q w:List Bk) (Q:AV -> Heap -> Prop):Prop:=Wp M1 (.run fi23 (atC (cd Try.f23) [1,1,0,1,0,0,1,0,0,1,1,1,1,1,1,0]) [(6,.ptr 0 0 0 0),(11,.ptr 1 0 0 0)] [⟨[.agg [.vnil,.vnil]],2,0,false,true⟩,⟨[.agg [.vec false 3 (q.map Bk.a),.vec false 2 [.agg [.int .i64 m,.vec false 3 (w.map Bk.a)]]]],2,0,false,true⟩]) Q
theorem call23 {args:List AV} {d:AV} (h:wc M1 fi23 Try.f23 args d):Ev M1 (.pure 23 args) d []:=pcl _ _ (by kernel_rfl) h
theorem svGl (g:Bool) (l:List Bk) (m n:Int)  (dq:AV) (H :
  ((((m < 1) \/ (m > 9999)) \/ (n < 1)) -> Weak (tu [ag [AV.vnil,AV.vnil],vi 1]) dq) /\
  (¬(((m < 1) \/ (m > 9999)) \/ (n < 1)) -> svGi_at (g) (l) (m) (n) (0) (PureQ dq))) :
 svGl_at g l m n (PureQ dq):=by
 unfold svGl_at
 rcases xm (((m < 1) \/ (m > 9999)) \/ (n < 1)) with d2 | d2
 ·have H:=H.1 d2
  exact path_rq (G:=given kp23 [] []) 1000 [true] (tu [ag [AV.vnil,AV.vnil],vi 1]) (by kernel_rfl) (bc (beq_t ((i_bor (i_bor i_dec i_dec) i_dec).2 d2)) (bc rfl b0)) q0 c0 H
 ·have H:=H.2 d2
  exact path_wp (G:=given kp23 [] []) 1000 [false] ⟨(atC (cd Try.f23) [1,1,0,1,0,0]),[(0,AV.vec g 3 (List.map Bk.a l)),(1,vi m),(2,vi n),(6,AV.ptr 0 0 0 0),(8,vi 0)],[⟨[ag [AV.vnil,AV.vnil]],2,0,false,false⟩],_,[],_⟩ (by kernel_rfl) (bc (beq_f (fun h => d2 ((i_bor (i_bor i_dec i_dec) i_dec).1 h))) b0) q0 c0 (H)
theorem svGi (g:Bool) (l:List Bk) (m n i:Int)  (dq:AV) (H :
  (-9223372036854775808 <= i + n /\ i + n <= 9223372036854775807) /\
  ((i + n <= (↑l.length:Int)) -> svGj_at (g) (l) (m) (n) (i) (i + n) (false) (PureQ dq)) /\
  (¬(i + n <= (↑l.length:Int)) -> False)) :
 svGi_at g l m n i (PureQ dq):=by
 unfold svGi_at
 obtain ⟨k1,H⟩:=H
 have w2:wi (i + n) = i + n:=wI64 k1
 have w3:(List.map Bk.a l).length = l.length:=List.length_map ..
 have i4:(decide (wi (i + n) <= (↑(List.map Bk.a l).length:Int))) = true ↔ (i + n <= (↑l.length:Int)):=(by (try rw [w2]);(try rw [w3]);all_goals exact i_dec)
 rcases xm (i + n <= (↑l.length:Int)) with d5 | d5
 ·have H:=H.1 d5
  exact path_wp (G:=given kp23 [] []) 1000 [true] ⟨(atC (cd Try.f23) [1,1,0,1,0,0,1,0,0,1,0,1,0,0]),[(0,AV.vec g 3 (List.map Bk.a l)),(1,vi m),(2,vi n),(6,AV.ptr 0 0 0 0),(8,vi i),(9,vb false),(10,vi (wi (i + n)))],[⟨[ag [AV.vnil,AV.vnil]],2,0,false,false⟩],_,[],_⟩ (by kernel_rfl) (bc (beq_t (i4.2 d5)) b0) q0 c0 (by (try rw [w2]);all_goals exact H)
 ·have H:=H.2 d5
  exact False.elim H
theorem svGic (g:Bool) (y:Bk) (l:List Bk) (m n i:Int)  (dq:AV) (H :
  (-9223372036854775808 <= i + n /\ i + n <= 9223372036854775807) /\
  ((i + n <= (↑(l.length + 1):Int)) -> Wp M1 (.run fi23 (atC (cd Try.f23) [1,1,0,1,0,0,1,0,0,1,0,1,0,0]) [(0,AV.vec g 3 (ag [vb y.1,AV.vec y.2 2 (List.map Wo.a y.3),AV.str y.4] :: List.map Bk.a l)),(1,vi m),(2,vi n),(6,AV.ptr 0 0 0 0),(8,vi i),(9,vb false),(10,vi (i + n))] [{ elems:=[ag [AV.vnil,AV.vnil]],es:=2,ver:=0,frozen:=false,clean:=false }]) (PureQ dq)) /\
  (¬(i + n <= (↑(l.length + 1):Int)) -> ((0 + (l.length + 1)) * 48 <= 1099511627776) /\
   Weak (tu [ag [AV.vec false 3 (ag [vb y.1,AV.vec y.2 2 (List.map Wo.a y.3),AV.str y.4] :: List.map Bk.a l),AV.vnil],vi 0]) dq)) :
 svGic_at g y l m n i (PureQ dq):=by
 unfold svGic_at
 obtain ⟨k1,H⟩:=H
 have w2:wi (i + n) = i + n:=wI64 k1
 have w3:(List.map Bk.a l).length = l.length:=List.length_map ..
 have i4:(decide (wi (i + n) <= (↑((List.map Bk.a l).length + 1):Int))) = true ↔ (i + n <= (↑(l.length + 1):Int)):=(by (try rw [w2]);(try rw [w3]);all_goals exact i_dec)
 rcases xm (i + n <= (↑(l.length + 1):Int)) with d5 | d5
 ·have H:=H.1 d5
  exact path_wp (G:=given kp23 [] []) 1000 [true] ⟨(atC (cd Try.f23) [1,1,0,1,0,0,1,0,0,1,0,1,0,0]),[(0,AV.vec g 3 (ag [vb y.1,AV.vec y.2 2 (List.map Wo.a y.3),AV.str y.4] :: List.map Bk.a l)),(1,vi m),(2,vi n),(6,AV.ptr 0 0 0 0),(8,vi i),(9,vb false),(10,vi (wi (i + n)))],[⟨[ag [AV.vnil,AV.vnil]],2,0,false,false⟩],_,[],_⟩ (by kernel_rfl) (bc (beq_t (i4.2 d5)) b0) q0 c0 (by (try rw [w2]);all_goals exact H)
 ·have H:=H.2 d5
  have i6:(decide ((0 + ((List.map Bk.a l).length + 1)) * 48 <= 1099511627776)) = true ↔ ((0 + (l.length + 1)) * 48 <= 1099511627776):=(by (try rw [w3]);all_goals exact i_dec)
  obtain ⟨k7,H⟩:=H
  exact path_ret (G:=given kp23 [] []) 1000 [false] (k:=((atC (cd Try.f23) [1,1,1,1])).tail) (env':=[(6,AV.ptr 0 0 0 0),(7,vi 0)]) (L':=[⟨[ag [AV.row 1 0,AV.vnil]],2,0,false,false⟩,⟨ag [vb y.1,AV.vec y.2 2 (List.map Wo.a y.3),AV.str y.4] :: List.map Bk.a l,3,0,false,true⟩]) (asm:=[(decide (wi (i + n) <= (↑((List.map Bk.a l).length + 1):Int))) == false,decide ((0 + ((List.map Bk.a l).length + 1)) * 48 <= 1099511627776),true]) (eqs:=[]) (calls:=[]) (tu [ag [AV.row 1 0,AV.vnil],vi 0]) (by kernel_rfl) (by kernel_rfl) (allB_cons (beq_f (fun h => d5 (i4.1 h))) (allB_cons (i6.2 k7) (allB_cons rfl allB_nil))) allP_nil allC_nil (pq_weak (d:=(tu [ag [AV.vec false 3 (ag [vb y.1,AV.vec y.2 2 (List.map Wo.a y.3),AV.str y.4] :: List.map Bk.a l),AV.vnil],vi 0])) (bs:=[0 == 0]) (by kernel_rfl) (by kernel_rfl) (allB_cons (beq_self_eq_true _) allB_nil) (by kernel_rfl) H)
theorem svGie (g:Bool) (m n i:Int)  (dq:AV) (H :
  (-9223372036854775808 <= i + n /\ i + n <= 9223372036854775807) /\
  ((i + n <= 0) -> Wp M1 (.run fi23 (atC (cd Try.f23) [1,1,0,1,0,0,1,0,0,1,0,1,0,0]) [(0,AV.vec g 3 []),(1,vi m),(2,vi n),(6,AV.ptr 0 0 0 0),(8,vi i),(9,vb false),(10,vi (i + n))] [{ elems:=[ag [AV.vnil,AV.vnil]],es:=2,ver:=0,frozen:=false,clean:=false }]) (PureQ dq)) /\
  (¬(i + n <= 0) -> Weak (tu [ag [AV.vec true 3 [],AV.vnil],vi 0]) dq)) :
 svGie_at g m n i (PureQ dq):=by
 unfold svGie_at
 obtain ⟨k1,H⟩:=H
 have w2:wi (i + n) = i + n:=wI64 k1
 have i3:(decide (wi (i + n) <= 0)) = true ↔ (i + n <= 0):=(by (try rw [w2]);all_goals exact i_dec)
 rcases xm (i + n <= 0) with d4 | d4
 ·have H:=H.1 d4
  exact path_wp (G:=given kp23 [] []) 1000 [true] ⟨(atC (cd Try.f23) [1,1,0,1,0,0,1,0,0,1,0,1,0,0]),[(0,AV.vec g 3 []),(1,vi m),(2,vi n),(6,AV.ptr 0 0 0 0),(8,vi i),(9,vb false),(10,vi (wi (i + n)))],[⟨[ag [AV.vnil,AV.vnil]],2,0,false,false⟩],_,[],_⟩ (by kernel_rfl) (bc (beq_t (i3.2 d4)) b0) q0 c0 (by (try rw [w2]);all_goals exact H)
 ·have H:=H.2 d4
  exact path_rq (G:=given kp23 [] []) 1000 [false] (tu [ag [AV.vec true 3 [],AV.vnil],vi 0]) (by kernel_rfl) (bc (beq_f (fun h => d4 (i3.1 h))) (bc rfl b0)) q0 c0 H
theorem svGj (g:Bool) (l:List Bk) (m n i j:Int) (b:Bool)  (dq:AV) (H :
  (-9223372036854775808 <= j + n /\ j + n <= 9223372036854775807) /\
  (((j + n <= (↑l.length:Int)) /\ (¬(b = true))) -> (Sp.inQ l i j n) /\
   (-9223372036854775808 <= j + 1 /\ j + 1 <= 9223372036854775807) /\
   svGj_at (g) (l) (m) (n) (i) (j + 1) (Sp.runR l i j n) (PureQ dq)) /\
  (¬((j + n <= (↑l.length:Int)) /\ (¬(b = true))) -> ((¬(b = true)) -> (-9223372036854775808 <= i + 1 /\ i + 1 <= 9223372036854775807) /\
    svGi_at (g) (l) (m) (n) (i + 1) (PureQ dq)) /\
   (¬(¬(b = true)) -> svGz_at (g) (l) (m) (n) (i) (0) (PureQ dq)))) :
 svGj_at g l m n i j b (PureQ dq):=by
 unfold svGj_at
 obtain ⟨k1,H⟩:=H
 have w2:wi (j + n) = j + n:=wI64 k1
 have w3:(List.map Bk.a l).length = l.length:=List.length_map ..
 have i4:(bif decide (wi (j + n) <= (↑(List.map Bk.a l).length:Int)) then !b else false) = true ↔ ((j + n <= (↑l.length:Int)) /\ (¬(b = true))):=(by (try rw [w2]);(try rw [w3]);all_goals exact (i_band i_dec (i_not (i_var _))))
 rcases xm ((j + n <= (↑l.length:Int)) /\ (¬(b = true))) with d5 | d5
 ·have H:=H.1 d5
  obtain ⟨k6,H⟩:=H
  obtain ⟨k7,H⟩:=H
  have w8:wi (j + 1) = j + 1:=wI64 k7
  exact path_wp (G:=given kp23 [(10,4,.call (vb (Sp.runR l i j n)) none)] []) 1000 [true] ⟨(atC (cd Try.f23) [1,1,0,1,0,0,1,0,0,1,0,1,0,0]),[(0,AV.vec g 3 (List.map Bk.a l)),(1,vi m),(2,vi n),(6,AV.ptr 0 0 0 0),(8,vi i),(9,vb (Sp.runR l i j n)),(10,vi (wi (j + 1)))],[⟨[ag [AV.vnil,AV.vnil]],2,0,false,false⟩],_,[],_⟩ (by kernel_rfl) (bc (beq_t (i4.2 d5)) b0) q0 (ce (@ev52 (g) (l) (i) (j) (n) k6) c0) (by (try rw [w8]);all_goals exact H)
 ·have H:=H.2 d5
  rcases xm (¬(b = true)) with d10 | d10
  ·have H:=H.1 d10
   obtain ⟨k11,H⟩:=H
   have w12:wi (i + 1) = i + 1:=wI64 k11
   exact path_wp (G:=given kp23 [] []) 1000 [false,true] ⟨(atC (cd Try.f23) [1,1,0,1,0,0]),[(0,AV.vec g 3 (List.map Bk.a l)),(1,vi m),(2,vi n),(6,AV.ptr 0 0 0 0),(8,vi (wi (i + 1)))],[⟨[ag [AV.vnil,AV.vnil]],2,0,false,false⟩],[(bif decide (wi (j + n) <= (↑(List.map Bk.a l).length:Int)) then !b else false) == false,(!b) == true],[],_⟩ (by kernel_rfl) (bc (beq_f (fun h => d5 (i4.1 h))) (bc (beq_t ((i_not (i_var _)).2 d10)) b0)) q0 c0 (by (try rw [w12]);all_goals exact H)
  ·have H:=H.2 d10
   exact path_wp (G:=given kp23 [] []) 1000 [false,false] ⟨(atC (cd Try.f23) [1,1,0,1,0,0,1,0,0,1,1,1,1,0,1,0,0]),[(0,AV.vec g 3 (List.map Bk.a l)),(1,vi m),(2,vi n),(6,AV.ptr 0 0 0 0),(8,vi i),(11,AV.ptr 1 0 0 0),(12,vi 0)],[⟨[ag [AV.vnil,AV.vnil]],2,0,false,false⟩,⟨[ag [AV.vnil,AV.vnil]],2,0,false,false⟩],[(bif decide (wi (j + n) <= (↑(List.map Bk.a l).length:Int)) then !b else false) == false,(!b) == false],[],_⟩ (by kernel_rfl) (bc (beq_f (fun h => d5 (i4.1 h))) (bc (beq_f (fun h => d10 ((i_not (i_var _)).1 h))) b0)) q0 c0 (H)
theorem svGz (g:Bool) (l:List Bk) (m n i j:Int)  (dq:AV) (H :
  ((j < (↑l.length:Int)) -> (Sp.inQ l i j n) /\
   ((¬(Sp.runR l i j n = true)) -> (0 <= j) /\
    (j.toNat < l.length) /\
    (-9223372036854775808 <= j + 1 /\ j + 1 <= 9223372036854775807) /\
    svGa_at (g) (l) (m) (n) (i) (j + 1) ([{ sk:=(l.getD j.toNat default).1,f:=(l.getD j.toNat default).2,ws:=(l.getD j.toNat default).3,cm:=(l.getD j.toNat default).4 }]) (0) (PureQ dq)) /\
   (¬(¬(Sp.runR l i j n = true)) -> (-9223372036854775808 <= 1000 * m /\ 1000 * m <= 9223372036854775807) /\
    (-9223372036854775808 <= j + n /\ j + n <= 9223372036854775807) /\
    Wp M1 (.run fi23 (atC (cd Try.f23) [1,1,0,1,0,0,1,0,0,1,1,1,1,0,1,0,0]) [(0,AV.vec g 3 (List.map Bk.a l)),(1,vi m),(2,vi n),(6,AV.ptr 0 0 0 0),(8,vi i),(11,AV.ptr 1 0 0 0),(12,vi (j + n))] [{ elems:=[ag [AV.vnil,AV.vnil]],es:=2,ver:=0,frozen:=false,clean:=false },{ elems:=[ag [AV.row 2 0,AV.vnil]],es:=2,ver:=0,frozen:=false,clean:=false },{ elems:=[ag [vb false,AV.vec true 2 [ag [AV.int IntKind.u8 77,vi 98000],ag [AV.int IntKind.u8 80,vi (1000 * m)]],AV.str []]],es:=3,ver:=0,frozen:=false,clean:=true }]) (PureQ dq))) /\
  (¬(j < (↑l.length:Int)) -> Wp M1 (.run fi23 (atC (cd Try.f23) [1,1,0,1,0,0,1,0,0,1,1,1,1,1,0]) [(0,AV.vec g 3 (List.map Bk.a l)),(1,vi m),(2,vi n),(6,AV.ptr 0 0 0 0),(8,vi i),(11,AV.ptr 1 0 0 0),(12,vi j),(57,vb (decide (j < (↑l.length:Int))))] [{ elems:=[ag [AV.vnil,AV.vnil]],es:=2,ver:=0,frozen:=false,clean:=false },{ elems:=[ag [AV.vnil,AV.vnil]],es:=2,ver:=0,frozen:=false,clean:=false }]) (PureQ dq))) :
 svGz_at g l m n i j (PureQ dq):=by
 unfold svGz_at
 have w1:(List.map Bk.a l).length = l.length:=List.length_map ..
 have i2:(decide (j < (↑(List.map Bk.a l).length:Int))) = true ↔ (j < (↑l.length:Int)):=(by (try rw [w1]);all_goals exact i_dec)
 rcases xm (j < (↑l.length:Int)) with d3 | d3
 ·have H:=H.1 d3
  obtain ⟨k4,H⟩:=H
  refine path_wp (G:=given kp23 [(15,4,.call (vb (Sp.runR l i j n)) none)] []) 9 [true] ⟨(atC (cd Try.f23) [1,1,0,1,0,0,1,0,0,1,1,1,1,0,1,0,0,1,0,0,1]),[(0,AV.vec g 3 (List.map Bk.a l)),(1,vi m),(2,vi n),(6,AV.ptr 0 0 0 0),(8,vi i),(11,AV.ptr 1 0 0 0),(12,vi j),(63,vb !Sp.runR l i j n)],[⟨[ag [AV.vnil,AV.vnil]],2,0,false,false⟩,⟨[ag [AV.vnil,AV.vnil]],2,0,false,false⟩],_,[],_⟩ (by kernel_rfl) (bc (beq_t (i2.2 d3)) b0) q0 (ce (@ev52 (g) (l) (i) (j) (n) k4) c0) ?_
  rcases xm (¬(Sp.runR l i j n = true)) with d6 | d6
  ·have H:=H.1 d6
   obtain ⟨k8,H⟩:=H
   have i9:(decide (j.toNat < (List.map Bk.a l).length)) = true ↔ (j.toNat < l.length):=(by (try rw [w1]);all_goals exact i_dec)
   obtain ⟨k10,H⟩:=H
   obtain ⟨k11,H⟩:=H
   have w12:wi (j + 1) = j + 1:=wI64 k11
   have w13:[ag [vb (l.getD j.toNat default).1,AV.vec (l.getD j.toNat default).2 2 (List.map Wo.a (l.getD j.toNat default).3),AV.str (l.getD j.toNat default).4]] = List.map Bk.a [{ sk:=(l.getD j.toNat default).1,f:=(l.getD j.toNat default).2,ws:=(l.getD j.toNat default).3,cm:=(l.getD j.toNat default).4 }]:=rfl
   exact path_wp (G:=given kp23 [(16,5,.elem (ag [vb (l.getD j.toNat default).1,AV.vec (l.getD j.toNat default).2 2 (List.map Wo.a (l.getD j.toNat default).3),AV.str (l.getD j.toNat default).4]))] []) 1000 [true] ⟨(atC (cd Try.f23) [1,1,0,1,0,0,1,0,0,1,1,1,1,0,1,0,0]),[(0,AV.vec g 3 (List.map Bk.a l)),(1,vi m),(2,vi n),(6,AV.ptr 0 0 0 0),(8,vi i),(11,AV.ptr 1 0 0 0),(12,vi (wi (j + 1)))],[⟨[ag [AV.vnil,AV.vnil]],2,0,false,false⟩,⟨[ag [AV.row 2 0,AV.vnil]],2,0,false,false⟩,⟨[ag [vb (l.getD j.toNat default).1,AV.vec (l.getD j.toNat default).2 2 (List.map Wo.a (l.getD j.toNat default).3),AV.str (l.getD j.toNat default).4]],3,0,false,true⟩],[(!Sp.runR l i j n) == true,true,decide (0 <= j),decide (j.toNat < (List.map Bk.a l).length),true,true],[((List.map Bk.a l).get?Internal j.toNat = some (ag [vb (l.getD j.toNat default).1,AV.vec (l.getD j.toNat default).2 2 (List.map Wo.a (l.getD j.toNat default).3),AV.str (l.getD j.toNat default).4]))],_⟩ (by kernel_rfl) (bc (beq_t ((i_not (i_var _)).2 d6)) (bc rfl (bc (i_dec.2 k8) (bc (i9.2 k10) (bc rfl (bc rfl b0)))))) (qc (el_map k10) q0) c0 (by (try rw [w12]);(try rw [w13]);all_goals exact H)
  ·have H:=H.2 d6
   obtain ⟨k14,H⟩:=H
   have w15:wi (1000 * m) = 1000 * m:=wI64 k14
   obtain ⟨k16,H⟩:=H
   have w17:wi (j + n) = j + n:=wI64 k16
   exact path_wp (G:=given kp23 [] []) 1000 [false] ⟨(atC (cd Try.f23) [1,1,0,1,0,0,1,0,0,1,1,1,1,0,1,0,0]),[(0,AV.vec g 3 (List.map Bk.a l)),(1,vi m),(2,vi n),(6,AV.ptr 0 0 0 0),(8,vi i),(11,AV.ptr 1 0 0 0),(12,vi (wi (j + n)))],[⟨[ag [AV.vnil,AV.vnil]],2,0,false,false⟩,⟨[ag [AV.row 2 0,AV.vnil]],2,0,false,false⟩,⟨[ag [vb false,AV.vec true 2 [ag [AV.int IntKind.u8 77,vi 98000],ag [AV.int IntKind.u8 80,vi (wi (1000 * m))]],AV.str []]],3,0,false,true⟩],[(!Sp.runR l i j n) == false,true,true,true],[],_⟩ (by kernel_rfl) (bc (beq_f (fun h => d6 ((i_not (i_var _)).1 h))) (bc rfl (bc rfl (bc rfl b0)))) q0 c0 (by (try rw [w15]);(try rw [w17]);all_goals exact H)
 ·have H:=H.2 d3
  exact path_wp (G:=given kp23 [] []) 6 [false] ⟨(atC (cd Try.f23) [1,1,0,1,0,0,1,0,0,1,1,1,1,1,0]),[(0,AV.vec g 3 (List.map Bk.a l)),(1,vi m),(2,vi n),(6,AV.ptr 0 0 0 0),(8,vi i),(11,AV.ptr 1 0 0 0),(12,vi j),(57,vb (decide (j < (↑(List.map Bk.a l).length:Int))))],[⟨[ag [AV.vnil,AV.vnil]],2,0,false,false⟩,⟨[ag [AV.vnil,AV.vnil]],2,0,false,false⟩],_,[],_⟩ (by kernel_rfl) (bc (beq_f (fun h => d3 (i2.1 h))) b0) q0 c0 (by (try rw [w1]);all_goals exact H)
theorem svGa (g:Bool) (l:List Bk) (m n i j:Int) (q:List Bk) (v:Nat)  (dq:AV) (H :
  ((j < (↑l.length:Int)) -> (Sp.inQ l i j n) /\
   ((¬(Sp.runR l i j n = true)) -> (0 <= j) /\
    (j.toNat < l.length) /\
    ((q.length + 1) * 48 <= 1099511627776) /\
    (-9223372036854775808 <= j + 1 /\ j + 1 <= 9223372036854775807) /\
    svGa_at (g) (l) (m) (n) (i) (j + 1) (q ++ [{ sk:=(l.getD j.toNat default).1,f:=(l.getD j.toNat default).2,ws:=(l.getD j.toNat default).3,cm:=(l.getD j.toNat default).4 }]) (v + 1) (PureQ dq)) /\
   (¬(¬(Sp.runR l i j n = true)) -> (-9223372036854775808 <= 1000 * m /\ 1000 * m <= 9223372036854775807) /\
    ((q.length + 1) * 48 <= 1099511627776) /\
    (-9223372036854775808 <= j + n /\ j + n <= 9223372036854775807) /\
    Wp M1 (.run fi23 (atC (cd Try.f23) [1,1,0,1,0,0,1,0,0,1,1,1,1,0,1,0,0]) [(0,AV.vec g 3 (List.map Bk.a l)),(1,vi m),(2,vi n),(6,AV.ptr 0 0 0 0),(8,vi i),(11,AV.ptr 1 0 0 0),(12,vi (j + n))] [{ elems:=[ag [AV.vnil,AV.vnil]],es:=2,ver:=0,frozen:=false,clean:=false },{ elems:=[ag [AV.row 2 (v + 1),AV.vnil]],es:=2,ver:=0,frozen:=false,clean:=false },{ elems:=List.map Bk.a q ++ [ag [vb false,AV.vec true 2 [ag [AV.int IntKind.u8 77,vi 98000],ag [AV.int IntKind.u8 80,vi (1000 * m)]],AV.str []]],es:=3,ver:=v + 1,frozen:=false,clean:=true }]) (PureQ dq))) /\
  (¬(j < (↑l.length:Int)) -> Wp M1 (.run fi23 (atC (cd Try.f23) [1,1,0,1,0,0,1,0,0,1,1,1,1,1,0]) [(0,AV.vec g 3 (List.map Bk.a l)),(1,vi m),(2,vi n),(6,AV.ptr 0 0 0 0),(8,vi i),(11,AV.ptr 1 0 0 0),(12,vi j),(57,vb (decide (j < (↑l.length:Int))))] [{ elems:=[ag [AV.vnil,AV.vnil]],es:=2,ver:=0,frozen:=false,clean:=false },{ elems:=[ag [AV.row 2 v,AV.vnil]],es:=2,ver:=0,frozen:=false,clean:=false },{ elems:=List.map Bk.a q,es:=3,ver:=v,frozen:=false,clean:=true }]) (PureQ dq))) :
 svGa_at g l m n i j q v (PureQ dq):=by
 unfold svGa_at
 have w1:(List.map Bk.a l).length = l.length:=List.length_map ..
 have i2:(decide (j < (↑(List.map Bk.a l).length:Int))) = true ↔ (j < (↑l.length:Int)):=(by (try rw [w1]);all_goals exact i_dec)
 rcases xm (j < (↑l.length:Int)) with d3 | d3
 ·have H:=H.1 d3
  obtain ⟨k4,H⟩:=H
  refine path_wp (G:=given kp23 [(15,4,.call (vb (Sp.runR l i j n)) none)] []) 9 [true] ⟨(atC (cd Try.f23) [1,1,0,1,0,0,1,0,0,1,1,1,1,0,1,0,0,1,0,0,1]),[(0,AV.vec g 3 (List.map Bk.a l)),(1,vi m),(2,vi n),(6,AV.ptr 0 0 0 0),(8,vi i),(11,AV.ptr 1 0 0 0),(12,vi j),(63,vb !Sp.runR l i j n)],[⟨[ag [AV.vnil,AV.vnil]],2,0,false,false⟩,⟨[ag [AV.row 2 v,AV.vnil]],2,0,false,false⟩,⟨List.map Bk.a q,3,v,false,true⟩],_,[],_⟩ (by kernel_rfl) (bc (beq_t (i2.2 d3)) b0) q0 (ce (@ev52 (g) (l) (i) (j) (n) k4) c0) ?_
  rcases xm (¬(Sp.runR l i j n = true)) with d6 | d6
  ·have H:=H.1 d6
   obtain ⟨k8,H⟩:=H
   have i9:(decide (j.toNat < (List.map Bk.a l).length)) = true ↔ (j.toNat < l.length):=(by (try rw [w1]);all_goals exact i_dec)
   obtain ⟨k10,H⟩:=H
   have w11:(List.map Bk.a q).length = q.length:=List.length_map ..
   have i12:(decide (((List.map Bk.a q).length + 1) * 48 <= 1099511627776)) = true ↔ ((q.length + 1) * 48 <= 1099511627776):=(by (try rw [w11]);all_goals exact i_dec)
   obtain ⟨k13,H⟩:=H
   have w14:List.map Bk.a q ++ [ag [vb (l.getD j.toNat default).1,AV.vec (l.getD j.toNat default).2 2 (List.map Wo.a (l.getD j.toNat default).3),AV.str (l.getD j.toNat default).4]] = List.map Bk.a (q ++ [{ sk:=(l.getD j.toNat default).1,f:=(l.getD j.toNat default).2,ws:=(l.getD j.toNat default).3,cm:=(l.getD j.toNat default).4 }]):=(lm_app rfl rfl)
   obtain ⟨k15,H⟩:=H
   have w16:wi (j + 1) = j + 1:=wI64 k15
   exact path_wp (G:=given kp23 [(16,5,.elem (ag [vb (l.getD j.toNat default).1,AV.vec (l.getD j.toNat default).2 2 (List.map Wo.a (l.getD j.toNat default).3),AV.str (l.getD j.toNat default).4]))] []) 1000 [true] ⟨(atC (cd Try.f23) [1,1,0,1,0,0,1,0,0,1,1,1,1,0,1,0,0]),[(0,AV.vec g 3 (List.map Bk.a l)),(1,vi m),(2,vi n),(6,AV.ptr 0 0 0 0),(8,vi i),(11,AV.ptr 1 0 0 0),(12,vi (wi (j + 1)))],[⟨[ag [AV.vnil,AV.vnil]],2,0,false,false⟩,⟨[ag [AV.row 2 (v + 1),AV.vnil]],2,0,false,false⟩,⟨List.map Bk.a q ++ [ag [vb (l.getD j.toNat default).1,AV.vec (l.getD j.toNat default).2 2 (List.map Wo.a (l.getD j.toNat default).3),AV.str (l.getD j.toNat default).4]],3,v + 1,false,true⟩],[(!Sp.runR l i j n) == true,true,decide (0 <= j),decide (j.toNat < (List.map Bk.a l).length),v == v,decide (((List.map Bk.a q).length + 1) * 48 <= 1099511627776),true],[((List.map Bk.a l).get?Internal j.toNat = some (ag [vb (l.getD j.toNat default).1,AV.vec (l.getD j.toNat default).2 2 (List.map Wo.a (l.getD j.toNat default).3),AV.str (l.getD j.toNat default).4]))],_⟩ (by kernel_rfl) (bc (beq_t ((i_not (i_var _)).2 d6)) (bc rfl (bc (i_dec.2 k8) (bc (i9.2 k10) (bc (beq_self_eq_true _) (bc (i12.2 k13) (bc rfl b0))))))) (qc (el_map k10) q0) c0 (by (try rw [w14]);(try rw [w16]);all_goals exact H)
  ·have H:=H.2 d6
   have w17:(List.map Bk.a q).length = q.length:=List.length_map ..
   obtain ⟨k18,H⟩:=H
   have w19:wi (1000 * m) = 1000 * m:=wI64 k18
   have i20:(decide (((List.map Bk.a q).length + 1) * 48 <= 1099511627776)) = true ↔ ((q.length + 1) * 48 <= 1099511627776):=(by (try rw [w17]);(try rw [w19]);all_goals exact i_dec)
   obtain ⟨k21,H⟩:=H
   obtain ⟨k22,H⟩:=H
   have w23:wi (j + n) = j + n:=wI64 k22
   exact path_wp (G:=given kp23 [] []) 1000 [false] ⟨(atC (cd Try.f23) [1,1,0,1,0,0,1,0,0,1,1,1,1,0,1,0,0]),[(0,AV.vec g 3 (List.map Bk.a l)),(1,vi m),(2,vi n),(6,AV.ptr 0 0 0 0),(8,vi i),(11,AV.ptr 1 0 0 0),(12,vi (wi (j + n)))],[⟨[ag [AV.vnil,AV.vnil]],2,0,false,false⟩,⟨[ag [AV.row 2 (v + 1),AV.vnil]],2,0,false,false⟩,⟨List.map Bk.a q ++ [ag [vb false,AV.vec true 2 [ag [AV.int IntKind.u8 77,vi 98000],ag [AV.int IntKind.u8 80,vi (wi (1000 * m))]],AV.str []]],3,v + 1,false,true⟩],[(!Sp.runR l i j n) == false,true,v == v,decide (((List.map Bk.a q).length + 1) * 48 <= 1099511627776),true],[],_⟩ (by kernel_rfl) (bc (beq_f (fun h => d6 ((i_not (i_var _)).1 h))) (bc rfl (bc (beq_self_eq_true _) (bc (i20.2 k21) (bc rfl b0))))) q0 c0 (by (try rw [w19]);(try rw [w23]);all_goals exact H)
 ·have H:=H.2 d3
  exact path_wp (G:=given kp23 [] []) 6 [false] ⟨(atC (cd Try.f23) [1,1,0,1,0,0,1,0,0,1,1,1,1,1,0]),[(0,AV.vec g 3 (List.map Bk.a l)),(1,vi m),(2,vi n),(6,AV.ptr 0 0 0 0),(8,vi i),(11,AV.ptr 1 0 0 0),(12,vi j),(57,vb (decide (j < (↑(List.map Bk.a l).length:Int))))],[⟨[ag [AV.vnil,AV.vnil]],2,0,false,false⟩,⟨[ag [AV.row 2 v,AV.vnil]],2,0,false,false⟩,⟨List.map Bk.a q,3,v,false,true⟩],_,[],_⟩ (by kernel_rfl) (bc (beq_f (fun h => d3 (i2.1 h))) b0) q0 c0 (by (try rw [w1]);all_goals exact H)
theorem svGs (m:Int) (q w:List Bk)  (dq:AV) (H :
  Weak (tu [ag [AV.vec false 3 (List.map Bk.a q),AV.vec false 2 [ag [vi m,AV.vec false 3 (List.map Bk.a w)]]],vi 0]) dq) :
 svGs_at m q w (PureQ dq):=by
 unfold svGs_at
 exact path_rq (G:=given kp23 [] []) 1000 [] (tu [ag [AV.vec false 3 (List.map Bk.a q),AV.vec false 2 [ag [vi m,AV.vec false 3 (List.map Bk.a w)]]],vi 0]) (by kernel_rfl) (bc rfl (bc rfl b0)) q0 c0 H
end Go.Av

namespace Go.Av
open Go.RowKit
mutual
def meltA (L:Heap) (fs:List Nat):AV -> AV
 | .row r v => bif fs.contains r then (match L[r]? with
  | some row => bif row.clean then .vec false row.es row.elems else .row r v
  | none => .row r v) else .row r v
 | .agg cs => .agg (meltL L fs cs)
 | .tup cs => .tup (meltL L fs cs)
 | .any => .any | .bool b => .bool b | .int k n => .int k n | .str s => .str s | .flt b => .flt b | .nilp => .nilp | .vnil => .vnil | .nilf => .nilf | .nilm => .nilm
 | .ptr r v i j => .ptr r v i j | .eptr es xs i j => .eptr es xs i j | .vec f es xs => .vec f es xs | .ref r v lo len => .ref r v lo len | .func fn a b => .func fn a b | .mapr r => .mapr r
def meltL (L:Heap) (fs:List Nat):List AV -> List AV
 | [] => []
 | c :: r => meltA L fs c :: meltL L fs r
end
mutual
def meltT (L:Heap) (fs:List Nat):AV -> List Bool
 | .row r v => bif fs.contains r then (match L[r]? with
  | some row => [row.ver == v]
  | none => []) else []
 | .agg cs => meltTL L fs cs
 | .tup cs => meltTL L fs cs
 | _ => []
def meltTL (L:Heap) (fs:List Nat):List AV -> List Bool
 | [] => []
 | c :: r => meltT L fs c ++ meltTL L fs r
end
def meltR (L:Heap) (fs:List Nat) (row:Row):Row:=bif row.clean then row else { row with elems:=meltL L fs row.elems,clean:=cleanL (meltL L fs row.elems) }
def meltH (L:Heap) (fs:List Nat):Heap:=(freeze fs L).map (meltR L fs)
def meltV (L:Heap) (fs:List Nat) (env:Vars):Vars:=env.map fun e => (e.1,meltA L fs e.2)
def rowT (L:Heap) (fs:List Nat) (row:Row):List Bool:=bif row.clean then [] else meltTL L fs row.elems
def meltB (L:Heap) (fs:List Nat) (env:Vars):List Bool:=meltTL L fs (env.map (·.2)) ++ L.flatMap (rowT L fs)
theorem meltL_len (L:Heap) (fs:List Nat):∀ l,(meltL L fs l).length = l.length
 | [] => rfl
 | c :: l => by simp only [meltL,List.length_cons,meltL_len L fs l]
theorem meltL_get (L:Heap) (fs:List Nat):∀ (l:List AV) (i:Nat),(meltL L fs l)[i]? = l[i]?.map (meltA L fs)
 | [],i => by simp [meltL]
 | c :: l,0 => by simp [meltL]
 | c :: l,i + 1 => by simp only [meltL,List.getElem?_cons_succ];exact meltL_get L fs l i
theorem meltTL_mem {L:Heap} {fs:List Nat}:∀ {l:List AV} {i:Nat} {c:AV} {b:Bool},l[i]? = some c -> b ∈ meltT L fs c -> b ∈ meltTL L fs l
 | [],i,c,b,h,_ => by simp at h
 | x :: l,i,c,b,h,hb => by
  simp only [meltTL,List.mem_append]
  cases i with
  | zero => simp at h;subst h;exact .inl hb
  | succ i => exact .inr (meltTL_mem (by simpa using h) hb)
theorem melt_plain {L:Heap} {fs:List Nat} {a:AV} (h:a.plain = true):(meltA L fs a).plain = true:=by
 cases a with
 | row r v =>
  unfold meltA
  cases fs.contains r with
  | false => rfl
  | true =>
   simp only [cond_true]
   split
   ·rename_i row _
    cases row.clean <;> rfl
   ·rfl
 | any => exact h
 | agg cs => simp [AV.plain] at h
 | tup cs => simp [AV.plain] at h
 | _ => rfl
theorem melt_cells {L:Heap} {fs:List Nat} {x:AV} (h:x.cells.all AV.plain = true):(meltA L fs x).cells = meltL L fs x.cells:=by
 cases x with
 | agg cs => rfl
 | row r v =>
  have:(meltA L fs (.row r v)).cells = [meltA L fs (.row r v)]:=by
   unfold meltA
   cases fs.contains r with
   | false => rfl
   | true =>
    simp only [cond_true]
    split
    ·rename_i row _
     cases row.clean <;> rfl
    ·rfl
  rw [this];rfl
 | tup cs => simp [AV.cells,AV.plain] at h
 | _ => rfl
theorem drel_melt {S:St} {a:AV} {v:Value} (h:DRel S a v) (L:Heap) (fs:List Nat):meltA L fs a = a:=by
 have key:∀ (cs:List AV) (vs:List Value),cs.length = vs.length -> (∀ (i:Nat) c v,cs[i]? = some c -> vs[i]? = some v -> meltA L fs c = c) -> meltL L fs cs = cs:=by
  intro cs vs hl ih
  apply List.ext_getElem?
  intro i
  rw [meltL_get]
  cases hc:cs[i]? with
  | none => rfl
  | some c =>
   have hlt:i < vs.length:=by rw [<- hl];exact lt_of_get hc
   rw [Option.map_some,ih i c vs[i] hc (List.getElem?_eq_getElem hlt)]
 induction h with
 | agg cs vs hl _ ih => show AV.agg (meltL L fs cs) = _;rw [key cs vs hl ih]
 | tup cs vs hl _ ih => show AV.tup (meltL L fs cs) = _;rw [key cs vs hl ih]
 | _ => rfl
theorem melt_rel {S:St} (hS:HeapOk S) (fs:List Nat) {a:AV} {v:Value} (h:Rel S a v):(∀ b ∈ meltT S.L fs a,b = true) -> Rel ⟨S.base,S.acc,freeze fs S.L,S.β,S.w⟩ (meltA S.L fs a) v:=by
 have hex:=(freeze_ok fs hS).2
 induction h with
 | any v => exact fun _ => .any v
 | data a v h => 
  intro _
  rw [drel_melt h];exact .data _ _ (h.mono hex)
 | agg cs vs hl _ ih =>
  intro hb
  exact .agg _ vs (by rw [meltL_len];exact hl) fun i c v hc hv => by
   rw [meltL_get] at hc
   obtain ⟨c0,h1,rfl⟩:=Option.map_eq_some_iff.1 hc
   exact ih i c0 v h1 hv fun b hbm => hb b (meltTL_mem h1 hbm)
 | tup cs vs hl _ ih =>
  intro hb
  exact .tup _ vs (by rw [meltL_len];exact hl) fun i c v hc hv => by
   rw [meltL_get] at hc
   obtain ⟨c0,h1,rfl⟩:=Option.map_eq_some_iff.1 hc
   exact ih i c0 v h1 hv fun b hbm => hb b (meltTL_mem h1 hbm)
 | func fn a b va vb ha hb k1 k2 _ _ => exact fun _ => (Rel.func fn a b va vb ha hb k1 k2).mono hex
 | mapr r row info v h0 h3 h1 h2 => exact fun _ => (Rel.mapr r row info v h0 h3 h1 h2).mono hex
 | ptr r ver i j row info v h0 h1 h2 h3 h4 => exact fun _ => (Rel.ptr r ver i j row info v h0 h1 h2 h3 h4).mono hex
 | ref r ver lo len row info v h0 h1 h2 h3 h4 => exact fun _ => (Rel.ref r ver lo len row info v h0 h1 h2 h3 h4).mono hex
 | row r ver row info v h0 h1 h2 h3 h4 =>
  intro hb
  have same:=(Rel.row r ver row info v h0 h1 h2 h3 h4).mono hex
  unfold meltA
  cases hf:fs.contains r with
  | false => exact same
  | true =>
   simp only [cond_true,h1]
   cases hc:row.clean with
   | false => exact same
   | true =>
    simp only [cond_true]
    have hv:row.ver = ver:=by
     have:=hb (row.ver == ver) (by unfold meltT;rw [hf];simp only [cond_true,h1,List.mem_singleton])
     simpa using this
    have hm:=h0.2
    have hcap:=(hS.cells r row info h1 h2 hm).2.1
    rw [h4 hv]
    have hr:r ∈ fs:=by simpa using hf
    have:=row_data (S:=S) (S':=⟨S.base,S.acc,freeze fs S.L,S.β,S.w⟩) hS rfl (fun b off hi hb => (hex.imm b off hi hb).1) h1 h2 hm hc ((freeze_holds hS fs).sub fun q hq => by simp only [List.mem_singleton] at hq;rw [hq];exact hr) 0 row.elems.length info.cap (by omega) hcap
    simp only [Nat.zero_mul,Nat.add_zero,List.drop_zero,List.take_length] at this
    exact .data _ _ this
theorem relabel {S:St} (hS:HeapOk S) {K:Heap} (hl:K.length = S.L.length) (hK:∀ (r:Nat) row,S.L[r]? = some row -> ∃ row',K[r]? = some row' /\ row'.ver = row.ver /\ row'.elems.length = row.elems.length /\ row'.frozen = row.frozen):Ext S ⟨S.base,S.acc,K,S.β,S.w⟩:=by
 refine ⟨rfl,rfl,fun b off hi _ => ⟨⟨hi.1,fun q info hq he => ?_⟩,rfl⟩,fun q x y h1 h2 => ?_,Below.refl _ _,fun q x h => .inl ⟨q,x,h,rfl⟩,fun _ _ _ _ => rfl⟩
 ·obtain ⟨x0,a1,a2,a3,a4⟩:=hi.2 q info hq he
  obtain ⟨x,b1,_,b3,b4⟩:=hK q x0 a1
  exact ⟨x,b1,b4.trans a2,a3,by rw [b3];exact a4⟩
 ·obtain ⟨x',b1,b2,b3,_⟩:=hK q x h1
  exact ⟨x',y,b1,h2,Nat.le_of_eq b2.symm,fun _ => ⟨rfl,fun _ => b3⟩,rfl,fun _ => rfl⟩
theorem melt_ok {S:St} (hS:HeapOk S) (fs:List Nat) (hb:∀ row ∈ S.L,∀ b ∈ rowT S.L fs row,b = true):HeapOk ⟨S.base,S.acc,meltH S.L fs,S.β,S.w⟩ /\ Ext S ⟨S.base,S.acc,meltH S.L fs,S.β,S.w⟩ /\
  ∀ a v,Rel S a v -> (∀ b ∈ meltT S.L fs a,b = true) -> Rel ⟨S.base,S.acc,meltH S.L fs,S.β,S.w⟩ (meltA S.L fs a) v:=by
 obtain ⟨hF,hE⟩:=freeze_ok fs hS
 have hX:Ext ⟨S.base,S.acc,freeze fs S.L,S.β,S.w⟩ ⟨S.base,S.acc,meltH S.L fs,S.β,S.w⟩:=relabel (S:=⟨S.base,S.acc,freeze fs S.L,S.β,S.w⟩) hF (by simp [meltH]) fun r row h => by
  refine ⟨meltR S.L fs row,by simp only at h;simp [meltH,h],?_⟩
  unfold meltR
  cases row.clean with
  | true => exact ⟨rfl,rfl,rfl⟩
  | false => exact ⟨rfl,meltL_len ..,rfl⟩
 have hrel:∀ a v,Rel S a v -> (∀ b ∈ meltT S.L fs a,b = true) -> Rel ⟨S.base,S.acc,meltH S.L fs,S.β,S.w⟩ (meltA S.L fs a) v:=fun a v h hb => (melt_rel hS fs h hb).mono hX
 have back:∀ (r:Nat) row,(meltH S.L fs)[r]? = some row -> ∃ row0 f,S.L[r]? = some row0 /\ row = meltR S.L fs { row0 with frozen:=f }:=by
  intro r row h
  unfold meltH at h
  rw [List.getElem?_map] at h
  obtain ⟨x,h1,rfl⟩:=Option.map_eq_some_iff.1 h
  have hlt:r < S.L.length:=by
   have:=(List.getElem?_eq_some_iff.1 h1).1
   have hl:(freeze fs S.L).length = S.L.length:=by rw [hF.len.trans hS.len.symm]
   omega
  obtain ⟨f,g1,_⟩:=freeze_get fs S.L r _ (List.getElem?_eq_getElem hlt)
  rw [h1] at g1
  simp only [Option.some.injEq] at g1
  exact ⟨_,f,List.getElem?_eq_getElem hlt,by rw [g1]⟩
 have hboth:Ext S ⟨S.base,S.acc,meltH S.L fs,S.β,S.w⟩:=hE.trans hX
 have cell:∀ (r:Nat) row0 f,S.L[r]? = some row0 -> ∀ (i:Nat) x,(meltR S.L fs { row0 with frozen:=f }).elems[i]? = some x ->
   ∃ x0,row0.elems[i]? = some x0 /\ x.cells.length = x0.cells.length /\ x.cells.all AV.plain = true /\ ((row0.clean = true /\ x = x0) \/ (row0.clean = false /\ x = meltA S.L fs x0 /\ ∀ b ∈ meltT S.L fs x0,b = true)):=by
  intro r row0 f h0 i x hx
  unfold meltR at hx
  cases hc:row0.clean with
  | true =>
   simp only [hc,cond_true] at hx
   obtain ⟨o1,o2⟩:=hS.elems r row0 h0 i x hx
   exact ⟨x,hx,rfl,o2,.inl ⟨rfl,rfl⟩⟩
  | false =>
   simp only [hc,cond_false] at hx
   rw [meltL_get] at hx
   obtain ⟨x0,h1,rfl⟩:=Option.map_eq_some_iff.1 hx
   obtain ⟨o1,o2⟩:=hS.elems r row0 h0 i x0 h1
   refine ⟨x0,h1,by rw [melt_cells o2,meltL_len],?_,.inr ⟨rfl,rfl,fun b hbm => hb row0 (List.mem_of_getElem? h0) b (by unfold rowT;rw [hc];exact meltTL_mem h1 hbm)⟩⟩
   rw [melt_cells o2]
   refine List.all_eq_true.2 fun c hcm => ?_
   obtain ⟨k,hk⟩:=List.getElem?_of_mem hcm
   rw [meltL_get] at hk
   obtain ⟨c0,q1,rfl⟩:=Option.map_eq_some_iff.1 hk
   exact melt_plain (List.all_eq_true.1 o2 c0 (List.mem_of_getElem? q1))
 have cellr:∀ (r:Nat) row0 f info,S.L[r]? = some row0 -> S.β[r]? = some info -> ∀ (i:Nat) x (k:Nat) c cv,(meltR S.L fs { row0 with frozen:=f }).elems[i]? = some x -> x.cells[k]? = some c -> S.w.cell? ⟨info.blk,info.off + i * info.es + k,none⟩ = some cv ->
   Rel ⟨S.base,S.acc,meltH S.L fs,S.β,S.w⟩ c cv /\ ((meltR S.L fs { row0 with frozen:=f }).clean = true -> DRel ⟨S.base,S.acc,meltH S.L fs,S.β,S.w⟩ c cv):=by
  intro r row0 f info h0 hi i x k c cv hx hk hcv
  obtain ⟨x0,e1,e2,e3,e4⟩:=cell r row0 f h0 i x hx
  rcases e4 with ⟨hc,rfl⟩ | ⟨hc,rfl,hbb⟩
  ·exact ⟨(hS.rel r row0 info i x k c cv h0 hi e1 hk hcv).mono hboth,fun _ => (hS.clean r row0 info i x k c cv h0 hi hc e1 hk hcv).mono hboth⟩
  ·have o2:=(hS.elems r row0 h0 i x0 e1).2
   rw [melt_cells o2,meltL_get] at hk
   obtain ⟨c0,q1,rfl⟩:=Option.map_eq_some_iff.1 hk
   have hr:=hrel c0 cv (hS.rel r row0 info i x0 k c0 cv h0 hi e1 q1 hcv) fun b hbm => hbb b (by
    cases x0 with
    | agg cs => exact meltTL_mem q1 hbm
    | tup cs => simp [AV.cells,AV.plain] at o2
    | _ => 
     cases k with
     | zero => simp [AV.cells] at q1;subst q1;exact hbm
     | succ k => simp [AV.cells] at q1)
   refine ⟨hr,fun hcl => rel_clean hr ?_⟩
   unfold meltR at hcl hx
   simp only [hc,cond_false] at hcl hx
   have hx2:=cleanL_get hcl i _ hx
   have hc2:(meltA S.L fs x0).cells[k]? = some (meltA S.L fs c0):=by rw [melt_cells o2,meltL_get,q1];rfl
   generalize meltA S.L fs x0 = y at hx2 hc2
   cases y with
   | agg cs => exact cleanL_get (show cleanL cs = true by simpa [AV.clean] using hx2) k _ hc2
   | _ =>
    cases k with
    | zero => simp [AV.cells] at hc2;rw [<- hc2];exact hx2
    | succ k => simp [AV.cells] at hc2
 refine ⟨⟨hS.base,by simp [meltH];exact hF.len,hS.blk,hS.inj,fun r row info h h' hm => ?_,fun r row info h h' hm => ?_,fun r row h => ?_,fun r row info i x k c cv h h' hx hk hcv => ?_,fun r row info i x k c cv h h' hcl hx hk hcv => ?_,hS.acq,hS.anew⟩,hboth,hrel⟩
 ·obtain ⟨row0,f,h0,rfl⟩:=back r row h
  obtain ⟨es,c1,c2,c3,c4⟩:=hS.maps r row0 info h0 h' hm
  have hlen:(meltR S.L fs { row0 with frozen:=f }).elems.length = row0.elems.length /\ (meltR S.L fs { row0 with frozen:=f }).es = row0.es:=by
   unfold meltR
   cases row0.clean with
   | true => exact ⟨rfl,rfl⟩
   | false => exact ⟨meltL_len ..,rfl⟩
  refine ⟨es,c1,by rw [hlen.1];exact c2,by rw [hlen.2];exact c3,fun i e x he hx => ?_⟩
  obtain ⟨x0,e1,_,_,e4⟩:=cell r row0 f h0 i x hx
  obtain ⟨p1,kk,n,v,rfl,p3,p4,p5,p6⟩:=c4 i e x0 he e1
  rcases e4 with ⟨hc,rfl⟩ | ⟨hc,rfl,hbb⟩
  ·exact ⟨p1,kk,n,v,rfl,p3,p4,p5.mono hboth,fun _ => (p6 hc).mono hboth⟩
  ·have hr:=hrel v e.val p5 (fun b hbm => hbb b (meltTL_mem (l:=[.int kk n,v]) (i:=1) rfl hbm))
   refine ⟨p1,kk,n,meltA S.L fs v,rfl,p3,melt_plain p4,hr,fun hcl => rel_clean hr ?_⟩
   unfold meltR at hcl hx
   simp only [hc,cond_false] at hcl hx
   have:=cleanL_get hcl i _ hx
   simpa [meltA,meltL,AV.clean,cleanL] using this
 ·obtain ⟨row0,f,h0,rfl⟩:=back r row h
  have hlen:(meltR S.L fs { row0 with frozen:=f }).elems.length = row0.elems.length /\ (meltR S.L fs { row0 with frozen:=f }).es = row0.es:=by
   unfold meltR
   cases row0.clean with
   | true => exact ⟨rfl,rfl⟩
   | false => exact ⟨meltL_len ..,rfl⟩
  rw [hlen.1,hlen.2];exact hS.cells r row0 info h0 h' hm
 ·obtain ⟨row0,f,h0,rfl⟩:=back r row h
  intro i x hx
  obtain ⟨x0,e1,e2,e3,_⟩:=cell r row0 f h0 i x hx
  have o1:=(hS.elems r row0 h0 i x0 e1).1
  refine ⟨?_,e3⟩
  have:(meltR S.L fs { row0 with frozen:=f }).es = row0.es:=by
   unfold meltR
   cases row0.clean <;> rfl
  rw [this,e2];exact o1
 ·obtain ⟨row0,f,h0,rfl⟩:=back r row h
  exact (cellr r row0 f info h0 h' i x k c cv hx hk hcv).1
 ·obtain ⟨row0,f,h0,rfl⟩:=back r row h
  exact (cellr r row0 f info h0 h' i x k c cv hx hk hcv).2 hcl
theorem meltV_get (L:Heap) (fs:List Nat) (env:Vars) (t:Nat):(meltV L fs env).get t = meltA L fs (env.get t):=by
 induction env with
 | nil => rfl
 | cons e env ih =>
  obtain ⟨k,v⟩:=e
  simp only [meltV,List.map_cons,Vars.get]
  cases k == t with
  | true => rfl
  | false => exact ih
theorem wp_melt {M:Mach} (hm:(M.P ()).follows .mixedOrders = true) {fi:Fi} {k:List Item} {env env':Vars} {L L':Heap} {Q:AV -> Heap -> Prop} (fs:List Nat) {bs:List Bool} (he:meltV L fs env = env') (hl:meltH L fs = L') (hb:meltB L fs env = bs) (ha:allB bs)
  (h:Wp M (.run fi k env' L') Q):Wp M (.run fi k env L) Q:=by
 refine .sem fun S b a cs fn h1 h2 h3 h4 h5 h6 h7 h8 => ?_
 subst h6;subst he;subst hl;subst hb
 have ha:=(allB_iff _).1 ha
 obtain ⟨m1,m2,m3⟩:=melt_ok h5 fs fun row hr b hbm => ha b (by unfold meltB;exact List.mem_append_right _ (List.mem_flatMap.2 ⟨row,hr,hbm⟩))
 have hV:VRel ⟨S.base,S.acc,meltH S.L fs,S.β,S.w⟩ (meltV S.L fs env) a.tmps:=by
  intro t
  rw [meltV_get]
  refine m3 _ _ (h7 t) fun b hbm => ha b ?_
  unfold meltB
  refine List.mem_append_left _ ?_
  have key:∀ env:Vars,b ∈ meltT S.L fs (env.get t) -> b ∈ meltTL S.L fs (env.map (·.2)):=by
   intro env
   induction env with
   | nil => intro h;simp [Vars.get,meltT] at h
   | cons e env ih =>
    obtain ⟨k,v⟩:=e
    simp only [Vars.get,List.map_cons,meltTL,List.mem_append]
    cases k == t with
    | true => exact fun h => .inl h
    | false => exact fun h => .inr (ih h)
  exact key env hbm
 obtain ⟨a',todo',Ds,w',β',v,L1,q1,q2,q3,q4,q5,q6,q7,q8,q9⟩:=(wp_sound hm (c:=.run fi k _ _) h:RunSnd M fi k _ _ Q) ⟨S.base,S.acc,meltH S.L fs,S.β,S.w⟩ b a cs fn h1 h2 h3 h4 m1 rfl hV h8
 exact ⟨a',todo',Ds,w',β',v,L1,q1,q2,q3,q4,q5,q6,q7,q8,m2.trans q9⟩
end Go.Av

namespace Go.Av
open Go.Proofs
noncomputable def ops20:Array Oper:=match atC (cd Try.f23) [1,1,0,1,0,0,1,0,0,1,1,1,1,1,0] with
 | .code (.region _ ops _) :: _ => ops
 | _ => #[]
noncomputable def st20 (g:Bool) (l:List AV) (m n i j:Int) (b:Bool) (q:List AV) (v:Nat):RS:=⟨lift [(0,AV.vec g 3 l),(1,.int .i64 m),(2,.int .i64 n),(6,AV.ptr 0 0 0 0),(8,.int .i64 i),(11,AV.ptr 1 0 0 0),(12,.int .i64 j),(57,AV.bool b)],[{ elems:=[AV.agg [AV.vnil,AV.vnil]],es:=2,ver:=0,frozen:=false,clean:=false },{ elems:=[AV.agg [AV.row 2 v,AV.vnil]],es:=2,ver:=0,frozen:=false,clean:=false },{ elems:=q,es:=3,ver:=v,frozen:=false,clean:=true }],[],[],[]⟩
noncomputable def s20 (g:Bool) (l:List AV) (m n i j:Int) (b:Bool) (q:List AV) (v:Nat):RS:=(runOps M1.P M1.inl (fun _ _ _ => none) fi23.n ops20 (keepAns [10]) (fun _ => 2) (List.range 8) (st20 g l m n i j b q v)).getD ⟨[],[],[],[],[]⟩
noncomputable def r20 (g:Bool) (l:List AV) (m n i j:Int) (b:Bool) (q:List AV) (v:Nat) (D:List AV):Option RS:=runOps M1.P M1.inl (fun _ _ _ => none) fi23.n ops20 (keepAns [10]) (fun _ => 2) [8,9,10,11,12] ⟨(96,[],.vec (g && false) 3 D) :: (s20 g l m n i j b q v).env.tail,(s20 g l m n i j b q v).L,(s20 g l m n i j b q v).asm,[],[]⟩
noncomputable def f20 (g:Bool) (l:List AV) (m n i j:Int) (b:Bool) (q:List AV) (v:Nat) (y:AV) (ys:List AV):RS:=(r20 g l m n i j b q v (y :: ys)).getD ⟨[],[],[],[],[]⟩
theorem f20_asm (g:Bool) (l:List AV) (m n i j:Int) (b:Bool) (q:List AV) (v:Nat) (y:AV) (ys:List AV):(f20 g l m n i j b q v y ys).asm = [decide (0 <= i),decide (0 <= IntKind.i64.wrap (i + n)),decide (i.toNat <= (IntKind.i64.wrap (i + n)).toNat),decide ((IntKind.i64.wrap (i + n)).toNat <= l.length),decide ((0 + (ys.length + 1)) * 48 <= 1099511627776),0 == 0]:=by kernel_rfl
theorem f20_rest (g:Bool) (l:List AV) (m n i j:Int) (b:Bool) (q:List AV) (v:Nat) (y:AV) (ys:List AV):(f20 g l m n i j b q v y ys).eqs = [] /\ (f20 g l m n i j b q v y ys).calls = []:=by
 refine ⟨by kernel_rfl,by kernel_rfl⟩
theorem f20_env (g:Bool) (l:List AV) (m n i j:Int) (b:Bool) (q:List AV) (v:Nat) (y:AV) (ys:List AV):forget [6,11] (f20 g l m n i j b q v y ys).env = [(6,.ptr 0 0 0 0),(11,.ptr 1 0 0 0)]:=by kernel_rfl
theorem f20_heap (g:Bool) (l:List AV) (m n i j:Int) (b:Bool) (q:List AV) (v:Nat) (y:AV) (ys:List AV):(f20 g l m n i j b q v y ys).L = [⟨[.agg [.vnil,.vnil]],2,0,false,false⟩,⟨[.agg [.row 2 v,.row 4 0]],2,0,false,false⟩,⟨q,3,v,false,true⟩,⟨y :: ys,3,0,false,true⟩,⟨[.agg [.int .i64 m,.row 3 0]],2,0,false,false⟩]:=by kernel_rfl
theorem s20_head (g:Bool) (l:List AV) (m n i j:Int) (b:Bool) (q:List AV) (v:Nat):s20 g l m n i j b q v = ⟨(96,[],.vec (g && false) 3 (List.drop i.toNat (List.take (IntKind.i64.wrap (i + n)).toNat l))) :: (s20 g l m n i j b q v).env.tail,(s20 g l m n i j b q v).L,(s20 g l m n i j b q v).asm,[],[]⟩:=by kernel_rfl
theorem run20 (g:Bool) (l:List AV) (m n i j:Int) (b:Bool) (q:List AV) (v:Nat) (y:AV) (ys:List AV) (hd:List.drop i.toNat (List.take (IntKind.i64.wrap (i + n)).toNat l) = y :: ys) :
  runOps M1.P M1.inl (fun _ _ _ => none) fi23.n ops20 (keepAns [10]) (fun _ => 2) (List.range ops20.size) (st20 g l m n i j b q v) = some (f20 g l m n i j b q v y ys):=by
 have h1:runOps M1.P M1.inl (fun _ _ _ => none) fi23.n ops20 (keepAns [10]) (fun _ => 2) (List.range 8) (st20 g l m n i j b q v) = some (s20 g l m n i j b q v):=by kernel_rfl
 rw [show List.range ops20.size = List.range 8 ++ [8,9,10,11,12] by kernel_rfl,runOps_append,h1,Option.bind_some,s20_head,hd]
 show r20 g l m n i j b q v (y :: ys) = _
 kernel_rfl
theorem svG20 {g:Bool} {l:List Bk} {m:Int} {a n:Nat} {j:Int} {b:Bool} {q:List Bk} {v:Nat} {dq:AV} (hn:1 <= n) (ha:a + n <= l.length) (hl:l.length <= 1000000) (H:svGs_at m q ((l.take (a + n)).drop a) (PureQ dq)) :
  Wp M1 (.run fi23 (atC (cd Try.f23) [1,1,0,1,0,0,1,0,0,1,1,1,1,1,0]) [(0,AV.vec g 3 (l.map Bk.a)),(1,.int .i64 m),(2,.int .i64 n),(6,AV.ptr 0 0 0 0),(8,.int .i64 a),(11,AV.ptr 1 0 0 0),(12,.int .i64 j),(57,AV.bool b)] [{ elems:=[AV.agg [AV.vnil,AV.vnil]],es:=2,ver:=0,frozen:=false,clean:=false },{ elems:=[AV.agg [AV.row 2 v,AV.vnil]],es:=2,ver:=0,frozen:=false,clean:=false },{ elems:=q.map Bk.a,es:=3,ver:=v,frozen:=false,clean:=true }]) (PureQ dq):=by
 have hw:IntKind.i64.wrap ((a:Int) + (n:Int)) = ((a + n:Nat):Int):=by
  have e:(a:Int) + (n:Int) = ((a + n:Nat):Int):=by omega
  rw [e]
  exact wI64 ⟨by omega,by omega⟩
 obtain ⟨y,ys,hy⟩:∃ y ys,(l.take (a + n)).drop a = y :: ys:=by
  cases h:(l.take (a + n)).drop a with
  | nil =>
   have:=congrArg List.length h
   simp at this
   omega
  | cons y ys => exact ⟨y,ys,rfl⟩
 have hlen:ys.length + 1 <= 1000000:=by
  have:=congrArg List.length hy
  simp at this
  omega
 have hd:List.drop (a:Int).toNat (List.take (IntKind.i64.wrap ((a:Int) + (n:Int))).toNat (l.map Bk.a)) = Bk.a y :: ys.map Bk.a:=by
  rw [hw,Int.toNat_natCast,Int.toNat_natCast,<- List.map_take,<- List.map_drop,hy];rfl
 rw [hy] at H
 refine Wp.region (id:=20) (ops:=ops20) (draw:=false) (fun _ _ _ => none) (keepAns [10]) (fun _ => 2) [6,11] (f20 g (l.map Bk.a) m n a j b (q.map Bk.a) v (Bk.a y) (ys.map Bk.a)) (fun h => nomatch h) (run20 g (l.map Bk.a) m n a j b (q.map Bk.a) v (Bk.a y) (ys.map Bk.a) hd) ?_ ?_ ?_ ?_ ?_
 ·rw [f20_asm,hw,List.length_map,List.length_map]
  intro x hx
  simp only [List.mem_cons,List.not_mem_nil,or_false] at hx
  rcases hx with rfl | rfl | rfl | rfl | rfl | rfl
  ·exact decide_eq_true (by omega)
  ·exact decide_eq_true (by omega)
  ·exact decide_eq_true (by rw [Int.toNat_natCast,Int.toNat_natCast];omega)
  ·exact decide_eq_true (by rw [Int.toNat_natCast];omega)
  ·exact decide_eq_true (by omega)
  ·rfl
 ·rw [(f20_rest ..).1];intro p hp;cases hp
 ·rw [(f20_rest ..).2];intro c hc;cases hc
 ·rw [(f20_rest ..).2];intro c hc;cases hc
 ·rw [f20_env,f20_heap]
  refine Wp.seq ?_
  refine wp_melt hm1 [2,3,4] (env':=[(6,.ptr 0 0 0 0),(11,.ptr 1 0 0 0)]) (L':=[⟨[.agg [.vnil,.vnil]],2,0,false,true⟩,⟨[.agg [.vec false 3 (q.map Bk.a),.row 4 0]],2,0,false,false⟩,⟨q.map Bk.a,3,v,true,true⟩,⟨Bk.a y :: ys.map Bk.a,3,0,true,true⟩,⟨[.agg [.int .i64 m,.vec false 3 (Bk.a y :: ys.map Bk.a)]],2,0,true,true⟩]) (bs:=[v == v,0 == 0,0 == 0]) (by kernel_rfl) (by kernel_rfl) (by kernel_rfl) (allB_cons (beq_self_eq_true _) (allB_cons rfl (allB_cons rfl allB_nil))) ?_
  refine wp_melt hm1 [2,3,4] (env':=[(6,.ptr 0 0 0 0),(11,.ptr 1 0 0 0)]) (L':=[⟨[.agg [.vnil,.vnil]],2,0,false,true⟩,⟨[.agg [.vec false 3 (q.map Bk.a),.vec false 2 [.agg [.int .i64 m,.vec false 3 (Bk.a y :: ys.map Bk.a)]]]],2,0,false,true⟩,⟨q.map Bk.a,3,v,true,true⟩,⟨Bk.a y :: ys.map Bk.a,3,0,true,true⟩,⟨[.agg [.int .i64 m,.vec false 3 (Bk.a y :: ys.map Bk.a)]],2,0,true,true⟩]) (bs:=[0 == 0]) (by kernel_rfl) (by kernel_rfl) (by kernel_rfl) (allB_cons rfl allB_nil) ?_
  exact wp_narrow [0,1] (by kernel_rfl) H
end Go.Av

namespace Go.Av
open Go.Proofs
theorem runR_in {l:List Bk} {i k n:Int} (h:k + n <= l.length):Sp.runR l i k n = Sp.runB l i k n:=by
 unfold Sp.runR
 rw [if_neg (by omega)]
theorem svGa_loop {g:Bool} {l:List Bk} {m:Int} {n a:Nat} {dq:AV} (hk:Sp.okBs l) (hm:1 <= m /\ m <= 9999) (hn:1 <= n) (ha:a + n <= l.length) :
  ∀ (f i:Nat) (q:List Bk) (v:Nat),l.length <= i + f -> q.length <= i -> i <= l.length + n -> Weak (.tup [.agg [bsA false (q ++ Sp.build l m n a f i),sbA false [⟨m,false,(l.take (a + n)).drop a⟩]],.int .i64 0]) dq -> svGa_at g l m n a i q v (PureQ dq):=by
 have hl:=hk.1
 have fin:∀ (i:Nat) (q:List Bk) (v:Nat),l.length <= i -> Weak (.tup [.agg [bsA false q,sbA false [⟨m,false,(l.take (a + n)).drop a⟩]],.int .i64 0]) dq -> svGa_at g l m n a i q v (PureQ dq):=by
  intro i q v h1 hq
  exact svGa _ _ _ _ _ _ _ _ _ ⟨fun h => by omega,fun _ => svG20 hn ha hl (svGs _ _ _ _ hq)⟩
 intro f
 induction f with
 | zero =>
  intro i q v hf hqi hil hq
  rw [Sp.build,List.append_nil] at hq
  exact fin i q v (by omega) hq
 | succ f ih =>
  intro i q v hf hqi hil hq
  rw [Sp.build] at hq
  by_cases hi:i < l.length
  ·rw [if_pos hi] at hq
   refine svGa _ _ _ _ _ _ _ _ _ ⟨fun _ => ?_,fun h => by omega⟩
   rw [Int.toNat_natCast]
   refine ⟨⟨hk,by omega,by omega,by omega,by omega,by omega⟩,fun h => ?_,fun h => ?_⟩
   ·rw [if_neg h] at hq
    exact ⟨by omega,by omega,by omega,by omega,ih (i + 1) (q ++ [l.getD i default]) (v + 1) (by omega) (by simp;omega) (by omega) (by rw [List.append_assoc];exact hq)⟩
   ·rw [if_pos (Classical.not_not.1 h)] at hq
    refine ⟨by omega,by omega,by omega,?_⟩
    have:=ih (i + n) (q ++ [Sp.callB m]) (v + 1) (by omega) (by simp;omega) (by omega) (by rw [List.append_assoc];exact hq)
    unfold svGa_at at this
    rw [List.map_append] at this
    exact this
  ·rw [if_neg hi,List.append_nil] at hq
   exact fin i q v (by omega) hq
theorem svGz_loop {g:Bool} {l:List Bk} {m:Int} {n a:Nat} {dq:AV} (hk:Sp.okBs l) (hm:1 <= m /\ m <= 9999) (hn:1 <= n) (ha:a + n <= l.length) (hq:Weak (.tup [.agg [bsA false (Sp.build l m n a l.length 0),sbA false [⟨m,false,(l.take (a + n)).drop a⟩]],.int .i64 0]) dq):svGz_at g l m n a 0 (PureQ dq):=by
 have hl:=hk.1
 obtain ⟨f,hf⟩:∃ f,l.length = f + 1:=⟨l.length - 1,by omega⟩
 rw [hf,Sp.build,if_pos (by omega)] at hq
 refine svGz _ _ _ _ _ _ _ ⟨fun _ => ?_,fun h => by omega⟩
 refine ⟨⟨hk,by omega,by omega,by omega,by omega,by omega⟩,fun h => ?_,fun h => ?_⟩
 ·rw [if_neg (show ¬Sp.runR l (a:Int) ((0:Nat):Int) (n:Int) = true from h)] at hq
  exact ⟨by omega,by show (0:Nat) < _;omega,by omega,svGa_loop (g:=g) hk hm hn ha f 1 [l.getD 0 default] 0 (by omega) (by simp) (by omega) hq⟩
 ·rw [if_pos (show Sp.runR l (a:Int) ((0:Nat):Int) (n:Int) = true from Classical.not_not.1 h)] at hq
  refine ⟨by omega,by omega,?_⟩
  have:=svGa_loop (g:=g) hk hm hn ha f n [Sp.callB m] 0 (by omega) (by simpa using hn) (by omega) (by simpa using hq)
  unfold svGa_at at this
  rw [show (0:Int) + (n:Int) = (n:Int) by omega]
  exact this
def fdRes (l:List Bk) (m:Int) (n:Nat) (x:Int):AV:=.tup [.agg [bsA false (if x < 0 then l else Sp.build l m n x.toNat l.length 0),sbA false (if x < 0 then [] else [⟨m,false,(l.take (x.toNat + n)).drop x.toNat⟩])],.int .i64 0]
theorem svG_copy {g:Bool} {l:List Bk} {m:Int} {n i:Nat} (hl:l.length <= 1000000) (hn:i + n <= 9223372036854775807) (h:¬((i:Int) + n <= l.length)):svGi_at g l m n i (PureQ (fdRes l m n (-1))):=by
 unfold fdRes
 rw [if_pos (by omega),if_pos (by omega)]
 cases l with
 | nil => exact svGie _ _ _ _ _ ⟨by omega,fun k => by simp at h;omega,fun _ => weak_tup2' (weak_agg2 (.full 3 []) (.vnil 2))⟩
 | cons y l => exact svGic _ _ _ _ _ _ _ ⟨by omega,fun k => by simp at h;omega,fun _ => ⟨by simp at hl;omega,weak_tup2' (weak_agg2 (.refl _) (.vnil 2))⟩⟩
theorem svGi_loop {g:Bool} {l:List Bk} {m:Int} {n:Nat} (hk:Sp.okBs l) (hm:1 <= m /\ m <= 9999) (hn:1 <= n) (hnn:n <= l.length):∀ (c i:Nat),i + c = l.length + 1 - n -> svGi_at g l m n i (PureQ (fdRes l m n (Sp.findF l n c i))):=by
 have hl:=hk.1
 intro c
 induction c with
 | zero =>
  intro i hi
  exact svG_copy hl (by omega) (by omega)
 | succ c ih =>
  intro i hi
  have done:∀ (j:Nat),j <= l.length + 1 -> svGj_at g l m n i j true (PureQ (fdRes l m n i)):=by
   intro j hj
   refine svGj _ _ _ _ _ _ _ _ ⟨by omega,fun h => absurd rfl h.2,fun _ => ⟨fun h => absurd rfl h,fun _ => svGz_loop hk hm hn (by omega) ?_⟩⟩
   unfold fdRes
   rw [if_neg (by omega),if_neg (by omega),Int.toNat_natCast]
   exact .refl _
  have inner:∀ (d j:Nat),j + d = l.length + 1 - n -> i + n <= j -> svGj_at g l m n i j false (PureQ (fdRes l m n (if Sp.hasRun l n i d j = true then (i:Int) else Sp.findF l n c (i + 1)))):=by
   intro d
   induction d with
   | zero =>
    intro j hj hij
    rw [Sp.hasRun,if_neg (by simp)]
    exact svGj _ _ _ _ _ _ _ _ ⟨by omega,fun h => by omega,fun _ => ⟨fun _ => ⟨by omega,ih (i + 1) (by omega)⟩,fun h => absurd (by simp) h⟩⟩
   | succ d ihd =>
    intro j hj hij
    refine svGj _ _ _ _ _ _ _ _ ⟨by omega,fun _ => ⟨⟨hk,by omega,by omega,by omega,by omega,by omega⟩,by omega,?_⟩,fun h => absurd ⟨by omega,by simp⟩ h⟩
    rw [runR_in (by omega),Sp.hasRun]
    cases hb:Sp.runB l i j n with
    | true =>
     rw [Bool.true_or,if_pos rfl]
     exact done (j + 1) (by omega)
    | false =>
     rw [Bool.false_or]
     exact ihd (j + 1) (by omega) (by omega)
  rw [Sp.findF]
  refine svGi _ _ _ _ _ _ ⟨by omega,fun _ => ?_,fun h => by omega⟩
  by_cases h2:i + 2 * n <= l.length
  ·exact inner (l.length + 1 - (i + 2 * n)) (i + n) (by omega) (by omega)
  ·have e:l.length + 1 - (i + 2 * n) = 0:=by omega
   rw [e,Sp.hasRun,if_neg (by simp)]
   exact svGj _ _ _ _ _ _ _ _ ⟨by omega,fun h => by omega,fun _ => ⟨fun _ => ⟨by omega,ih (i + 1) (by omega)⟩,fun h => absurd (by simp) h⟩⟩
theorem findF_more {l:List Bk} {n:Nat}:∀ (c d i:Nat),l.length < i + c + 2 * n -> Sp.findF l n (c + d) i = Sp.findF l n c i
 | 0,0,i,_ => rfl
 | 0,d + 1,i,h => by
  rw [show 0 + (d + 1) = d + 1 by omega,Sp.findF,Sp.findF,show l.length + 1 - (i + 2 * n) = 0 by omega,Sp.hasRun,if_neg (by simp)]
  have:=findF_more (l:=l) (n:=n) 0 d (i + 1) (by omega)
  rw [Nat.zero_add] at this
  rw [this];rfl
 | c + 1,d,i,h => by
  rw [show c + 1 + d = (c + d) + 1 by omega,Sp.findF,Sp.findF,findF_more c d (i + 1) (by omega)]
theorem ev23 (g:Bool) (l:List Bk) (m n:Int) (hk:Sp.okBs l /\ n <= 9223372036854775807):Ev M1 (.pure 23 [bsA g l,.int .i64 m,.int .i64 n]) (.tup [.agg [bsA false (Sp.fdM l m n),sbA false (Sp.fdS l m n)],.int .i64 (Sp.fdE m n)]) []:=by
 obtain ⟨hk,hnb⟩:=hk
 have hl:=hk.1
 by_cases ho:Sp.fdOk m n
 ·have ho':¬(((m < 1) \/ (m > 9999)) \/ (n < 1)):=ho
  obtain ⟨n,rfl⟩:=Int.eq_ofNat_of_zero_le (show 0 <= n by omega)
  have hres:AV.tup [.agg [bsA false (Sp.fdM l m n),sbA false (Sp.fdS l m n)],.int .i64 (Sp.fdE m n)] = fdRes l m n (Sp.fst l n):=by
   unfold Sp.fdM Sp.fdS Sp.fdE fdRes
   rw [if_pos ho,if_pos ho]
   by_cases hf:Sp.fst l n < 0
   ·rw [if_neg (fun x => x.2 hf),if_neg (fun x => x.2.2 hf),if_pos hf,if_pos hf]
   ·have h2:2 * n <= l.length:=by
     refine Classical.byContradiction fun x => hf ?_
     unfold Sp.fst
     rw [Int.toNat_natCast,show l.length + 1 - 2 * n = 0 by omega,Sp.findF];omega
    rw [if_pos ⟨by omega,hf⟩,if_pos ⟨ho,by omega,hf⟩,if_neg hf,if_neg hf,Int.toNat_natCast]
  rw [hres]
  refine call23 (svGl g l m n _ ⟨fun h => absurd h ho,fun _ => ?_⟩)
  by_cases hc:n <= l.length
  ·have:=svGi_loop (g:=g) (m:=m) hk (by omega) (by omega) hc (l.length + 1 - n) 0 (by omega)
   by_cases h2:2 * n <= l.length + 1
   ·rw [show l.length + 1 - n = (l.length + 1 - 2 * n) + n by omega,findF_more _ _ _ (by omega)] at this
    unfold Sp.fst
    rw [Int.toNat_natCast]
    exact this
   ·have e:=findF_more (l:=l) (n:=n) 0 (l.length + 1 - n) 0 (by omega)
    rw [Nat.zero_add] at e
    rw [e] at this
    unfold Sp.fst
    rw [Int.toNat_natCast,show l.length + 1 - 2 * n = 0 by omega]
    exact this
  ·have e:Sp.fst l n = -1:=by
    unfold Sp.fst
    rw [Int.toNat_natCast,show l.length + 1 - 2 * n = 0 by omega,Sp.findF]
   rw [e]
   exact svG_copy (i:=0) hl (by omega) (by omega)
 ·unfold Sp.fdM Sp.fdS Sp.fdE
  rw [if_neg ho,if_neg ho,if_neg (fun x => ho x.1)]
  have ho':((m < 1) \/ (m > 9999)) \/ (n < 1):=Classical.not_not.1 ho
  exact call23 (svGl g l m n _ ⟨fun _ => weak_tup2' (weak_agg2 (.vnil 3) (.vnil 2)),fun h => absurd ho' h⟩)
end Go.Av

namespace Go.Av
open Go.Proofs
set_option maxRecDepth 100000
def fi24:Fi:=⟨57,[.tmp 4]⟩
def kp24:List (Nat × List Nat):=[(0,[2,3]),(1,[2,3,20]),(2,[4]),(3,[2,3,5]),(4,[2,3,5,25]),(5,[2,3,5]),(6,[2,3,5,56]),(7,[4]),(8,[4])]
def fi25:Fi:=⟨28,[.cell 2 34]⟩
def kp25:List (Nat × List Nat):=[(0,[1,2]),(1,[1,2,3]),(2,[2,3,10,11,12]),(3,[2,3,10,11,12,13]),(4,[2,3,5,10,11,12]),(5,[2,3,10,11,12]),(6,[2,3,10,11,12]),(7,[2])]
def suBk_at (g:Bool) (l:List Bk) (h:Bool) (s:List Sb) (Q:AV -> Heap -> Prop):Prop:=Wp M1 (.run fi25 (atC (cd Try.f25) []) [(0,.agg [.vec g 3 (l.map Bk.a),.vec h 2 (s.map Sb.a)])] []) Q
def suBkz_at (g:Bool) (l:List Bk) (h:Bool) (s:List Sb) (n i:Int) (Q:AV -> Heap -> Prop):Prop:=Wp M1 (.run fi25 (atC (cd Try.f25) [1,1,0,1,0,0]) [(2,.ptr 0 0 0 0),(3,.ptr 1 0 0 0),(10,.vec h 2 (s.map Sb.a)),(11,.int .i64 n),(12,.int .i64 i)] [⟨[.agg [.vnil,.vnil]],2,0,false,false⟩,⟨[.agg [.vec g 3 (l.map Bk.a),.vnil]],2,0,false,false⟩]) Q
def suBka_at (g:Bool) (l:List Bk) (h:Bool) (s:List Sb) (n i:Int) (o:List Sb) (v:Nat) (Q:AV -> Heap -> Prop):Prop:=Wp M1 (.run fi25 (atC (cd Try.f25) [1,1,0,1,0,0]) [(2,.ptr 0 0 0 0),(3,.ptr 1 0 0 0),(10,.vec h 2 (s.map Sb.a)),(11,.int .i64 n),(12,.int .i64 i)] [⟨[.agg [.vnil,.vnil]],2,0,false,false⟩,⟨[.agg [.vec g 3 (l.map Bk.a),.row 2 v]],2,0,false,false⟩,⟨o.map Sb.a,2,v,false,true⟩]) Q
def suPs_at (g:Bool) (l:List Bk) (h:Bool) (s:List Sb) (g2 h2:Bool) (l2:List Bk) (s2:List Sb) (Q:AV -> Heap -> Prop):Prop:=Wp M1 (.run fi24 (atC (cd Try.f24) []) [(0,.agg [.vec g 3 (l.map Bk.a),.vec h 2 (s.map Sb.a)]),(1,.agg [.vec g2 3 (l2.map Bk.a),.vec h2 2 (s2.map Sb.a)])] []) Q
def suPsa_at (g:Bool) (l:List Bk) (h:Bool) (s:List Sb) (g2 h2:Bool) (l2:List Bk) (s2:List Sb) (i:Int) (Q:AV -> Heap -> Prop):Prop:=Wp M1 (.run fi24 (atC (cd Try.f24) [1,1,0,1,0,0]) [(2,.ptr 0 0 0 0),(3,.ptr 1 0 0 0),(5,.int .i64 i)] [⟨[.agg [.vec g 3 (l.map Bk.a),.vec h 2 (s.map Sb.a)]],2,0,false,false⟩,⟨[.agg [.vec g2 3 (l2.map Bk.a),.vec h2 2 (s2.map Sb.a)]],2,0,false,false⟩]) Q
theorem call24 {args:List AV} {d:AV} (h:wc M1 fi24 Try.f24 args d):Ev M1 (.pure 24 args) d []:=pcl _ _ (by kernel_rfl) h
theorem call25 {args:List AV} {d:AV} (h:wc M1 fi25 Try.f25 args d):Ev M1 (.pure 25 args) d []:=pcl _ _ (by kernel_rfl) h
theorem suBk (g:Bool) (l:List Bk) (h:Bool) (s:List Sb)  (dq:AV) (H :
  suBkz_at (g) (l) (h) (s) ((↑s.length:Int)) (0) (PureQ dq)) :
 suBk_at g l h s (PureQ dq):=by
 unfold suBk_at
 have w1:(List.map Sb.a s).length = s.length:=List.length_map ..
 exact path_wp (G:=given kp25 [] []) 1000 [] ⟨(atC (cd Try.f25) [1,1,0,1,0,0]),[(2,AV.ptr 1 0 0 0),(3,AV.ptr 2 0 0 0),(10,AV.vec h 2 (List.map Sb.a s)),(11,vi (↑(List.map Sb.a s).length:Int)),(12,vi 0)],[⟨[ag [AV.vec g 3 (List.map Bk.a l),AV.vec h 2 (List.map Sb.a s)]],2,0,false,false⟩,⟨[ag [AV.vnil,AV.vnil]],2,0,false,false⟩,⟨[ag [AV.vec g 3 (List.map Bk.a l),AV.vnil]],2,0,false,false⟩],_,[],_⟩ (by kernel_rfl) (bc rfl (bc rfl (bc rfl b0))) q0 c0 (by (try rw [w1]);all_goals exact wp_narrow [1,2] (by kernel_rfl) H)
theorem suBkz (g:Bool) (l:List Bk) (h:Bool) (s:List Sb) (n i:Int)  (dq:AV) (H :
  ((i < n) -> (0 <= i) /\
   (i.toNat < s.length) /\
   (-9223372036854775808 <= i + 1 /\ i + 1 <= 9223372036854775807) /\
   suBka_at (g) (l) (h) (s) (n) (i + 1) ([{ n:=(s.getD i.toNat default).n,f:=(s.getD i.toNat default).2,bl:=(s.getD i.toNat default).3 }]) (0) (PureQ dq)) /\
  (¬(i < n) -> Weak (ag [AV.vec g 3 (List.map Bk.a l),AV.vnil]) dq)) :
 suBkz_at g l h s n i (PureQ dq):=by
 unfold suBkz_at
 rcases xm (i < n) with d2 | d2
 ·have H:=H.1 d2
  obtain ⟨k4,H⟩:=H
  have w5:(List.map Sb.a s).length = s.length:=List.length_map ..
  have i6:(decide (i.toNat < (List.map Sb.a s).length)) = true ↔ (i.toNat < s.length):=(by (try rw [w5]);all_goals exact i_dec)
  obtain ⟨k7,H⟩:=H
  obtain ⟨k8,H⟩:=H
  have w9:wi (i + 1) = i + 1:=wI64 k8
  have w10:[ag [vi (s.getD i.toNat default).n,AV.vec (s.getD i.toNat default).2 3 (List.map Bk.a (s.getD i.toNat default).3)]] = List.map Sb.a [{ n:=(s.getD i.toNat default).n,f:=(s.getD i.toNat default).2,bl:=(s.getD i.toNat default).3 }]:=rfl
  exact path_wp (G:=given kp25 [(4,1,.elem (ag [vi (s.getD i.toNat default).n,AV.vec (s.getD i.toNat default).2 3 (List.map Bk.a (s.getD i.toNat default).3)]))] []) 1000 [true] ⟨(atC (cd Try.f25) [1,1,0,1,0,0]),[(2,AV.ptr 0 0 0 0),(3,AV.ptr 1 0 0 0),(10,AV.vec h 2 (List.map Sb.a s)),(11,vi n),(12,vi (wi (i + 1)))],[⟨[ag [AV.vnil,AV.vnil]],2,0,false,false⟩,⟨[ag [AV.vec g 3 (List.map Bk.a l),AV.row 3 0]],2,0,false,false⟩,⟨[ag [vi (s.getD i.toNat default).n,AV.vec (s.getD i.toNat default).2 3 (List.map Bk.a (s.getD i.toNat default).3)]],2,0,false,false⟩,⟨[ag [vi (s.getD i.toNat default).n,AV.vec (s.getD i.toNat default).2 3 (List.map Bk.a (s.getD i.toNat default).3)]],2,0,false,true⟩],_,[((List.map Sb.a s).get?Internal i.toNat = some (ag [vi (s.getD i.toNat default).n,AV.vec (s.getD i.toNat default).2 3 (List.map Bk.a (s.getD i.toNat default).3)]))],_⟩ (by kernel_rfl) (bc (beq_t (i_dec.2 d2)) (bc (i_dec.2 k4) (bc (i6.2 k7) (bc rfl (bc rfl (bc rfl (bc rfl (bc rfl (bc rfl b0))))))))) (qc (el_map k7) q0) c0 (by (try rw [w9]);(try rw [w10]);all_goals exact wp_narrow [0,1,3] (by kernel_rfl) H)
 ·have H:=H.2 d2
  exact path_rq (G:=given kp25 [] []) 1000 [false] (ag [AV.vec g 3 (List.map Bk.a l),AV.vnil]) (by kernel_rfl) (bc (beq_f (fun h => d2 (i_dec.1 h))) (bc rfl (bc rfl b0))) q0 c0 H
theorem suBka (g:Bool) (l:List Bk) (h:Bool) (s:List Sb) (n i:Int) (o:List Sb) (v:Nat)  (dq:AV) (H :
  ((i < n) -> (0 <= i) /\
   (i.toNat < s.length) /\
   ((o.length + 1) * 32 <= 1099511627776) /\
   (-9223372036854775808 <= i + 1 /\ i + 1 <= 9223372036854775807) /\
   suBka_at (g) (l) (h) (s) (n) (i + 1) (o ++ [{ n:=(s.getD i.toNat default).n,f:=(s.getD i.toNat default).2,bl:=(s.getD i.toNat default).3 }]) (v + 1) (PureQ dq)) /\
  (¬(i < n) -> Weak (ag [AV.vec g 3 (List.map Bk.a l),AV.vec false 2 (List.map Sb.a o)]) dq)) :
 suBka_at g l h s n i o v (PureQ dq):=by
 unfold suBka_at
 rcases xm (i < n) with d2 | d2
 ·have H:=H.1 d2
  obtain ⟨k4,H⟩:=H
  have w5:(List.map Sb.a s).length = s.length:=List.length_map ..
  have i6:(decide (i.toNat < (List.map Sb.a s).length)) = true ↔ (i.toNat < s.length):=(by (try rw [w5]);all_goals exact i_dec)
  obtain ⟨k7,H⟩:=H
  have w8:(List.map Sb.a o).length = o.length:=List.length_map ..
  have i9:(decide (((List.map Sb.a o).length + 1) * 32 <= 1099511627776)) = true ↔ ((o.length + 1) * 32 <= 1099511627776):=(by (try rw [w8]);all_goals exact i_dec)
  obtain ⟨k10,H⟩:=H
  have w11:List.map Sb.a o ++ [ag [vi (s.getD i.toNat default).n,AV.vec (s.getD i.toNat default).2 3 (List.map Bk.a (s.getD i.toNat default).3)]] = List.map Sb.a (o ++ [{ n:=(s.getD i.toNat default).n,f:=(s.getD i.toNat default).2,bl:=(s.getD i.toNat default).3 }]):=(lm_app rfl rfl)
  obtain ⟨k12,H⟩:=H
  have w13:wi (i + 1) = i + 1:=wI64 k12
  exact path_wp (G:=given kp25 [(4,1,.elem (ag [vi (s.getD i.toNat default).n,AV.vec (s.getD i.toNat default).2 3 (List.map Bk.a (s.getD i.toNat default).3)]))] []) 1000 [true] ⟨(atC (cd Try.f25) [1,1,0,1,0,0]),[(2,AV.ptr 0 0 0 0),(3,AV.ptr 1 0 0 0),(10,AV.vec h 2 (List.map Sb.a s)),(11,vi n),(12,vi (wi (i + 1)))],[⟨[ag [AV.vnil,AV.vnil]],2,0,false,false⟩,⟨[ag [AV.vec g 3 (List.map Bk.a l),AV.row 2 (v + 1)]],2,0,false,false⟩,⟨List.map Sb.a o ++ [ag [vi (s.getD i.toNat default).n,AV.vec (s.getD i.toNat default).2 3 (List.map Bk.a (s.getD i.toNat default).3)]],2,v + 1,false,true⟩,⟨[ag [vi (s.getD i.toNat default).n,AV.vec (s.getD i.toNat default).2 3 (List.map Bk.a (s.getD i.toNat default).3)]],2,0,false,false⟩],[(decide (i < n)) == true,decide (0 <= i),decide (i.toNat < (List.map Sb.a s).length),true,true,true,true,v == v,decide (((List.map Sb.a o).length + 1) * 32 <= 1099511627776),true],[((List.map Sb.a s).get?Internal i.toNat = some (ag [vi (s.getD i.toNat default).n,AV.vec (s.getD i.toNat default).2 3 (List.map Bk.a (s.getD i.toNat default).3)]))],_⟩ (by kernel_rfl) (bc (beq_t (i_dec.2 d2)) (bc (i_dec.2 k4) (bc (i6.2 k7) (bc rfl (bc rfl (bc rfl (bc rfl (bc (beq_self_eq_true _) (bc (i9.2 k10) (bc rfl b0)))))))))) (qc (el_map k7) q0) c0 (by (try rw [w11]);(try rw [w13]);all_goals exact wp_narrow [0,1,2] (by kernel_rfl) H)
 ·have H:=H.2 d2
  exact path_ret (G:=given kp25 [] []) 1000 [false] (k:=((atC (cd Try.f25) [1,1,1,1])).tail) (env':=[(2,AV.ptr 0 0 0 0)]) (L':=[⟨[ag [AV.vec g 3 (List.map Bk.a l),AV.row 2 v]],2,0,false,false⟩,⟨[ag [AV.vec g 3 (List.map Bk.a l),AV.row 2 v]],2,0,false,false⟩,⟨List.map Sb.a o,2,v,false,true⟩]) (asm:=[(decide (i < n)) == false,true,true]) (eqs:=[]) (calls:=[]) (ag [AV.vec g 3 (List.map Bk.a l),AV.row 2 v]) (by kernel_rfl) (by kernel_rfl) (allB_cons (beq_f (fun h => d2 (i_dec.1 h))) (allB_cons rfl (allB_cons rfl allB_nil))) allP_nil allC_nil (pq_weak (d:=(ag [AV.vec g 3 (List.map Bk.a l),AV.vec false 2 (List.map Sb.a o)])) (bs:=[v == v]) (by kernel_rfl) (by kernel_rfl) (allB_cons (beq_self_eq_true _) allB_nil) (by kernel_rfl) H)
theorem suPs (g:Bool) (l:List Bk) (h:Bool) (s:List Sb) (g2 h2:Bool) (l2:List Bk) (s2:List Sb)  (dq:AV) (H :
  (Sp.okBs l) /\
  (((¬(Sp.sameL l l2 = true)) \/ (¬(↑s.length:Int) = (↑s2.length:Int))) -> vb false = dq) /\
  (¬((¬(Sp.sameL l l2 = true)) \/ (¬(↑s.length:Int) = (↑s2.length:Int))) -> suPsa_at (g) (l) (h) (s) (g2) (h2) (l2) (s2) (0) (PureQ dq))) :
 suPs_at g l h s g2 h2 l2 s2 (PureQ dq):=by
 unfold suPs_at
 obtain ⟨k1,H⟩:=H
 have w2:(List.map Sb.a s).length = s.length:=List.length_map ..
 have w3:(List.map Sb.a s2).length = s2.length:=List.length_map ..
 have i4:(bif !Sp.sameL l l2 then true else (↑(List.map Sb.a s).length:Int) != (↑(List.map Sb.a s2).length:Int)) = true ↔ ((¬(Sp.sameL l l2 = true)) \/ (¬(↑s.length:Int) = (↑s2.length:Int))):=(by (try rw [w2]);(try rw [w3]);all_goals exact (i_bor (i_not (i_var _)) i_ne))
 refine path_wp (G:=given kp24 [(1,4,.call (vb (Sp.sameL l l2)) none)] []) 5 [] ⟨(atC (cd Try.f24) [1,0,1]),[(2,AV.ptr 0 0 0 0),(3,AV.ptr 1 0 0 0),(20,vb (bif !Sp.sameL l l2 then true else (↑(List.map Sb.a s).length:Int) != (↑(List.map Sb.a s2).length:Int)))],[⟨[ag [AV.vec g 3 (List.map Bk.a l),AV.vec h 2 (List.map Sb.a s)]],2,0,false,false⟩,⟨[ag [AV.vec g2 3 (List.map Bk.a l2),AV.vec h2 2 (List.map Sb.a s2)]],2,0,false,false⟩],[true,true,!((!Sp.sameL l l2) == false && true) || true,!((!Sp.sameL l l2) == false && true) || true],[],_⟩ (by kernel_rfl) (bc rfl (bc rfl (bc (Bool.or_true _) (bc (Bool.or_true _) b0)))) q0 (ce (@ev18 (g) (g2) (l) (l2) k1) c0) ?_
 rcases xm ((¬(Sp.sameL l l2 = true)) \/ (¬(↑s.length:Int) = (↑s2.length:Int))) with d5 | d5
 ·have H:=H.1 d5
  exact path_re (G:=given kp24 [] []) 1000 [true] (vb false) (by kernel_rfl) (bc (beq_t (i4.2 d5)) b0) q0 c0 H
 ·have H:=H.2 d5
  exact path_wp (G:=given kp24 [] []) 1000 [false] ⟨(atC (cd Try.f24) [1,1,0,1,0,0]),[(2,AV.ptr 0 0 0 0),(3,AV.ptr 1 0 0 0),(5,vi 0)],[⟨[ag [AV.vec g 3 (List.map Bk.a l),AV.vec h 2 (List.map Sb.a s)]],2,0,false,false⟩,⟨[ag [AV.vec g2 3 (List.map Bk.a l2),AV.vec h2 2 (List.map Sb.a s2)]],2,0,false,false⟩],_,[],_⟩ (by kernel_rfl) (bc (beq_f (fun h => d5 (i4.1 h))) b0) q0 c0 (H)
noncomputable abbrev zSpL1 (s:List Sb) (i:Int) (s2:List Sb):=bif (s.getD i.toNat default).n != (s2.getD i.toNat default).n then true else !Sp.sameL (s.getD i.toNat default).3 (s2.getD i.toNat default).3
theorem suPsa (g:Bool) (l:List Bk) (h:Bool) (s:List Sb) (g2 h2:Bool) (l2:List Bk) (s2:List Sb) (i:Int)  (dq:AV) (H :
  ((i < (↑s.length:Int)) -> ((¬(¬(s.getD i.toNat default).n = (s2.getD i.toNat default).n)) -> (Sp.okBs (s.getD i.toNat default).3)) /\
   (0 <= i) /\
   (i.toNat < s.length) /\
   (i.toNat < s2.length) /\
   (((¬(s.getD i.toNat default).n = (s2.getD i.toNat default).n) \/ (¬(Sp.sameL (s.getD i.toNat default).3 (s2.getD i.toNat default).3 = true))) -> vb false = dq) /\
   (¬((¬(s.getD i.toNat default).n = (s2.getD i.toNat default).n) \/ (¬(Sp.sameL (s.getD i.toNat default).3 (s2.getD i.toNat default).3 = true))) -> (-9223372036854775808 <= i + 1 /\ i + 1 <= 9223372036854775807) /\
    suPsa_at (g) (l) (h) (s) (g2) (h2) (l2) (s2) (i + 1) (PureQ dq))) /\
  (¬(i < (↑s.length:Int)) -> vb true = dq)) :
 suPsa_at g l h s g2 h2 l2 s2 i (PureQ dq):=by
 unfold suPsa_at
 have w1:(List.map Sb.a s).length = s.length:=List.length_map ..
 have i2:(decide (i < (↑(List.map Sb.a s).length:Int))) = true ↔ (i < (↑s.length:Int)):=(by (try rw [w1]);all_goals exact i_dec)
 rcases xm (i < (↑s.length:Int)) with d3 | d3
 ·have H:=H.1 d3
  obtain ⟨k5,H⟩:=H
  obtain ⟨k7,H⟩:=H
  have i8:(decide (i.toNat < (List.map Sb.a s).length)) = true ↔ (i.toNat < s.length):=(by (try rw [w1]);all_goals exact i_dec)
  obtain ⟨k9,H⟩:=H
  have w11:(List.map Sb.a s2).length = s2.length:=List.length_map ..
  have i12:(decide (i.toNat < (List.map Sb.a s2).length)) = true ↔ (i.toNat < s2.length):=(by (try rw [w11]);all_goals exact i_dec)
  obtain ⟨k13,H⟩:=H
  have i15:(!(((s.getD i.toNat default).n != (s2.getD i.toNat default).n) == false && true) || decide (i.toNat < (List.map Sb.a s).length)) = true ↔ ((¬(¬(s.getD i.toNat default).n = (s2.getD i.toNat default).n)) -> (i.toNat < s.length)):=(by (try rw [w1]);all_goals exact (i_imp (i_at (i_bf i_ne)) i_dec))
  have i17:(!(((s.getD i.toNat default).n != (s2.getD i.toNat default).n) == false && true) || decide (i.toNat < (List.map Sb.a s2).length)) = true ↔ ((¬(¬(s.getD i.toNat default).n = (s2.getD i.toNat default).n)) -> (i.toNat < s2.length)):=(by (try rw [w11]);all_goals exact (i_imp (i_at (i_bf i_ne)) i_dec))
  refine path_wp (G:=given kp24 [(6,5,.elem (ag [vi (s.getD i.toNat default).n,AV.vec (s.getD i.toNat default).2 3 (List.map Bk.a (s.getD i.toNat default).3)])),(6,11,.elem (ag [vi (s2.getD i.toNat default).n,AV.vec (s2.getD i.toNat default).2 3 (List.map Bk.a (s2.getD i.toNat default).3)])),(6,19,.elem (ag [vi (s.getD i.toNat default).n,AV.vec (s.getD i.toNat default).2 3 (List.map Bk.a (s.getD i.toNat default).3)])),(6,25,.elem (ag [vi (s2.getD i.toNat default).n,AV.vec (s2.getD i.toNat default).2 3 (List.map Bk.a (s2.getD i.toNat default).3)])),(6,26,.call (vb (Sp.sameL (s.getD i.toNat default).3 (s2.getD i.toNat default).3)) none)] []) 9 [true] ⟨(atC (cd Try.f24) [1,1,0,1,0,0,1,0,0,1]),[(2,AV.ptr 0 0 0 0),(3,AV.ptr 1 0 0 0),(5,vi i),(56,vb (zSpL1 s i s2))],[⟨[ag [AV.vec g 3 (List.map Bk.a l),AV.vec h 2 (List.map Sb.a s)]],2,0,false,false⟩,⟨[ag [AV.vec g2 3 (List.map Bk.a l2),AV.vec h2 2 (List.map Sb.a s2)]],2,0,false,false⟩],[true,(decide (i < (↑(List.map Sb.a s).length:Int))) == true,true,decide (0 <= i),decide (i.toNat < (List.map Sb.a s).length),true,decide (0 <= i),decide (i.toNat < (List.map Sb.a s2).length),!(((s.getD i.toNat default).n != (s2.getD i.toNat default).n) == false && true) || true,!(((s.getD i.toNat default).n != (s2.getD i.toNat default).n) == false && true) || decide (0 <= i),!(((s.getD i.toNat default).n != (s2.getD i.toNat default).n) == false && true) || decide (i.toNat < (List.map Sb.a s).length),!(((s.getD i.toNat default).n != (s2.getD i.toNat default).n) == false && true) || true,!(((s.getD i.toNat default).n != (s2.getD i.toNat default).n) == false && true) || decide (0 <= i),!(((s.getD i.toNat default).n != (s2.getD i.toNat default).n) == false && true) || decide (i.toNat < (List.map Sb.a s2).length)],[((List.map Sb.a s).get?Internal i.toNat = some (ag [vi (s.getD i.toNat default).n,AV.vec (s.getD i.toNat default).2 3 (List.map Bk.a (s.getD i.toNat default).3)])),((List.map Sb.a s2).get?Internal i.toNat = some (ag [vi (s2.getD i.toNat default).n,AV.vec (s2.getD i.toNat default).2 3 (List.map Bk.a (s2.getD i.toNat default).3)])),((((s.getD i.toNat default).n != (s2.getD i.toNat default).n) == false && true) = true -> (List.map Sb.a s).get?Internal i.toNat = some (ag [vi (s.getD i.toNat default).n,AV.vec (s.getD i.toNat default).2 3 (List.map Bk.a (s.getD i.toNat default).3)])),((((s.getD i.toNat default).n != (s2.getD i.toNat default).n) == false && true) = true -> (List.map Sb.a s2).get?Internal i.toNat = some (ag [vi (s2.getD i.toNat default).n,AV.vec (s2.getD i.toNat default).2 3 (List.map Bk.a (s2.getD i.toNat default).3)]))],[⟨((s.getD i.toNat default).n != (s2.getD i.toNat default).n) == false && true && true,false,18,[AV.vec (s.getD i.toNat default).2 3 (List.map Bk.a (s.getD i.toNat default).3),AV.vec (s2.getD i.toNat default).2 3 (List.map Bk.a (s2.getD i.toNat default).3)],[],vb (Sp.sameL (s.getD i.toNat default).3 (s2.getD i.toNat default).3),[]⟩]⟩ (by kernel_rfl) (bc rfl (bc (beq_t (i2.2 d3)) (bc rfl (bc (i_dec.2 k7) (bc (i8.2 k9) (bc rfl (bc (i_dec.2 k7) (bc (i12.2 k13) (bc (Bool.or_true _) (bc ((i_imp (i_at (i_bf i_ne)) i_dec).2 (fun _ => k7)) (bc (i15.2 (fun _ => k9)) (bc (Bool.or_true _) (bc ((i_imp (i_at (i_bf i_ne)) i_dec).2 (fun _ => k7)) (bc (i17.2 (fun _ => k13)) b0)))))))))))))) (qc (el_map k9) (qc (el_map k13) (qc (fun h => el_map k9) (qc (fun h => el_map k13) q0)))) (cc (fun hc => ((@ev18 ((s.getD i.toNat default).2) ((s2.getD i.toNat default).2) ((s.getD i.toNat default).3) ((s2.getD i.toNat default).3) (k5 ((i_at (i_at (i_bf i_ne))).1 hc))):Ev M1 (Conf.pure 18 [AV.vec (s.getD i.toNat default).2 3 (List.map Bk.a (s.getD i.toNat default).3),AV.vec (s2.getD i.toNat default).2 3 (List.map Bk.a (s2.getD i.toNat default).3)]) (vb (Sp.sameL (s.getD i.toNat default).3 (s2.getD i.toNat default).3)) [])) c0) ?_
  rcases xm ((¬(s.getD i.toNat default).n = (s2.getD i.toNat default).n) \/ (¬(Sp.sameL (s.getD i.toNat default).3 (s2.getD i.toNat default).3 = true))) with d21 | d21
  ·have H:=H.1 d21
   exact path_re (G:=given kp24 [] []) 1000 [true] (asm:=[(zSpL1 s i s2) == true]) (vb false) (by kernel_rfl) (bc (beq_t ((i_bor i_ne (i_not (i_var _))).2 d21)) b0) q0 c0 H
  ·have H:=H.2 d21
   obtain ⟨k22,H⟩:=H
   have w23:wi (i + 1) = i + 1:=wI64 k22
   exact path_wp (G:=given kp24 [] []) 1000 [false] ⟨(atC (cd Try.f24) [1,1,0,1,0,0]),[(2,AV.ptr 0 0 0 0),(3,AV.ptr 1 0 0 0),(5,vi (wi (i + 1)))],[⟨[ag [AV.vec g 3 (List.map Bk.a l),AV.vec h 2 (List.map Sb.a s)]],2,0,false,false⟩,⟨[ag [AV.vec g2 3 (List.map Bk.a l2),AV.vec h2 2 (List.map Sb.a s2)]],2,0,false,false⟩],[(zSpL1 s i s2) == false],[],_⟩ (by kernel_rfl) (bc (beq_f (fun h => d21 ((i_bor i_ne (i_not (i_var _))).1 h))) b0) q0 c0 (by (try rw [w23]);all_goals exact H)
 ·have H:=H.2 d3
  exact path_re (G:=given kp24 [] []) 1000 [false] (vb true) (by kernel_rfl) (bc rfl (bc (beq_f (fun h => d3 (i2.1 h))) b0)) q0 c0 H
end Go.Av

namespace Go.Av
open Go.Proofs
abbrev pgA (g h:Bool) (l:List Bk) (s:List Sb):AV:=.agg [bsA g l,sbA h s]
def Sb.key (s:Sb):Int × List (Bool × List Wo × List UInt8):=(s.n,s.bl.map Bk.key)
namespace Sp
def samP (l l2:List Bk) (s s2:List Sb):Bool:=sameL l l2 && decide (s.map Sb.key = s2.map Sb.key)
def okPs (l:List Bk) (s:List Sb):Prop:=okBs l /\ s.length <= 1000000 /\ ∀ x ∈ s,okBs x.bl
end Sp
theorem suBka_loop {g h:Bool} {l:List Bk} {s:List Sb} {dq:AV} (hl:s.length <= 1000000):∀ (k i:Nat) (o:List Sb) (v:Nat),i + k = s.length -> o.length <= i -> Weak (.agg [bsA g l,sbA false (o ++ s.drop i)]) dq -> suBka_at g l h s s.length i o v (PureQ dq):=by
 intro k
 induction k with
 | zero =>
  intro i o v hi ho hq
  rw [List.drop_eq_nil_of_le (by omega),List.append_nil] at hq
  exact suBka _ _ _ _ _ _ _ _ _ ⟨fun h => by omega,fun _ => hq⟩
 | succ k ih =>
  intro i o v hi ho hq
  rw [drop_getD (show i < s.length by omega)] at hq
  refine suBka _ _ _ _ _ _ _ _ _ ⟨fun _ => ?_,fun h => by omega⟩
  rw [Int.toNat_natCast]
  exact ⟨by omega,by omega,by omega,by omega,ih (i + 1) _ _ (by omega) (by simp;omega) (by rw [List.append_assoc];exact hq)⟩
theorem ev25 (g h:Bool) (l:List Bk) (s:List Sb) (hl:Sp.few6 s.length):Ev M1 (.pure 25 [pgA g h l s]) (pgA g false l s) []:=by
 unfold Sp.few6 at hl
 refine call25 (suBk g l h s _ ?_)
 cases s with
 | nil => exact suBkz _ _ _ _ _ _ _ ⟨fun h => by simp at h,fun _ => weak_agg2 (.refl _) (.vnil 2)⟩
 | cons y s =>
  refine suBkz _ _ _ _ _ _ _ ⟨fun _ => ?_,fun h => by simp at h⟩
  exact ⟨by omega,by simp,by omega,suBka_loop hl s.length 1 [y] 0 (by simp;omega) (by simp) (.refl _)⟩
theorem suPsa_loop {g h g2 h2:Bool} {l l2:List Bk} {s s2:List Sb} {dq:AV} (hk:s.length <= 1000000 /\ ∀ x ∈ s,Sp.okBs x.bl) (he:s.length = s2.length):∀ (k i:Nat),i + k = s.length -> AV.bool (decide ((s.drop i).map Sb.key = (s2.drop i).map Sb.key)) = dq -> suPsa_at g l h s g2 h2 l2 s2 i (PureQ dq):=by
 have hl:=hk.1
 intro k
 induction k with
 | zero =>
  intro i hi hq
  rw [List.drop_eq_nil_of_le (by omega),List.drop_eq_nil_of_le (by omega)] at hq
  exact suPsa _ _ _ _ _ _ _ _ _ _ ⟨fun h => by omega,fun _ => hq⟩
 | succ k ih =>
  intro i hi hq
  have hm:=hk.2 _ (getD_mem (show i < s.length by omega))
  rw [drop_getD (show i < s.length by omega),drop_getD (show i < s2.length by omega),List.map_cons,List.map_cons] at hq
  refine suPsa _ _ _ _ _ _ _ _ _ _ ⟨fun _ => ?_,fun h => by omega⟩
  rw [Int.toNat_natCast]
  have hkey:(s.getD i default).key = (s2.getD i default).key ↔ (s.getD i default).n = (s2.getD i default).n /\ Sp.sameL (s.getD i default).bl (s2.getD i default).bl = true:=by
   unfold Sb.key Sp.sameL
   rw [Prod.mk.injEq,decide_eq_true_eq]
  refine ⟨fun _ => hm,by omega,by omega,by omega,fun h => ?_,fun h => ⟨by omega,ih (i + 1) (by omega) ?_⟩⟩
  ·rw [decide_eq_false (fun e => by
    obtain ⟨k1,k2⟩:=hkey.1 (List.cons.inj e).1
    exact h.elim (fun x => x k1) (fun x => x k2))] at hq
   exact hq
  ·rw [<- hq]
   congr 1
   rw [decide_eq_decide]
   have:=hkey.2 ⟨Classical.byContradiction fun x => h (.inl x),Classical.byContradiction fun x => h (.inr x)⟩
   rw [this];simp
theorem ev24 (g h g2 h2:Bool) (l l2:List Bk) (s s2:List Sb) (hk:Sp.okPs l s):Ev M1 (.pure 24 [pgA g h l s,pgA g2 h2 l2 s2]) (.bool (Sp.samP l l2 s s2)) []:=by
 obtain ⟨k1,k2⟩:=hk
 unfold Sp.samP
 refine call24 (suPs g l h s g2 h2 l2 s2 _ ⟨k1,fun x => ?_,fun x => suPsa_loop k2 ?_ s.length 0 (by omega) ?_⟩)
 ·congr 1
  rw [Eq.comm,Bool.and_eq_false_iff]
  rcases x with x | x
  ·exact .inl (by simpa using x)
  ·exact .inr (decide_eq_false fun e => x (by have:=congrArg List.length e;simp only [List.length_map] at this;omega))
 ·have:¬¬(s.length:Int) = s2.length:=fun y => x (.inr y)
  omega
 ·have:Sp.sameL l l2 = true:=Classical.byContradiction fun y => x (.inl y)
  rw [this,Bool.true_and];rfl
theorem samP_refl (l:List Bk) (s:List Sb):Sp.samP l l s s = true:=by
 unfold Sp.samP Sp.sameL
 simp
end Go.Av

namespace Go.Av
open Go.Proofs
set_option maxRecDepth 100000
def fi5:Fi:=⟨43,[.tmp 6]⟩
def kp5:List (Nat × List Nat):=[(0,[0,1,2]),(1,[0,1,2,17]),(2,[6]),(3,[0,1,2,7,8]),(4,[7,8,9,10]),(5,[6])]
def suFf_at (l:List Bk) (m n:Int) (Q:AV -> Heap -> Prop):Prop:=Wp M1 (.run fi5 (atC (cd Try.f5) []) [(0,.vec false 3 (l.map Bk.a)),(1,.int .i64 m),(2,.int .i64 n)] []) Q
theorem call5 {args:List AV} {d:AV} (h:wc M1 fi5 Try.f5 args d):Ev M1 (.pure 5 args) d []:=pcl _ _ (by kernel_rfl) h
theorem suFf (l:List Bk) (m n:Int)  (dq:AV) (H :
  (Sp.mO 40) /\
  ((¬(Sp.vals l 40 = true)) -> vb true = dq) /\
  (¬(¬(Sp.vals l 40 = true)) -> (Sp.few6 l.length) /\
   (Sp.okBs l) /\
   (Sp.okBs l /\ n <= 9223372036854775807) /\
   ((Sp.fdE m n = Sp.fdE m n) -> (Sp.few6 (Sp.fdS l m n).length)) /\
   ((Sp.fdE m n = Sp.fdE m n) -> (Sp.okPs (Sp.fdM l m n) (Sp.fdS l m n))) /\
   vb (bif Sp.fdE m n == Sp.fdE m n then Sp.samP (Sp.fdM l m n) (Sp.fdM l m n) (Sp.fdS l m n) (Sp.fdS l m n) else false) = dq)) :
 suFf_at l m n (PureQ dq):=by
 unfold suFf_at
 obtain ⟨k1,H⟩:=H
 refine path_wp (G:=given kp5 [(1,0,.call (vb true) none),(1,4,.call (vb (Sp.vals l 40)) none)] []) 5 [] ⟨(atC (cd Try.f5) [1,0,1]),[(0,AV.vec false 3 (List.map Bk.a l)),(1,vi m),(2,vi n),(17,vb !Sp.vals l 40)],[],_,[],_⟩ (by kernel_rfl) b0 q0 (ce (@ev11 ) (ce (@ev12 (false) (l) (40) k1) c0)) ?_
 rcases xm (¬(Sp.vals l 40 = true)) with d3 | d3
 ·have H:=H.1 d3
  exact path_re (G:=given kp5 [(2,0,.call (vb true) none)] []) 1000 [true] (asm:=[(!Sp.vals l 40) == true]) (vb true) (by kernel_rfl) (bc (beq_t ((i_not (i_var _)).2 d3)) b0) q0 (ce (@ev11 ) c0) H
 ·have H:=H.2 d3
  obtain ⟨k4,H⟩:=H
  obtain ⟨k5,H⟩:=H
  obtain ⟨k6,H⟩:=H
  obtain ⟨k8,H⟩:=H
  obtain ⟨k10,H⟩:=H
  exact path_re (G:=given kp5 [(3,1,.call (AV.vec false 3 (List.map Bk.a l)) none),(3,4,.call (tu [ag [AV.vec false 3 (List.map Bk.a (Sp.fdM l m n)),AV.vec false 2 (List.map Sb.a (Sp.fdS l m n))],vi (Sp.fdE m n)]) none),(4,3,.call (tu [ag [AV.vec false 3 (List.map Bk.a (Sp.fdM l m n)),AV.vec false 2 (List.map Sb.a (Sp.fdS l m n))],vi (Sp.fdE m n)]) none),(5,5,.call (ag [AV.vec false 3 (List.map Bk.a (Sp.fdM l m n)),AV.vec false 2 (List.map Sb.a (Sp.fdS l m n))]) none),(5,7,.call (vb (Sp.samP (Sp.fdM l m n) (Sp.fdM l m n) (Sp.fdS l m n) (Sp.fdS l m n))) none)] []) 1000 [false] (asm:=[(!Sp.vals l 40) == false,true,true,!((Sp.fdE m n == Sp.fdE m n) == true && true) || true,!((Sp.fdE m n == Sp.fdE m n) == true && true) || true]) (calls:=[⟨true,false,22,[AV.vec false 3 (List.map Bk.a l)],[],AV.vec false 3 (List.map Bk.a l),[]⟩,⟨true,false,21,[AV.vec false 3 (List.map Bk.a l),vi m,vi n],[],tu [ag [AV.vec false 3 (List.map Bk.a (Sp.fdM l m n)),AV.vec false 2 (List.map Sb.a (Sp.fdS l m n))],vi (Sp.fdE m n)],[]⟩,⟨true,false,23,[AV.vec false 3 (List.map Bk.a l),vi m,vi n],[],tu [ag [AV.vec false 3 (List.map Bk.a (Sp.fdM l m n)),AV.vec false 2 (List.map Sb.a (Sp.fdS l m n))],vi (Sp.fdE m n)],[]⟩,⟨(Sp.fdE m n == Sp.fdE m n) == true && true && true,false,25,[ag [AV.vec false 3 (List.map Bk.a (Sp.fdM l m n)),AV.vec false 2 (List.map Sb.a (Sp.fdS l m n))]],[],ag [AV.vec false 3 (List.map Bk.a (Sp.fdM l m n)),AV.vec false 2 (List.map Sb.a (Sp.fdS l m n))],[]⟩,⟨(Sp.fdE m n == Sp.fdE m n) == true && true && true,false,24,[ag [AV.vec false 3 (List.map Bk.a (Sp.fdM l m n)),AV.vec false 2 (List.map Sb.a (Sp.fdS l m n))],ag [AV.vec false 3 (List.map Bk.a (Sp.fdM l m n)),AV.vec false 2 (List.map Sb.a (Sp.fdS l m n))]],[],vb (Sp.samP (Sp.fdM l m n) (Sp.fdM l m n) (Sp.fdS l m n) (Sp.fdS l m n)),[]⟩]) (vb (bif Sp.fdE m n == Sp.fdE m n then Sp.samP (Sp.fdM l m n) (Sp.fdM l m n) (Sp.fdS l m n) (Sp.fdS l m n) else false)) (by kernel_rfl) (bc (beq_f (fun h => d3 ((i_not (i_var _)).1 h))) (bc rfl (bc rfl (bc (Bool.or_true _) (bc (Bool.or_true _) b0))))) q0 (cc (fun _ => (@ev22 (false) (l) k4)) (cc (fun _ => (@ev21 (false) (l) (m) (n) k5)) (cc (fun _ => (@ev23 (false) (l) (m) (n) k6)) (cc (fun hc => ((@ev25 (false) (false) (Sp.fdM l m n) (Sp.fdS l m n) (k8 ((i_at (i_at (i_bt i_eq))).1 hc))):Ev M1 (Conf.pure 25 [ag [AV.vec false 3 (List.map Bk.a (Sp.fdM l m n)),AV.vec false 2 (List.map Sb.a (Sp.fdS l m n))]]) (ag [AV.vec false 3 (List.map Bk.a (Sp.fdM l m n)),AV.vec false 2 (List.map Sb.a (Sp.fdS l m n))]) [])) (cc (fun hc => ((@ev24 (false) (false) (false) (false) (Sp.fdM l m n) (Sp.fdM l m n) (Sp.fdS l m n) (Sp.fdS l m n) (k10 ((i_at (i_at (i_bt i_eq))).1 hc))):Ev M1 (Conf.pure 24 [ag [AV.vec false 3 (List.map Bk.a (Sp.fdM l m n)),AV.vec false 2 (List.map Sb.a (Sp.fdS l m n))],ag [AV.vec false 3 (List.map Bk.a (Sp.fdM l m n)),AV.vec false 2 (List.map Sb.a (Sp.fdS l m n))]]) (vb (Sp.samP (Sp.fdM l m n) (Sp.fdM l m n) (Sp.fdS l m n) (Sp.fdS l m n))) [])) c0))))) H
end Go.Av

namespace Go.Av
open Go.Proofs
theorem okW_call {m:Int} (h:1 <= m /\ m <= 9999):Sp.okW (Sp.callB m).ws:=by
 refine ⟨by simp [Sp.callB],fun w hw => ?_⟩
 simp only [Sp.callB,List.mem_cons,List.not_mem_nil,or_false] at hw
 unfold Sp.okV
 rcases hw with rfl | rfl
 ·show -9000000000000000000 <= (98000:Int) /\ (98000:Int) <= 9000000000000000000;omega
 ·show -9000000000000000000 <= 1000 * m /\ 1000 * m <= 9000000000000000000;omega
theorem build_ok {l:List Bk} {m:Int} {n a:Nat} (hk:Sp.okBs l) (hm:1 <= m /\ m <= 9999):∀ (f i:Nat),(Sp.build l m n a f i).length <= f /\ ∀ b ∈ Sp.build l m n a f i,Sp.okW b.ws
 | 0,i => by rw [Sp.build];exact ⟨by simp,fun b hb => by cases hb⟩
 | f + 1,i => by
  rw [Sp.build]
  split
  ·rename_i hi
   split
   ·obtain ⟨h1,h2⟩:=build_ok (n:=n) (a:=a) hk hm f (i + n)
    refine ⟨by simp;omega,fun b hb => ?_⟩
    rcases List.mem_cons.1 hb with rfl | hb
    ·exact okW_call hm
    ·exact h2 b hb
   ·obtain ⟨h1,h2⟩:=build_ok (n:=n) (a:=a) hk hm f (i + 1)
    refine ⟨by simp;omega,fun b hb => ?_⟩
    rcases List.mem_cons.1 hb with rfl | hb
    ·exact hk.2 _ (getD_mem hi)
    ·exact h2 b hb
  ·exact ⟨by simp,fun b hb => by cases hb⟩
theorem okBs_sub {l:List Bk} (h:Sp.okBs l) (a b:Nat):Sp.okBs ((l.take b).drop a):=by
 obtain ⟨h1,h2⟩:=h
 refine ⟨by simp;omega,fun x hx => h2 x (List.mem_of_mem_take (List.mem_of_mem_drop hx))⟩
theorem fd_ok {l:List Bk} {m n:Int} (hk:Sp.okBs l):Sp.okPs (Sp.fdM l m n) (Sp.fdS l m n):=by
 have hl:=hk.1
 unfold Sp.fdM Sp.fdS
 by_cases ho:Sp.fdOk m n
 ·have ho':¬(((m < 1) \/ (m > 9999)) \/ (n < 1)):=ho
  by_cases hi:Sp.fdIs l n
  ·rw [if_pos ho,if_pos hi,if_pos ⟨ho,hi⟩]
   obtain ⟨b1,b2⟩:=build_ok (n:=n.toNat) (a:=(Sp.fst l n).toNat) hk (show 1 <= m /\ m <= 9999 by omega) l.length 0
   refine ⟨⟨by omega,b2⟩,by simp,fun x hx => ?_⟩
   rw [List.mem_singleton] at hx
   subst hx
   exact okBs_sub hk _ _
  ·rw [if_pos ho,if_neg hi,if_neg (fun x => hi x.2)]
   exact ⟨hk,by simp,fun x hx => by cases hx⟩
 ·rw [if_neg ho,if_neg (fun x => ho x.1)]
  exact ⟨⟨by simp,fun b hb => by cases hb⟩,by simp,fun x hx => by cases hx⟩
theorem vals_okBs {l:List Bk} {m:Int} (h:Sp.vals l m = true) (hm:m <= 1000000):Sp.okBs l:=by
 obtain ⟨h1,h2⟩:=vals_at h
 exact ⟨by omega,fun b hb => valB_okW (h2 b hb)⟩
theorem ev5 (l:List Bk) (m n:Int) (hn:n <= 9223372036854775807):Ev M1 (.pure 5 [bsA false l,.int .i64 m,.int .i64 n]) (.bool true) []:=by
 refine call5 (suFf l m n _ ⟨by unfold Sp.mO;omega,fun _ => rfl,fun h => ?_⟩)
 have hk:=vals_okBs (Classical.not_not.1 h) (by omega)
 have hp:=fd_ok (m:=m) (n:=n) hk
 exact ⟨hk.1,hk,⟨hk,hn⟩,fun _ => hp.2.1,fun _ => hp,by rw [samP_refl];simp⟩
end Go.Av
