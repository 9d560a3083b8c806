/- PART 4 of the texts of a claim, joined by a program: what each part shows stands at its head. -/
import Derived.Test.YtgnpmphnpnfapaaPart4871c44a3c

namespace Go.Av
open Go.Proofs
namespace Sp
def letB (ws:List Wo) (c:Int):Bool:=decide (0 < (codes ws c).length)
def endB (ws:List Wo):Bool:=hasW ws 77 30000
def backB (ws:List Wo):Bool:=hasW ws 77 99000
def mkB (ws:List Wo):Bool:=letB ws 79 || (endB ws || backB ws)
def plB (sk:Bool) (ws:List Wo) (cm:List UInt8):Bool:=decide (ws.length = 1 /\ sk = false /\ cm = [])
def onB (sk:Bool) (ws:List Wo) (cm:List UInt8) (c:Int):Bool:=decide (ws.length = 1 /\ (ws.getD 0 default).l = c /\ sk = false /\ cm = [])
def eqB (sk tk:Bool) (ws vs:List Wo) (cm dm:List UInt8):Bool:=decide (sk = tk /\ cm = dm /\ ws = vs)
end Sp
theorem gt_pos (n:Nat):decide ((n:Int) > 0) = decide (0 < n):=decide_eq_decide.2 (by omega)
theorem ev77 (sk f:Bool) (ws:List Wo) (cm:List UInt8) (h:Sp.few6 ws.length):Ev M1 (.pure 77 [bkA sk f ws cm]) (.bool (Sp.mkB ws)) []:=by
 refine call77 (suMk sk f ws cm _ ⟨h,?_⟩)
 unfold Sp.mkB Sp.letB Sp.endB Sp.backB
 rw [gt_pos]
 cases decide (0 < (Sp.codes ws 79).length) <;> cases Sp.hasW ws 77 30000 <;> rfl
theorem ev66 (sk f:Bool) (ws:List Wo) (cm:List UInt8) (c:Int) (h:Sp.few6 ws.length):Ev M1 (.pure 66 [bkA sk f ws cm,.int .u8 c]) (.bool (Sp.letB ws c)) []:=
 call66 (suLt sk f ws cm c _ ⟨h,by rw [gt_pos];rfl⟩)
theorem ev64 (sk f:Bool) (ws:List Wo) (cm:List UInt8) (h:Sp.few6 ws.length):Ev M1 (.pure 64 [bkA sk f ws cm]) (.bool (Sp.endB ws)) []:=
 call64 (suEn sk f ws cm _ ⟨h,rfl⟩)
theorem ev65 (sk f:Bool) (ws:List Wo) (cm:List UInt8) (h:Sp.few6 ws.length):Ev M1 (.pure 65 [bkA sk f ws cm]) (.bool (Sp.backB ws)) []:=
 call65 (suRe sk f ws cm _ ⟨h,rfl⟩)
theorem ev67 (sk f:Bool) (ws:List Wo) (cm:List UInt8) (c:Int):Ev M1 (.pure 67 [bkA sk f ws cm,.int .u8 c]) (.bool (Sp.onB sk ws cm c)) []:=by
 refine call67 (suOn sk f ws cm c _ ⟨fun h => by omega,?_⟩)
 congr 1
 unfold Sp.onB
 have e:((ws.length:Int) == 1) = decide (ws.length = 1):=by rw [Bool.eq_iff_iff];simp;omega
 rw [e]
 by_cases h1:ws.length = 1 <;> by_cases h2:(ws.getD 0 default).l = c <;> cases sk <;> by_cases h4:cm = [] <;> simp [h1,h2,h4,-List.getD_eq_getElem?_getD]
theorem ev61 (sk f:Bool) (ws:List Wo) (cm:List UInt8):Ev M1 (.pure 61 [bkA sk f ws cm]) (.bool (Sp.plB sk ws cm)) []:=by
 refine call61 (suPl sk f ws cm _ ?_)
 congr 1
 unfold Sp.plB
 have e:((ws.length:Int) == 1) = decide (ws.length = 1):=by rw [Bool.eq_iff_iff];simp;omega
 rw [e]
 by_cases h1:ws.length = 1 <;> cases sk <;> by_cases h4:cm = [] <;> simp [h1,h4]
theorem wo_eq {a b:Wo}:a = b ↔ a.l = b.l /\ a.v = b.v:=⟨fun h => by rw [h];exact ⟨rfl,rfl⟩,fun ⟨h1,h2⟩ => by cases a;cases b;simp_all⟩
theorem suEq_loop {sk f tk g:Bool} {ws vs:List Wo} {cm dm:List UInt8} {dq:AV} (he:ws.length = vs.length) (hl:ws.length <= 1000000):∀ (k i:Nat),i + k = ws.length -> AV.bool (decide (ws.drop i = vs.drop i)) = dq -> suEqa_at sk f tk g ws vs cm dm i (PureQ dq):=by
 intro k
 induction k with
 | zero =>
  intro i hi hq
  rw [List.drop_eq_nil_of_le (by omega),List.drop_eq_nil_of_le (by omega)] at hq
  exact suEqa _ _ _ _ _ _ _ _ _ _ ⟨fun h => by omega,fun _ => hq⟩
 | succ k ih =>
  intro i hi hq
  rw [drop_getD (show i < ws.length by omega),drop_getD (show i < vs.length by omega)] at hq
  refine suEqa _ _ _ _ _ _ _ _ _ _ ⟨fun _ => ?_,fun h => by omega⟩
  rw [Int.toNat_natCast]
  refine ⟨by omega,by omega,by omega,fun h => ?_,fun h => ⟨by omega,ih (i + 1) (by omega) ?_⟩⟩
  ·rw [decide_eq_false (fun e => h (wo_eq.1 (List.cons.inj e).1))] at hq
   exact hq
  ·rw [<- hq]
   congr 1
   rw [decide_eq_decide]
   have:=wo_eq.2 (Classical.not_not.1 h)
   rw [this];simp
theorem ev48 (sk f tk g:Bool) (ws vs:List Wo) (cm dm:List UInt8) (h:Sp.few6 ws.length):Ev M1 (.pure 48 [bkA sk f ws cm,bkA tk g vs dm]) (.bool (Sp.eqB sk tk ws vs cm dm)) []:=by
 unfold Sp.eqB
 refine call48 (suEq sk f tk g ws vs cm dm _ ⟨fun k => ?_,fun k => suEq_loop (by omega) h ws.length 0 (by omega) ?_⟩)
 ·rw [decide_eq_false]
  rintro ⟨rfl,rfl,rfl⟩
  simp at k
 ·have k1:sk = tk:=Classical.byContradiction fun e => k (.inl (.inl e))
  have k2:cm = dm:=Classical.byContradiction fun e => k (.inl (.inr e))
  congr 1
  rw [decide_eq_decide]
  simp [k1,k2]
end Go.Av

namespace Go.Av
open Go.Proofs
set_option maxRecDepth 100000
def fi18:Fi:=⟨27,[.tmp 4]⟩
def kp18:List (Nat × List Nat):=[(0,[0,1]),(1,[0,1,10]),(2,[4]),(3,[0,1,5]),(4,[0,1,5,14]),(5,[0,1,5]),(6,[0,1,5,26]),(7,[4]),(8,[4])]
def fi59:Fi:=⟨23,[.tmp 2,.tmp 3]⟩
def kp59:List (Nat × List Nat):=[(0,[1]),(1,[1,14]),(2,[2,3]),(3,[2,3])]
def suBg_at (sk f:Bool) (ws:List Wo) (cm:List UInt8) (Q:AV -> Heap -> Prop):Prop:=Wp M1 (.run fi59 (atC (cd Try.f59) []) [(0,.agg [.bool sk,.vec f 2 (ws.map Wo.a),.str cm])] []) Q
def suSm_at (g h:Bool) (l q:List Bk) (Q:AV -> Heap -> Prop):Prop:=Wp M1 (.run fi18 (atC (cd Try.f18) []) [(0,.vec g 3 (l.map Bk.a)),(1,.vec h 3 (q.map Bk.a))] []) Q
def suSma_at (g h:Bool) (l q:List Bk) (i:Int) (Q:AV -> Heap -> Prop):Prop:=Wp M1 (.run fi18 (atC (cd Try.f18) [1,1,0,1,0,0]) [(0,.vec g 3 (l.map Bk.a)),(1,.vec h 3 (q.map Bk.a)),(5,.int .i64 i)] []) Q
theorem call18 {args:List AV} {d:AV} (h:wc M1 fi18 Try.f18 args d):Ev M1 (.pure 18 args) d []:=pcl _ _ (by kernel_rfl) h
theorem call59 {args:List AV} {d:AV} (h:wc M1 fi59 Try.f59 args d):Ev M1 (.pure 59 args) d []:=pcl _ _ (by kernel_rfl) h
noncomputable abbrev zSpG2 (ws:List Wo):=ag [AV.int IntKind.u8 (ws.getD 0 default).l,vi (ws.getD 0 default).v]
theorem suBg (sk f:Bool) (ws:List Wo) (cm:List UInt8)  (dq:AV) (H :
  ((¬(¬(Sp.plB sk ws cm = true))) -> (0 < ws.length)) /\
  (((¬(Sp.plB sk ws cm = true)) \/ (¬(ws.getD 0 default).l = 79)) -> tu [vi 0,vb false] = dq) /\
  (¬((¬(Sp.plB sk ws cm = true)) \/ (¬(ws.getD 0 default).l = 79)) -> (Sp.okV (ws.getD 0 default).v) /\
   (0 < ws.length) /\
   tu [vi (Sp.whV (ws.getD 0 default).v),vb (Sp.whB (ws.getD 0 default).v)] = dq)) :
 suBg_at sk f ws cm (PureQ dq):=by
 unfold suBg_at
 have w1:(List.map Wo.a ws).length = ws.length:=List.length_map ..
 have i2:(!((!Sp.plB sk ws cm) == false && true) || decide (0 < (List.map Wo.a ws).length)) = true ↔ ((¬(¬(Sp.plB sk ws cm = true))) -> (0 < ws.length)):=(by (try rw [w1]);all_goals exact (i_imp (i_at (i_bf (i_not (i_var _)))) i_dec))
 obtain ⟨k3,H⟩:=H
 refine path_wp (G:=given kp59 [(1,1,.call (vb (Sp.plB sk ws cm)) none),(1,8,.elem (zSpG2 ws))] []) 5 [] ⟨(atC (cd Try.f59) [1,0,1]),[(1,AV.ptr 0 0 0 0),(14,vb (bif !Sp.plB sk ws cm then true else (ws.getD 0 default).l != 79))],[⟨[ag [vb sk,AV.vec f 2 (List.map Wo.a ws),AV.str cm]],3,0,false,false⟩],[true,!((!Sp.plB sk ws cm) == false && true) || true,!((!Sp.plB sk ws cm) == false && true) || true,!((!Sp.plB sk ws cm) == false && true) || decide (0 < (List.map Wo.a ws).length)],[(((!Sp.plB sk ws cm) == false && true) = true -> (List.map Wo.a ws).get?Internal 0 = some (zSpG2 ws))],_⟩ (by kernel_rfl) (bc rfl (bc (Bool.or_true _) (bc (Bool.or_true _) (bc (i2.2 k3) b0)))) (qc (fun h => el_map (k3 ((i_at (i_bf (i_not (i_var _)))).1 h))) q0) (ce (@ev61 (sk) (f) (ws) (cm)) c0) ?_
 rcases xm ((¬(Sp.plB sk ws cm = true)) \/ (¬(ws.getD 0 default).l = 79)) with d6 | d6
 ·have H:=H.1 d6
  exact path_re (G:=given kp59 [] []) 1000 [true] (asm:=[(bif !Sp.plB sk ws cm then true else (ws.getD 0 default).l != 79) == true]) (tu [vi 0,vb false]) (by kernel_rfl) (bc (beq_t ((i_bor (i_not (i_var _)) i_ne).2 d6)) b0) q0 c0 H
 ·have H:=H.2 d6
  obtain ⟨k7,H⟩:=H
  have i8:(decide (0 < (List.map Wo.a ws).length)) = true ↔ (0 < ws.length):=(by (try rw [w1]);all_goals exact i_dec)
  obtain ⟨k9,H⟩:=H
  exact path_re (G:=given kp59 [(3,4,.elem (zSpG2 ws)),(3,5,.call (tu [vi (Sp.whV (ws.getD 0 default).v),vb (Sp.whB (ws.getD 0 default).v)]) none)] []) 1000 [false] (asm:=[(bif !Sp.plB sk ws cm then true else (ws.getD 0 default).l != 79) == false,true,true,decide (0 < (List.map Wo.a ws).length)]) (eqs:=[((List.map Wo.a ws).get?Internal 0 = some (zSpG2 ws))]) (tu [vi (Sp.whV (ws.getD 0 default).v),vb (Sp.whB (ws.getD 0 default).v)]) (by kernel_rfl) (bc (beq_f (fun h => d6 ((i_bor (i_not (i_var _)) i_ne).1 h))) (bc rfl (bc rfl (bc (i8.2 k9) b0)))) (qc (el_map k9) q0) (ce (@ev41 ((ws.getD 0 default).v) k7) c0) H
theorem suSm (g h:Bool) (l q:List Bk)  (dq:AV) (H :
  ((¬(↑l.length:Int) = (↑q.length:Int)) -> vb false = dq) /\
  (¬(¬(↑l.length:Int) = (↑q.length:Int)) -> suSma_at (g) (h) (l) (q) (0) (PureQ dq))) :
 suSm_at g h l q (PureQ dq):=by
 unfold suSm_at
 have w1:(List.map Bk.a l).length = l.length:=List.length_map ..
 have w2:(List.map Bk.a q).length = q.length:=List.length_map ..
 have i3:((↑(List.map Bk.a l).length:Int) != (↑(List.map Bk.a q).length:Int)) = true ↔ (¬(↑l.length:Int) = (↑q.length:Int)):=(by (try rw [w1]);(try rw [w2]);all_goals exact i_ne)
 rcases xm (¬(↑l.length:Int) = (↑q.length:Int)) with d4 | d4
 ·have H:=H.1 d4
  exact path_re (G:=given kp18 [] []) 1000 [true] (vb false) (by kernel_rfl) (bc (beq_t (i3.2 d4)) b0) q0 c0 H
 ·have H:=H.2 d4
  exact path_wp (G:=given kp18 [] []) 1000 [false] ⟨(atC (cd Try.f18) [1,1,0,1,0,0]),[(0,AV.vec g 3 (List.map Bk.a l)),(1,AV.vec h 3 (List.map Bk.a q)),(5,vi 0)],[],_,[],_⟩ (by kernel_rfl) (bc (beq_f (fun h => d4 (i3.1 h))) b0) q0 c0 (H)
theorem suSma (g h:Bool) (l q:List Bk) (i:Int)  (dq:AV) (H :
  ((i < (↑l.length:Int)) -> (Sp.few6 (l.getD i.toNat default).3.length) /\
   (0 <= i) /\
   (i.toNat < l.length) /\
   (i.toNat < q.length) /\
   ((¬(Sp.eqB (l.getD i.toNat default).1 (q.getD i.toNat default).1 (l.getD i.toNat default).3 (q.getD i.toNat default).3 (l.getD i.toNat default).4 (q.getD i.toNat default).4 = true)) -> vb false = dq) /\
   (¬(¬(Sp.eqB (l.getD i.toNat default).1 (q.getD i.toNat default).1 (l.getD i.toNat default).3 (q.getD i.toNat default).3 (l.getD i.toNat default).4 (q.getD i.toNat default).4 = true)) -> (-9223372036854775808 <= i + 1 /\ i + 1 <= 9223372036854775807) /\
    suSma_at (g) (h) (l) (q) (i + 1) (PureQ dq))) /\
  (¬(i < (↑l.length:Int)) -> vb true = dq)) :
 suSma_at g h l q i (PureQ dq):=by
 unfold suSma_at
 have w1:(List.map Bk.a l).length = l.length:=List.length_map ..
 have i2:(decide (i < (↑(List.map Bk.a l).length:Int))) = true ↔ (i < (↑l.length:Int)):=(by (try rw [w1]);all_goals exact i_dec)
 rcases xm (i < (↑l.length:Int)) with d3 | d3
 ·have H:=H.1 d3
  obtain ⟨k4,H⟩:=H
  obtain ⟨k6,H⟩:=H
  have i7:(decide (i.toNat < (List.map Bk.a l).length)) = true ↔ (i.toNat < l.length):=(by (try rw [w1]);all_goals exact i_dec)
  obtain ⟨k8,H⟩:=H
  have w10:(List.map Bk.a q).length = q.length:=List.length_map ..
  have i11:(decide (i.toNat < (List.map Bk.a q).length)) = true ↔ (i.toNat < q.length):=(by (try rw [w10]);all_goals exact i_dec)
  obtain ⟨k12,H⟩:=H
  refine path_wp (G:=given kp18 [(6,3,.elem (ag [vb (l.getD i.toNat default).1,AV.vec (l.getD i.toNat default).2 2 (List.map Wo.a (l.getD i.toNat default).3),AV.str (l.getD i.toNat default).4])),(6,7,.elem (ag [vb (q.getD i.toNat default).1,AV.vec (q.getD i.toNat default).2 2 (List.map Wo.a (q.getD i.toNat default).3),AV.str (q.getD i.toNat default).4])),(6,8,.call (vb (Sp.eqB (l.getD i.toNat default).1 (q.getD i.toNat default).1 (l.getD i.toNat default).3 (q.getD i.toNat default).3 (l.getD i.toNat default).4 (q.getD i.toNat default).4)) none)] []) 9 [true] ⟨(atC (cd Try.f18) [1,1,0,1,0,0,1,0,0,1]),[(0,AV.vec g 3 (List.map Bk.a l)),(1,AV.vec h 3 (List.map Bk.a q)),(5,vi i),(26,vb !Sp.eqB (l.getD i.toNat default).1 (q.getD i.toNat default).1 (l.getD i.toNat default).3 (q.getD i.toNat default).3 (l.getD i.toNat default).4 (q.getD i.toNat default).4)],[],_,[((List.map Bk.a l).get?Internal i.toNat = some (ag [vb (l.getD i.toNat default).1,AV.vec (l.getD i.toNat default).2 2 (List.map Wo.a (l.getD i.toNat default).3),AV.str (l.getD i.toNat default).4])),((List.map Bk.a q).get?Internal i.toNat = some (ag [vb (q.getD i.toNat default).1,AV.vec (q.getD i.toNat default).2 2 (List.map Wo.a (q.getD i.toNat default).3),AV.str (q.getD i.toNat default).4]))],_⟩ (by kernel_rfl) (bc (beq_t (i2.2 d3)) (bc (i_dec.2 k6) (bc (i7.2 k8) (bc (i_dec.2 k6) (bc (i11.2 k12) b0))))) (qc (el_map k8) (qc (el_map k12) q0)) (ce (@ev48 ((l.getD i.toNat default).1) ((l.getD i.toNat default).2) ((q.getD i.toNat default).1) ((q.getD i.toNat default).2) ((l.getD i.toNat default).3) ((q.getD i.toNat default).3) ((l.getD i.toNat default).4) ((q.getD i.toNat default).4) k4) c0) ?_
  rcases xm (¬(Sp.eqB (l.getD i.toNat default).1 (q.getD i.toNat default).1 (l.getD i.toNat default).3 (q.getD i.toNat default).3 (l.getD i.toNat default).4 (q.getD i.toNat default).4 = true)) with d14 | d14
  ·have H:=H.1 d14
   exact path_re (G:=given kp18 [] []) 1000 [true] (asm:=[(!Sp.eqB (l.getD i.toNat default).1 (q.getD i.toNat default).1 (l.getD i.toNat default).3 (q.getD i.toNat default).3 (l.getD i.toNat default).4 (q.getD i.toNat default).4) == true]) (vb false) (by kernel_rfl) (bc (beq_t ((i_not (i_var _)).2 d14)) b0) q0 c0 H
  ·have H:=H.2 d14
   obtain ⟨k15,H⟩:=H
   have w16:wi (i + 1) = i + 1:=wI64 k15
   exact path_wp (G:=given kp18 [] []) 1000 [false] ⟨(atC (cd Try.f18) [1,1,0,1,0,0]),[(0,AV.vec g 3 (List.map Bk.a l)),(1,AV.vec h 3 (List.map Bk.a q)),(5,vi (wi (i + 1)))],[],[(!Sp.eqB (l.getD i.toNat default).1 (q.getD i.toNat default).1 (l.getD i.toNat default).3 (q.getD i.toNat default).3 (l.getD i.toNat default).4 (q.getD i.toNat default).4) == false],[],_⟩ (by kernel_rfl) (bc (beq_f (fun h => d14 ((i_not (i_var _)).1 h))) b0) q0 c0 (by (try rw [w16]);all_goals exact H)
 ·have H:=H.2 d3
  exact path_re (G:=given kp18 [] []) 1000 [false] (vb true) (by kernel_rfl) (bc (beq_f (fun h => d3 (i2.1 h))) b0) q0 c0 H
end Go.Av

namespace Go.Av
open Go.Proofs
def Bk.key (b:Bk):Bool × List Wo × List UInt8:=(b.sk,b.ws,b.cm)
namespace Sp
def foldB (ws:List Wo):Bool:=!(mkB ws) && (!(letB ws 78) && !(hasW ws 77 98000))
def bgV (sk:Bool) (ws:List Wo) (cm:List UInt8):Int:=if plB sk ws cm = true /\ (ws.getD 0 default).l = 79 then whV (ws.getD 0 default).v else 0
def bgB (sk:Bool) (ws:List Wo) (cm:List UInt8):Bool:=if plB sk ws cm = true /\ (ws.getD 0 default).l = 79 then whB (ws.getD 0 default).v else false
def same (b c:Bk):Bool:=eqB b.sk c.sk b.ws c.ws b.cm c.cm
def sameL (l q:List Bk):Bool:=decide (l.map Bk.key = q.map Bk.key)
def okBs (l:List Bk):Prop:=l.length <= 1000000 /\ ∀ b ∈ l,okW b.ws
end Sp
theorem same_iff {b c:Bk}:Sp.same b c = true ↔ b.key = c.key:=by
 unfold Sp.same Sp.eqB Bk.key
 simp only [decide_eq_true_eq,Prod.mk.injEq]
 exact ⟨fun ⟨h1,h2,h3⟩ => ⟨h1,h3,h2⟩,fun ⟨h1,h2,h3⟩ => ⟨h1,h3,h2⟩⟩
theorem pl_len {sk:Bool} {ws:List Wo} {cm:List UInt8} (h:Sp.plB sk ws cm = true):ws.length = 1:=by
 unfold Sp.plB at h
 exact (of_decide_eq_true h).1
theorem ev59 (sk f:Bool) (ws:List Wo) (cm:List UInt8) (h:Sp.okW ws):Ev M1 (.pure 59 [bkA sk f ws cm]) (.tup [.int .i64 (Sp.bgV sk ws cm),.bool (Sp.bgB sk ws cm)]) []:=by
 refine call59 (suBg sk f ws cm _ ⟨fun k => ?_,fun k => ?_,fun k => ?_⟩)
 ·have:=pl_len (Classical.not_not.1 k);omega
 ·have hn:¬(Sp.plB sk ws cm = true /\ (ws.getD 0 default).l = 79):=fun ⟨k1,k2⟩ => k.elim (fun x => x k1) (fun x => x k2)
  unfold Sp.bgV Sp.bgB
  rw [if_neg hn,if_neg hn]
 ·have k1:Sp.plB sk ws cm = true:=Classical.byContradiction fun x => k (.inl x)
  have k2:(ws.getD 0 default).l = 79:=Classical.byContradiction fun x => k (.inr x)
  have hl:=pl_len k1
  unfold Sp.bgV Sp.bgB
  rw [if_pos ⟨k1,k2⟩,if_pos ⟨k1,k2⟩]
  exact ⟨okV_at h (by omega),by omega,rfl⟩
theorem suSm_loop {g h:Bool} {l q:List Bk} {dq:AV} (hk:Sp.okBs l) (he:l.length = q.length):∀ (k i:Nat),i + k = l.length -> AV.bool (Sp.sameL (l.drop i) (q.drop i)) = dq -> suSma_at g h l q i (PureQ dq):=by
 have hl:=hk.1
 intro k
 induction k with
 | zero =>
  intro i hi hq
  rw [List.drop_eq_nil_of_le (by omega),List.drop_eq_nil_of_le (by omega)] at hq
  exact suSma _ _ _ _ _ _ ⟨fun h => by omega,fun _ => hq⟩
 | succ k ih =>
  intro i hi hq
  have hm:=hk.2 _ (getD_mem (show i < l.length by omega))
  rw [drop_getD (show i < l.length by omega),drop_getD (show i < q.length by omega)] at hq
  unfold Sp.sameL at hq
  rw [List.map_cons,List.map_cons] at hq
  refine suSma _ _ _ _ _ _ ⟨fun _ => ?_,fun h => by omega⟩
  rw [Int.toNat_natCast]
  refine ⟨hm.1,by omega,by omega,by omega,fun h => ?_,fun h => ⟨by omega,ih (i + 1) (by omega) ?_⟩⟩
  ·rw [decide_eq_false (fun e => h (same_iff.2 (List.cons.inj e).1))] at hq
   exact hq
  ·rw [<- hq]
   congr 1
   unfold Sp.sameL
   rw [decide_eq_decide]
   have:=same_iff.1 (Classical.not_not.1 h)
   rw [this];simp
theorem ev18 (g h:Bool) (l q:List Bk) (hk:Sp.okBs l):Ev M1 (.pure 18 [bsA g l,bsA h q]) (.bool (Sp.sameL l q)) []:=by
 refine call18 (suSm g h l q _ ⟨fun k => ?_,fun k => suSm_loop hk (by omega) l.length 0 (by omega) rfl⟩)
 unfold Sp.sameL
 rw [decide_eq_false (fun e => k (by have:=congrArg List.length e;simp only [List.length_map] at this;omega))]
end Go.Av

namespace Go.Av
open Go.Proofs
set_option maxRecDepth 100000
end Go.Av

namespace Go.Av
open Go.Proofs
namespace Sp
def rn (l:List Bk) (i k:Nat) (j:Nat):Bool:=foldB (l.getD (i + j) default).ws && same (l.getD (i + j) default) (l.getD (k + j) default)
def runB (l:List Bk) (i k n:Int):Bool:=(List.range' 0 n.toNat).all (rn l i.toNat k.toNat)
def runR (l:List Bk) (i k n:Int):Bool:=if k + n > (l.length:Int) then false else runB l i k n
end Sp
end Go.Av

namespace Go.Av
open Go.Proofs
set_option maxRecDepth 100000
def fi22:Fi:=⟨8,[.tmp 2]⟩
def kp22:List (Nat × List Nat):=[(0,[0]),(1,[0,4]),(2,[2]),(3,[2])]
def suKe_at (g:Bool) (Q:AV -> Heap -> Prop):Prop:=Wp M1 (.run fi22 (atC (cd Try.f22) []) [(0,.vec g 3 [])] []) Q
def suKc_at (g:Bool) (y:Bk) (l:List Bk) (Q:AV -> Heap -> Prop):Prop:=Wp M1 (.run fi22 (atC (cd Try.f22) []) [(0,.vec g 3 ((y :: l).map Bk.a))] []) Q
def suKf_at (g:Bool) (y:Bk) (l:List Bk) (Q:AV -> Heap -> Prop):Prop:=Wp M1 (.run fi22 (atC (cd Try.f22) []) [(0,.vec g 3 ((y :: l).map Bk.a))] []) Q
def svCn_at (g:Bool) (Q:AV -> Heap -> Prop):Prop:=Wp M1 (.run fi22 (atC (cd Try.f22) []) [(0,.vec g 3 [])] []) Q
theorem call22 {args:List AV} {d:AV} (h:wc M1 fi22 Try.f22 args d):Ev M1 (.pure 22 args) d []:=pcl _ _ (by kernel_rfl) h
theorem owncall22 {args:List AV} {L:Heap} {Q:AV -> Heap -> Prop} (h:Wp M1 (.run fi22 [.code (cd Try.f22)] (argVars 0 args) L) Q):Wp M1 (.own 22 args L) Q:=
 own_wp Try.f22 fi22 (by kernel_rfl) (by kernel_rfl) (by kernel_rfl) (by kernel_rfl) h
theorem suKe (g:Bool)  (dq:AV) (H :
  (Weak (AV.vnil) dq) /\
  (Weak (AV.vec true 3 []) dq)) :
 suKe_at g (PureQ dq):=by
 unfold suKe_at
 refine path_wp (G:=given kp22 [] []) 4 [] ⟨(atC (cd Try.f22) [1,0,0]),[(0,AV.vec g 3 [])],[],_,[],_⟩ (by kernel_rfl) b0 q0 c0 (wp_nil 1 [0,4] (e1:=[(0,AV.vec g 3 []),(4,vb true)]) (e2:=[(0,AV.vec g 3 []),(4,vb false)]) (L1:=[]) (L2:=[]) (a1:=[]) (a2:=[]) (v1:=[(4,[],vb true),(3,[],AV.vec g 3 []),(0,[],AV.vec g 3 [])]) (v2:=[(4,[],vb false),(3,[],AV.vec g 3 []),(0,[],AV.vec g 3 [])]) (by kernel_rfl) (by kernel_rfl) allB_nil allB_nil (by kernel_rfl) (by kernel_rfl) ?_ ?_)
 ·have H:=H.1
  exact path_rq (G:=given kp22 [] []) 1000 [true] (AV.vnil) (by kernel_rfl) (bc rfl b0) q0 c0 H
 ·have H:=H.2
  exact path_rq (G:=given kp22 [] []) 1000 [false] (AV.vec true 3 []) (by kernel_rfl) (bc rfl b0) q0 c0 H
theorem suKc (g:Bool) (y:Bk) (l:List Bk)  (dq:AV) (H :
  ((0 + (l.length + 1)) * 48 <= 1099511627776) /\
  Weak (AV.vec false 3 (ag [vb y.1,AV.vec y.2 2 (List.map Wo.a y.3),AV.str y.4] :: List.map Bk.a l)) dq) :
 suKc_at g y l (PureQ dq):=by
 unfold suKc_at
 have w1:(List.map Bk.a l).length = l.length:=List.length_map ..
 have i2:(decide ((0 + ((List.map Bk.a l).length + 1)) * 48 <= 1099511627776)) = true ↔ ((0 + (l.length + 1)) * 48 <= 1099511627776):=(by (try rw [w1]);all_goals exact i_dec)
 obtain ⟨k3,H⟩:=H
 exact path_ret (G:=given kp22 [] []) 1000 [false] (k:=((atC (cd Try.f22) [1,1,1])).tail) (env':=[(2,AV.row 0 0)]) (L':=[⟨ag [vb y.1,AV.vec y.2 2 (List.map Wo.a y.3),AV.str y.4] :: List.map Bk.a l,3,0,false,true⟩]) (asm:=[false == false,decide ((0 + ((List.map Bk.a l).length + 1)) * 48 <= 1099511627776)]) (eqs:=[]) (calls:=[]) (AV.row 0 0) (by kernel_rfl) (by kernel_rfl) (allB_cons rfl (allB_cons (i2.2 k3) allB_nil)) allP_nil allC_nil (pq_weak (d:=(AV.vec false 3 (ag [vb y.1,AV.vec y.2 2 (List.map Wo.a y.3),AV.str y.4] :: List.map Bk.a l))) (bs:=[0 == 0]) (by kernel_rfl) (by kernel_rfl) (allB_cons (beq_self_eq_true _) allB_nil) (by kernel_rfl) H)
theorem suKf (g:Bool) (y:Bk) (l:List Bk)  (Q:AV -> Heap -> Prop) (H :
  ((0 + (l.length + 1)) * 48 <= 1099511627776) /\
  Q (AV.row 0 0) [{ elems:=ag [vb y.1,AV.vec y.2 2 (List.map Wo.a y.3),AV.str y.4] :: List.map Bk.a l,es:=3,ver:=0,frozen:=false,clean:=true }]) :
 suKf_at g y l Q:=by
 unfold suKf_at
 have w1:(List.map Bk.a l).length = l.length:=List.length_map ..
 have i2:(decide ((0 + ((List.map Bk.a l).length + 1)) * 48 <= 1099511627776)) = true ↔ ((0 + (l.length + 1)) * 48 <= 1099511627776):=(by (try rw [w1]);all_goals exact i_dec)
 obtain ⟨k3,H⟩:=H
 exact path_ret (G:=given kp22 [] []) 1000 [false] (k:=((atC (cd Try.f22) [1,1,1])).tail) (env':=[(2,AV.row 0 0)]) (L':=[⟨ag [vb y.1,AV.vec y.2 2 (List.map Wo.a y.3),AV.str y.4] :: List.map Bk.a l,3,0,false,true⟩]) (asm:=[false == false,decide ((0 + ((List.map Bk.a l).length + 1)) * 48 <= 1099511627776)]) (eqs:=[]) (calls:=[]) (AV.row 0 0) (by kernel_rfl) (by kernel_rfl) (allB_cons rfl (allB_cons (i2.2 k3) allB_nil)) allP_nil allC_nil H
theorem svCn (g:Bool)  (Q:AV -> Heap -> Prop) (H :
  (Q (AV.vnil) []) /\
  (Q (AV.vec true 3 []) [])) :
 svCn_at g Q:=by
 unfold svCn_at
 refine path_wp (G:=given kp22 [] []) 4 [] ⟨(atC (cd Try.f22) [1,0,0]),[(0,AV.vec g 3 [])],[],_,[],_⟩ (by kernel_rfl) b0 q0 c0 (wp_nil 1 [0,4] (e1:=[(0,AV.vec g 3 []),(4,vb true)]) (e2:=[(0,AV.vec g 3 []),(4,vb false)]) (L1:=[]) (L2:=[]) (a1:=[]) (a2:=[]) (v1:=[(4,[],vb true),(3,[],AV.vec g 3 []),(0,[],AV.vec g 3 [])]) (v2:=[(4,[],vb false),(3,[],AV.vec g 3 []),(0,[],AV.vec g 3 [])]) (by kernel_rfl) (by kernel_rfl) allB_nil allB_nil (by kernel_rfl) (by kernel_rfl) ?_ ?_)
 ·have H:=H.1
  exact path_ret (G:=given kp22 [] []) 1000 [true] (k:=((atC (cd Try.f22) [1,0,1,0,1])).tail) (env':=[(2,AV.vnil)]) (L':=[]) (asm:=[true == true]) (eqs:=[]) (calls:=[]) (AV.vnil) (by kernel_rfl) (by kernel_rfl) (allB_cons rfl allB_nil) allP_nil allC_nil H
 ·have H:=H.2
  exact path_ret (G:=given kp22 [] []) 1000 [false] (k:=((atC (cd Try.f22) [1,1,1])).tail) (env':=[(2,AV.vec true 3 [])]) (L':=[]) (asm:=[false == false]) (eqs:=[]) (calls:=[]) (AV.vec true 3 []) (by kernel_rfl) (by kernel_rfl) (allB_cons rfl allB_nil) allP_nil allC_nil H
end Go.Av

namespace Go.Av
open Go.Proofs
theorem ev22 (g:Bool) (l:List Bk) (h:Sp.few6 l.length):Ev M1 (.pure 22 [bsA g l]) (bsA false l) []:=by
 unfold Sp.few6 at h
 cases l with
 | nil => exact call22 (suKe g _ ⟨.vnil 3,.full 3 []⟩)
 | cons y l => exact call22 (suKc g y l _ ⟨by simp at h;omega,.refl _⟩)
theorem evf22 (g:Bool) (l:List Bk) (h:l.length <= 1000000 /\ 0 < l.length):Ev M1 (.own 22 [bsA g l] []) (.row 0 0) [⟨l.map Bk.a,3,0,false,true⟩]:=by
 cases l with
 | nil => simp at h
 | cons y l => exact owncall22 (suKf g y l _ ⟨by simp at h;omega,rfl,rfl⟩)
namespace Sp
end Sp
end Go.Av

namespace Go.Av
open Go.Proofs
set_option maxRecDepth 100000
end Go.Av

namespace Go.Av
open Go.Proofs
abbrev sbA (g:Bool) (s:List Sb):AV:=.vec g 2 (s.map Sb.a)
namespace Sp
def callB (m:Int):Bk:=⟨false,true,[⟨77,98000⟩,⟨80,1000 * m⟩],[]⟩
def build (l:List Bk) (m:Int) (n a:Nat):Nat -> Nat -> List Bk
 | 0,_ => []
 | f + 1,i => if i < l.length then (if runR l a i n = true then callB m :: build l m n a f (i + n) else l.getD i default :: build l m n a f (i + 1)) else []
end Sp
theorem weak_tup2' {a a' b:AV} (h:Weak a a'):Weak (.tup [a,b]) (.tup [a',b]):=by
 refine .tup _ _ rfl fun i x y hx hy => ?_
 match i with
 | 0 => simp at hx hy;subst hx;subst hy;exact h
 | 1 => simp at hx hy;subst hx;subst hy;exact .refl _
 | i + 2 => simp at hx
theorem weak_agg2 {a a' b b':AV} (h:Weak a a') (k:Weak b b'):Weak (.agg [a,b]) (.agg [a',b']):=by
 refine .agg _ _ rfl fun i x y hx hy => ?_
 match i with
 | 0 => simp at hx hy;subst hx;subst hy;exact h
 | 1 => simp at hx hy;subst hx;subst hy;exact k
 | i + 2 => simp at hx
end Go.Av

namespace Go.Av
open Go.Proofs
set_option maxRecDepth 100000
end Go.Av

namespace Go.Av
open Go.RowKit
mutual
def meltA (L:Heap) (fs:List Nat):AV -> AV
 | .row r v => bif fs.contains r then (match L[r]? with
  | some row => bif row.clean then .vec false row.es row.elems else .row r v
  | none => .row r v) else .row r v
 | .agg cs => .agg (meltL L fs cs)
 | .tup cs => .tup (meltL L fs cs)
 | .any => .any | .bool b => .bool b | .int k n => .int k n | .str s => .str s | .flt b => .flt b | .nilp => .nilp | .vnil => .vnil | .nilf => .nilf | .nilm => .nilm
 | .ptr r v i j => .ptr r v i j | .eptr es xs i j => .eptr es xs i j | .vec f es xs => .vec f es xs | .ref r v lo len => .ref r v lo len | .func fn a b => .func fn a b | .mapr r => .mapr r
def meltL (L:Heap) (fs:List Nat):List AV -> List AV
 | [] => []
 | c :: r => meltA L fs c :: meltL L fs r
end
mutual
def meltT (L:Heap) (fs:List Nat):AV -> List Bool
 | .row r v => bif fs.contains r then (match L[r]? with
  | some row => [row.ver == v]
  | none => []) else []
 | .agg cs => meltTL L fs cs
 | .tup cs => meltTL L fs cs
 | _ => []
def meltTL (L:Heap) (fs:List Nat):List AV -> List Bool
 | [] => []
 | c :: r => meltT L fs c ++ meltTL L fs r
end
def meltR (L:Heap) (fs:List Nat) (row:Row):Row:=bif row.clean then row else { row with elems:=meltL L fs row.elems,clean:=cleanL (meltL L fs row.elems) }
def meltH (L:Heap) (fs:List Nat):Heap:=(freeze fs L).map (meltR L fs)
def meltV (L:Heap) (fs:List Nat) (env:Vars):Vars:=env.map fun e => (e.1,meltA L fs e.2)
def rowT (L:Heap) (fs:List Nat) (row:Row):List Bool:=bif row.clean then [] else meltTL L fs row.elems
def meltB (L:Heap) (fs:List Nat) (env:Vars):List Bool:=meltTL L fs (env.map (·.2)) ++ L.flatMap (rowT L fs)
theorem meltL_len (L:Heap) (fs:List Nat):∀ l,(meltL L fs l).length = l.length
 | [] => rfl
 | c :: l => by simp only [meltL,List.length_cons,meltL_len L fs l]
theorem meltL_get (L:Heap) (fs:List Nat):∀ (l:List AV) (i:Nat),(meltL L fs l)[i]? = l[i]?.map (meltA L fs)
 | [],i => by simp [meltL]
 | c :: l,0 => by simp [meltL]
 | c :: l,i + 1 => by simp only [meltL,List.getElem?_cons_succ];exact meltL_get L fs l i
theorem meltTL_mem {L:Heap} {fs:List Nat}:∀ {l:List AV} {i:Nat} {c:AV} {b:Bool},l[i]? = some c -> b ∈ meltT L fs c -> b ∈ meltTL L fs l
 | [],i,c,b,h,_ => by simp at h
 | x :: l,i,c,b,h,hb => by
  simp only [meltTL,List.mem_append]
  cases i with
  | zero => simp at h;subst h;exact .inl hb
  | succ i => exact .inr (meltTL_mem (by simpa using h) hb)
theorem melt_plain {L:Heap} {fs:List Nat} {a:AV} (h:a.plain = true):(meltA L fs a).plain = true:=by
 cases a with
 | row r v =>
  unfold meltA
  cases fs.contains r with
  | false => rfl
  | true =>
   simp only [cond_true]
   split
   ·rename_i row _
    cases row.clean <;> rfl
   ·rfl
 | any => exact h
 | agg cs => simp [AV.plain] at h
 | tup cs => simp [AV.plain] at h
 | _ => rfl
theorem melt_cells {L:Heap} {fs:List Nat} {x:AV} (h:x.cells.all AV.plain = true):(meltA L fs x).cells = meltL L fs x.cells:=by
 cases x with
 | agg cs => rfl
 | row r v =>
  have:(meltA L fs (.row r v)).cells = [meltA L fs (.row r v)]:=by
   unfold meltA
   cases fs.contains r with
   | false => rfl
   | true =>
    simp only [cond_true]
    split
    ·rename_i row _
     cases row.clean <;> rfl
    ·rfl
  rw [this];rfl
 | tup cs => simp [AV.cells,AV.plain] at h
 | _ => rfl
theorem drel_melt {S:St} {a:AV} {v:Value} (h:DRel S a v) (L:Heap) (fs:List Nat):meltA L fs a = a:=by
 have key:∀ (cs:List AV) (vs:List Value),cs.length = vs.length -> (∀ (i:Nat) c v,cs[i]? = some c -> vs[i]? = some v -> meltA L fs c = c) -> meltL L fs cs = cs:=by
  intro cs vs hl ih
  apply List.ext_getElem?
  intro i
  rw [meltL_get]
  cases hc:cs[i]? with
  | none => rfl
  | some c =>
   have hlt:i < vs.length:=by rw [<- hl];exact lt_of_get hc
   rw [Option.map_some,ih i c vs[i] hc (List.getElem?_eq_getElem hlt)]
 induction h with
 | agg cs vs hl _ ih => show AV.agg (meltL L fs cs) = _;rw [key cs vs hl ih]
 | tup cs vs hl _ ih => show AV.tup (meltL L fs cs) = _;rw [key cs vs hl ih]
 | _ => rfl
theorem melt_rel {S:St} (hS:HeapOk S) (fs:List Nat) {a:AV} {v:Value} (h:Rel S a v):(∀ b ∈ meltT S.L fs a,b = true) -> Rel ⟨S.base,S.acc,freeze fs S.L,S.β,S.w⟩ (meltA S.L fs a) v:=by
 have hex:=(freeze_ok fs hS).2
 induction h with
 | any v => exact fun _ => .any v
 | data a v h => 
  intro _
  rw [drel_melt h];exact .data _ _ (h.mono hex)
 | agg cs vs hl _ ih =>
  intro hb
  exact .agg _ vs (by rw [meltL_len];exact hl) fun i c v hc hv => by
   rw [meltL_get] at hc
   obtain ⟨c0,h1,rfl⟩:=Option.map_eq_some_iff.1 hc
   exact ih i c0 v h1 hv fun b hbm => hb b (meltTL_mem h1 hbm)
 | tup cs vs hl _ ih =>
  intro hb
  exact .tup _ vs (by rw [meltL_len];exact hl) fun i c v hc hv => by
   rw [meltL_get] at hc
   obtain ⟨c0,h1,rfl⟩:=Option.map_eq_some_iff.1 hc
   exact ih i c0 v h1 hv fun b hbm => hb b (meltTL_mem h1 hbm)
 | func fn a b va vb ha hb k1 k2 _ _ => exact fun _ => (Rel.func fn a b va vb ha hb k1 k2).mono hex
 | mapr r row info v h0 h3 h1 h2 => exact fun _ => (Rel.mapr r row info v h0 h3 h1 h2).mono hex
 | ptr r ver i j row info v h0 h1 h2 h3 h4 => exact fun _ => (Rel.ptr r ver i j row info v h0 h1 h2 h3 h4).mono hex
 | ref r ver lo len row info v h0 h1 h2 h3 h4 => exact fun _ => (Rel.ref r ver lo len row info v h0 h1 h2 h3 h4).mono hex
 | row r ver row info v h0 h1 h2 h3 h4 =>
  intro hb
  have same:=(Rel.row r ver row info v h0 h1 h2 h3 h4).mono hex
  unfold meltA
  cases hf:fs.contains r with
  | false => exact same
  | true =>
   simp only [cond_true,h1]
   cases hc:row.clean with
   | false => exact same
   | true =>
    simp only [cond_true]
    have hv:row.ver = ver:=by
     have:=hb (row.ver == ver) (by unfold meltT;rw [hf];simp only [cond_true,h1,List.mem_singleton])
     simpa using this
    have hm:=h0.2
    have hcap:=(hS.cells r row info h1 h2 hm).2.1
    rw [h4 hv]
    have hr:r ∈ fs:=by simpa using hf
    have:=row_data (S:=S) (S':=⟨S.base,S.acc,freeze fs S.L,S.β,S.w⟩) hS rfl (fun b off hi hb => (hex.imm b off hi hb).1) h1 h2 hm hc ((freeze_holds hS fs).sub fun q hq => by simp only [List.mem_singleton] at hq;rw [hq];exact hr) 0 row.elems.length info.cap (by omega) hcap
    simp only [Nat.zero_mul,Nat.add_zero,List.drop_zero,List.take_length] at this
    exact .data _ _ this
theorem relabel {S:St} (hS:HeapOk S) {K:Heap} (hl:K.length = S.L.length) (hK:∀ (r:Nat) row,S.L[r]? = some row -> ∃ row',K[r]? = some row' /\ row'.ver = row.ver /\ row'.elems.length = row.elems.length /\ row'.frozen = row.frozen):Ext S ⟨S.base,S.acc,K,S.β,S.w⟩:=by
 refine ⟨rfl,rfl,fun b off hi _ => ⟨⟨hi.1,fun q info hq he => ?_⟩,rfl⟩,fun q x y h1 h2 => ?_,Below.refl _ _,fun q x h => .inl ⟨q,x,h,rfl⟩,fun _ _ _ _ => rfl⟩
 ·obtain ⟨x0,a1,a2,a3,a4⟩:=hi.2 q info hq he
  obtain ⟨x,b1,_,b3,b4⟩:=hK q x0 a1
  exact ⟨x,b1,b4.trans a2,a3,by rw [b3];exact a4⟩
 ·obtain ⟨x',b1,b2,b3,_⟩:=hK q x h1
  exact ⟨x',y,b1,h2,Nat.le_of_eq b2.symm,fun _ => ⟨rfl,fun _ => b3⟩,rfl,fun _ => rfl⟩
theorem melt_ok {S:St} (hS:HeapOk S) (fs:List Nat) (hb:∀ row ∈ S.L,∀ b ∈ rowT S.L fs row,b = true):HeapOk ⟨S.base,S.acc,meltH S.L fs,S.β,S.w⟩ /\ Ext S ⟨S.base,S.acc,meltH S.L fs,S.β,S.w⟩ /\
  ∀ a v,Rel S a v -> (∀ b ∈ meltT S.L fs a,b = true) -> Rel ⟨S.base,S.acc,meltH S.L fs,S.β,S.w⟩ (meltA S.L fs a) v:=by
 obtain ⟨hF,hE⟩:=freeze_ok fs hS
 have hX:Ext ⟨S.base,S.acc,freeze fs S.L,S.β,S.w⟩ ⟨S.base,S.acc,meltH S.L fs,S.β,S.w⟩:=relabel (S:=⟨S.base,S.acc,freeze fs S.L,S.β,S.w⟩) hF (by simp [meltH]) fun r row h => by
  refine ⟨meltR S.L fs row,by simp only at h;simp [meltH,h],?_⟩
  unfold meltR
  cases row.clean with
  | true => exact ⟨rfl,rfl,rfl⟩
  | false => exact ⟨rfl,meltL_len ..,rfl⟩
 have hrel:∀ a v,Rel S a v -> (∀ b ∈ meltT S.L fs a,b = true) -> Rel ⟨S.base,S.acc,meltH S.L fs,S.β,S.w⟩ (meltA S.L fs a) v:=fun a v h hb => (melt_rel hS fs h hb).mono hX
 have back:∀ (r:Nat) row,(meltH S.L fs)[r]? = some row -> ∃ row0 f,S.L[r]? = some row0 /\ row = meltR S.L fs { row0 with frozen:=f }:=by
  intro r row h
  unfold meltH at h
  rw [List.getElem?_map] at h
  obtain ⟨x,h1,rfl⟩:=Option.map_eq_some_iff.1 h
  have hlt:r < S.L.length:=by
   have:=(List.getElem?_eq_some_iff.1 h1).1
   have hl:(freeze fs S.L).length = S.L.length:=by rw [hF.len.trans hS.len.symm]
   omega
  obtain ⟨f,g1,_⟩:=freeze_get fs S.L r _ (List.getElem?_eq_getElem hlt)
  rw [h1] at g1
  simp only [Option.some.injEq] at g1
  exact ⟨_,f,List.getElem?_eq_getElem hlt,by rw [g1]⟩
 have hboth:Ext S ⟨S.base,S.acc,meltH S.L fs,S.β,S.w⟩:=hE.trans hX
 have cell:∀ (r:Nat) row0 f,S.L[r]? = some row0 -> ∀ (i:Nat) x,(meltR S.L fs { row0 with frozen:=f }).elems[i]? = some x ->
   ∃ x0,row0.elems[i]? = some x0 /\ x.cells.length = x0.cells.length /\ x.cells.all AV.plain = true /\ ((row0.clean = true /\ x = x0) \/ (row0.clean = false /\ x = meltA S.L fs x0 /\ ∀ b ∈ meltT S.L fs x0,b = true)):=by
  intro r row0 f h0 i x hx
  unfold meltR at hx
  cases hc:row0.clean with
  | true =>
   simp only [hc,cond_true] at hx
   obtain ⟨o1,o2⟩:=hS.elems r row0 h0 i x hx
   exact ⟨x,hx,rfl,o2,.inl ⟨rfl,rfl⟩⟩
  | false =>
   simp only [hc,cond_false] at hx
   rw [meltL_get] at hx
   obtain ⟨x0,h1,rfl⟩:=Option.map_eq_some_iff.1 hx
   obtain ⟨o1,o2⟩:=hS.elems r row0 h0 i x0 h1
   refine ⟨x0,h1,by rw [melt_cells o2,meltL_len],?_,.inr ⟨rfl,rfl,fun b hbm => hb row0 (List.mem_of_getElem? h0) b (by unfold rowT;rw [hc];exact meltTL_mem h1 hbm)⟩⟩
   rw [melt_cells o2]
   refine List.all_eq_true.2 fun c hcm => ?_
   obtain ⟨k,hk⟩:=List.getElem?_of_mem hcm
   rw [meltL_get] at hk
   obtain ⟨c0,q1,rfl⟩:=Option.map_eq_some_iff.1 hk
   exact melt_plain (List.all_eq_true.1 o2 c0 (List.mem_of_getElem? q1))
 have cellr:∀ (r:Nat) row0 f info,S.L[r]? = some row0 -> S.β[r]? = some info -> ∀ (i:Nat) x (k:Nat) c cv,(meltR S.L fs { row0 with frozen:=f }).elems[i]? = some x -> x.cells[k]? = some c -> S.w.cell? ⟨info.blk,info.off + i * info.es + k,none⟩ = some cv ->
   Rel ⟨S.base,S.acc,meltH S.L fs,S.β,S.w⟩ c cv /\ ((meltR S.L fs { row0 with frozen:=f }).clean = true -> DRel ⟨S.base,S.acc,meltH S.L fs,S.β,S.w⟩ c cv):=by
  intro r row0 f info h0 hi i x k c cv hx hk hcv
  obtain ⟨x0,e1,e2,e3,e4⟩:=cell r row0 f h0 i x hx
  rcases e4 with ⟨hc,rfl⟩ | ⟨hc,rfl,hbb⟩
  ·exact ⟨(hS.rel r row0 info i x k c cv h0 hi e1 hk hcv).mono hboth,fun _ => (hS.clean r row0 info i x k c cv h0 hi hc e1 hk hcv).mono hboth⟩
  ·have o2:=(hS.elems r row0 h0 i x0 e1).2
   rw [melt_cells o2,meltL_get] at hk
   obtain ⟨c0,q1,rfl⟩:=Option.map_eq_some_iff.1 hk
   have hr:=hrel c0 cv (hS.rel r row0 info i x0 k c0 cv h0 hi e1 q1 hcv) fun b hbm => hbb b (by
    cases x0 with
    | agg cs => exact meltTL_mem q1 hbm
    | tup cs => simp [AV.cells,AV.plain] at o2
    | _ => 
     cases k with
     | zero => simp [AV.cells] at q1;subst q1;exact hbm
     | succ k => simp [AV.cells] at q1)
   refine ⟨hr,fun hcl => rel_clean hr ?_⟩
   unfold meltR at hcl hx
   simp only [hc,cond_false] at hcl hx
   have hx2:=cleanL_get hcl i _ hx
   have hc2:(meltA S.L fs x0).cells[k]? = some (meltA S.L fs c0):=by rw [melt_cells o2,meltL_get,q1];rfl
   generalize meltA S.L fs x0 = y at hx2 hc2
   cases y with
   | agg cs => exact cleanL_get (show cleanL cs = true by simpa [AV.clean] using hx2) k _ hc2
   | _ =>
    cases k with
    | zero => simp [AV.cells] at hc2;rw [<- hc2];exact hx2
    | succ k => simp [AV.cells] at hc2
 refine ⟨⟨hS.base,by simp [meltH];exact hF.len,hS.blk,hS.inj,fun r row info h h' hm => ?_,fun r row info h h' hm => ?_,fun r row h => ?_,fun r row info i x k c cv h h' hx hk hcv => ?_,fun r row info i x k c cv h h' hcl hx hk hcv => ?_,hS.acq,hS.anew⟩,hboth,hrel⟩
 ·obtain ⟨row0,f,h0,rfl⟩:=back r row h
  obtain ⟨es,c1,c2,c3,c4⟩:=hS.maps r row0 info h0 h' hm
  have hlen:(meltR S.L fs { row0 with frozen:=f }).elems.length = row0.elems.length /\ (meltR S.L fs { row0 with frozen:=f }).es = row0.es:=by
   unfold meltR
   cases row0.clean with
   | true => exact ⟨rfl,rfl⟩
   | false => exact ⟨meltL_len ..,rfl⟩
  refine ⟨es,c1,by rw [hlen.1];exact c2,by rw [hlen.2];exact c3,fun i e x he hx => ?_⟩
  obtain ⟨x0,e1,_,_,e4⟩:=cell r row0 f h0 i x hx
  obtain ⟨p1,kk,n,v,rfl,p3,p4,p5,p6⟩:=c4 i e x0 he e1
  rcases e4 with ⟨hc,rfl⟩ | ⟨hc,rfl,hbb⟩
  ·exact ⟨p1,kk,n,v,rfl,p3,p4,p5.mono hboth,fun _ => (p6 hc).mono hboth⟩
  ·have hr:=hrel v e.val p5 (fun b hbm => hbb b (meltTL_mem (l:=[.int kk n,v]) (i:=1) rfl hbm))
   refine ⟨p1,kk,n,meltA S.L fs v,rfl,p3,melt_plain p4,hr,fun hcl => rel_clean hr ?_⟩
   unfold meltR at hcl hx
   simp only [hc,cond_false] at hcl hx
   have:=cleanL_get hcl i _ hx
   simpa [meltA,meltL,AV.clean,cleanL] using this
 ·obtain ⟨row0,f,h0,rfl⟩:=back r row h
  have hlen:(meltR S.L fs { row0 with frozen:=f }).elems.length = row0.elems.length /\ (meltR S.L fs { row0 with frozen:=f }).es = row0.es:=by
   unfold meltR
   cases row0.clean with
   | true => exact ⟨rfl,rfl⟩
   | false => exact ⟨meltL_len ..,rfl⟩
  rw [hlen.1,hlen.2];exact hS.cells r row0 info h0 h' hm
 ·obtain ⟨row0,f,h0,rfl⟩:=back r row h
  intro i x hx
  obtain ⟨x0,e1,e2,e3,_⟩:=cell r row0 f h0 i x hx
  have o1:=(hS.elems r row0 h0 i x0 e1).1
  refine ⟨?_,e3⟩
  have:(meltR S.L fs { row0 with frozen:=f }).es = row0.es:=by
   unfold meltR
   cases row0.clean <;> rfl
  rw [this,e2];exact o1
 ·obtain ⟨row0,f,h0,rfl⟩:=back r row h
  exact (cellr r row0 f info h0 h' i x k c cv hx hk hcv).1
 ·obtain ⟨row0,f,h0,rfl⟩:=back r row h
  exact (cellr r row0 f info h0 h' i x k c cv hx hk hcv).2 hcl
theorem meltV_get (L:Heap) (fs:List Nat) (env:Vars) (t:Nat):(meltV L fs env).get t = meltA L fs (env.get t):=by
 induction env with
 | nil => rfl
 | cons e env ih =>
  obtain ⟨k,v⟩:=e
  simp only [meltV,List.map_cons,Vars.get]
  cases k == t with
  | true => rfl
  | false => exact ih
theorem wp_melt {M:Mach} (hm:(M.P ()).follows .mixedOrders = true) {fi:Fi} {k:List Item} {env env':Vars} {L L':Heap} {Q:AV -> Heap -> Prop} (fs:List Nat) {bs:List Bool} (he:meltV L fs env = env') (hl:meltH L fs = L') (hb:meltB L fs env = bs) (ha:allB bs)
  (h:Wp M (.run fi k env' L') Q):Wp M (.run fi k env L) Q:=by
 refine .sem fun S b a cs fn h1 h2 h3 h4 h5 h6 h7 h8 => ?_
 subst h6;subst he;subst hl;subst hb
 have ha:=(allB_iff _).1 ha
 obtain ⟨m1,m2,m3⟩:=melt_ok h5 fs fun row hr b hbm => ha b (by unfold meltB;exact List.mem_append_right _ (List.mem_flatMap.2 ⟨row,hr,hbm⟩))
 have hV:VRel ⟨S.base,S.acc,meltH S.L fs,S.β,S.w⟩ (meltV S.L fs env) a.tmps:=by
  intro t
  rw [meltV_get]
  refine m3 _ _ (h7 t) fun b hbm => ha b ?_
  unfold meltB
  refine List.mem_append_left _ ?_
  have key:∀ env:Vars,b ∈ meltT S.L fs (env.get t) -> b ∈ meltTL S.L fs (env.map (·.2)):=by
   intro env
   induction env with
   | nil => intro h;simp [Vars.get,meltT] at h
   | cons e env ih =>
    obtain ⟨k,v⟩:=e
    simp only [Vars.get,List.map_cons,meltTL,List.mem_append]
    cases k == t with
    | true => exact fun h => .inl h
    | false => exact fun h => .inr (ih h)
  exact key env hbm
 obtain ⟨a',todo',Ds,w',β',v,L1,q1,q2,q3,q4,q5,q6,q7,q8,q9⟩:=(wp_sound hm (c:=.run fi k _ _) h:RunSnd M fi k _ _ Q) ⟨S.base,S.acc,meltH S.L fs,S.β,S.w⟩ b a cs fn h1 h2 h3 h4 m1 rfl hV h8
 exact ⟨a',todo',Ds,w',β',v,L1,q1,q2,q3,q4,q5,q6,q7,q8,m2.trans q9⟩
end Go.Av

namespace Go.Av
open Go.Proofs
end Go.Av

namespace Go.Av
open Go.Proofs
end Go.Av

namespace Go.Av
open Go.Proofs
set_option maxRecDepth 100000
def fi24:Fi:=⟨57,[.tmp 4]⟩
def kp24:List (Nat × List Nat):=[(0,[2,3]),(1,[2,3,20]),(2,[4]),(3,[2,3,5]),(4,[2,3,5,25]),(5,[2,3,5]),(6,[2,3,5,56]),(7,[4]),(8,[4])]
def fi25:Fi:=⟨28,[.cell 2 34]⟩
def kp25:List (Nat × List Nat):=[(0,[1,2]),(1,[1,2,3]),(2,[2,3,10,11,12]),(3,[2,3,10,11,12,13]),(4,[2,3,5,10,11,12]),(5,[2,3,10,11,12]),(6,[2,3,10,11,12]),(7,[2])]
def suBk_at (g:Bool) (l:List Bk) (h:Bool) (s:List Sb) (Q:AV -> Heap -> Prop):Prop:=Wp M1 (.run fi25 (atC (cd Try.f25) []) [(0,.agg [.vec g 3 (l.map Bk.a),.vec h 2 (s.map Sb.a)])] []) Q
def suBkz_at (g:Bool) (l:List Bk) (h:Bool) (s:List Sb) (n i:Int) (Q:AV -> Heap -> Prop):Prop:=Wp M1 (.run fi25 (atC (cd Try.f25) [1,1,0,1,0,0]) [(2,.ptr 0 0 0 0),(3,.ptr 1 0 0 0),(10,.vec h 2 (s.map Sb.a)),(11,.int .i64 n),(12,.int .i64 i)] [⟨[.agg [.vnil,.vnil]],2,0,false,false⟩,⟨[.agg [.vec g 3 (l.map Bk.a),.vnil]],2,0,false,false⟩]) Q
def suBka_at (g:Bool) (l:List Bk) (h:Bool) (s:List Sb) (n i:Int) (o:List Sb) (v:Nat) (Q:AV -> Heap -> Prop):Prop:=Wp M1 (.run fi25 (atC (cd Try.f25) [1,1,0,1,0,0]) [(2,.ptr 0 0 0 0),(3,.ptr 1 0 0 0),(10,.vec h 2 (s.map Sb.a)),(11,.int .i64 n),(12,.int .i64 i)] [⟨[.agg [.vnil,.vnil]],2,0,false,false⟩,⟨[.agg [.vec g 3 (l.map Bk.a),.row 2 v]],2,0,false,false⟩,⟨o.map Sb.a,2,v,false,true⟩]) Q
def suPs_at (g:Bool) (l:List Bk) (h:Bool) (s:List Sb) (g2 h2:Bool) (l2:List Bk) (s2:List Sb) (Q:AV -> Heap -> Prop):Prop:=Wp M1 (.run fi24 (atC (cd Try.f24) []) [(0,.agg [.vec g 3 (l.map Bk.a),.vec h 2 (s.map Sb.a)]),(1,.agg [.vec g2 3 (l2.map Bk.a),.vec h2 2 (s2.map Sb.a)])] []) Q
def suPsa_at (g:Bool) (l:List Bk) (h:Bool) (s:List Sb) (g2 h2:Bool) (l2:List Bk) (s2:List Sb) (i:Int) (Q:AV -> Heap -> Prop):Prop:=Wp M1 (.run fi24 (atC (cd Try.f24) [1,1,0,1,0,0]) [(2,.ptr 0 0 0 0),(3,.ptr 1 0 0 0),(5,.int .i64 i)] [⟨[.agg [.vec g 3 (l.map Bk.a),.vec h 2 (s.map Sb.a)]],2,0,false,false⟩,⟨[.agg [.vec g2 3 (l2.map Bk.a),.vec h2 2 (s2.map Sb.a)]],2,0,false,false⟩]) Q
theorem call24 {args:List AV} {d:AV} (h:wc M1 fi24 Try.f24 args d):Ev M1 (.pure 24 args) d []:=pcl _ _ (by kernel_rfl) h
theorem call25 {args:List AV} {d:AV} (h:wc M1 fi25 Try.f25 args d):Ev M1 (.pure 25 args) d []:=pcl _ _ (by kernel_rfl) h
theorem suBk (g:Bool) (l:List Bk) (h:Bool) (s:List Sb)  (dq:AV) (H :
  suBkz_at (g) (l) (h) (s) ((↑s.length:Int)) (0) (PureQ dq)) :
 suBk_at g l h s (PureQ dq):=by
 unfold suBk_at
 have w1:(List.map Sb.a s).length = s.length:=List.length_map ..
 exact path_wp (G:=given kp25 [] []) 1000 [] ⟨(atC (cd Try.f25) [1,1,0,1,0,0]),[(2,AV.ptr 1 0 0 0),(3,AV.ptr 2 0 0 0),(10,AV.vec h 2 (List.map Sb.a s)),(11,vi (↑(List.map Sb.a s).length:Int)),(12,vi 0)],[⟨[ag [AV.vec g 3 (List.map Bk.a l),AV.vec h 2 (List.map Sb.a s)]],2,0,false,false⟩,⟨[ag [AV.vnil,AV.vnil]],2,0,false,false⟩,⟨[ag [AV.vec g 3 (List.map Bk.a l),AV.vnil]],2,0,false,false⟩],_,[],_⟩ (by kernel_rfl) (bc rfl (bc rfl (bc rfl b0))) q0 c0 (by (try rw [w1]);all_goals exact wp_narrow [1,2] (by kernel_rfl) H)
theorem suBkz (g:Bool) (l:List Bk) (h:Bool) (s:List Sb) (n i:Int)  (dq:AV) (H :
  ((i < n) -> (0 <= i) /\
   (i.toNat < s.length) /\
   (-9223372036854775808 <= i + 1 /\ i + 1 <= 9223372036854775807) /\
   suBka_at (g) (l) (h) (s) (n) (i + 1) ([{ n:=(s.getD i.toNat default).n,f:=(s.getD i.toNat default).2,bl:=(s.getD i.toNat default).3 }]) (0) (PureQ dq)) /\
  (¬(i < n) -> Weak (ag [AV.vec g 3 (List.map Bk.a l),AV.vnil]) dq)) :
 suBkz_at g l h s n i (PureQ dq):=by
 unfold suBkz_at
 rcases xm (i < n) with d2 | d2
 ·have H:=H.1 d2
  obtain ⟨k4,H⟩:=H
  have w5:(List.map Sb.a s).length = s.length:=List.length_map ..
  have i6:(decide (i.toNat < (List.map Sb.a s).length)) = true ↔ (i.toNat < s.length):=(by (try rw [w5]);all_goals exact i_dec)
  obtain ⟨k7,H⟩:=H
  obtain ⟨k8,H⟩:=H
  have w9:wi (i + 1) = i + 1:=wI64 k8
  have w10:[ag [vi (s.getD i.toNat default).n,AV.vec (s.getD i.toNat default).2 3 (List.map Bk.a (s.getD i.toNat default).3)]] = List.map Sb.a [{ n:=(s.getD i.toNat default).n,f:=(s.getD i.toNat default).2,bl:=(s.getD i.toNat default).3 }]:=rfl
  exact path_wp (G:=given kp25 [(4,1,.elem (ag [vi (s.getD i.toNat default).n,AV.vec (s.getD i.toNat default).2 3 (List.map Bk.a (s.getD i.toNat default).3)]))] []) 1000 [true] ⟨(atC (cd Try.f25) [1,1,0,1,0,0]),[(2,AV.ptr 0 0 0 0),(3,AV.ptr 1 0 0 0),(10,AV.vec h 2 (List.map Sb.a s)),(11,vi n),(12,vi (wi (i + 1)))],[⟨[ag [AV.vnil,AV.vnil]],2,0,false,false⟩,⟨[ag [AV.vec g 3 (List.map Bk.a l),AV.row 3 0]],2,0,false,false⟩,⟨[ag [vi (s.getD i.toNat default).n,AV.vec (s.getD i.toNat default).2 3 (List.map Bk.a (s.getD i.toNat default).3)]],2,0,false,false⟩,⟨[ag [vi (s.getD i.toNat default).n,AV.vec (s.getD i.toNat default).2 3 (List.map Bk.a (s.getD i.toNat default).3)]],2,0,false,true⟩],_,[((List.map Sb.a s).get?Internal i.toNat = some (ag [vi (s.getD i.toNat default).n,AV.vec (s.getD i.toNat default).2 3 (List.map Bk.a (s.getD i.toNat default).3)]))],_⟩ (by kernel_rfl) (bc (beq_t (i_dec.2 d2)) (bc (i_dec.2 k4) (bc (i6.2 k7) (bc rfl (bc rfl (bc rfl (bc rfl (bc rfl (bc rfl b0))))))))) (qc (el_map k7) q0) c0 (by (try rw [w9]);(try rw [w10]);all_goals exact wp_narrow [0,1,3] (by kernel_rfl) H)
 ·have H:=H.2 d2
  exact path_rq (G:=given kp25 [] []) 1000 [false] (ag [AV.vec g 3 (List.map Bk.a l),AV.vnil]) (by kernel_rfl) (bc (beq_f (fun h => d2 (i_dec.1 h))) (bc rfl (bc rfl b0))) q0 c0 H
theorem suBka (g:Bool) (l:List Bk) (h:Bool) (s:List Sb) (n i:Int) (o:List Sb) (v:Nat)  (dq:AV) (H :
  ((i < n) -> (0 <= i) /\
   (i.toNat < s.length) /\
   ((o.length + 1) * 32 <= 1099511627776) /\
   (-9223372036854775808 <= i + 1 /\ i + 1 <= 9223372036854775807) /\
   suBka_at (g) (l) (h) (s) (n) (i + 1) (o ++ [{ n:=(s.getD i.toNat default).n,f:=(s.getD i.toNat default).2,bl:=(s.getD i.toNat default).3 }]) (v + 1) (PureQ dq)) /\
  (¬(i < n) -> Weak (ag [AV.vec g 3 (List.map Bk.a l),AV.vec false 2 (List.map Sb.a o)]) dq)) :
 suBka_at g l h s n i o v (PureQ dq):=by
 unfold suBka_at
 rcases xm (i < n) with d2 | d2
 ·have H:=H.1 d2
  obtain ⟨k4,H⟩:=H
  have w5:(List.map Sb.a s).length = s.length:=List.length_map ..
  have i6:(decide (i.toNat < (List.map Sb.a s).length)) = true ↔ (i.toNat < s.length):=(by (try rw [w5]);all_goals exact i_dec)
  obtain ⟨k7,H⟩:=H
  have w8:(List.map Sb.a o).length = o.length:=List.length_map ..
  have i9:(decide (((List.map Sb.a o).length + 1) * 32 <= 1099511627776)) = true ↔ ((o.length + 1) * 32 <= 1099511627776):=(by (try rw [w8]);all_goals exact i_dec)
  obtain ⟨k10,H⟩:=H
  have w11:List.map Sb.a o ++ [ag [vi (s.getD i.toNat default).n,AV.vec (s.getD i.toNat default).2 3 (List.map Bk.a (s.getD i.toNat default).3)]] = List.map Sb.a (o ++ [{ n:=(s.getD i.toNat default).n,f:=(s.getD i.toNat default).2,bl:=(s.getD i.toNat default).3 }]):=(lm_app rfl rfl)
  obtain ⟨k12,H⟩:=H
  have w13:wi (i + 1) = i + 1:=wI64 k12
  exact path_wp (G:=given kp25 [(4,1,.elem (ag [vi (s.getD i.toNat default).n,AV.vec (s.getD i.toNat default).2 3 (List.map Bk.a (s.getD i.toNat default).3)]))] []) 1000 [true] ⟨(atC (cd Try.f25) [1,1,0,1,0,0]),[(2,AV.ptr 0 0 0 0),(3,AV.ptr 1 0 0 0),(10,AV.vec h 2 (List.map Sb.a s)),(11,vi n),(12,vi (wi (i + 1)))],[⟨[ag [AV.vnil,AV.vnil]],2,0,false,false⟩,⟨[ag [AV.vec g 3 (List.map Bk.a l),AV.row 2 (v + 1)]],2,0,false,false⟩,⟨List.map Sb.a o ++ [ag [vi (s.getD i.toNat default).n,AV.vec (s.getD i.toNat default).2 3 (List.map Bk.a (s.getD i.toNat default).3)]],2,v + 1,false,true⟩,⟨[ag [vi (s.getD i.toNat default).n,AV.vec (s.getD i.toNat default).2 3 (List.map Bk.a (s.getD i.toNat default).3)]],2,0,false,false⟩],[(decide (i < n)) == true,decide (0 <= i),decide (i.toNat < (List.map Sb.a s).length),true,true,true,true,v == v,decide (((List.map Sb.a o).length + 1) * 32 <= 1099511627776),true],[((List.map Sb.a s).get?Internal i.toNat = some (ag [vi (s.getD i.toNat default).n,AV.vec (s.getD i.toNat default).2 3 (List.map Bk.a (s.getD i.toNat default).3)]))],_⟩ (by kernel_rfl) (bc (beq_t (i_dec.2 d2)) (bc (i_dec.2 k4) (bc (i6.2 k7) (bc rfl (bc rfl (bc rfl (bc rfl (bc (beq_self_eq_true _) (bc (i9.2 k10) (bc rfl b0)))))))))) (qc (el_map k7) q0) c0 (by (try rw [w11]);(try rw [w13]);all_goals exact wp_narrow [0,1,2] (by kernel_rfl) H)
 ·have H:=H.2 d2
  exact path_ret (G:=given kp25 [] []) 1000 [false] (k:=((atC (cd Try.f25) [1,1,1,1])).tail) (env':=[(2,AV.ptr 0 0 0 0)]) (L':=[⟨[ag [AV.vec g 3 (List.map Bk.a l),AV.row 2 v]],2,0,false,false⟩,⟨[ag [AV.vec g 3 (List.map Bk.a l),AV.row 2 v]],2,0,false,false⟩,⟨List.map Sb.a o,2,v,false,true⟩]) (asm:=[(decide (i < n)) == false,true,true]) (eqs:=[]) (calls:=[]) (ag [AV.vec g 3 (List.map Bk.a l),AV.row 2 v]) (by kernel_rfl) (by kernel_rfl) (allB_cons (beq_f (fun h => d2 (i_dec.1 h))) (allB_cons rfl (allB_cons rfl allB_nil))) allP_nil allC_nil (pq_weak (d:=(ag [AV.vec g 3 (List.map Bk.a l),AV.vec false 2 (List.map Sb.a o)])) (bs:=[v == v]) (by kernel_rfl) (by kernel_rfl) (allB_cons (beq_self_eq_true _) allB_nil) (by kernel_rfl) H)
theorem suPs (g:Bool) (l:List Bk) (h:Bool) (s:List Sb) (g2 h2:Bool) (l2:List Bk) (s2:List Sb)  (dq:AV) (H :
  (Sp.okBs l) /\
  (((¬(Sp.sameL l l2 = true)) \/ (¬(↑s.length:Int) = (↑s2.length:Int))) -> vb false = dq) /\
  (¬((¬(Sp.sameL l l2 = true)) \/ (¬(↑s.length:Int) = (↑s2.length:Int))) -> suPsa_at (g) (l) (h) (s) (g2) (h2) (l2) (s2) (0) (PureQ dq))) :
 suPs_at g l h s g2 h2 l2 s2 (PureQ dq):=by
 unfold suPs_at
 obtain ⟨k1,H⟩:=H
 have w2:(List.map Sb.a s).length = s.length:=List.length_map ..
 have w3:(List.map Sb.a s2).length = s2.length:=List.length_map ..
 have i4:(bif !Sp.sameL l l2 then true else (↑(List.map Sb.a s).length:Int) != (↑(List.map Sb.a s2).length:Int)) = true ↔ ((¬(Sp.sameL l l2 = true)) \/ (¬(↑s.length:Int) = (↑s2.length:Int))):=(by (try rw [w2]);(try rw [w3]);all_goals exact (i_bor (i_not (i_var _)) i_ne))
 refine path_wp (G:=given kp24 [(1,4,.call (vb (Sp.sameL l l2)) none)] []) 5 [] ⟨(atC (cd Try.f24) [1,0,1]),[(2,AV.ptr 0 0 0 0),(3,AV.ptr 1 0 0 0),(20,vb (bif !Sp.sameL l l2 then true else (↑(List.map Sb.a s).length:Int) != (↑(List.map Sb.a s2).length:Int)))],[⟨[ag [AV.vec g 3 (List.map Bk.a l),AV.vec h 2 (List.map Sb.a s)]],2,0,false,false⟩,⟨[ag [AV.vec g2 3 (List.map Bk.a l2),AV.vec h2 2 (List.map Sb.a s2)]],2,0,false,false⟩],[true,true,!((!Sp.sameL l l2) == false && true) || true,!((!Sp.sameL l l2) == false && true) || true],[],_⟩ (by kernel_rfl) (bc rfl (bc rfl (bc (Bool.or_true _) (bc (Bool.or_true _) b0)))) q0 (ce (@ev18 (g) (g2) (l) (l2) k1) c0) ?_
 rcases xm ((¬(Sp.sameL l l2 = true)) \/ (¬(↑s.length:Int) = (↑s2.length:Int))) with d5 | d5
 ·have H:=H.1 d5
  exact path_re (G:=given kp24 [] []) 1000 [true] (vb false) (by kernel_rfl) (bc (beq_t (i4.2 d5)) b0) q0 c0 H
 ·have H:=H.2 d5
  exact path_wp (G:=given kp24 [] []) 1000 [false] ⟨(atC (cd Try.f24) [1,1,0,1,0,0]),[(2,AV.ptr 0 0 0 0),(3,AV.ptr 1 0 0 0),(5,vi 0)],[⟨[ag [AV.vec g 3 (List.map Bk.a l),AV.vec h 2 (List.map Sb.a s)]],2,0,false,false⟩,⟨[ag [AV.vec g2 3 (List.map Bk.a l2),AV.vec h2 2 (List.map Sb.a s2)]],2,0,false,false⟩],_,[],_⟩ (by kernel_rfl) (bc (beq_f (fun h => d5 (i4.1 h))) b0) q0 c0 (H)
noncomputable abbrev zSpL1 (s:List Sb) (i:Int) (s2:List Sb):=bif (s.getD i.toNat default).n != (s2.getD i.toNat default).n then true else !Sp.sameL (s.getD i.toNat default).3 (s2.getD i.toNat default).3
theorem suPsa (g:Bool) (l:List Bk) (h:Bool) (s:List Sb) (g2 h2:Bool) (l2:List Bk) (s2:List Sb) (i:Int)  (dq:AV) (H :
  ((i < (↑s.length:Int)) -> ((¬(¬(s.getD i.toNat default).n = (s2.getD i.toNat default).n)) -> (Sp.okBs (s.getD i.toNat default).3)) /\
   (0 <= i) /\
   (i.toNat < s.length) /\
   (i.toNat < s2.length) /\
   (((¬(s.getD i.toNat default).n = (s2.getD i.toNat default).n) \/ (¬(Sp.sameL (s.getD i.toNat default).3 (s2.getD i.toNat default).3 = true))) -> vb false = dq) /\
   (¬((¬(s.getD i.toNat default).n = (s2.getD i.toNat default).n) \/ (¬(Sp.sameL (s.getD i.toNat default).3 (s2.getD i.toNat default).3 = true))) -> (-9223372036854775808 <= i + 1 /\ i + 1 <= 9223372036854775807) /\
    suPsa_at (g) (l) (h) (s) (g2) (h2) (l2) (s2) (i + 1) (PureQ dq))) /\
  (¬(i < (↑s.length:Int)) -> vb true = dq)) :
 suPsa_at g l h s g2 h2 l2 s2 i (PureQ dq):=by
 unfold suPsa_at
 have w1:(List.map Sb.a s).length = s.length:=List.length_map ..
 have i2:(decide (i < (↑(List.map Sb.a s).length:Int))) = true ↔ (i < (↑s.length:Int)):=(by (try rw [w1]);all_goals exact i_dec)
 rcases xm (i < (↑s.length:Int)) with d3 | d3
 ·have H:=H.1 d3
  obtain ⟨k5,H⟩:=H
  obtain ⟨k7,H⟩:=H
  have i8:(decide (i.toNat < (List.map Sb.a s).length)) = true ↔ (i.toNat < s.length):=(by (try rw [w1]);all_goals exact i_dec)
  obtain ⟨k9,H⟩:=H
  have w11:(List.map Sb.a s2).length = s2.length:=List.length_map ..
  have i12:(decide (i.toNat < (List.map Sb.a s2).length)) = true ↔ (i.toNat < s2.length):=(by (try rw [w11]);all_goals exact i_dec)
  obtain ⟨k13,H⟩:=H
  have i15:(!(((s.getD i.toNat default).n != (s2.getD i.toNat default).n) == false && true) || decide (i.toNat < (List.map Sb.a s).length)) = true ↔ ((¬(¬(s.getD i.toNat default).n = (s2.getD i.toNat default).n)) -> (i.toNat < s.length)):=(by (try rw [w1]);all_goals exact (i_imp (i_at (i_bf i_ne)) i_dec))
  have i17:(!(((s.getD i.toNat default).n != (s2.getD i.toNat default).n) == false && true) || decide (i.toNat < (List.map Sb.a s2).length)) = true ↔ ((¬(¬(s.getD i.toNat default).n = (s2.getD i.toNat default).n)) -> (i.toNat < s2.length)):=(by (try rw [w11]);all_goals exact (i_imp (i_at (i_bf i_ne)) i_dec))
  refine path_wp (G:=given kp24 [(6,5,.elem (ag [vi (s.getD i.toNat default).n,AV.vec (s.getD i.toNat default).2 3 (List.map Bk.a (s.getD i.toNat default).3)])),(6,11,.elem (ag [vi (s2.getD i.toNat default).n,AV.vec (s2.getD i.toNat default).2 3 (List.map Bk.a (s2.getD i.toNat default).3)])),(6,19,.elem (ag [vi (s.getD i.toNat default).n,AV.vec (s.getD i.toNat default).2 3 (List.map Bk.a (s.getD i.toNat default).3)])),(6,25,.elem (ag [vi (s2.getD i.toNat default).n,AV.vec (s2.getD i.toNat default).2 3 (List.map Bk.a (s2.getD i.toNat default).3)])),(6,26,.call (vb (Sp.sameL (s.getD i.toNat default).3 (s2.getD i.toNat default).3)) none)] []) 9 [true] ⟨(atC (cd Try.f24) [1,1,0,1,0,0,1,0,0,1]),[(2,AV.ptr 0 0 0 0),(3,AV.ptr 1 0 0 0),(5,vi i),(56,vb (zSpL1 s i s2))],[⟨[ag [AV.vec g 3 (List.map Bk.a l),AV.vec h 2 (List.map Sb.a s)]],2,0,false,false⟩,⟨[ag [AV.vec g2 3 (List.map Bk.a l2),AV.vec h2 2 (List.map Sb.a s2)]],2,0,false,false⟩],[true,(decide (i < (↑(List.map Sb.a s).length:Int))) == true,true,decide (0 <= i),decide (i.toNat < (List.map Sb.a s).length),true,decide (0 <= i),decide (i.toNat < (List.map Sb.a s2).length),!(((s.getD i.toNat default).n != (s2.getD i.toNat default).n) == false && true) || true,!(((s.getD i.toNat default).n != (s2.getD i.toNat default).n) == false && true) || decide (0 <= i),!(((s.getD i.toNat default).n != (s2.getD i.toNat default).n) == false && true) || decide (i.toNat < (List.map Sb.a s).length),!(((s.getD i.toNat default).n != (s2.getD i.toNat default).n) == false && true) || true,!(((s.getD i.toNat default).n != (s2.getD i.toNat default).n) == false && true) || decide (0 <= i),!(((s.getD i.toNat default).n != (s2.getD i.toNat default).n) == false && true) || decide (i.toNat < (List.map Sb.a s2).length)],[((List.map Sb.a s).get?Internal i.toNat = some (ag [vi (s.getD i.toNat default).n,AV.vec (s.getD i.toNat default).2 3 (List.map Bk.a (s.getD i.toNat default).3)])),((List.map Sb.a s2).get?Internal i.toNat = some (ag [vi (s2.getD i.toNat default).n,AV.vec (s2.getD i.toNat default).2 3 (List.map Bk.a (s2.getD i.toNat default).3)])),((((s.getD i.toNat default).n != (s2.getD i.toNat default).n) == false && true) = true -> (List.map Sb.a s).get?Internal i.toNat = some (ag [vi (s.getD i.toNat default).n,AV.vec (s.getD i.toNat default).2 3 (List.map Bk.a (s.getD i.toNat default).3)])),((((s.getD i.toNat default).n != (s2.getD i.toNat default).n) == false && true) = true -> (List.map Sb.a s2).get?Internal i.toNat = some (ag [vi (s2.getD i.toNat default).n,AV.vec (s2.getD i.toNat default).2 3 (List.map Bk.a (s2.getD i.toNat default).3)]))],[⟨((s.getD i.toNat default).n != (s2.getD i.toNat default).n) == false && true && true,false,18,[AV.vec (s.getD i.toNat default).2 3 (List.map Bk.a (s.getD i.toNat default).3),AV.vec (s2.getD i.toNat default).2 3 (List.map Bk.a (s2.getD i.toNat default).3)],[],vb (Sp.sameL (s.getD i.toNat default).3 (s2.getD i.toNat default).3),[]⟩]⟩ (by kernel_rfl) (bc rfl (bc (beq_t (i2.2 d3)) (bc rfl (bc (i_dec.2 k7) (bc (i8.2 k9) (bc rfl (bc (i_dec.2 k7) (bc (i12.2 k13) (bc (Bool.or_true _) (bc ((i_imp (i_at (i_bf i_ne)) i_dec).2 (fun _ => k7)) (bc (i15.2 (fun _ => k9)) (bc (Bool.or_true _) (bc ((i_imp (i_at (i_bf i_ne)) i_dec).2 (fun _ => k7)) (bc (i17.2 (fun _ => k13)) b0)))))))))))))) (qc (el_map k9) (qc (el_map k13) (qc (fun h => el_map k9) (qc (fun h => el_map k13) q0)))) (cc (fun hc => ((@ev18 ((s.getD i.toNat default).2) ((s2.getD i.toNat default).2) ((s.getD i.toNat default).3) ((s2.getD i.toNat default).3) (k5 ((i_at (i_at (i_bf i_ne))).1 hc))):Ev M1 (Conf.pure 18 [AV.vec (s.getD i.toNat default).2 3 (List.map Bk.a (s.getD i.toNat default).3),AV.vec (s2.getD i.toNat default).2 3 (List.map Bk.a (s2.getD i.toNat default).3)]) (vb (Sp.sameL (s.getD i.toNat default).3 (s2.getD i.toNat default).3)) [])) c0) ?_
  rcases xm ((¬(s.getD i.toNat default).n = (s2.getD i.toNat default).n) \/ (¬(Sp.sameL (s.getD i.toNat default).3 (s2.getD i.toNat default).3 = true))) with d21 | d21
  ·have H:=H.1 d21
   exact path_re (G:=given kp24 [] []) 1000 [true] (asm:=[(zSpL1 s i s2) == true]) (vb false) (by kernel_rfl) (bc (beq_t ((i_bor i_ne (i_not (i_var _))).2 d21)) b0) q0 c0 H
  ·have H:=H.2 d21
   obtain ⟨k22,H⟩:=H
   have w23:wi (i + 1) = i + 1:=wI64 k22
   exact path_wp (G:=given kp24 [] []) 1000 [false] ⟨(atC (cd Try.f24) [1,1,0,1,0,0]),[(2,AV.ptr 0 0 0 0),(3,AV.ptr 1 0 0 0),(5,vi (wi (i + 1)))],[⟨[ag [AV.vec g 3 (List.map Bk.a l),AV.vec h 2 (List.map Sb.a s)]],2,0,false,false⟩,⟨[ag [AV.vec g2 3 (List.map Bk.a l2),AV.vec h2 2 (List.map Sb.a s2)]],2,0,false,false⟩],[(zSpL1 s i s2) == false],[],_⟩ (by kernel_rfl) (bc (beq_f (fun h => d21 ((i_bor i_ne (i_not (i_var _))).1 h))) b0) q0 c0 (by (try rw [w23]);all_goals exact H)
 ·have H:=H.2 d3
  exact path_re (G:=given kp24 [] []) 1000 [false] (vb true) (by kernel_rfl) (bc rfl (bc (beq_f (fun h => d3 (i2.1 h))) b0)) q0 c0 H
end Go.Av

namespace Go.Av
open Go.Proofs
abbrev pgA (g h:Bool) (l:List Bk) (s:List Sb):AV:=.agg [bsA g l,sbA h s]
def Sb.key (s:Sb):Int × List (Bool × List Wo × List UInt8):=(s.n,s.bl.map Bk.key)
namespace Sp
def samP (l l2:List Bk) (s s2:List Sb):Bool:=sameL l l2 && decide (s.map Sb.key = s2.map Sb.key)
def okPs (l:List Bk) (s:List Sb):Prop:=okBs l /\ s.length <= 1000000 /\ ∀ x ∈ s,okBs x.bl
end Sp
theorem suBka_loop {g h:Bool} {l:List Bk} {s:List Sb} {dq:AV} (hl:s.length <= 1000000):∀ (k i:Nat) (o:List Sb) (v:Nat),i + k = s.length -> o.length <= i -> Weak (.agg [bsA g l,sbA false (o ++ s.drop i)]) dq -> suBka_at g l h s s.length i o v (PureQ dq):=by
 intro k
 induction k with
 | zero =>
  intro i o v hi ho hq
  rw [List.drop_eq_nil_of_le (by omega),List.append_nil] at hq
  exact suBka _ _ _ _ _ _ _ _ _ ⟨fun h => by omega,fun _ => hq⟩
 | succ k ih =>
  intro i o v hi ho hq
  rw [drop_getD (show i < s.length by omega)] at hq
  refine suBka _ _ _ _ _ _ _ _ _ ⟨fun _ => ?_,fun h => by omega⟩
  rw [Int.toNat_natCast]
  exact ⟨by omega,by omega,by omega,by omega,ih (i + 1) _ _ (by omega) (by simp;omega) (by rw [List.append_assoc];exact hq)⟩
theorem ev25 (g h:Bool) (l:List Bk) (s:List Sb) (hl:Sp.few6 s.length):Ev M1 (.pure 25 [pgA g h l s]) (pgA g false l s) []:=by
 unfold Sp.few6 at hl
 refine call25 (suBk g l h s _ ?_)
 cases s with
 | nil => exact suBkz _ _ _ _ _ _ _ ⟨fun h => by simp at h,fun _ => weak_agg2 (.refl _) (.vnil 2)⟩
 | cons y s =>
  refine suBkz _ _ _ _ _ _ _ ⟨fun _ => ?_,fun h => by simp at h⟩
  exact ⟨by omega,by simp,by omega,suBka_loop hl s.length 1 [y] 0 (by simp;omega) (by simp) (.refl _)⟩
theorem suPsa_loop {g h g2 h2:Bool} {l l2:List Bk} {s s2:List Sb} {dq:AV} (hk:s.length <= 1000000 /\ ∀ x ∈ s,Sp.okBs x.bl) (he:s.length = s2.length):∀ (k i:Nat),i + k = s.length -> AV.bool (decide ((s.drop i).map Sb.key = (s2.drop i).map Sb.key)) = dq -> suPsa_at g l h s g2 h2 l2 s2 i (PureQ dq):=by
 have hl:=hk.1
 intro k
 induction k with
 | zero =>
  intro i hi hq
  rw [List.drop_eq_nil_of_le (by omega),List.drop_eq_nil_of_le (by omega)] at hq
  exact suPsa _ _ _ _ _ _ _ _ _ _ ⟨fun h => by omega,fun _ => hq⟩
 | succ k ih =>
  intro i hi hq
  have hm:=hk.2 _ (getD_mem (show i < s.length by omega))
  rw [drop_getD (show i < s.length by omega),drop_getD (show i < s2.length by omega),List.map_cons,List.map_cons] at hq
  refine suPsa _ _ _ _ _ _ _ _ _ _ ⟨fun _ => ?_,fun h => by omega⟩
  rw [Int.toNat_natCast]
  have hkey:(s.getD i default).key = (s2.getD i default).key ↔ (s.getD i default).n = (s2.getD i default).n /\ Sp.sameL (s.getD i default).bl (s2.getD i default).bl = true:=by
   unfold Sb.key Sp.sameL
   rw [Prod.mk.injEq,decide_eq_true_eq]
  refine ⟨fun _ => hm,by omega,by omega,by omega,fun h => ?_,fun h => ⟨by omega,ih (i + 1) (by omega) ?_⟩⟩
  ·rw [decide_eq_false (fun e => by
    obtain ⟨k1,k2⟩:=hkey.1 (List.cons.inj e).1
    exact h.elim (fun x => x k1) (fun x => x k2))] at hq
   exact hq
  ·rw [<- hq]
   congr 1
   rw [decide_eq_decide]
   have:=hkey.2 ⟨Classical.byContradiction fun x => h (.inl x),Classical.byContradiction fun x => h (.inr x)⟩
   rw [this];simp
theorem ev24 (g h g2 h2:Bool) (l l2:List Bk) (s s2:List Sb) (hk:Sp.okPs l s):Ev M1 (.pure 24 [pgA g h l s,pgA g2 h2 l2 s2]) (.bool (Sp.samP l l2 s s2)) []:=by
 obtain ⟨k1,k2⟩:=hk
 unfold Sp.samP
 refine call24 (suPs g l h s g2 h2 l2 s2 _ ⟨k1,fun x => ?_,fun x => suPsa_loop k2 ?_ s.length 0 (by omega) ?_⟩)
 ·congr 1
  rw [Eq.comm,Bool.and_eq_false_iff]
  rcases x with x | x
  ·exact .inl (by simpa using x)
  ·exact .inr (decide_eq_false fun e => x (by have:=congrArg List.length e;simp only [List.length_map] at this;omega))
 ·have:¬¬(s.length:Int) = s2.length:=fun y => x (.inr y)
  omega
 ·have:Sp.sameL l l2 = true:=Classical.byContradiction fun y => x (.inl y)
  rw [this,Bool.true_and];rfl
theorem samP_refl (l:List Bk) (s:List Sb):Sp.samP l l s s = true:=by
 unfold Sp.samP Sp.sameL
 simp
end Go.Av

namespace Go.Av
open Go.Proofs
set_option maxRecDepth 100000
end Go.Av

namespace Go.Av
open Go.Proofs
theorem okBs_sub {l:List Bk} (h:Sp.okBs l) (a b:Nat):Sp.okBs ((l.take b).drop a):=by
 obtain ⟨h1,h2⟩:=h
 refine ⟨by simp;omega,fun x hx => h2 x (List.mem_of_mem_take (List.mem_of_mem_drop hx))⟩
theorem vals_okBs {l:List Bk} {m:Int} (h:Sp.vals l m = true) (hm:m <= 1000000):Sp.okBs l:=by
 obtain ⟨h1,h2⟩:=vals_at h
 exact ⟨by omega,fun b hb => valB_okW (h2 b hb)⟩
end Go.Av

namespace Go.Av
open Go.Proofs
set_option maxRecDepth 100000
def fi58:Fi:=⟨5,[.tmp 2]⟩
def kp58:List (Nat × List Nat):=[(0,[1]),(1,[2])]
def fi60:Fi:=⟨9,[.tmp 2]⟩
def kp60:List (Nat × List Nat):=[(0,[1]),(1,[2])]
def svS1_at (sk f:Bool) (ws:List Wo) (cm:List UInt8) (Q:AV -> Heap -> Prop):Prop:=Wp M1 (.run fi58 (atC (cd Try.f58) []) [(0,.agg [.bool sk,.vec f 2 (ws.map Wo.a),.str cm])] []) Q
def svS2_at (sk f:Bool) (ws:List Wo) (cm:List UInt8) (Q:AV -> Heap -> Prop):Prop:=Wp M1 (.run fi60 (atC (cd Try.f60) []) [(0,.agg [.bool sk,.vec f 2 (ws.map Wo.a),.str cm])] []) Q
theorem call58 {args:List AV} {d:AV} (h:wc M1 fi58 Try.f58 args d):Ev M1 (.pure 58 args) d []:=pcl _ _ (by kernel_rfl) h
theorem call60 {args:List AV} {d:AV} (h:wc M1 fi60 Try.f60 args d):Ev M1 (.pure 60 args) d []:=pcl _ _ (by kernel_rfl) h
theorem svS1 (sk f:Bool) (ws:List Wo) (cm:List UInt8)  (dq:AV) (H :
  (Sp.few6 ws.length) /\
  vb (Sp.hasW ws 77 30000) = dq) :
 svS1_at sk f ws cm (PureQ dq):=by
 unfold svS1_at
 obtain ⟨k1,H⟩:=H
 exact path_re (G:=given kp58 [(1,1,.call (vb (Sp.hasW ws 77 30000)) none)] []) 1000 [] (vb (Sp.hasW ws 77 30000)) (by kernel_rfl) (bc rfl b0) q0 (ce (@ev40 (sk) (f) (ws) (cm) (77) (30000) k1) c0) H
theorem svS2 (sk f:Bool) (ws:List Wo) (cm:List UInt8)  (dq:AV) (H :
  ((Sp.plB sk ws cm = true) -> (Sp.few6 ws.length)) /\
  vb (bif Sp.plB sk ws cm then Sp.hasW ws 77 99000 else false) = dq) :
 svS2_at sk f ws cm (PureQ dq):=by
 unfold svS2_at
 obtain ⟨k2,H⟩:=H
 exact path_re (G:=given kp60 [(1,1,.call (vb (Sp.plB sk ws cm)) none),(1,4,.call (vb (Sp.hasW ws 77 99000)) none)] []) 1000 [] (asm:=[true,!(Sp.plB sk ws cm == true && true) || true]) (calls:=[⟨true,false,61,[ag [vb sk,AV.vec f 2 (List.map Wo.a ws),AV.str cm]],[],vb (Sp.plB sk ws cm),[]⟩,⟨Sp.plB sk ws cm == true && true && true,false,40,[ag [vb sk,AV.vec f 2 (List.map Wo.a ws),AV.str cm],AV.int IntKind.u8 77,vi 99000],[],vb (Sp.hasW ws 77 99000),[]⟩]) (vb (bif Sp.plB sk ws cm then Sp.hasW ws 77 99000 else false)) (by kernel_rfl) (bc rfl (bc (Bool.or_true _) b0)) q0 (cc (fun _ => (@ev61 (sk) (f) (ws) (cm))) (cc (fun hc => ((@ev40 (sk) (f) (ws) (cm) (77) (99000) (k2 ((i_at (i_at (i_bt (i_var _)))).1 hc))):Ev M1 (Conf.pure 40 [ag [vb sk,AV.vec f 2 (List.map Wo.a ws),AV.str cm],AV.int IntKind.u8 77,vi 99000]) (vb (Sp.hasW ws 77 99000)) [])) c0)) H
end Go.Av

namespace Go.Av
open Go.Proofs
namespace Sp
def pEnd (b:Bk):Bool:=endB b.ws
def pStop (b:Bk):Bool:=plB b.sk b.ws b.cm && backB b.ws
def pMk (b:Bk):Bool:=mkB b.ws
def idxF {α:Type} (p:α -> Bool):List α -> Int -> Int
 | [],_ => -1
 | b :: r,i => if p b = true then i else idxF p r (i + 1)
def idxP {α:Type} (p:α -> Bool) (l:List α):Int:=idxF p l 0
def anyP {α:Type} (p:α -> Bool) (l:List α):Bool:=l.any p
end Sp
theorem ev58 (sk f:Bool) (ws:List Wo) (cm:List UInt8) (h:Sp.few6 ws.length):Ev M1 (.pure 58 [bkA sk f ws cm]) (.bool (Sp.pEnd ⟨sk,f,ws,cm⟩)) []:=
 call58 (svS1 sk f ws cm _ ⟨h,rfl⟩)
theorem ev60 (sk f:Bool) (ws:List Wo) (cm:List UInt8) (h:Sp.few6 ws.length):Ev M1 (.pure 60 [bkA sk f ws cm]) (.bool (Sp.pStop ⟨sk,f,ws,cm⟩)) []:=by
 refine call60 (svS2 sk f ws cm _ ⟨fun _ => h,?_⟩)
 unfold Sp.pStop
 cases Sp.plB sk ws cm <;> rfl
theorem idxF_ge {α:Type} (p:α -> Bool):∀ (l:List α) (i:Int),0 <= i -> (Sp.idxF p l i = -1 /\ l.any p = false) \/ (i <= Sp.idxF p l i /\ Sp.idxF p l i < i + l.length /\ l.any p = true)
 | [],i,_ => .inl ⟨rfl,rfl⟩
 | b :: r,i,hi => by
  rw [Sp.idxF,List.any_cons]
  cases hb:p b with
  | true => right;simp;omega
  | false =>
   rw [if_neg (by simp),Bool.false_or]
   rcases idxF_ge p r (i + 1) (by omega) with ⟨h1,h2⟩ | ⟨h1,h2,h3⟩
   ·exact .inl ⟨h1,h2⟩
   ·right;simp only [List.length_cons];exact ⟨by omega,by omega,h3⟩
end Go.Av

namespace Go.Av
open Go.Proofs
set_option maxRecDepth 100000
def fi56:Fi:=⟨19,[.tmp 4]⟩
def kp56:List (Nat × List Nat):=[(0,[0,1]),(1,[0,1,7,8]),(2,[0,1,7,8,9]),(3,[0,1,5,7,8]),(4,[0,1,5,7,8,16]),(5,[4]),(6,[0,1,7,8]),(7,[4])]
def svI1_at (g:Bool) (l:List Bk) (Q:AV -> Heap -> Prop):Prop:=Wp M1 (.run fi56 (atC (cd Try.f56) []) [(0,.vec g 3 (l.map Bk.a)),(1,.func (.func 58) [] [])] []) Q
def svI1a_at (g:Bool) (l:List Bk) (n i:Int) (Q:AV -> Heap -> Prop):Prop:=Wp M1 (.run fi56 (atC (cd Try.f56) [1,0,1,0,0]) [(0,.vec g 3 (l.map Bk.a)),(1,.func (.func 58) [] []),(7,.int .i64 n),(8,.int .i64 i)] []) Q
def svI2_at (g:Bool) (l:List Bk) (Q:AV -> Heap -> Prop):Prop:=Wp M1 (.run fi56 (atC (cd Try.f56) []) [(0,.vec g 3 (l.map Bk.a)),(1,.func (.func 60) [] [])] []) Q
def svI2a_at (g:Bool) (l:List Bk) (n i:Int) (Q:AV -> Heap -> Prop):Prop:=Wp M1 (.run fi56 (atC (cd Try.f56) [1,0,1,0,0]) [(0,.vec g 3 (l.map Bk.a)),(1,.func (.func 60) [] []),(7,.int .i64 n),(8,.int .i64 i)] []) Q
def svIm_at (g:Bool) (l:List Bk) (Q:AV -> Heap -> Prop):Prop:=Wp M1 (.run fi56 (atC (cd Try.f56) []) [(0,.vec g 3 (l.map Bk.a)),(1,.func (.func 77) [] [])] []) Q
def svIma_at (g:Bool) (l:List Bk) (n i:Int) (Q:AV -> Heap -> Prop):Prop:=Wp M1 (.run fi56 (atC (cd Try.f56) [1,0,1,0,0]) [(0,.vec g 3 (l.map Bk.a)),(1,.func (.func 77) [] []),(7,.int .i64 n),(8,.int .i64 i)] []) Q
theorem call56 {args:List AV} {d:AV} (h:wc M1 fi56 Try.f56 args d):Ev M1 (.pure 56 args) d []:=pcl _ _ (by kernel_rfl) h
theorem svI1 (g:Bool) (l:List Bk)  (dq:AV) (H :
  svI1a_at (g) (l) ((↑l.length:Int)) (0) (PureQ dq)) :
 svI1_at g l (PureQ dq):=by
 unfold svI1_at
 have w1:(List.map Bk.a l).length = l.length:=List.length_map ..
 exact path_wp (G:=given kp56 [] []) 1000 [] ⟨(atC (cd Try.f56) [1,0,1,0,0]),[(0,AV.vec g 3 (List.map Bk.a l)),(1,AV.func (Fn.func 58) [] []),(7,vi (↑(List.map Bk.a l).length:Int)),(8,vi 0)],[],_,[],_⟩ (by kernel_rfl) b0 q0 c0 (by (try rw [w1]);all_goals exact H)
theorem svI1a (g:Bool) (l:List Bk) (n i:Int)  (dq:AV) (H :
  ((i < n) -> (Sp.few6 (l.getD i.toNat default).3.length) /\
   (0 <= i) /\
   (i.toNat < l.length) /\
   ((Sp.pEnd { sk:=(l.getD i.toNat default).1,f:=(l.getD i.toNat default).2,ws:=(l.getD i.toNat default).3,cm:=(l.getD i.toNat default).4 } = true) -> vi i = dq) /\
   (¬(Sp.pEnd { sk:=(l.getD i.toNat default).1,f:=(l.getD i.toNat default).2,ws:=(l.getD i.toNat default).3,cm:=(l.getD i.toNat default).4 } = true) -> (-9223372036854775808 <= i + 1 /\ i + 1 <= 9223372036854775807) /\
    svI1a_at (g) (l) (n) (i + 1) (PureQ dq))) /\
  (¬(i < n) -> vi (-1) = dq)) :
 svI1a_at g l n i (PureQ dq):=by
 unfold svI1a_at
 rcases xm (i < n) with d2 | d2
 ·have H:=H.1 d2
  obtain ⟨k3,H⟩:=H
  obtain ⟨k5,H⟩:=H
  have w6:(List.map Bk.a l).length = l.length:=List.length_map ..
  have i7:(decide (i.toNat < (List.map Bk.a l).length)) = true ↔ (i.toNat < l.length):=(by (try rw [w6]);all_goals exact i_dec)
  obtain ⟨k8,H⟩:=H
  refine path_wp (G:=given kp56 [(4,4,.elem (ag [vb (l.getD i.toNat default).1,AV.vec (l.getD i.toNat default).2 2 (List.map Wo.a (l.getD i.toNat default).3),AV.str (l.getD i.toNat default).4])),(4,5,.call (vb (Sp.pEnd { sk:=(l.getD i.toNat default).1,f:=(l.getD i.toNat default).2,ws:=(l.getD i.toNat default).3,cm:=(l.getD i.toNat default).4 })) none)] []) 11 [true] ⟨(atC (cd Try.f56) [1,0,1,0,0,1,1,0,0,1,1]),[(0,AV.vec g 3 (List.map Bk.a l)),(1,AV.func (Fn.func 58) [] []),(5,vi i),(7,vi n),(8,vi i),(16,vb (Sp.pEnd { sk:=(l.getD i.toNat default).1,f:=(l.getD i.toNat default).2,ws:=(l.getD i.toNat default).3,cm:=(l.getD i.toNat default).4 }))],[],_,[((List.map Bk.a l).get?Internal i.toNat = some (ag [vb (l.getD i.toNat default).1,AV.vec (l.getD i.toNat default).2 2 (List.map Wo.a (l.getD i.toNat default).3),AV.str (l.getD i.toNat default).4]))],_⟩ (by kernel_rfl) (bc (beq_t (i_dec.2 d2)) (bc (i_dec.2 k5) (bc (i7.2 k8) b0))) (qc (el_map k8) q0) (ce (@ev58 ((l.getD i.toNat default).1) ((l.getD i.toNat default).2) ((l.getD i.toNat default).3) ((l.getD i.toNat default).4) k3) c0) ?_
  rcases xm (Sp.pEnd { sk:=(l.getD i.toNat default).1,f:=(l.getD i.toNat default).2,ws:=(l.getD i.toNat default).3,cm:=(l.getD i.toNat default).4 } = true) with d10 | d10
  ·have H:=H.1 d10
   exact path_re (G:=given kp56 [] []) 1000 [true] (asm:=[(Sp.pEnd { sk:=(l.getD i.toNat default).1,f:=(l.getD i.toNat default).2,ws:=(l.getD i.toNat default).3,cm:=(l.getD i.toNat default).4 }) == true]) (vi i) (by kernel_rfl) (bc (beq_t ((i_var _).2 d10)) b0) q0 c0 H
  ·have H:=H.2 d10
   obtain ⟨k11,H⟩:=H
   have w12:wi (i + 1) = i + 1:=wI64 k11
   exact path_wp (G:=given kp56 [] []) 1000 [false] ⟨(atC (cd Try.f56) [1,0,1,0,0]),[(0,AV.vec g 3 (List.map Bk.a l)),(1,AV.func (Fn.func 58) [] []),(7,vi n),(8,vi (wi (i + 1)))],[],[(Sp.pEnd { sk:=(l.getD i.toNat default).1,f:=(l.getD i.toNat default).2,ws:=(l.getD i.toNat default).3,cm:=(l.getD i.toNat default).4 }) == false],[],_⟩ (by kernel_rfl) (bc (beq_f (fun h => d10 ((i_var _).1 h))) b0) q0 c0 (by (try rw [w12]);all_goals exact H)
 ·have H:=H.2 d2
  exact path_re (G:=given kp56 [] []) 1000 [false] (vi (-1)) (by kernel_rfl) (bc (beq_f (fun h => d2 (i_dec.1 h))) b0) q0 c0 H
theorem svI2 (g:Bool) (l:List Bk)  (dq:AV) (H :
  svI2a_at (g) (l) ((↑l.length:Int)) (0) (PureQ dq)) :
 svI2_at g l (PureQ dq):=by
 unfold svI2_at
 have w1:(List.map Bk.a l).length = l.length:=List.length_map ..
 exact path_wp (G:=given kp56 [] []) 1000 [] ⟨(atC (cd Try.f56) [1,0,1,0,0]),[(0,AV.vec g 3 (List.map Bk.a l)),(1,AV.func (Fn.func 60) [] []),(7,vi (↑(List.map Bk.a l).length:Int)),(8,vi 0)],[],_,[],_⟩ (by kernel_rfl) b0 q0 c0 (by (try rw [w1]);all_goals exact H)
theorem svI2a (g:Bool) (l:List Bk) (n i:Int)  (dq:AV) (H :
  ((i < n) -> (Sp.few6 (l.getD i.toNat default).3.length) /\
   (0 <= i) /\
   (i.toNat < l.length) /\
   ((Sp.pStop { sk:=(l.getD i.toNat default).1,f:=(l.getD i.toNat default).2,ws:=(l.getD i.toNat default).3,cm:=(l.getD i.toNat default).4 } = true) -> vi i = dq) /\
   (¬(Sp.pStop { sk:=(l.getD i.toNat default).1,f:=(l.getD i.toNat default).2,ws:=(l.getD i.toNat default).3,cm:=(l.getD i.toNat default).4 } = true) -> (-9223372036854775808 <= i + 1 /\ i + 1 <= 9223372036854775807) /\
    svI2a_at (g) (l) (n) (i + 1) (PureQ dq))) /\
  (¬(i < n) -> vi (-1) = dq)) :
 svI2a_at g l n i (PureQ dq):=by
 unfold svI2a_at
 rcases xm (i < n) with d2 | d2
 ·have H:=H.1 d2
  obtain ⟨k3,H⟩:=H
  obtain ⟨k5,H⟩:=H
  have w6:(List.map Bk.a l).length = l.length:=List.length_map ..
  have i7:(decide (i.toNat < (List.map Bk.a l).length)) = true ↔ (i.toNat < l.length):=(by (try rw [w6]);all_goals exact i_dec)
  obtain ⟨k8,H⟩:=H
  refine path_wp (G:=given kp56 [(4,4,.elem (ag [vb (l.getD i.toNat default).1,AV.vec (l.getD i.toNat default).2 2 (List.map Wo.a (l.getD i.toNat default).3),AV.str (l.getD i.toNat default).4])),(4,5,.call (vb (Sp.pStop { sk:=(l.getD i.toNat default).1,f:=(l.getD i.toNat default).2,ws:=(l.getD i.toNat default).3,cm:=(l.getD i.toNat default).4 })) none)] []) 11 [true] ⟨(atC (cd Try.f56) [1,0,1,0,0,1,1,0,0,1,1]),[(0,AV.vec g 3 (List.map Bk.a l)),(1,AV.func (Fn.func 60) [] []),(5,vi i),(7,vi n),(8,vi i),(16,vb (Sp.pStop { sk:=(l.getD i.toNat default).1,f:=(l.getD i.toNat default).2,ws:=(l.getD i.toNat default).3,cm:=(l.getD i.toNat default).4 }))],[],_,[((List.map Bk.a l).get?Internal i.toNat = some (ag [vb (l.getD i.toNat default).1,AV.vec (l.getD i.toNat default).2 2 (List.map Wo.a (l.getD i.toNat default).3),AV.str (l.getD i.toNat default).4]))],_⟩ (by kernel_rfl) (bc (beq_t (i_dec.2 d2)) (bc (i_dec.2 k5) (bc (i7.2 k8) b0))) (qc (el_map k8) q0) (ce (@ev60 ((l.getD i.toNat default).1) ((l.getD i.toNat default).2) ((l.getD i.toNat default).3) ((l.getD i.toNat default).4) k3) c0) ?_
  rcases xm (Sp.pStop { sk:=(l.getD i.toNat default).1,f:=(l.getD i.toNat default).2,ws:=(l.getD i.toNat default).3,cm:=(l.getD i.toNat default).4 } = true) with d10 | d10
  ·have H:=H.1 d10
   exact path_re (G:=given kp56 [] []) 1000 [true] (asm:=[(Sp.pStop { sk:=(l.getD i.toNat default).1,f:=(l.getD i.toNat default).2,ws:=(l.getD i.toNat default).3,cm:=(l.getD i.toNat default).4 }) == true]) (vi i) (by kernel_rfl) (bc (beq_t ((i_var _).2 d10)) b0) q0 c0 H
  ·have H:=H.2 d10
   obtain ⟨k11,H⟩:=H
   have w12:wi (i + 1) = i + 1:=wI64 k11
   exact path_wp (G:=given kp56 [] []) 1000 [false] ⟨(atC (cd Try.f56) [1,0,1,0,0]),[(0,AV.vec g 3 (List.map Bk.a l)),(1,AV.func (Fn.func 60) [] []),(7,vi n),(8,vi (wi (i + 1)))],[],[(Sp.pStop { sk:=(l.getD i.toNat default).1,f:=(l.getD i.toNat default).2,ws:=(l.getD i.toNat default).3,cm:=(l.getD i.toNat default).4 }) == false],[],_⟩ (by kernel_rfl) (bc (beq_f (fun h => d10 ((i_var _).1 h))) b0) q0 c0 (by (try rw [w12]);all_goals exact H)
 ·have H:=H.2 d2
  exact path_re (G:=given kp56 [] []) 1000 [false] (vi (-1)) (by kernel_rfl) (bc (beq_f (fun h => d2 (i_dec.1 h))) b0) q0 c0 H
theorem svIm (g:Bool) (l:List Bk)  (dq:AV) (H :
  svIma_at (g) (l) ((↑l.length:Int)) (0) (PureQ dq)) :
 svIm_at g l (PureQ dq):=by
 unfold svIm_at
 have w1:(List.map Bk.a l).length = l.length:=List.length_map ..
 exact path_wp (G:=given kp56 [] []) 1000 [] ⟨(atC (cd Try.f56) [1,0,1,0,0]),[(0,AV.vec g 3 (List.map Bk.a l)),(1,AV.func (Fn.func 77) [] []),(7,vi (↑(List.map Bk.a l).length:Int)),(8,vi 0)],[],_,[],_⟩ (by kernel_rfl) b0 q0 c0 (by (try rw [w1]);all_goals exact H)
theorem svIma (g:Bool) (l:List Bk) (n i:Int)  (dq:AV) (H :
  ((i < n) -> (Sp.few6 (l.getD i.toNat default).3.length) /\
   (0 <= i) /\
   (i.toNat < l.length) /\
   ((Sp.mkB (l.getD i.toNat default).3 = true) -> vi i = dq) /\
   (¬(Sp.mkB (l.getD i.toNat default).3 = true) -> (-9223372036854775808 <= i + 1 /\ i + 1 <= 9223372036854775807) /\
    svIma_at (g) (l) (n) (i + 1) (PureQ dq))) /\
  (¬(i < n) -> vi (-1) = dq)) :
 svIma_at g l n i (PureQ dq):=by
 unfold svIma_at
 rcases xm (i < n) with d2 | d2
 ·have H:=H.1 d2
  obtain ⟨k3,H⟩:=H
  obtain ⟨k5,H⟩:=H
  have w6:(List.map Bk.a l).length = l.length:=List.length_map ..
  have i7:(decide (i.toNat < (List.map Bk.a l).length)) = true ↔ (i.toNat < l.length):=(by (try rw [w6]);all_goals exact i_dec)
  obtain ⟨k8,H⟩:=H
  refine path_wp (G:=given kp56 [(4,4,.elem (ag [vb (l.getD i.toNat default).1,AV.vec (l.getD i.toNat default).2 2 (List.map Wo.a (l.getD i.toNat default).3),AV.str (l.getD i.toNat default).4])),(4,5,.call (vb (Sp.mkB (l.getD i.toNat default).3)) none)] []) 11 [true] ⟨(atC (cd Try.f56) [1,0,1,0,0,1,1,0,0,1,1]),[(0,AV.vec g 3 (List.map Bk.a l)),(1,AV.func (Fn.func 77) [] []),(5,vi i),(7,vi n),(8,vi i),(16,vb (Sp.mkB (l.getD i.toNat default).3))],[],_,[((List.map Bk.a l).get?Internal i.toNat = some (ag [vb (l.getD i.toNat default).1,AV.vec (l.getD i.toNat default).2 2 (List.map Wo.a (l.getD i.toNat default).3),AV.str (l.getD i.toNat default).4]))],_⟩ (by kernel_rfl) (bc (beq_t (i_dec.2 d2)) (bc (i_dec.2 k5) (bc (i7.2 k8) b0))) (qc (el_map k8) q0) (ce (@ev77 ((l.getD i.toNat default).1) ((l.getD i.toNat default).2) ((l.getD i.toNat default).3) ((l.getD i.toNat default).4) k3) c0) ?_
  rcases xm (Sp.mkB (l.getD i.toNat default).3 = true) with d10 | d10
  ·have H:=H.1 d10
   exact path_re (G:=given kp56 [] []) 1000 [true] (asm:=[(Sp.mkB (l.getD i.toNat default).3) == true]) (vi i) (by kernel_rfl) (bc (beq_t ((i_var _).2 d10)) b0) q0 c0 H
  ·have H:=H.2 d10
   obtain ⟨k11,H⟩:=H
   have w12:wi (i + 1) = i + 1:=wI64 k11
   exact path_wp (G:=given kp56 [] []) 1000 [false] ⟨(atC (cd Try.f56) [1,0,1,0,0]),[(0,AV.vec g 3 (List.map Bk.a l)),(1,AV.func (Fn.func 77) [] []),(7,vi n),(8,vi (wi (i + 1)))],[],[(Sp.mkB (l.getD i.toNat default).3) == false],[],_⟩ (by kernel_rfl) (bc (beq_f (fun h => d10 ((i_var _).1 h))) b0) q0 c0 (by (try rw [w12]);all_goals exact H)
 ·have H:=H.2 d2
  exact path_re (G:=given kp56 [] []) 1000 [false] (vi (-1)) (by kernel_rfl) (bc (beq_f (fun h => d2 (i_dec.1 h))) b0) q0 c0 H
end Go.Av

namespace Go.Av
open Go.Proofs
theorem svI1_loop {g:Bool} {l:List Bk} {dq:AV} (hk:Sp.okBs l):∀ (c i:Nat),i + c = l.length -> AV.int .i64 (Sp.idxF Sp.pEnd (l.drop i) i) = dq -> svI1a_at g l l.length i (PureQ dq):=by
 have hl:=hk.1
 intro c
 induction c with
 | zero =>
  intro i hi hq
  rw [List.drop_eq_nil_of_le (by omega)] at hq
  exact svI1a _ _ _ _ _ ⟨fun h => by omega,fun _ => hq⟩
 | succ c ih =>
  intro i hi hq
  have hm:=hk.2 _ (getD_mem (show i < l.length by omega))
  rw [drop_getD (show i < l.length by omega),Sp.idxF] at hq
  refine svI1a _ _ _ _ _ ⟨fun _ => ?_,fun h => by omega⟩
  rw [Int.toNat_natCast]
  refine ⟨hm.1,by omega,by omega,fun h => ?_,fun h => ⟨by omega,ih (i + 1) (by omega) ?_⟩⟩
  ·rw [if_pos (show Sp.pEnd (l.getD i default) = true from h)] at hq
   exact hq
  ·rw [if_neg (show ¬Sp.pEnd (l.getD i default) = true from h)] at hq
   exact hq
theorem ev56_a (g:Bool) (l:List Bk) (hk:Sp.okBs l):Ev M1 (.pure 56 [bsA g l,.func (.func 58) [] []]) (.int .i64 (Sp.idxP Sp.pEnd l)) []:=
 call56 (svI1 g l _ (svI1_loop hk l.length 0 (by omega) rfl))
theorem svI2_loop {g:Bool} {l:List Bk} {dq:AV} (hk:Sp.okBs l):∀ (c i:Nat),i + c = l.length -> AV.int .i64 (Sp.idxF Sp.pStop (l.drop i) i) = dq -> svI2a_at g l l.length i (PureQ dq):=by
 have hl:=hk.1
 intro c
 induction c with
 | zero =>
  intro i hi hq
  rw [List.drop_eq_nil_of_le (by omega)] at hq
  exact svI2a _ _ _ _ _ ⟨fun h => by omega,fun _ => hq⟩
 | succ c ih =>
  intro i hi hq
  have hm:=hk.2 _ (getD_mem (show i < l.length by omega))
  rw [drop_getD (show i < l.length by omega),Sp.idxF] at hq
  refine svI2a _ _ _ _ _ ⟨fun _ => ?_,fun h => by omega⟩
  rw [Int.toNat_natCast]
  refine ⟨hm.1,by omega,by omega,fun h => ?_,fun h => ⟨by omega,ih (i + 1) (by omega) ?_⟩⟩
  ·rw [if_pos (show Sp.pStop (l.getD i default) = true from h)] at hq
   exact hq
  ·rw [if_neg (show ¬Sp.pStop (l.getD i default) = true from h)] at hq
   exact hq
theorem ev56_b (g:Bool) (l:List Bk) (hk:Sp.okBs l):Ev M1 (.pure 56 [bsA g l,.func (.func 60) [] []]) (.int .i64 (Sp.idxP Sp.pStop l)) []:=
 call56 (svI2 g l _ (svI2_loop hk l.length 0 (by omega) rfl))
theorem svIm_loop {g:Bool} {l:List Bk} {dq:AV} (hk:Sp.okBs l):∀ (c i:Nat),i + c = l.length -> AV.int .i64 (Sp.idxF Sp.pMk (l.drop i) i) = dq -> svIma_at g l l.length i (PureQ dq):=by
 have hl:=hk.1
 intro c
 induction c with
 | zero =>
  intro i hi hq
  rw [List.drop_eq_nil_of_le (by omega)] at hq
  exact svIma _ _ _ _ _ ⟨fun h => by omega,fun _ => hq⟩
 | succ c ih =>
  intro i hi hq
  have hm:=hk.2 _ (getD_mem (show i < l.length by omega))
  rw [drop_getD (show i < l.length by omega),Sp.idxF] at hq
  refine svIma _ _ _ _ _ ⟨fun _ => ?_,fun h => by omega⟩
  rw [Int.toNat_natCast]
  refine ⟨hm.1,by omega,by omega,fun h => ?_,fun h => ⟨by omega,ih (i + 1) (by omega) ?_⟩⟩
  ·rw [if_pos (show Sp.pMk (l.getD i default) = true from h)] at hq
   exact hq
  ·rw [if_neg (show ¬Sp.pMk (l.getD i default) = true from h)] at hq
   exact hq
theorem ev56_c (g:Bool) (l:List Bk) (hk:Sp.okBs l):Ev M1 (.pure 56 [bsA g l,.func (.func 77) [] []]) (.int .i64 (Sp.idxP Sp.pMk l)) []:=
 call56 (svIm g l _ (svIm_loop hk l.length 0 (by omega) rfl))
end Go.Av

namespace Go.Av
open Go.Proofs
set_option maxRecDepth 100000
def fi27:Fi:=⟨9,[.tmp 4]⟩
def kp27:List (Nat × List Nat):=[(0,[0,1]),(1,[4])]
def svXm_at (g:Bool) (l:List Bk) (Q:AV -> Heap -> Prop):Prop:=Wp M1 (.run fi27 (atC (cd Try.f27) []) [(0,.vec g 3 (l.map Bk.a)),(1,.func (.func 77) [] [])] []) Q
theorem call27 {args:List AV} {d:AV} (h:wc M1 fi27 Try.f27 args d):Ev M1 (.pure 27 args) d []:=pcl _ _ (by kernel_rfl) h
theorem svXm (g:Bool) (l:List Bk)  (dq:AV) (H :
  (Sp.okBs l) /\
  vb (decide (Sp.idxP Sp.pMk l >= 0)) = dq) :
 svXm_at g l (PureQ dq):=by
 unfold svXm_at
 obtain ⟨k1,H⟩:=H
 exact path_re (G:=given kp27 [(1,2,.call (vi (Sp.idxP Sp.pMk l)) none)] []) 1000 [] (vb (decide (Sp.idxP Sp.pMk l >= 0))) (by kernel_rfl) b0 q0 (ce (@ev56_c (g) (l) k1) c0) H
end Go.Av

namespace Go.Av
open Go.Proofs
theorem any_idx {α:Type} (p:α -> Bool) (l:List α):decide (Sp.idxP p l >= 0) = Sp.anyP p l:=by
 unfold Sp.idxP Sp.anyP
 rcases idxF_ge p l 0 (by omega) with ⟨h1,h2⟩ | ⟨h1,h2,h3⟩
 ·rw [h1,h2];rfl
 ·rw [h3];exact decide_eq_true h1
theorem ev27_a (g:Bool) (l:List Bk) (hk:Sp.okBs l):Ev M1 (.pure 27 [bsA g l,.func (.func 77) [] []]) (.bool (Sp.anyP Sp.pMk l)) []:=
 call27 (svXm g l _ ⟨hk,congrArg AV.bool (any_idx ..)⟩)
end Go.Av

namespace Go.Av
open Go.Proofs
set_option maxRecDepth 100000
def fi79:Fi:=⟨6,[.tmp 2]⟩
def kp79:List (Nat × List Nat):=[(0,[1]),(1,[2])]
def fi80:Fi:=⟨9,[.tmp 3]⟩
def kp80:List (Nat × List Nat):=[(0,[1,2]),(1,[3])]
def svO1_at (n:Int) (f:Bool) (l:List Bk) (Q:AV -> Heap -> Prop):Prop:=Wp M1 (.run fi79 (atC (cd Try.f79) []) [(0,.agg [.int .i64 n,.vec f 3 (l.map Bk.a)])] []) Q
def svR1_at (n m:Int) (f g:Bool) (l q:List Bk) (Q:AV -> Heap -> Prop):Prop:=Wp M1 (.run fi80 (atC (cd Try.f80) []) [(0,.agg [.int .i64 n,.vec f 3 (l.map Bk.a)]),(1,.eptr 2 [.agg [.int .i64 m,.vec g 3 (q.map Bk.a)]] 0 0)] []) Q
theorem call79 {args:List AV} {d:AV} (h:wc M1 fi79 Try.f79 args d):Ev M1 (.pure 79 args) d []:=pcl _ _ (by kernel_rfl) h
theorem call80 {args:List AV} {d:AV} (h:wc M1 fi80 Try.f80 args d):Ev M1 (.pure 80 args) d []:=pcl _ _ (by kernel_rfl) h
theorem svO1 (n:Int) (f:Bool) (l:List Bk)  (dq:AV) (H :
  (Sp.okBs l) /\
  vb (Sp.anyP Sp.pMk l) = dq) :
 svO1_at n f l (PureQ dq):=by
 unfold svO1_at
 obtain ⟨k1,H⟩:=H
 exact path_re (G:=given kp79 [(1,2,.call (vb (Sp.anyP Sp.pMk l)) none)] []) 1000 [] (vb (Sp.anyP Sp.pMk l)) (by kernel_rfl) (bc rfl b0) q0 (ce (@ev27_a (f) (l) k1) c0) H
theorem svR1 (n m:Int) (f g:Bool) (l q:List Bk)  (dq:AV) (H :
  vb (m == n) = dq) :
 svR1_at n m f g l q (PureQ dq):=by
 unfold svR1_at
 exact path_re (G:=given kp80 [] []) 1000 [] (vb (m == n)) (by kernel_rfl) (bc rfl b0) q0 c0 H
end Go.Av

namespace Go.Av
open Go.Proofs
namespace Sp
def eqI (m n:Int):Bool:=m == n
def sMk (s:Sb):Bool:=anyP pMk s.bl
def sIs (m:Int) (s:Sb):Bool:=eqI m s.n
end Sp
theorem ev79 (n:Int) (f:Bool) (l:List Bk) (hk:Sp.okBs l):Ev M1 (.pure 79 [.agg [.int .i64 n,.vec f 3 (l.map Bk.a)]]) (.bool (Sp.anyP Sp.pMk l)) []:=
 call79 (svO1 n f l _ ⟨hk,rfl⟩)
theorem ev80 (n m:Int) (f g:Bool) (l q:List Bk):Ev M1 (.pure 80 [.agg [.int .i64 n,.vec f 3 (l.map Bk.a)],.eptr 2 [.agg [.int .i64 m,.vec g 3 (q.map Bk.a)]] 0 0]) (.bool (Sp.eqI m n)) []:=
 call80 (svR1 n m f g l q _ rfl)
end Go.Av

namespace Go.Av
open Go.Proofs
set_option maxRecDepth 100000
def fi86:Fi:=⟨19,[.tmp 4]⟩
def kp86:List (Nat × List Nat):=[(0,[0,1]),(1,[0,1,7,8]),(2,[0,1,7,8,9]),(3,[0,1,5,7,8]),(4,[0,1,5,7,8,16]),(5,[4]),(6,[0,1,7,8]),(7,[4])]
def svJo_at (h:Bool) (s:List Sb) (Q:AV -> Heap -> Prop):Prop:=Wp M1 (.run fi86 (atC (cd Try.f86) []) [(0,.vec h 2 (s.map Sb.a)),(1,.func (.func 79) [] [])] []) Q
def svJoa_at (h:Bool) (s:List Sb) (n i:Int) (Q:AV -> Heap -> Prop):Prop:=Wp M1 (.run fi86 (atC (cd Try.f86) [1,0,1,0,0]) [(0,.vec h 2 (s.map Sb.a)),(1,.func (.func 79) [] []),(7,.int .i64 n),(8,.int .i64 i)] []) Q
def svJr_at (h:Bool) (s:List Sb) (m:Int) (f:Bool) (q:List Bk) (Q:AV -> Heap -> Prop):Prop:=Wp M1 (.run fi86 (atC (cd Try.f86) []) [(0,.vec h 2 (s.map Sb.a)),(1,.func (.func 80) [] [.eptr 2 [.agg [.int .i64 m,.vec f 3 (q.map Bk.a)]] 0 0])] []) Q
def svJra_at (h:Bool) (s:List Sb) (m:Int) (f:Bool) (q:List Bk) (n i:Int) (Q:AV -> Heap -> Prop):Prop:=Wp M1 (.run fi86 (atC (cd Try.f86) [1,0,1,0,0]) [(0,.vec h 2 (s.map Sb.a)),(1,.func (.func 80) [] [.eptr 2 [.agg [.int .i64 m,.vec f 3 (q.map Bk.a)]] 0 0]),(7,.int .i64 n),(8,.int .i64 i)] []) Q
theorem call86 {args:List AV} {d:AV} (h:wc M1 fi86 Try.f86 args d):Ev M1 (.pure 86 args) d []:=pcl _ _ (by kernel_rfl) h
theorem svJo (h:Bool) (s:List Sb)  (dq:AV) (H :
  svJoa_at (h) (s) ((↑s.length:Int)) (0) (PureQ dq)) :
 svJo_at h s (PureQ dq):=by
 unfold svJo_at
 have w1:(List.map Sb.a s).length = s.length:=List.length_map ..
 exact path_wp (G:=given kp86 [] []) 1000 [] ⟨(atC (cd Try.f86) [1,0,1,0,0]),[(0,AV.vec h 2 (List.map Sb.a s)),(1,AV.func (Fn.func 79) [] []),(7,vi (↑(List.map Sb.a s).length:Int)),(8,vi 0)],[],_,[],_⟩ (by kernel_rfl) b0 q0 c0 (by (try rw [w1]);all_goals exact H)
theorem svJoa (h:Bool) (s:List Sb) (n i:Int)  (dq:AV) (H :
  ((i < n) -> (Sp.okBs (s.getD i.toNat default).3) /\
   (0 <= i) /\
   (i.toNat < s.length) /\
   ((Sp.anyP Sp.pMk (s.getD i.toNat default).3 = true) -> vi i = dq) /\
   (¬(Sp.anyP Sp.pMk (s.getD i.toNat default).3 = true) -> (-9223372036854775808 <= i + 1 /\ i + 1 <= 9223372036854775807) /\
    svJoa_at (h) (s) (n) (i + 1) (PureQ dq))) /\
  (¬(i < n) -> vi (-1) = dq)) :
 svJoa_at h s n i (PureQ dq):=by
 unfold svJoa_at
 rcases xm (i < n) with d2 | d2
 ·have H:=H.1 d2
  obtain ⟨k3,H⟩:=H
  obtain ⟨k5,H⟩:=H
  have w6:(List.map Sb.a s).length = s.length:=List.length_map ..
  have i7:(decide (i.toNat < (List.map Sb.a s).length)) = true ↔ (i.toNat < s.length):=(by (try rw [w6]);all_goals exact i_dec)
  obtain ⟨k8,H⟩:=H
  refine path_wp (G:=given kp86 [(4,4,.elem (ag [vi (s.getD i.toNat default).n,AV.vec (s.getD i.toNat default).2 3 (List.map Bk.a (s.getD i.toNat default).3)])),(4,5,.call (vb (Sp.anyP Sp.pMk (s.getD i.toNat default).3)) none)] []) 11 [true] ⟨(atC (cd Try.f86) [1,0,1,0,0,1,1,0,0,1,1]),[(0,AV.vec h 2 (List.map Sb.a s)),(1,AV.func (Fn.func 79) [] []),(5,vi i),(7,vi n),(8,vi i),(16,vb (Sp.anyP Sp.pMk (s.getD i.toNat default).3))],[],_,[((List.map Sb.a s).get?Internal i.toNat = some (ag [vi (s.getD i.toNat default).n,AV.vec (s.getD i.toNat default).2 3 (List.map Bk.a (s.getD i.toNat default).3)]))],_⟩ (by kernel_rfl) (bc (beq_t (i_dec.2 d2)) (bc (i_dec.2 k5) (bc (i7.2 k8) b0))) (qc (el_map k8) q0) (ce (@ev79 ((s.getD i.toNat default).n) ((s.getD i.toNat default).2) ((s.getD i.toNat default).3) k3) c0) ?_
  rcases xm (Sp.anyP Sp.pMk (s.getD i.toNat default).3 = true) with d10 | d10
  ·have H:=H.1 d10
   exact path_re (G:=given kp86 [] []) 1000 [true] (asm:=[(Sp.anyP Sp.pMk (s.getD i.toNat default).3) == true]) (vi i) (by kernel_rfl) (bc (beq_t ((i_var _).2 d10)) b0) q0 c0 H
  ·have H:=H.2 d10
   obtain ⟨k11,H⟩:=H
   have w12:wi (i + 1) = i + 1:=wI64 k11
   exact path_wp (G:=given kp86 [] []) 1000 [false] ⟨(atC (cd Try.f86) [1,0,1,0,0]),[(0,AV.vec h 2 (List.map Sb.a s)),(1,AV.func (Fn.func 79) [] []),(7,vi n),(8,vi (wi (i + 1)))],[],[(Sp.anyP Sp.pMk (s.getD i.toNat default).3) == false],[],_⟩ (by kernel_rfl) (bc (beq_f (fun h => d10 ((i_var _).1 h))) b0) q0 c0 (by (try rw [w12]);all_goals exact H)
 ·have H:=H.2 d2
  exact path_re (G:=given kp86 [] []) 1000 [false] (vi (-1)) (by kernel_rfl) (bc (beq_f (fun h => d2 (i_dec.1 h))) b0) q0 c0 H
theorem svJr (h:Bool) (s:List Sb) (m:Int) (f:Bool) (q:List Bk)  (dq:AV) (H :
  svJra_at (h) (s) (m) (f) (q) ((↑s.length:Int)) (0) (PureQ dq)) :
 svJr_at h s m f q (PureQ dq):=by
 unfold svJr_at
 have w1:(List.map Sb.a s).length = s.length:=List.length_map ..
 exact path_wp (G:=given kp86 [] []) 1000 [] ⟨(atC (cd Try.f86) [1,0,1,0,0]),[(0,AV.vec h 2 (List.map Sb.a s)),(1,AV.func (Fn.func 80) [] [AV.eptr 2 [ag [vi m,AV.vec f 3 (List.map Bk.a q)]] 0 0]),(7,vi (↑(List.map Sb.a s).length:Int)),(8,vi 0)],[],_,[],_⟩ (by kernel_rfl) b0 q0 c0 (by (try rw [w1]);all_goals exact H)
theorem svJra (h:Bool) (s:List Sb) (m:Int) (f:Bool) (q:List Bk) (n i:Int)  (dq:AV) (H :
  ((i < n) -> (0 <= i) /\
   (i.toNat < s.length) /\
   ((Sp.eqI m (s.getD i.toNat default).n = true) -> vi i = dq) /\
   (¬(Sp.eqI m (s.getD i.toNat default).n = true) -> (-9223372036854775808 <= i + 1 /\ i + 1 <= 9223372036854775807) /\
    svJra_at (h) (s) (m) (f) (q) (n) (i + 1) (PureQ dq))) /\
  (¬(i < n) -> vi (-1) = dq)) :
 svJra_at h s m f q n i (PureQ dq):=by
 unfold svJra_at
 rcases xm (i < n) with d2 | d2
 ·have H:=H.1 d2
  obtain ⟨k4,H⟩:=H
  have w5:(List.map Sb.a s).length = s.length:=List.length_map ..
  have i6:(decide (i.toNat < (List.map Sb.a s).length)) = true ↔ (i.toNat < s.length):=(by (try rw [w5]);all_goals exact i_dec)
  obtain ⟨k7,H⟩:=H
  refine path_wp (G:=given kp86 [(4,4,.elem (ag [vi (s.getD i.toNat default).n,AV.vec (s.getD i.toNat default).2 3 (List.map Bk.a (s.getD i.toNat default).3)])),(4,5,.call (vb (Sp.eqI m (s.getD i.toNat default).n)) none)] []) 11 [true] ⟨(atC (cd Try.f86) [1,0,1,0,0,1,1,0,0,1,1]),[(0,AV.vec h 2 (List.map Sb.a s)),(1,AV.func (Fn.func 80) [] [AV.eptr 2 [ag [vi m,AV.vec f 3 (List.map Bk.a q)]] 0 0]),(5,vi i),(7,vi n),(8,vi i),(16,vb (Sp.eqI m (s.getD i.toNat default).n))],[],_,[((List.map Sb.a s).get?Internal i.toNat = some (ag [vi (s.getD i.toNat default).n,AV.vec (s.getD i.toNat default).2 3 (List.map Bk.a (s.getD i.toNat default).3)]))],_⟩ (by kernel_rfl) (bc (beq_t (i_dec.2 d2)) (bc (i_dec.2 k4) (bc (i6.2 k7) b0))) (qc (el_map k7) q0) (ce (@ev80 ((s.getD i.toNat default).n) (m) ((s.getD i.toNat default).2) (f) ((s.getD i.toNat default).3) (q)) c0) ?_
  rcases xm (Sp.eqI m (s.getD i.toNat default).n = true) with d9 | d9
  ·have H:=H.1 d9
   exact path_re (G:=given kp86 [] []) 1000 [true] (asm:=[(Sp.eqI m (s.getD i.toNat default).n) == true]) (vi i) (by kernel_rfl) (bc (beq_t ((i_var _).2 d9)) b0) q0 c0 H
  ·have H:=H.2 d9
   obtain ⟨k10,H⟩:=H
   have w11:wi (i + 1) = i + 1:=wI64 k10
   exact path_wp (G:=given kp86 [] []) 1000 [false] ⟨(atC (cd Try.f86) [1,0,1,0,0]),[(0,AV.vec h 2 (List.map Sb.a s)),(1,AV.func (Fn.func 80) [] [AV.eptr 2 [ag [vi m,AV.vec f 3 (List.map Bk.a q)]] 0 0]),(7,vi n),(8,vi (wi (i + 1)))],[],[(Sp.eqI m (s.getD i.toNat default).n) == false],[],_⟩ (by kernel_rfl) (bc (beq_f (fun h => d9 ((i_var _).1 h))) b0) q0 c0 (by (try rw [w11]);all_goals exact H)
 ·have H:=H.2 d2
  exact path_re (G:=given kp86 [] []) 1000 [false] (vi (-1)) (by kernel_rfl) (bc (beq_f (fun h => d2 (i_dec.1 h))) b0) q0 c0 H
end Go.Av

namespace Go.Av
open Go.Proofs
theorem svJo_loop {h:Bool} {s:List Sb} {dq:AV} (hk:s.length <= 1000000 /\ ∀ x ∈ s,Sp.okBs x.bl):∀ (c i:Nat),i + c = s.length -> AV.int .i64 (Sp.idxF Sp.sMk (s.drop i) i) = dq -> svJoa_at h s s.length i (PureQ dq):=by
 have hl:s.length <= 1000000:=hk.1
 intro c
 induction c with
 | zero =>
  intro i hi hq
  rw [List.drop_eq_nil_of_le (by omega)] at hq
  exact svJoa _ _ _ _ _ ⟨fun h => by omega,fun _ => hq⟩
 | succ c ih =>
  intro i hi hq
  have hm:=hk.2 _ (getD_mem (show i < s.length by omega))
  rw [drop_getD (show i < s.length by omega),Sp.idxF] at hq
  refine svJoa _ _ _ _ _ ⟨fun _ => ?_,fun h => by omega⟩
  rw [Int.toNat_natCast]
  refine ⟨hm,by omega,by omega,fun h => ?_,fun h => ⟨by omega,ih (i + 1) (by omega) ?_⟩⟩
  ·rw [if_pos (show Sp.sMk (s.getD i default) = true from h)] at hq
   exact hq
  ·rw [if_neg (show ¬Sp.sMk (s.getD i default) = true from h)] at hq
   exact hq
theorem ev86_a (h:Bool) (s:List Sb) (hk:s.length <= 1000000 /\ ∀ x ∈ s,Sp.okBs x.bl):Ev M1 (.pure 86 [sbA h s,.func (.func 79) [] []]) (.int .i64 (Sp.idxP Sp.sMk s)) []:=
 call86 (svJo h s _ (svJo_loop hk s.length 0 (by omega) rfl))
theorem svJr_loop {h:Bool} {s:List Sb} {m:Int} {f:Bool} {q:List Bk} {dq:AV} (hk:s.length <= 1000000):∀ (c i:Nat),i + c = s.length -> AV.int .i64 (Sp.idxF (Sp.sIs m) (s.drop i) i) = dq -> svJra_at h s m f q s.length i (PureQ dq):=by
 have hl:s.length <= 1000000:=hk
 intro c
 induction c with
 | zero =>
  intro i hi hq
  rw [List.drop_eq_nil_of_le (by omega)] at hq
  exact svJra _ _ _ _ _ _ _ _ ⟨fun h => by omega,fun _ => hq⟩
 | succ c ih =>
  intro i hi hq
  rw [drop_getD (show i < s.length by omega),Sp.idxF] at hq
  refine svJra _ _ _ _ _ _ _ _ ⟨fun _ => ?_,fun h => by omega⟩
  rw [Int.toNat_natCast]
  refine ⟨by omega,by omega,fun h => ?_,fun h => ⟨by omega,ih (i + 1) (by omega) ?_⟩⟩
  ·rw [if_pos (show (Sp.sIs m) (s.getD i default) = true from h)] at hq
   exact hq
  ·rw [if_neg (show ¬(Sp.sIs m) (s.getD i default) = true from h)] at hq
   exact hq
theorem ev86_b (h:Bool) (s:List Sb) (m:Int) (f:Bool) (q:List Bk) (hk:s.length <= 1000000):Ev M1 (.pure 86 [sbA h s,.func (.func 80) [] [.eptr 2 [.agg [.int .i64 m,.vec f 3 (q.map Bk.a)]] 0 0]]) (.int .i64 (Sp.idxP (Sp.sIs m) s)) []:=
 call86 (svJr h s m f q _ (svJr_loop hk s.length 0 (by omega) rfl))
end Go.Av

namespace Go.Av
open Go.Proofs
set_option maxRecDepth 100000
def fi78:Fi:=⟨9,[.tmp 4]⟩
def kp78:List (Nat × List Nat):=[(0,[0,1]),(1,[4])]
def svKo_at (h:Bool) (s:List Sb) (Q:AV -> Heap -> Prop):Prop:=Wp M1 (.run fi78 (atC (cd Try.f78) []) [(0,.vec h 2 (s.map Sb.a)),(1,.func (.func 79) [] [])] []) Q
def svKr_at (h:Bool) (s:List Sb) (m:Int) (f:Bool) (q:List Bk) (Q:AV -> Heap -> Prop):Prop:=Wp M1 (.run fi78 (atC (cd Try.f78) []) [(0,.vec h 2 (s.map Sb.a)),(1,.func (.func 80) [] [.eptr 2 [.agg [.int .i64 m,.vec f 3 (q.map Bk.a)]] 0 0])] []) Q
theorem call78 {args:List AV} {d:AV} (h:wc M1 fi78 Try.f78 args d):Ev M1 (.pure 78 args) d []:=pcl _ _ (by kernel_rfl) h
theorem svKo (h:Bool) (s:List Sb)  (dq:AV) (H :
  (s.length <= 1000000 /\ ∀ (x:Sb),x ∈ s -> Sp.okBs x.bl) /\
  vb (decide (Sp.idxP Sp.sMk s >= 0)) = dq) :
 svKo_at h s (PureQ dq):=by
 unfold svKo_at
 obtain ⟨k1,H⟩:=H
 exact path_re (G:=given kp78 [(1,2,.call (vi (Sp.idxP Sp.sMk s)) none)] []) 1000 [] (vb (decide (Sp.idxP Sp.sMk s >= 0))) (by kernel_rfl) b0 q0 (ce (@ev86_a (h) (s) k1) c0) H
theorem svKr (h:Bool) (s:List Sb) (m:Int) (f:Bool) (q:List Bk)  (dq:AV) (H :
  (s.length <= 1000000) /\
  vb (decide (Sp.idxP (Sp.sIs m) s >= 0)) = dq) :
 svKr_at h s m f q (PureQ dq):=by
 unfold svKr_at
 obtain ⟨k1,H⟩:=H
 exact path_re (G:=given kp78 [(1,2,.call (vi (Sp.idxP (Sp.sIs m) s)) none)] []) 1000 [] (vb (decide (Sp.idxP (Sp.sIs m) s >= 0))) (by kernel_rfl) b0 q0 (ce (@ev86_b (h) (s) (m) (f) (q) k1) c0) H
end Go.Av

namespace Go.Av
open Go.Proofs
theorem ev78_a (h:Bool) (s:List Sb) (hk:s.length <= 1000000 /\ ∀ x ∈ s,Sp.okBs x.bl):Ev M1 (.pure 78 [sbA h s,.func (.func 79) [] []]) (.bool (Sp.anyP Sp.sMk s)) []:=
 call78 (svKo h s _ ⟨hk,congrArg AV.bool (any_idx ..)⟩)
theorem ev78_b (h:Bool) (s:List Sb) (m:Int) (f:Bool) (q:List Bk) (hk:s.length <= 1000000):Ev M1 (.pure 78 [sbA h s,.func (.func 80) [] [.eptr 2 [.agg [.int .i64 m,.vec f 3 (q.map Bk.a)]] 0 0]]) (.bool (Sp.anyP (Sp.sIs m) s)) []:=
 call78 (svKr h s m f q _ ⟨hk,congrArg AV.bool (any_idx ..)⟩)
end Go.Av

namespace Go.Av
open Go.Proofs
set_option maxRecDepth 100000
def fi62:Fi:=⟨48,[.tmp 2]⟩
def kp62:List (Nat × List Nat):=[(0,[1]),(1,[1,3]),(2,[1,43]),(3,[2]),(4,[2])]
def fi63:Fi:=⟨18,[.tmp 2]⟩
def kp63:List (Nat × List Nat):=[(0,[0]),(1,[0,5,6,7]),(2,[0,5,6,7,8]),(3,[0,3,4,5,6,7]),(4,[0,5,6,7,16]),(5,[2]),(6,[0,5,6,7]),(7,[2])]
def svRp_at (h:Bool) (s:List Sb) (Q:AV -> Heap -> Prop):Prop:=Wp M1 (.run fi63 (atC (cd Try.f63) []) [(0,.vec h 2 (s.map Sb.a))] []) Q
def svRpa_at (h:Bool) (s:List Sb) (n i:Int) (Q:AV -> Heap -> Prop):Prop:=Wp M1 (.run fi63 (atC (cd Try.f63) [1,0,1,0,0]) [(0,.vec h 2 (s.map Sb.a)),(5,.vec h 2 (s.map Sb.a)),(6,.int .i64 n),(7,.int .i64 i)] []) Q
def svOd_at (g:Bool) (l:List Bk) (h:Bool) (s:List Sb) (Q:AV -> Heap -> Prop):Prop:=Wp M1 (.run fi62 (atC (cd Try.f62) []) [(0,.agg [.vec g 3 (l.map Bk.a),.vec h 2 (s.map Sb.a)])] []) Q
theorem call62 {args:List AV} {d:AV} (h:wc M1 fi62 Try.f62 args d):Ev M1 (.pure 62 args) d []:=pcl _ _ (by kernel_rfl) h
theorem call63 {args:List AV} {d:AV} (h:wc M1 fi63 Try.f63 args d):Ev M1 (.pure 63 args) d []:=pcl _ _ (by kernel_rfl) h
theorem svRp (h:Bool) (s:List Sb)  (dq:AV) (H :
  svRpa_at (h) (s) ((↑s.length:Int)) (0) (PureQ dq)) :
 svRp_at h s (PureQ dq):=by
 unfold svRp_at
 have w1:(List.map Sb.a s).length = s.length:=List.length_map ..
 exact path_wp (G:=given kp63 [] []) 1000 [] ⟨(atC (cd Try.f63) [1,0,1,0,0]),[(0,AV.vec h 2 (List.map Sb.a s)),(5,AV.vec h 2 (List.map Sb.a s)),(6,vi (↑(List.map Sb.a s).length:Int)),(7,vi 0)],[],_,[],_⟩ (by kernel_rfl) b0 q0 c0 (by (try rw [w1]);all_goals exact H)
noncomputable abbrev zSpT1 (s:List Sb) (i:Int):=Sp.anyP (Sp.sIs (s.getD i.toNat default).n) (List.drop 0 (List.take i.toNat s))
theorem svRpa (h:Bool) (s:List Sb) (n i:Int)  (dq:AV) (H :
  ((i < n) -> (0 <= i) /\
   (i.toNat < s.length) /\
   ((List.drop 0 (List.take i.toNat s)).length <= 1000000) /\
   (0 <= i.toNat) /\
   (i.toNat <= s.length) /\
   ((Sp.anyP (Sp.sIs (s.getD i.toNat default).n) (List.drop 0 (List.take i.toNat s)) = true) -> vb true = dq) /\
   (¬(Sp.anyP (Sp.sIs (s.getD i.toNat default).n) (List.drop 0 (List.take i.toNat s)) = true) -> (-9223372036854775808 <= i + 1 /\ i + 1 <= 9223372036854775807) /\
    svRpa_at (h) (s) (n) (i + 1) (PureQ dq))) /\
  (¬(i < n) -> vb false = dq)) :
 svRpa_at h s n i (PureQ dq):=by
 unfold svRpa_at
 rcases xm (i < n) with d2 | d2
 ·have H:=H.1 d2
  obtain ⟨k4,H⟩:=H
  have w5:(List.map Sb.a s).length = s.length:=List.length_map ..
  have i6:(decide (i.toNat < (List.map Sb.a s).length)) = true ↔ (i.toNat < s.length):=(by (try rw [w5]);all_goals exact i_dec)
  obtain ⟨k7,H⟩:=H
  have w8:List.take i.toNat (List.map Sb.a s) = List.map Sb.a (List.take i.toNat s):=(lm_take rfl)
  have w9:List.drop 0 (List.map Sb.a (List.take i.toNat s)) = List.map Sb.a (List.drop 0 (List.take i.toNat s)):=(lm_drop rfl)
  obtain ⟨k10,H⟩:=H
  obtain ⟨k13,H⟩:=H
  have i14:(decide (i.toNat <= (List.map Sb.a s).length)) = true ↔ (i.toNat <= s.length):=(by (try rw [w5]);all_goals exact i_dec)
  obtain ⟨k15,H⟩:=H
  refine path_wp (G:=given kp63 [(3,2,.elem (ag [vi (s.getD i.toNat default).n,AV.vec (s.getD i.toNat default).2 3 (List.map Bk.a (s.getD i.toNat default).3)])),(4,4,.call (vb (zSpT1 s i)) none)] []) 11 [true] ⟨(atC (cd Try.f63) [1,0,1,0,0,1,1,0,0,1,1]),[(0,AV.vec h 2 (List.map Sb.a s)),(5,AV.vec h 2 (List.map Sb.a s)),(6,vi n),(7,vi i),(16,vb (zSpT1 s i))],[⟨[ag [vi (s.getD i.toNat default).n,AV.vec (s.getD i.toNat default).2 3 (List.map Bk.a (s.getD i.toNat default).3)]],2,0,false,false⟩],_,[((List.map Sb.a s).get?Internal i.toNat = some (ag [vi (s.getD i.toNat default).n,AV.vec (s.getD i.toNat default).2 3 (List.map Bk.a (s.getD i.toNat default).3)]))],[pc 78 [AV.vec (h && false) 2 (List.drop 0 (List.take i.toNat (List.map Sb.a s))),AV.func (Fn.func 80) [] [AV.eptr 2 [ag [vi (s.getD i.toNat default).n,AV.vec (s.getD i.toNat default).2 3 (List.map Bk.a (s.getD i.toNat default).3)]] 0 0]] (vb (zSpT1 s i))]⟩ (by kernel_rfl) (bc (beq_t (i_dec.2 d2)) (bc (i_dec.2 k4) (bc (i6.2 k7) (bc rfl (bc (i_dec.2 k4) (bc (i_dec.2 k13) (bc (i14.2 k15) (bc rfl b0)))))))) (qc (el_map k7) q0) (ce (by (try rw [w8]);(try rw [w9]);all_goals exact (@ev78_b (h && false) (List.drop 0 (List.take i.toNat s)) ((s.getD i.toNat default).n) ((s.getD i.toNat default).2) ((s.getD i.toNat default).3) k10)) c0) ?_
  rcases xm (Sp.anyP (Sp.sIs (s.getD i.toNat default).n) (List.drop 0 (List.take i.toNat s)) = true) with d17 | d17
  ·have H:=H.1 d17
   exact path_re (G:=given kp63 [] []) 1000 [true] (asm:=[(zSpT1 s i) == true]) (vb true) (by kernel_rfl) (bc (beq_t ((i_var _).2 d17)) b0) q0 c0 H
  ·have H:=H.2 d17
   obtain ⟨k18,H⟩:=H
   have w19:wi (i + 1) = i + 1:=wI64 k18
   exact path_wp (G:=given kp63 [] []) 1000 [false] ⟨(atC (cd Try.f63) [1,0,1,0,0]),[(0,AV.vec h 2 (List.map Sb.a s)),(5,AV.vec h 2 (List.map Sb.a s)),(6,vi n),(7,vi (wi (i + 1)))],[⟨[ag [vi (s.getD i.toNat default).n,AV.vec (s.getD i.toNat default).2 3 (List.map Bk.a (s.getD i.toNat default).3)]],2,0,false,false⟩],[(zSpT1 s i) == false],[],_⟩ (by kernel_rfl) (bc (beq_f (fun h => d17 ((i_var _).1 h))) b0) q0 c0 (by (try rw [w19]);all_goals exact wp_narrow [] (by kernel_rfl) H)
 ·have H:=H.2 d2
  exact path_re (G:=given kp63 [] []) 1000 [false] (vb false) (by kernel_rfl) (bc (beq_f (fun h => d2 (i_dec.1 h))) b0) q0 c0 H
noncomputable abbrev zSpT2 (l:List Bk):=Sp.hasW (l.getD ((↑l.length:Int) - 1).toNat default).3 77 30000 = true
noncomputable abbrev zSpT3 (l:List Bk):=(↑(Sp.codes (l.getD ((↑l.length:Int) - 1).toNat default).3 79).length:Int) > 0
noncomputable abbrev zSpT4 (l:List Bk):=List.drop 0 (List.take ((↑l.length:Int) - 1).toNat l)
noncomputable abbrev zSpT5 (l:List Bk):=Sp.hasW (l.getD ((↑l.length:Int) - 1).toNat default).3 77 99000 = true
noncomputable abbrev zSpT6 (l:List Bk):=Sp.hasW (l.getD ((↑l.length:Int) - 1).toNat default).3 77 30000
noncomputable abbrev zSpT7 (l:List Bk):=Sp.hasW (l.getD ((↑l.length:Int) - 1).toNat default).3 77 99000
noncomputable abbrev zSpT8 (l:List Bk):=vf (List.map (vi) (Sp.codes (l.getD ((↑l.length:Int) - 1).toNat default).3 79))
theorem svOd (g:Bool) (l:List Bk) (h:Bool) (s:List Sb)  (dq:AV) (H :
  (-9223372036854775808 <= (↑l.length:Int) - 1 /\ (↑l.length:Int) - 1 <= 9223372036854775807) /\
  ((¬((↑l.length:Int) - 1 < 0)) -> (Sp.few6 (l.getD ((↑l.length:Int) - 1).toNat default).3.length)) /\
  ((¬(((↑l.length:Int) - 1 < 0) \/ (¬(Sp.hasW (l.getD ((↑l.length:Int) - 1).toNat default).3 77 30000 = true)))) -> (Sp.few6 (l.getD ((↑l.length:Int) - 1).toNat default).3.length)) /\
  ((¬((((↑l.length:Int) - 1 < 0) \/ (¬(Sp.hasW (l.getD ((↑l.length:Int) - 1).toNat default).3 77 30000 = true))) \/ ((↑(Sp.codes (l.getD ((↑l.length:Int) - 1).toNat default).3 79).length:Int) > 0))) -> (Sp.few6 (l.getD ((↑l.length:Int) - 1).toNat default).3.length)) /\
  ((¬(((((↑l.length:Int) - 1 < 0) \/ (¬(Sp.hasW (l.getD ((↑l.length:Int) - 1).toNat default).3 77 30000 = true))) \/ ((↑(Sp.codes (l.getD ((↑l.length:Int) - 1).toNat default).3 79).length:Int) > 0)) \/ (Sp.hasW (l.getD ((↑l.length:Int) - 1).toNat default).3 77 99000 = true))) -> (Sp.okBs (List.drop 0 (List.take ((↑l.length:Int) - 1).toNat l)))) /\
  ((¬((↑l.length:Int) - 1 < 0)) -> (0 <= (↑l.length:Int) - 1)) /\
  ((¬((↑l.length:Int) - 1 < 0)) -> (((↑l.length:Int) - 1).toNat < l.length)) /\
  ((¬(((↑l.length:Int) - 1 < 0) \/ (¬(Sp.hasW (l.getD ((↑l.length:Int) - 1).toNat default).3 77 30000 = true)))) -> (0 <= (↑l.length:Int) - 1)) /\
  ((¬(((↑l.length:Int) - 1 < 0) \/ (¬(Sp.hasW (l.getD ((↑l.length:Int) - 1).toNat default).3 77 30000 = true)))) -> (((↑l.length:Int) - 1).toNat < l.length)) /\
  ((¬((((↑l.length:Int) - 1 < 0) \/ (¬(Sp.hasW (l.getD ((↑l.length:Int) - 1).toNat default).3 77 30000 = true))) \/ ((↑(Sp.codes (l.getD ((↑l.length:Int) - 1).toNat default).3 79).length:Int) > 0))) -> (0 <= (↑l.length:Int) - 1)) /\
  ((¬((((↑l.length:Int) - 1 < 0) \/ (¬(Sp.hasW (l.getD ((↑l.length:Int) - 1).toNat default).3 77 30000 = true))) \/ ((↑(Sp.codes (l.getD ((↑l.length:Int) - 1).toNat default).3 79).length:Int) > 0))) -> (((↑l.length:Int) - 1).toNat < l.length)) /\
  ((¬(((((↑l.length:Int) - 1 < 0) \/ (¬(Sp.hasW (l.getD ((↑l.length:Int) - 1).toNat default).3 77 30000 = true))) \/ ((↑(Sp.codes (l.getD ((↑l.length:Int) - 1).toNat default).3 79).length:Int) > 0)) \/ (Sp.hasW (l.getD ((↑l.length:Int) - 1).toNat default).3 77 99000 = true))) -> (0 <= (↑l.length:Int) - 1)) /\
  ((¬(((((↑l.length:Int) - 1 < 0) \/ (¬(Sp.hasW (l.getD ((↑l.length:Int) - 1).toNat default).3 77 30000 = true))) \/ ((↑(Sp.codes (l.getD ((↑l.length:Int) - 1).toNat default).3 79).length:Int) > 0)) \/ (Sp.hasW (l.getD ((↑l.length:Int) - 1).toNat default).3 77 99000 = true))) -> (0 <= ((↑l.length:Int) - 1).toNat)) /\
  ((¬(((((↑l.length:Int) - 1 < 0) \/ (¬(Sp.hasW (l.getD ((↑l.length:Int) - 1).toNat default).3 77 30000 = true))) \/ ((↑(Sp.codes (l.getD ((↑l.length:Int) - 1).toNat default).3 79).length:Int) > 0)) \/ (Sp.hasW (l.getD ((↑l.length:Int) - 1).toNat default).3 77 99000 = true))) -> (((↑l.length:Int) - 1).toNat <= l.length)) /\
  (((((((↑l.length:Int) - 1 < 0) \/ (¬(Sp.hasW (l.getD ((↑l.length:Int) - 1).toNat default).3 77 30000 = true))) \/ ((↑(Sp.codes (l.getD ((↑l.length:Int) - 1).toNat default).3 79).length:Int) > 0)) \/ (Sp.hasW (l.getD ((↑l.length:Int) - 1).toNat default).3 77 99000 = true)) \/ (Sp.anyP Sp.pMk (List.drop 0 (List.take ((↑l.length:Int) - 1).toNat l)) = true)) -> vb false = dq) /\
  (¬((((((↑l.length:Int) - 1 < 0) \/ (¬(Sp.hasW (l.getD ((↑l.length:Int) - 1).toNat default).3 77 30000 = true))) \/ ((↑(Sp.codes (l.getD ((↑l.length:Int) - 1).toNat default).3 79).length:Int) > 0)) \/ (Sp.hasW (l.getD ((↑l.length:Int) - 1).toNat default).3 77 99000 = true)) \/ (Sp.anyP Sp.pMk (List.drop 0 (List.take ((↑l.length:Int) - 1).toNat l)) = true)) -> (s.length <= 1000000 /\ ∀ (x:Sb),x ∈ s -> Sp.okBs x.bl) /\
   (vb !Sp.anyP Sp.sMk s) = dq)) :
 svOd_at g l h s (PureQ dq):=by
 unfold svOd_at
 have w1:(List.map Bk.a l).length = l.length:=List.length_map ..
 obtain ⟨k2,H⟩:=H
 have w3:wi ((↑l.length:Int) - 1) = (↑l.length:Int) - 1:=wI64 k2
 have i4:(decide (wi ((↑(List.map Bk.a l).length:Int) - 1) < 0) == false && true && true) = true ↔ (¬((↑l.length:Int) - 1 < 0)):=(by (try rw [w1]);(try rw [w3]);all_goals exact (i_at (i_at (i_bf i_dec))))
 obtain ⟨k5,H⟩:=H
 have i6:((bif decide (wi ((↑(List.map Bk.a l).length:Int) - 1) < 0) then true else !Sp.hasW (l.getD ((↑l.length:Int) - 1).toNat default).3 77 30000) == false && true && true) = true ↔ (¬(((↑l.length:Int) - 1 < 0) \/ (¬(zSpT2 l)))):=(by (try rw [w1]);(try rw [w3]);all_goals exact (i_at (i_at (i_bf (i_bor i_dec (i_not (i_var _)))))))
 obtain ⟨k7,H⟩:=H
 have w8:(List.map (vi) (Sp.codes (l.getD ((↑l.length:Int) - 1).toNat default).3 79)).length = (Sp.codes (l.getD ((↑l.length:Int) - 1).toNat default).3 79).length:=List.length_map ..
 have i9:((bif bif decide (wi ((↑(List.map Bk.a l).length:Int) - 1) < 0) then true else !Sp.hasW (l.getD ((↑l.length:Int) - 1).toNat default).3 77 30000 then true else decide ((↑(List.map (vi) (Sp.codes (l.getD ((↑l.length:Int) - 1).toNat default).3 79)).length:Int) > 0)) == false && true && true) = true ↔ (¬((((↑l.length:Int) - 1 < 0) \/ (¬(zSpT2 l))) \/ (zSpT3 l))):=(by (try rw [w1]);(try rw [w3]);(try rw [w8]);all_goals exact (i_at (i_at (i_bf (i_bor (i_bor i_dec (i_not (i_var _))) i_dec)))))
 obtain ⟨k10,H⟩:=H
 have w11:List.take ((↑l.length:Int) - 1).toNat (List.map Bk.a l) = List.map Bk.a (List.take ((↑l.length:Int) - 1).toNat l):=(lm_take rfl)
 have w12:List.drop 0 (List.map Bk.a (List.take ((↑l.length:Int) - 1).toNat l)) = List.map Bk.a (zSpT4 l):=(lm_drop rfl)
 have i13:((bif bif bif decide (wi ((↑(List.map Bk.a l).length:Int) - 1) < 0) then true else !Sp.hasW (l.getD ((↑l.length:Int) - 1).toNat default).3 77 30000 then true else decide ((↑(List.map (vi) (Sp.codes (l.getD ((↑l.length:Int) - 1).toNat default).3 79)).length:Int) > 0) then true else Sp.hasW (l.getD ((↑l.length:Int) - 1).toNat default).3 77 99000) == false && true && true) = true ↔ (¬(((((↑l.length:Int) - 1 < 0) \/ (¬(zSpT2 l))) \/ (zSpT3 l)) \/ (zSpT5 l))):=(by (try rw [w1]);(try rw [w3]);(try rw [w8]);all_goals exact (i_at (i_at (i_bf (i_bor (i_bor (i_bor i_dec (i_not (i_var _))) i_dec) (i_var _))))))
 obtain ⟨k14,H⟩:=H
 have i15:(!(decide (wi ((↑(List.map Bk.a l).length:Int) - 1) < 0) == false && true) || decide (0 <= wi ((↑(List.map Bk.a l).length:Int) - 1))) = true ↔ ((¬((↑l.length:Int) - 1 < 0)) -> (0 <= (↑l.length:Int) - 1)):=(by (try rw [w1]);(try rw [w3]);all_goals exact (i_imp (i_at (i_bf i_dec)) i_dec))
 obtain ⟨k16,H⟩:=H
 have i17:(!(decide (wi ((↑(List.map Bk.a l).length:Int) - 1) < 0) == false && true) || decide ((wi ((↑(List.map Bk.a l).length:Int) - 1)).toNat < (List.map Bk.a l).length)) = true ↔ ((¬((↑l.length:Int) - 1 < 0)) -> (((↑l.length:Int) - 1).toNat < l.length)):=(by (try rw [w1]);(try rw [w3]);all_goals exact (i_imp (i_at (i_bf i_dec)) i_dec))
 obtain ⟨k18,H⟩:=H
 have i19:(!((bif decide (wi ((↑(List.map Bk.a l).length:Int) - 1) < 0) then true else !Sp.hasW (l.getD ((↑l.length:Int) - 1).toNat default).3 77 30000) == false && true) || decide (0 <= wi ((↑(List.map Bk.a l).length:Int) - 1))) = true ↔ ((¬(((↑l.length:Int) - 1 < 0) \/ (¬(zSpT2 l)))) -> (0 <= (↑l.length:Int) - 1)):=(by (try rw [w1]);(try rw [w3]);all_goals exact (i_imp (i_at (i_bf (i_bor i_dec (i_not (i_var _))))) i_dec))
 obtain ⟨k20,H⟩:=H
 have i21:(!((bif decide (wi ((↑(List.map Bk.a l).length:Int) - 1) < 0) then true else !Sp.hasW (l.getD ((↑l.length:Int) - 1).toNat default).3 77 30000) == false && true) || decide ((wi ((↑(List.map Bk.a l).length:Int) - 1)).toNat < (List.map Bk.a l).length)) = true ↔ ((¬(((↑l.length:Int) - 1 < 0) \/ (¬(zSpT2 l)))) -> (((↑l.length:Int) - 1).toNat < l.length)):=(by (try rw [w1]);(try rw [w3]);all_goals exact (i_imp (i_at (i_bf (i_bor i_dec (i_not (i_var _))))) i_dec))
 obtain ⟨k22,H⟩:=H
 have i23:(!((bif bif decide (wi ((↑(List.map Bk.a l).length:Int) - 1) < 0) then true else !Sp.hasW (l.getD ((↑l.length:Int) - 1).toNat default).3 77 30000 then true else decide ((↑(List.map (vi) (Sp.codes (l.getD ((↑l.length:Int) - 1).toNat default).3 79)).length:Int) > 0)) == false && true) || decide (0 <= wi ((↑(List.map Bk.a l).length:Int) - 1))) = true ↔ ((¬((((↑l.length:Int) - 1 < 0) \/ (¬(zSpT2 l))) \/ (zSpT3 l))) -> (0 <= (↑l.length:Int) - 1)):=(by (try rw [w1]);(try rw [w3]);(try rw [w8]);all_goals exact (i_imp (i_at (i_bf (i_bor (i_bor i_dec (i_not (i_var _))) i_dec))) i_dec))
 obtain ⟨k24,H⟩:=H
 have i25:(!((bif bif decide (wi ((↑(List.map Bk.a l).length:Int) - 1) < 0) then true else !Sp.hasW (l.getD ((↑l.length:Int) - 1).toNat default).3 77 30000 then true else decide ((↑(List.map (vi) (Sp.codes (l.getD ((↑l.length:Int) - 1).toNat default).3 79)).length:Int) > 0)) == false && true) || decide ((wi ((↑(List.map Bk.a l).length:Int) - 1)).toNat < (List.map Bk.a l).length)) = true ↔ ((¬((((↑l.length:Int) - 1 < 0) \/ (¬(zSpT2 l))) \/ (zSpT3 l))) -> (((↑l.length:Int) - 1).toNat < l.length)):=(by (try rw [w1]);(try rw [w3]);(try rw [w8]);all_goals exact (i_imp (i_at (i_bf (i_bor (i_bor i_dec (i_not (i_var _))) i_dec))) i_dec))
 obtain ⟨k26,H⟩:=H
 have i27:(!((bif bif bif decide (wi ((↑(List.map Bk.a l).length:Int) - 1) < 0) then true else !Sp.hasW (l.getD ((↑l.length:Int) - 1).toNat default).3 77 30000 then true else decide ((↑(List.map (vi) (Sp.codes (l.getD ((↑l.length:Int) - 1).toNat default).3 79)).length:Int) > 0) then true else Sp.hasW (l.getD ((↑l.length:Int) - 1).toNat default).3 77 99000) == false && true) || decide (0 <= wi ((↑(List.map Bk.a l).length:Int) - 1))) = true ↔ ((¬(((((↑l.length:Int) - 1 < 0) \/ (¬(zSpT2 l))) \/ (zSpT3 l)) \/ (zSpT5 l))) -> (0 <= (↑l.length:Int) - 1)):=(by (try rw [w1]);(try rw [w3]);(try rw [w8]);all_goals exact (i_imp (i_at (i_bf (i_bor (i_bor (i_bor i_dec (i_not (i_var _))) i_dec) (i_var _)))) i_dec))
 obtain ⟨k28,H⟩:=H
 have i29:(!((bif bif bif decide (wi ((↑(List.map Bk.a l).length:Int) - 1) < 0) then true else !Sp.hasW (l.getD ((↑l.length:Int) - 1).toNat default).3 77 30000 then true else decide ((↑(List.map (vi) (Sp.codes (l.getD ((↑l.length:Int) - 1).toNat default).3 79)).length:Int) > 0) then true else Sp.hasW (l.getD ((↑l.length:Int) - 1).toNat default).3 77 99000) == false && true) || decide (0 <= (wi ((↑(List.map Bk.a l).length:Int) - 1)).toNat)) = true ↔ ((¬(((((↑l.length:Int) - 1 < 0) \/ (¬(zSpT2 l))) \/ (zSpT3 l)) \/ (zSpT5 l))) -> (0 <= ((↑l.length:Int) - 1).toNat)):=(by (try rw [w1]);(try rw [w3]);(try rw [w8]);all_goals exact (i_imp (i_at (i_bf (i_bor (i_bor (i_bor i_dec (i_not (i_var _))) i_dec) (i_var _)))) i_dec))
 obtain ⟨k30,H⟩:=H
 have i31:(!((bif bif bif decide (wi ((↑(List.map Bk.a l).length:Int) - 1) < 0) then true else !Sp.hasW (l.getD ((↑l.length:Int) - 1).toNat default).3 77 30000 then true else decide ((↑(List.map (vi) (Sp.codes (l.getD ((↑l.length:Int) - 1).toNat default).3 79)).length:Int) > 0) then true else Sp.hasW (l.getD ((↑l.length:Int) - 1).toNat default).3 77 99000) == false && true) || decide ((wi ((↑(List.map Bk.a l).length:Int) - 1)).toNat <= (List.map Bk.a l).length)) = true ↔ ((¬(((((↑l.length:Int) - 1 < 0) \/ (¬(zSpT2 l))) \/ (zSpT3 l)) \/ (zSpT5 l))) -> (((↑l.length:Int) - 1).toNat <= l.length)):=(by (try rw [w1]);(try rw [w3]);(try rw [w8]);all_goals exact (i_imp (i_at (i_bf (i_bor (i_bor (i_bor i_dec (i_not (i_var _))) i_dec) (i_var _)))) i_dec))
 obtain ⟨k32,H⟩:=H
 have i36:(bif bif bif bif decide (wi ((↑(List.map Bk.a l).length:Int) - 1) < 0) then true else !Sp.hasW (l.getD ((↑l.length:Int) - 1).toNat default).3 77 30000 then true else decide ((↑(List.map (vi) (Sp.codes (l.getD ((↑l.length:Int) - 1).toNat default).3 79)).length:Int) > 0) then true else Sp.hasW (l.getD ((↑l.length:Int) - 1).toNat default).3 77 99000 then true else Sp.anyP Sp.pMk (zSpT4 l)) = true ↔ ((((((↑l.length:Int) - 1 < 0) \/ (¬(zSpT2 l))) \/ (zSpT3 l)) \/ (zSpT5 l)) \/ (Sp.anyP Sp.pMk (zSpT4 l) = true)):=(by (try rw [w1]);(try rw [w3]);(try rw [w8]);all_goals exact (i_bor (i_bor (i_bor (i_bor i_dec (i_not (i_var _))) i_dec) (i_var _)) (i_var _)))
 refine path_wp (G:=given kp62 [(2,7,.elem (ag [vb (l.getD ((↑l.length:Int) - 1).toNat default).1,AV.vec (l.getD ((↑l.length:Int) - 1).toNat default).2 2 (List.map Wo.a (l.getD ((↑l.length:Int) - 1).toNat default).3),AV.str (l.getD ((↑l.length:Int) - 1).toNat default).4])),(2,8,.call (vb (zSpT6 l)) none),(2,16,.elem (ag [vb (l.getD ((↑l.length:Int) - 1).toNat default).1,AV.vec (l.getD ((↑l.length:Int) - 1).toNat default).2 2 (List.map Wo.a (l.getD ((↑l.length:Int) - 1).toNat default).3),AV.str (l.getD ((↑l.length:Int) - 1).toNat default).4])),(2,17,.call (zSpT8 l) none),(2,26,.elem (ag [vb (l.getD ((↑l.length:Int) - 1).toNat default).1,AV.vec (l.getD ((↑l.length:Int) - 1).toNat default).2 2 (List.map Wo.a (l.getD ((↑l.length:Int) - 1).toNat default).3),AV.str (l.getD ((↑l.length:Int) - 1).toNat default).4])),(2,27,.call (vb (zSpT7 l)) none),(2,34,.call (vb (Sp.anyP Sp.pMk (zSpT4 l))) none)] []) 7 [] ⟨(atC (cd Try.f62) [1,1,0,1]),[(1,AV.ptr 0 0 0 0),(43,vb (bif bif bif bif decide (wi ((↑(List.map Bk.a l).length:Int) - 1) < 0) then true else !Sp.hasW (l.getD ((↑l.length:Int) - 1).toNat default).3 77 30000 then true else decide ((↑(List.map (vi) (Sp.codes (l.getD ((↑l.length:Int) - 1).toNat default).3 79)).length:Int) > 0) then true else Sp.hasW (l.getD ((↑l.length:Int) - 1).toNat default).3 77 99000 then true else Sp.anyP Sp.pMk (zSpT4 l)))],[⟨[ag [AV.vec g 3 (List.map Bk.a l),AV.vec h 2 (List.map Sb.a s)]],2,0,false,false⟩],[true,!(decide (wi ((↑(List.map Bk.a l).length:Int) - 1) < 0) == false && true) || true,!(decide (wi ((↑(List.map Bk.a l).length:Int) - 1) < 0) == false && true) || decide (0 <= wi ((↑(List.map Bk.a l).length:Int) - 1)),!(decide (wi ((↑(List.map Bk.a l).length:Int) - 1) < 0) == false && true) || decide ((wi ((↑(List.map Bk.a l).length:Int) - 1)).toNat < (List.map Bk.a l).length),!((bif decide (wi ((↑(List.map Bk.a l).length:Int) - 1) < 0) then true else !Sp.hasW (l.getD ((↑l.length:Int) - 1).toNat default).3 77 30000) == false && true) || true,!((bif decide (wi ((↑(List.map Bk.a l).length:Int) - 1) < 0) then true else !Sp.hasW (l.getD ((↑l.length:Int) - 1).toNat default).3 77 30000) == false && true) || decide (0 <= wi ((↑(List.map Bk.a l).length:Int) - 1)),!((bif decide (wi ((↑(List.map Bk.a l).length:Int) - 1) < 0) then true else !Sp.hasW (l.getD ((↑l.length:Int) - 1).toNat default).3 77 30000) == false && true) || decide ((wi ((↑(List.map Bk.a l).length:Int) - 1)).toNat < (List.map Bk.a l).length),!((bif bif decide (wi ((↑(List.map Bk.a l).length:Int) - 1) < 0) then true else !Sp.hasW (l.getD ((↑l.length:Int) - 1).toNat default).3 77 30000 then true else decide ((↑(List.map (vi) (Sp.codes (l.getD ((↑l.length:Int) - 1).toNat default).3 79)).length:Int) > 0)) == false && true) || true,!((bif bif decide (wi ((↑(List.map Bk.a l).length:Int) - 1) < 0) then true else !Sp.hasW (l.getD ((↑l.length:Int) - 1).toNat default).3 77 30000 then true else decide ((↑(List.map (vi) (Sp.codes (l.getD ((↑l.length:Int) - 1).toNat default).3 79)).length:Int) > 0)) == false && true) || decide (0 <= wi ((↑(List.map Bk.a l).length:Int) - 1)),!((bif bif decide (wi ((↑(List.map Bk.a l).length:Int) - 1) < 0) then true else !Sp.hasW (l.getD ((↑l.length:Int) - 1).toNat default).3 77 30000 then true else decide ((↑(List.map (vi) (Sp.codes (l.getD ((↑l.length:Int) - 1).toNat default).3 79)).length:Int) > 0)) == false && true) || decide ((wi ((↑(List.map Bk.a l).length:Int) - 1)).toNat < (List.map Bk.a l).length),!((bif bif bif decide (wi ((↑(List.map Bk.a l).length:Int) - 1) < 0) then true else !Sp.hasW (l.getD ((↑l.length:Int) - 1).toNat default).3 77 30000 then true else decide ((↑(List.map (vi) (Sp.codes (l.getD ((↑l.length:Int) - 1).toNat default).3 79)).length:Int) > 0) then true else Sp.hasW (l.getD ((↑l.length:Int) - 1).toNat default).3 77 99000) == false && true) || true,!((bif bif bif decide (wi ((↑(List.map Bk.a l).length:Int) - 1) < 0) then true else !Sp.hasW (l.getD ((↑l.length:Int) - 1).toNat default).3 77 30000 then true else decide ((↑(List.map (vi) (Sp.codes (l.getD ((↑l.length:Int) - 1).toNat default).3 79)).length:Int) > 0) then true else Sp.hasW (l.getD ((↑l.length:Int) - 1).toNat default).3 77 99000) == false && true) || decide (0 <= wi ((↑(List.map Bk.a l).length:Int) - 1)),!((bif bif bif decide (wi ((↑(List.map Bk.a l).length:Int) - 1) < 0) then true else !Sp.hasW (l.getD ((↑l.length:Int) - 1).toNat default).3 77 30000 then true else decide ((↑(List.map (vi) (Sp.codes (l.getD ((↑l.length:Int) - 1).toNat default).3 79)).length:Int) > 0) then true else Sp.hasW (l.getD ((↑l.length:Int) - 1).toNat default).3 77 99000) == false && true) || decide (0 <= (wi ((↑(List.map Bk.a l).length:Int) - 1)).toNat),!((bif bif bif decide (wi ((↑(List.map Bk.a l).length:Int) - 1) < 0) then true else !Sp.hasW (l.getD ((↑l.length:Int) - 1).toNat default).3 77 30000 then true else decide ((↑(List.map (vi) (Sp.codes (l.getD ((↑l.length:Int) - 1).toNat default).3 79)).length:Int) > 0) then true else Sp.hasW (l.getD ((↑l.length:Int) - 1).toNat default).3 77 99000) == false && true) || decide ((wi ((↑(List.map Bk.a l).length:Int) - 1)).toNat <= (List.map Bk.a l).length)],[((decide (wi ((↑(List.map Bk.a l).length:Int) - 1) < 0) == false && true) = true -> (List.map Bk.a l).get?Internal (wi ((↑(List.map Bk.a l).length:Int) - 1)).toNat = some (ag [vb (l.getD ((↑l.length:Int) - 1).toNat default).1,AV.vec (l.getD ((↑l.length:Int) - 1).toNat default).2 2 (List.map Wo.a (l.getD ((↑l.length:Int) - 1).toNat default).3),AV.str (l.getD ((↑l.length:Int) - 1).toNat default).4])),(((bif decide (wi ((↑(List.map Bk.a l).length:Int) - 1) < 0) then true else !Sp.hasW (l.getD ((↑l.length:Int) - 1).toNat default).3 77 30000) == false && true) = true -> (List.map Bk.a l).get?Internal (wi ((↑(List.map Bk.a l).length:Int) - 1)).toNat = some (ag [vb (l.getD ((↑l.length:Int) - 1).toNat default).1,AV.vec (l.getD ((↑l.length:Int) - 1).toNat default).2 2 (List.map Wo.a (l.getD ((↑l.length:Int) - 1).toNat default).3),AV.str (l.getD ((↑l.length:Int) - 1).toNat default).4])),(((bif bif decide (wi ((↑(List.map Bk.a l).length:Int) - 1) < 0) then true else !Sp.hasW (l.getD ((↑l.length:Int) - 1).toNat default).3 77 30000 then true else decide ((↑(List.map (vi) (Sp.codes (l.getD ((↑l.length:Int) - 1).toNat default).3 79)).length:Int) > 0)) == false && true) = true -> (List.map Bk.a l).get?Internal (wi ((↑(List.map Bk.a l).length:Int) - 1)).toNat = some (ag [vb (l.getD ((↑l.length:Int) - 1).toNat default).1,AV.vec (l.getD ((↑l.length:Int) - 1).toNat default).2 2 (List.map Wo.a (l.getD ((↑l.length:Int) - 1).toNat default).3),AV.str (l.getD ((↑l.length:Int) - 1).toNat default).4]))],[⟨decide (wi ((↑(List.map Bk.a l).length:Int) - 1) < 0) == false && true && true,false,40,[ag [vb (l.getD ((↑l.length:Int) - 1).toNat default).1,AV.vec (l.getD ((↑l.length:Int) - 1).toNat default).2 2 (List.map Wo.a (l.getD ((↑l.length:Int) - 1).toNat default).3),AV.str (l.getD ((↑l.length:Int) - 1).toNat default).4],AV.int IntKind.u8 77,vi 30000],[],vb (zSpT6 l),[]⟩,⟨(bif decide (wi ((↑(List.map Bk.a l).length:Int) - 1) < 0) then true else !Sp.hasW (l.getD ((↑l.length:Int) - 1).toNat default).3 77 30000) == false && true && true,false,70,[ag [vb (l.getD ((↑l.length:Int) - 1).toNat default).1,AV.vec (l.getD ((↑l.length:Int) - 1).toNat default).2 2 (List.map Wo.a (l.getD ((↑l.length:Int) - 1).toNat default).3),AV.str (l.getD ((↑l.length:Int) - 1).toNat default).4],AV.int IntKind.u8 79],[],vf (List.map (vi) (Sp.codes (l.getD ((↑l.length:Int) - 1).toNat default).3 79)),[]⟩,⟨(bif bif decide (wi ((↑(List.map Bk.a l).length:Int) - 1) < 0) then true else !Sp.hasW (l.getD ((↑l.length:Int) - 1).toNat default).3 77 30000 then true else decide ((↑(List.map (vi) (Sp.codes (l.getD ((↑l.length:Int) - 1).toNat default).3 79)).length:Int) > 0)) == false && true && true,false,40,[ag [vb (l.getD ((↑l.length:Int) - 1).toNat default).1,AV.vec (l.getD ((↑l.length:Int) - 1).toNat default).2 2 (List.map Wo.a (l.getD ((↑l.length:Int) - 1).toNat default).3),AV.str (l.getD ((↑l.length:Int) - 1).toNat default).4],AV.int IntKind.u8 77,vi 99000],[],vb (zSpT7 l),[]⟩,⟨(bif bif bif decide (wi ((↑(List.map Bk.a l).length:Int) - 1) < 0) then true else !Sp.hasW (l.getD ((↑l.length:Int) - 1).toNat default).3 77 30000 then true else decide ((↑(List.map (vi) (Sp.codes (l.getD ((↑l.length:Int) - 1).toNat default).3 79)).length:Int) > 0) then true else Sp.hasW (l.getD ((↑l.length:Int) - 1).toNat default).3 77 99000) == false && true && true,false,27,[AV.vec (g && false) 3 (List.drop 0 (List.take (wi ((↑(List.map Bk.a l).length:Int) - 1)).toNat (List.map Bk.a l))),AV.func (Fn.func 77) [] []],[],vb (Sp.anyP Sp.pMk (zSpT4 l)),[]⟩]⟩ (by kernel_rfl) (bc rfl (bc (Bool.or_true _) (bc (i15.2 k16) (bc (i17.2 k18) (bc (Bool.or_true _) (bc (i19.2 k20) (bc (i21.2 k22) (bc (Bool.or_true _) (bc (i23.2 k24) (bc (i25.2 k26) (bc (Bool.or_true _) (bc (i27.2 k28) (bc (i29.2 k30) (bc (i31.2 k32) b0)))))))))))))) (qc (by (try rw [w1]);(try rw [w3]);all_goals exact (fun h => el_map (k18 ((i_at (i_bf i_dec)).1 h)))) (qc (by (try rw [w1]);(try rw [w3]);all_goals exact (fun h => el_map (k22 ((i_at (i_bf (i_bor i_dec (i_not (i_var _))))).1 h)))) (qc (by (try rw [w1]);(try rw [w3]);(try rw [w8]);all_goals exact (fun h => el_map (k26 ((i_at (i_bf (i_bor (i_bor i_dec (i_not (i_var _))) i_dec))).1 h)))) q0))) (cc (fun hc => ((@ev40 ((l.getD ((↑l.length:Int) - 1).toNat default).1) ((l.getD ((↑l.length:Int) - 1).toNat default).2) ((l.getD ((↑l.length:Int) - 1).toNat default).3) ((l.getD ((↑l.length:Int) - 1).toNat default).4) (77) (30000) (k5 (i4.1 hc))):Ev M1 (Conf.pure 40 [ag [vb (l.getD ((↑l.length:Int) - 1).toNat default).1,AV.vec (l.getD ((↑l.length:Int) - 1).toNat default).2 2 (List.map Wo.a (l.getD ((↑l.length:Int) - 1).toNat default).3),AV.str (l.getD ((↑l.length:Int) - 1).toNat default).4],AV.int IntKind.u8 77,vi 30000]) (vb (zSpT6 l)) [])) (cc (fun hc => ((@ev70 ((l.getD ((↑l.length:Int) - 1).toNat default).1) ((l.getD ((↑l.length:Int) - 1).toNat default).2) ((l.getD ((↑l.length:Int) - 1).toNat default).3) ((l.getD ((↑l.length:Int) - 1).toNat default).4) (79) (k7 (i6.1 hc))):Ev M1 (Conf.pure 70 [ag [vb (l.getD ((↑l.length:Int) - 1).toNat default).1,AV.vec (l.getD ((↑l.length:Int) - 1).toNat default).2 2 (List.map Wo.a (l.getD ((↑l.length:Int) - 1).toNat default).3),AV.str (l.getD ((↑l.length:Int) - 1).toNat default).4],AV.int IntKind.u8 79]) (zSpT8 l) [])) (cc (fun hc => ((@ev40 ((l.getD ((↑l.length:Int) - 1).toNat default).1) ((l.getD ((↑l.length:Int) - 1).toNat default).2) ((l.getD ((↑l.length:Int) - 1).toNat default).3) ((l.getD ((↑l.length:Int) - 1).toNat default).4) (77) (99000) (k10 (i9.1 hc))):Ev M1 (Conf.pure 40 [ag [vb (l.getD ((↑l.length:Int) - 1).toNat default).1,AV.vec (l.getD ((↑l.length:Int) - 1).toNat default).2 2 (List.map Wo.a (l.getD ((↑l.length:Int) - 1).toNat default).3),AV.str (l.getD ((↑l.length:Int) - 1).toNat default).4],AV.int IntKind.u8 77,vi 99000]) (vb (zSpT7 l)) [])) (cc (fun hc => ((by (try rw [w1]);(try rw [w3]);(try rw [w11]);(try rw [w12]);all_goals exact (@ev27_a (g && false) (zSpT4 l) (k14 (i13.1 hc)))):Ev M1 (Conf.pure 27 [AV.vec (g && false) 3 (List.drop 0 (List.take (wi ((↑(List.map Bk.a l).length:Int) - 1)).toNat (List.map Bk.a l))),AV.func (Fn.func 77) [] []]) (vb (Sp.anyP Sp.pMk (zSpT4 l))) [])) c0)))) ?_
 rcases xm ((((((↑l.length:Int) - 1 < 0) \/ (¬(zSpT2 l))) \/ (zSpT3 l)) \/ (zSpT5 l)) \/ (Sp.anyP Sp.pMk (zSpT4 l) = true)) with d37 | d37
 ·have H:=H.1 d37
  exact path_re (G:=given kp62 [] []) 1000 [true] (vb false) (by kernel_rfl) (bc (beq_t (i36.2 d37)) b0) q0 c0 H
 ·have H:=H.2 d37
  obtain ⟨k38,H⟩:=H
  exact path_re (G:=given kp62 [(4,2,.call (vb (Sp.anyP Sp.sMk s)) none)] []) 1000 [false] (vb !Sp.anyP Sp.sMk s) (by kernel_rfl) (bc (beq_f (fun h => d37 (i36.1 h))) (bc rfl b0)) q0 (ce (@ev78_a (h) (s) k38) c0) H
end Go.Av

namespace Go.Av
open Go.Proofs
namespace Sp
def repB (s:List Sb):Bool:=(List.range' 0 s.length).any fun i => anyP (sIs (s.getD i default).n) (s.take i)
def lastB (l:List Bk):Bk:=l.getD (l.length - 1) default
def ordB (l:List Bk) (s:List Sb):Bool:=decide (0 < l.length) && (endB (lastB l).ws && (!(letB (lastB l).ws 79) && (!(backB (lastB l).ws) && (!(anyP pMk (l.take (l.length - 1))) && !(anyP sMk s)))))
def okSs (s:List Sb):Prop:=s.length <= 1000000 /\ ∀ x ∈ s,okBs x.bl
end Sp
theorem svRpa_loop {h:Bool} {s:List Sb} {dq:AV} (hl:s.length <= 1000000):∀ (c i:Nat),i + c = s.length -> AV.bool ((List.range' i c).any fun i => Sp.anyP (Sp.sIs (s.getD i default).n) (s.take i)) = dq -> svRpa_at h s s.length i (PureQ dq):=by
 intro c
 induction c with
 | zero =>
  intro i hi hq
  exact svRpa _ _ _ _ _ ⟨fun h => by omega,fun _ => hq⟩
 | succ c ih =>
  intro i hi hq
  rw [List.range'_succ,List.any_cons] at hq
  refine svRpa _ _ _ _ _ ⟨fun _ => ?_,fun h => by omega⟩
  rw [Int.toNat_natCast,List.drop_zero]
  refine ⟨by omega,by omega,by simp;omega,by omega,by omega,fun h => ?_,fun h => ⟨by omega,ih (i + 1) (by omega) ?_⟩⟩
  ·rw [h,Bool.true_or] at hq
   exact hq
  ·rw [Bool.eq_false_iff.2 h,Bool.false_or] at hq
   exact hq
theorem ev63 (h:Bool) (s:List Sb) (hl:s.length <= 1000000):Ev M1 (.pure 63 [sbA h s]) (.bool (Sp.repB s)) []:=
 call63 (svRp h s _ (svRpa_loop hl s.length 0 (by omega) rfl))
theorem ev62 (g:Bool) (l:List Bk) (h:Bool) (s:List Sb) (hk:Sp.okBs l /\ Sp.okSs s):Ev M1 (.pure 62 [pgA g h l s]) (.bool (Sp.ordB l s)) []:=by
 obtain ⟨hk,hs⟩:=hk
 have hl:=hk.1
 by_cases h0:l.length = 0
 ·refine call62 (svOd g l h s _ ?_)
  have c:(l.length:Int) - 1 < 0:=by omega
  refine ⟨by omega,fun x => absurd c x,fun x => absurd (.inl c) x,fun x => absurd (.inl (.inl c)) x,fun x => absurd (.inl (.inl (.inl c))) x,fun x => absurd c x,fun x => absurd c x,fun x => absurd (.inl c) x,fun x => absurd (.inl c) x,fun x => absurd (.inl (.inl c)) x,fun x => absurd (.inl (.inl c)) x,fun x => absurd (.inl (.inl (.inl c))) x,fun x => absurd (.inl (.inl (.inl c))) x,fun x => absurd (.inl (.inl (.inl c))) x,fun _ => ?_,fun x => absurd (.inl (.inl (.inl (.inl c)))) x⟩
  unfold Sp.ordB
  rw [decide_eq_false (by omega),Bool.false_and]
 ·have e:(l.length:Int) - 1 = ((l.length - 1:Nat):Int):=by omega
  have hm:=hk.2 _ (getD_mem (show l.length - 1 < l.length by omega))
  have hsub:Sp.okBs (List.drop 0 (List.take (l.length - 1) l)):=okBs_sub hk 0 (l.length - 1)
  refine call62 (svOd g l h s _ ?_)
  rw [e,Int.toNat_natCast]
  refine ⟨by omega,fun _ => hm.1,fun _ => hm.1,fun _ => hm.1,fun _ => hsub,fun _ => by omega,fun _ => by omega,fun _ => by omega,fun _ => by omega,fun _ => by omega,fun _ => by omega,fun _ => by omega,fun _ => by omega,fun _ => by omega,fun x => ?_,fun x => ⟨hs,?_⟩⟩
  ·congr 1
   unfold Sp.ordB Sp.endB Sp.backB Sp.lastB
   rw [List.drop_zero] at x
   rw [decide_eq_true (show 0 < l.length by omega),Bool.true_and,Eq.comm]
   rcases x with (((x | x) | x) | x) | x
   ·omega
   ·rw [Bool.eq_false_iff.2 x,Bool.false_and]
   ·rw [show Sp.letB (l.getD (l.length - 1) default).ws 79 = true from decide_eq_true (by omega),Bool.not_true,Bool.false_and,Bool.and_false]
   ·rw [x,Bool.not_true,Bool.false_and,Bool.and_false,Bool.and_false]
   ·rw [x,Bool.not_true,Bool.false_and,Bool.and_false,Bool.and_false,Bool.and_false]
  ·congr 1
   unfold Sp.ordB Sp.endB Sp.backB Sp.lastB
   rw [List.drop_zero] at x
   have x1:Sp.hasW (l.getD (l.length - 1) default).ws 77 30000 = true:=Classical.byContradiction fun y => x (.inl (.inl (.inl (.inr y))))
   have x2:Sp.letB (l.getD (l.length - 1) default).ws 79 = false:=decide_eq_false fun y => x (.inl (.inl (.inr (by omega))))
   have x3:Sp.hasW (l.getD (l.length - 1) default).ws 77 99000 = false:=Bool.eq_false_iff.2 fun y => x (.inl (.inr y))
   have x4:Sp.anyP Sp.pMk (l.take (l.length - 1)) = false:=Bool.eq_false_iff.2 fun y => x (.inr y)
   rw [decide_eq_true (show 0 < l.length by omega),x1,x2,x3,x4]
   rfl
end Go.Av

namespace Go.Av
open Go.Proofs
set_option maxRecDepth 100000
def fi34:Fi:=⟨68,[.cell 2 40,.tmp 3]⟩
def kp34:List (Nat × List Nat):=[(0,[0,2]),(1,[0,2,4]),(2,[0,2,4,13]),(3,[2,3]),(4,[0,2,4,5]),(5,[2,5,6]),(6,[2,5,6,27]),(7,[2,5,6,7,8]),(8,[2,5,6,7,8,9]),(9,[2,5,6,7,9,42]),(10,[2,3]),(11,[2,5,6,9]),(12,[2,5,6]),(13,[2,5,61]),(14,[2,3]),(15,[2,5,65]),(16,[2,3]),(17,[2,3])]
def svSp_at (g:Bool) (l:List Bk) (Q:AV -> Heap -> Prop):Prop:=Wp M1 (.run fi34 (atC (cd Try.f34) []) [(0,.vec g 3 (l.map Bk.a))] []) Q
def svSpz_at (g:Bool) (r:List Bk) (l:List Bk) (Q:AV -> Heap -> Prop):Prop:=Wp M1 (.run fi34 (atC (cd Try.f34) [1,1,1,1,1,0,0,0]) [(2,.ptr 0 0 0 0),(5,.ptr 1 0 0 0),(6,.vec g 3 (r.map Bk.a))] [⟨[.agg [.vnil,.vnil]],2,0,false,false⟩,⟨[.agg [.vec false 3 (l.map Bk.a),.vnil]],2,0,false,false⟩]) Q
def svSpa_at (g:Bool) (r:List Bk) (l:List Bk) (s:List Sb) (v:Nat) (Q:AV -> Heap -> Prop):Prop:=Wp M1 (.run fi34 (atC (cd Try.f34) [1,1,1,1,1,0,0,0]) [(2,.ptr 0 0 0 0),(5,.ptr 1 0 0 0),(6,.vec g 3 (r.map Bk.a))] [⟨[.agg [.vnil,.vnil]],2,0,false,false⟩,⟨[.agg [.vec false 3 (l.map Bk.a),.row 2 v]],2,0,false,false⟩,⟨s.map Sb.a,2,v,false,true⟩]) Q
theorem call34 {args:List AV} {d:AV} (h:wc M1 fi34 Try.f34 args d):Ev M1 (.pure 34 args) d []:=pcl _ _ (by kernel_rfl) h
noncomputable abbrev zSpU1 (l:List Bk):=List.drop 0 (List.take (Sp.idxP Sp.pEnd l + 1).toNat l)
theorem svSp (g:Bool) (l:List Bk)  (dq:AV) (H :
  (Sp.okBs l) /\
  ((Sp.idxP Sp.pEnd l < 0) -> Weak (tu [ag [AV.vnil,AV.vnil],vi 1]) dq) /\
  (¬(Sp.idxP Sp.pEnd l < 0) -> (-9223372036854775808 <= Sp.idxP Sp.pEnd l + 1 /\ Sp.idxP Sp.pEnd l + 1 <= 9223372036854775807) /\
   (Sp.few6 (List.drop 0 (List.take (Sp.idxP Sp.pEnd l + 1).toNat l)).length) /\
   (0 <= Sp.idxP Sp.pEnd l + 1) /\
   (0 <= (Sp.idxP Sp.pEnd l + 1).toNat) /\
   ((Sp.idxP Sp.pEnd l + 1).toNat <= l.length) /\
   svSpz_at (g && true) (List.drop (Sp.idxP Sp.pEnd l + 1).toNat (List.take l.length l)) (List.drop 0 (List.take (Sp.idxP Sp.pEnd l + 1).toNat l)) (PureQ dq))) :
 svSp_at g l (PureQ dq):=by
 unfold svSp_at
 obtain ⟨k1,H⟩:=H
 refine path_wp (G:=given kp34 [(1,1,.call (vi (Sp.idxP Sp.pEnd l)) none)] []) 7 [] ⟨(atC (cd Try.f34) [1,1,0,1]),[(0,AV.vec g 3 (List.map Bk.a l)),(2,AV.ptr 0 0 0 0),(4,vi (Sp.idxP Sp.pEnd l)),(13,vb (decide (Sp.idxP Sp.pEnd l < 0)))],[⟨[ag [AV.vnil,AV.vnil]],2,0,false,false⟩],_,[],_⟩ (by kernel_rfl) b0 q0 (ce (@ev56_a (g) (l) k1) c0) ?_
 rcases xm (Sp.idxP Sp.pEnd l < 0) with d3 | d3
 ·have H:=H.1 d3
  exact path_rq (G:=given kp34 [] []) 1000 [true] (tu [ag [AV.vnil,AV.vnil],vi 1]) (by kernel_rfl) (bc (beq_t (i_dec.2 d3)) (bc rfl b0)) q0 c0 H
 ·have H:=H.2 d3
  obtain ⟨k4,H⟩:=H
  have w5:wi (Sp.idxP Sp.pEnd l + 1) = Sp.idxP Sp.pEnd l + 1:=wI64 k4
  have w6:List.take (Sp.idxP Sp.pEnd l + 1).toNat (List.map Bk.a l) = List.map Bk.a (List.take (Sp.idxP Sp.pEnd l + 1).toNat l):=(lm_take rfl)
  have w7:List.drop 0 (List.map Bk.a (List.take (Sp.idxP Sp.pEnd l + 1).toNat l)) = List.map Bk.a (zSpU1 l):=(lm_drop rfl)
  obtain ⟨k8,H⟩:=H
  have i9:(decide (0 <= wi (Sp.idxP Sp.pEnd l + 1))) = true ↔ (0 <= Sp.idxP Sp.pEnd l + 1):=(by (try rw [w5]);all_goals exact i_dec)
  obtain ⟨k10,H⟩:=H
  have i11:(decide (0 <= (wi (Sp.idxP Sp.pEnd l + 1)).toNat)) = true ↔ (0 <= (Sp.idxP Sp.pEnd l + 1).toNat):=(by (try rw [w5]);all_goals exact i_dec)
  obtain ⟨k12,H⟩:=H
  have w13:(List.map Bk.a l).length = l.length:=List.length_map ..
  have i14:(decide ((wi (Sp.idxP Sp.pEnd l + 1)).toNat <= (List.map Bk.a l).length)) = true ↔ ((Sp.idxP Sp.pEnd l + 1).toNat <= l.length):=(by (try rw [w5]);(try rw [w13]);all_goals exact i_dec)
  obtain ⟨k15,H⟩:=H
  have i16:(decide (0 <= wi (Sp.idxP Sp.pEnd l + 1))) = true ↔ (0 <= Sp.idxP Sp.pEnd l + 1):=(by (try rw [w5]);all_goals exact i_dec)
  have i17:(decide ((wi (Sp.idxP Sp.pEnd l + 1)).toNat <= (List.map Bk.a l).length)) = true ↔ ((Sp.idxP Sp.pEnd l + 1).toNat <= l.length):=(by (try rw [w5]);(try rw [w13]);all_goals exact i_dec)
  have i18:(decide ((List.map Bk.a l).length <= (List.map Bk.a l).length)) = true ↔ (l.length <= l.length):=(by (try rw [w13]);all_goals exact i_dec)
  have w19:List.take l.length (List.map Bk.a l) = List.map Bk.a (List.take l.length l):=(lm_take rfl)
  have w20:List.drop (Sp.idxP Sp.pEnd l + 1).toNat (List.map Bk.a (List.take l.length l)) = List.map Bk.a (List.drop (Sp.idxP Sp.pEnd l + 1).toNat (List.take l.length l)):=(lm_drop rfl)
  exact path_wp (G:=given kp34 [(4,4,.call (AV.vec false 3 (List.map Bk.a (zSpU1 l))) none)] []) 1000 [false] ⟨(atC (cd Try.f34) [1,1,1,1,1,0,0,0]),[(2,AV.ptr 0 0 0 0),(5,AV.ptr 1 0 0 0),(6,AV.vec (g && true) 3 (List.drop (wi (Sp.idxP Sp.pEnd l + 1)).toNat (List.take (List.map Bk.a l).length (List.map Bk.a l))))],[⟨[ag [AV.vnil,AV.vnil]],2,0,false,false⟩,⟨[ag [AV.vec false 3 (List.map Bk.a (zSpU1 l)),AV.vnil]],2,0,false,false⟩],[(decide (Sp.idxP Sp.pEnd l < 0)) == false,decide (0 <= wi (Sp.idxP Sp.pEnd l + 1)),decide (0 <= (wi (Sp.idxP Sp.pEnd l + 1)).toNat),decide ((wi (Sp.idxP Sp.pEnd l + 1)).toNat <= (List.map Bk.a l).length),true,decide (0 <= wi (Sp.idxP Sp.pEnd l + 1)),decide ((wi (Sp.idxP Sp.pEnd l + 1)).toNat <= (List.map Bk.a l).length),decide ((List.map Bk.a l).length <= (List.map Bk.a l).length)],[],[pc 22 [AV.vec (g && false) 3 (List.drop 0 (List.take (wi (Sp.idxP Sp.pEnd l + 1)).toNat (List.map Bk.a l)))] (AV.vec false 3 (List.map Bk.a (zSpU1 l)))]⟩ (by kernel_rfl) (bc (beq_f (fun h => d3 (i_dec.1 h))) (bc (i9.2 k10) (bc (i11.2 k12) (bc (i14.2 k15) (bc rfl (bc (i16.2 k10) (bc (i17.2 k15) (bc (i18.2 (by omega)) b0)))))))) q0 (ce (by (try rw [w5]);(try rw [w6]);(try rw [w7]);all_goals exact (@ev22 (g && false) (zSpU1 l) k8)) c0) (by (try rw [w5]);(try rw [w13]);(try rw [w19]);(try rw [w20]);all_goals exact H)
noncomputable abbrev zSpU2 (r:List Bk):=bif !Sp.bgB (r.getD 0 default).1 (r.getD 0 default).3 (r.getD 0 default).4 then true else decide (Sp.idxP Sp.pStop r < 0)
theorem svSpz (g:Bool) (r:List Bk) (l:List Bk)  (dq:AV) (H :
  (((↑r.length:Int) > 0) -> (Sp.okW (r.getD 0 default).3) /\
   (0 < r.length) /\
   (Sp.okBs r) /\
   (((¬(Sp.bgB (r.getD 0 default).1 (r.getD 0 default).3 (r.getD 0 default).4 = true)) \/ (Sp.idxP Sp.pStop r < 0)) -> Weak (tu [ag [AV.vnil,AV.vnil],vi 1]) dq) /\
   (¬((¬(Sp.bgB (r.getD 0 default).1 (r.getD 0 default).3 (r.getD 0 default).4 = true)) \/ (Sp.idxP Sp.pStop r < 0)) -> (Sp.few6 (List.drop 1 (List.take (Sp.idxP Sp.pStop r).toNat r)).length) /\
    (0 <= Sp.idxP Sp.pStop r) /\
    (1 <= (Sp.idxP Sp.pStop r).toNat) /\
    ((Sp.idxP Sp.pStop r).toNat <= r.length) /\
    (-9223372036854775808 <= Sp.idxP Sp.pStop r + 1 /\ Sp.idxP Sp.pStop r + 1 <= 9223372036854775807) /\
    (0 <= Sp.idxP Sp.pStop r + 1) /\
    ((Sp.idxP Sp.pStop r + 1).toNat <= r.length) /\
    svSpa_at (g && true) (List.drop (Sp.idxP Sp.pStop r + 1).toNat (List.take r.length r)) (l) ([{ n:=Sp.bgV (r.getD 0 default).1 (r.getD 0 default).3 (r.getD 0 default).4,f:=false,bl:=List.drop 1 (List.take (Sp.idxP Sp.pStop r).toNat r) }]) (0) (PureQ dq))) /\
  (¬((↑r.length:Int) > 0) -> ∃ (b1:Bool),
   (Ev M1 (Conf.pure 62 [ag [AV.vec false 3 (List.map Bk.a l),AV.vnil]]) (vb b1) []) /\
   ((¬(b1 = true)) -> Weak (tu [ag [AV.vnil,AV.vnil],vi 1]) dq) /\
   (¬(¬(b1 = true)) -> ∃ (b2:Bool),
    (Ev M1 (Conf.pure 63 [AV.vnil]) (vb b2) []) /\
    ((b2 = true) -> Weak (tu [ag [AV.vnil,AV.vnil],vi 5]) dq) /\
    (¬(b2 = true) -> Weak (tu [ag [AV.vec false 3 (List.map Bk.a l),AV.vnil],vi 0]) dq)))) :
 svSpz_at g r l (PureQ dq):=by
 unfold svSpz_at
 have w1:(List.map Bk.a r).length = r.length:=List.length_map ..
 have i2:(decide ((↑(List.map Bk.a r).length:Int) > 0)) = true ↔ ((↑r.length:Int) > 0):=(by (try rw [w1]);all_goals exact i_dec)
 rcases xm ((↑r.length:Int) > 0) with d3 | d3
 ·have H:=H.1 d3
  obtain ⟨k4,H⟩:=H
  have i5:(decide (0 < (List.map Bk.a r).length)) = true ↔ (0 < r.length):=(by (try rw [w1]);all_goals exact i_dec)
  obtain ⟨k6,H⟩:=H
  obtain ⟨k7,H⟩:=H
  refine path_wp (G:=given kp34 [(7,2,.elem (ag [vb (r.getD 0 default).1,AV.vec (r.getD 0 default).2 2 (List.map Wo.a (r.getD 0 default).3),AV.str (r.getD 0 default).4])),(7,3,.call (tu [vi (Sp.bgV (r.getD 0 default).1 (r.getD 0 default).3 (r.getD 0 default).4),vb (Sp.bgB (r.getD 0 default).1 (r.getD 0 default).3 (r.getD 0 default).4)]) none),(8,1,.call (vi (Sp.idxP Sp.pStop r)) none)] []) 13 [true] ⟨(atC (cd Try.f34) [1,1,1,1,1,0,0,0,1,0,1,1,0,1]),[(2,AV.ptr 0 0 0 0),(5,AV.ptr 1 0 0 0),(6,AV.vec g 3 (List.map Bk.a r)),(7,vi (Sp.bgV (r.getD 0 default).1 (r.getD 0 default).3 (r.getD 0 default).4)),(9,vi (Sp.idxP Sp.pStop r)),(42,vb (zSpU2 r))],[⟨[ag [AV.vnil,AV.vnil]],2,0,false,false⟩,⟨[ag [AV.vec false 3 (List.map Bk.a l),AV.vnil]],2,0,false,false⟩],_,[((List.map Bk.a r).get?Internal 0 = some (ag [vb (r.getD 0 default).1,AV.vec (r.getD 0 default).2 2 (List.map Wo.a (r.getD 0 default).3),AV.str (r.getD 0 default).4]))],_⟩ (by kernel_rfl) (bc (beq_t (i2.2 d3)) (bc rfl (bc (i5.2 k6) b0))) (qc (el_map k6) q0) (ce (@ev59 ((r.getD 0 default).1) ((r.getD 0 default).2) ((r.getD 0 default).3) ((r.getD 0 default).4) k4) (ce (@ev56_b (g) (r) k7) c0)) ?_
  rcases xm ((¬(Sp.bgB (r.getD 0 default).1 (r.getD 0 default).3 (r.getD 0 default).4 = true)) \/ (Sp.idxP Sp.pStop r < 0)) with d9 | d9
  ·have H:=H.1 d9
   exact path_rq (G:=given kp34 [] []) 1000 [true] (asm:=[(zSpU2 r) == true,true]) (tu [ag [AV.vnil,AV.vnil],vi 1]) (by kernel_rfl) (bc (beq_t ((i_bor (i_not (i_var _)) i_dec).2 d9)) (bc rfl b0)) q0 c0 H
  ·have H:=H.2 d9
   have w10:List.take (Sp.idxP Sp.pStop r).toNat (List.map Bk.a r) = List.map Bk.a (List.take (Sp.idxP Sp.pStop r).toNat r):=(lm_take rfl)
   have w11:List.drop 1 (List.map Bk.a (List.take (Sp.idxP Sp.pStop r).toNat r)) = List.map Bk.a (List.drop 1 (List.take (Sp.idxP Sp.pStop r).toNat r)):=(lm_drop rfl)
   obtain ⟨k12,H⟩:=H
   obtain ⟨k14,H⟩:=H
   obtain ⟨k16,H⟩:=H
   have i17:(decide ((Sp.idxP Sp.pStop r).toNat <= (List.map Bk.a r).length)) = true ↔ ((Sp.idxP Sp.pStop r).toNat <= r.length):=(by (try rw [w1]);all_goals exact i_dec)
   obtain ⟨k18,H⟩:=H
   obtain ⟨k19,H⟩:=H
   have w20:wi (Sp.idxP Sp.pStop r + 1) = Sp.idxP Sp.pStop r + 1:=wI64 k19
   have i21:(decide (0 <= wi (Sp.idxP Sp.pStop r + 1))) = true ↔ (0 <= Sp.idxP Sp.pStop r + 1):=(by (try rw [w20]);all_goals exact i_dec)
   obtain ⟨k22,H⟩:=H
   have i23:(decide ((wi (Sp.idxP Sp.pStop r + 1)).toNat <= (List.map Bk.a r).length)) = true ↔ ((Sp.idxP Sp.pStop r + 1).toNat <= r.length):=(by (try rw [w1]);(try rw [w20]);all_goals exact i_dec)
   obtain ⟨k24,H⟩:=H
   have i25:(decide ((List.map Bk.a r).length <= (List.map Bk.a r).length)) = true ↔ (r.length <= r.length):=(by (try rw [w1]);all_goals exact i_dec)
   have w26:List.take r.length (List.map Bk.a r) = List.map Bk.a (List.take r.length r):=(lm_take rfl)
   have w27:List.drop (Sp.idxP Sp.pStop r + 1).toNat (List.map Bk.a (List.take r.length r)) = List.map Bk.a (List.drop (Sp.idxP Sp.pStop r + 1).toNat (List.take r.length r)):=(lm_drop rfl)
   have w28:[ag [vi (Sp.bgV (r.getD 0 default).1 (r.getD 0 default).3 (r.getD 0 default).4),AV.vec false 3 (List.map Bk.a (List.drop 1 (List.take (Sp.idxP Sp.pStop r).toNat r)))]] = List.map Sb.a [{ n:=Sp.bgV (r.getD 0 default).1 (r.getD 0 default).3 (r.getD 0 default).4,f:=false,bl:=List.drop 1 (List.take (Sp.idxP Sp.pStop r).toNat r) }]:=rfl
   exact path_wp (G:=given kp34 [(11,6,.call (AV.vec false 3 (List.map Bk.a (List.drop 1 (List.take (Sp.idxP Sp.pStop r).toNat r)))) none)] []) 1000 [false] ⟨(atC (cd Try.f34) [1,1,1,1,1,0,0,0]),[(2,AV.ptr 0 0 0 0),(5,AV.ptr 1 0 0 0),(6,AV.vec (g && true) 3 (List.drop (wi (Sp.idxP Sp.pStop r + 1)).toNat (List.take (List.map Bk.a r).length (List.map Bk.a r))))],[⟨[ag [AV.vnil,AV.vnil]],2,0,false,false⟩,⟨[ag [AV.vec false 3 (List.map Bk.a l),AV.row 2 0]],2,0,false,false⟩,⟨[ag [vi (Sp.bgV (r.getD 0 default).1 (r.getD 0 default).3 (r.getD 0 default).4),AV.vec false 3 (List.map Bk.a (List.drop 1 (List.take (Sp.idxP Sp.pStop r).toNat r)))]],2,0,false,true⟩],[(zSpU2 r) == false,true,true,decide (0 <= Sp.idxP Sp.pStop r),decide (1 <= (Sp.idxP Sp.pStop r).toNat),decide ((Sp.idxP Sp.pStop r).toNat <= (List.map Bk.a r).length),true,true,decide (0 <= wi (Sp.idxP Sp.pStop r + 1)),decide ((wi (Sp.idxP Sp.pStop r + 1)).toNat <= (List.map Bk.a r).length),decide ((List.map Bk.a r).length <= (List.map Bk.a r).length)],[],[pc 22 [AV.vec (g && false) 3 (List.drop 1 (List.take (Sp.idxP Sp.pStop r).toNat (List.map Bk.a r)))] (AV.vec false 3 (List.map Bk.a (List.drop 1 (List.take (Sp.idxP Sp.pStop r).toNat r))))]⟩ (by kernel_rfl) (bc (beq_f (fun h => d9 ((i_bor (i_not (i_var _)) i_dec).1 h))) (bc rfl (bc rfl (bc (i_dec.2 k14) (bc (i_dec.2 k16) (bc (i17.2 k18) (bc rfl (bc rfl (bc (i21.2 k22) (bc (i23.2 k24) (bc (i25.2 (by omega)) b0))))))))))) q0 (ce (by (try rw [w10]);(try rw [w11]);all_goals exact (@ev22 (g && false) (List.drop 1 (List.take (Sp.idxP Sp.pStop r).toNat r)) k12)) c0) (by (try rw [w1]);(try rw [w20]);(try rw [w26]);(try rw [w27]);(try rw [w28]);all_goals exact H)
 ·have H:=H.2 d3
  obtain ⟨b1,H⟩:=H
  obtain ⟨k29,H⟩:=H
  refine path_wp (G:=given kp34 [(13,1,.call (vb b1) none)] []) 8 [false] ⟨(atC (cd Try.f34) [1,1,1,1,1,1,0,1]),[(2,AV.ptr 0 0 0 0),(5,AV.ptr 1 0 0 0),(61,vb !b1)],[⟨[ag [AV.vnil,AV.vnil]],2,0,false,false⟩,⟨[ag [AV.vec false 3 (List.map Bk.a l),AV.vnil]],2,0,false,false⟩],_,[],_⟩ (by kernel_rfl) (bc (beq_f (fun h => d3 (i2.1 h))) (bc rfl b0)) q0 (ce k29 c0) ?_
  rcases xm (¬(b1 = true)) with d31 | d31
  ·have H:=H.1 d31
   exact path_rq (G:=given kp34 [] []) 1000 [true] (asm:=[(!b1) == true,true]) (tu [ag [AV.vnil,AV.vnil],vi 1]) (by kernel_rfl) (bc (beq_t ((i_not (i_var _)).2 d31)) (bc rfl b0)) q0 c0 H
  ·have H:=H.2 d31
   obtain ⟨b2,H⟩:=H
   obtain ⟨k32,H⟩:=H
   refine path_wp (G:=given kp34 [(15,2,.call (vb b2) none)] []) 5 [false] ⟨(atC (cd Try.f34) [1,1,1,1,1,1,1,0,1]),[(2,AV.ptr 0 0 0 0),(5,AV.ptr 1 0 0 0),(65,vb b2)],[⟨[ag [AV.vnil,AV.vnil]],2,0,false,false⟩,⟨[ag [AV.vec false 3 (List.map Bk.a l),AV.vnil]],2,0,false,false⟩],[(!b1) == false,true],[],_⟩ (by kernel_rfl) (bc (beq_f (fun h => d31 ((i_not (i_var _)).1 h))) (bc rfl b0)) q0 (ce k32 c0) ?_
   rcases xm (b2 = true) with d34 | d34
   ·have H:=H.1 d34
    exact path_rq (G:=given kp34 [] []) 1000 [true] (asm:=[(b2) == true,true]) (tu [ag [AV.vnil,AV.vnil],vi 5]) (by kernel_rfl) (bc (beq_t ((i_var _).2 d34)) (bc rfl b0)) q0 c0 H
   ·have H:=H.2 d34
    exact path_rq (G:=given kp34 [] []) 1000 [false] (asm:=[(b2) == false,true,true]) (tu [ag [AV.vec false 3 (List.map Bk.a l),AV.vnil],vi 0]) (by kernel_rfl) (bc (beq_f (fun h => d34 ((i_var _).1 h))) (bc rfl (bc rfl b0))) q0 c0 H
noncomputable abbrev zSpU3 (r:List Bk):=bif !Sp.bgB (r.getD 0 default).1 (r.getD 0 default).3 (r.getD 0 default).4 then true else decide (Sp.idxP Sp.pStop r < 0)
theorem svSpa (g:Bool) (r:List Bk) (l:List Bk) (s:List Sb) (v:Nat)  (dq:AV) (H :
  (((↑r.length:Int) > 0) -> (Sp.okW (r.getD 0 default).3) /\
   (0 < r.length) /\
   (Sp.okBs r) /\
   (((¬(Sp.bgB (r.getD 0 default).1 (r.getD 0 default).3 (r.getD 0 default).4 = true)) \/ (Sp.idxP Sp.pStop r < 0)) -> Weak (tu [ag [AV.vnil,AV.vnil],vi 1]) dq) /\
   (¬((¬(Sp.bgB (r.getD 0 default).1 (r.getD 0 default).3 (r.getD 0 default).4 = true)) \/ (Sp.idxP Sp.pStop r < 0)) -> (Sp.few6 (List.drop 1 (List.take (Sp.idxP Sp.pStop r).toNat r)).length) /\
    (0 <= Sp.idxP Sp.pStop r) /\
    (1 <= (Sp.idxP Sp.pStop r).toNat) /\
    ((Sp.idxP Sp.pStop r).toNat <= r.length) /\
    ((s.length + 1) * 32 <= 1099511627776) /\
    (-9223372036854775808 <= Sp.idxP Sp.pStop r + 1 /\ Sp.idxP Sp.pStop r + 1 <= 9223372036854775807) /\
    (0 <= Sp.idxP Sp.pStop r + 1) /\
    ((Sp.idxP Sp.pStop r + 1).toNat <= r.length) /\
    svSpa_at (g && true) (List.drop (Sp.idxP Sp.pStop r + 1).toNat (List.take r.length r)) (l) (s ++ [{ n:=Sp.bgV (r.getD 0 default).1 (r.getD 0 default).3 (r.getD 0 default).4,f:=false,bl:=List.drop 1 (List.take (Sp.idxP Sp.pStop r).toNat r) }]) (v + 1) (PureQ dq))) /\
  (¬((↑r.length:Int) > 0) -> (Sp.okBs l /\ Sp.okSs s) /\
   ((¬(Sp.ordB l s = true)) -> Weak (tu [ag [AV.vnil,AV.vnil],vi 1]) dq) /\
   (¬(¬(Sp.ordB l s = true)) -> (s.length <= 1000000) /\
    ((Sp.repB s = true) -> Weak (tu [ag [AV.vnil,AV.vnil],vi 5]) dq) /\
    (¬(Sp.repB s = true) -> Weak (tu [ag [AV.vec false 3 (List.map Bk.a l),AV.vec false 2 (List.map Sb.a s)],vi 0]) dq)))) :
 svSpa_at g r l s v (PureQ dq):=by
 unfold svSpa_at
 have w1:(List.map Bk.a r).length = r.length:=List.length_map ..
 have i2:(decide ((↑(List.map Bk.a r).length:Int) > 0)) = true ↔ ((↑r.length:Int) > 0):=(by (try rw [w1]);all_goals exact i_dec)
 rcases xm ((↑r.length:Int) > 0) with d3 | d3
 ·have H:=H.1 d3
  obtain ⟨k4,H⟩:=H
  have i5:(decide (0 < (List.map Bk.a r).length)) = true ↔ (0 < r.length):=(by (try rw [w1]);all_goals exact i_dec)
  obtain ⟨k6,H⟩:=H
  obtain ⟨k7,H⟩:=H
  refine path_wp (G:=given kp34 [(7,2,.elem (ag [vb (r.getD 0 default).1,AV.vec (r.getD 0 default).2 2 (List.map Wo.a (r.getD 0 default).3),AV.str (r.getD 0 default).4])),(7,3,.call (tu [vi (Sp.bgV (r.getD 0 default).1 (r.getD 0 default).3 (r.getD 0 default).4),vb (Sp.bgB (r.getD 0 default).1 (r.getD 0 default).3 (r.getD 0 default).4)]) none),(8,1,.call (vi (Sp.idxP Sp.pStop r)) none)] []) 13 [true] ⟨(atC (cd Try.f34) [1,1,1,1,1,0,0,0,1,0,1,1,0,1]),[(2,AV.ptr 0 0 0 0),(5,AV.ptr 1 0 0 0),(6,AV.vec g 3 (List.map Bk.a r)),(7,vi (Sp.bgV (r.getD 0 default).1 (r.getD 0 default).3 (r.getD 0 default).4)),(9,vi (Sp.idxP Sp.pStop r)),(42,vb (zSpU3 r))],[⟨[ag [AV.vnil,AV.vnil]],2,0,false,false⟩,⟨[ag [AV.vec false 3 (List.map Bk.a l),AV.row 2 v]],2,0,false,false⟩,⟨List.map Sb.a s,2,v,false,true⟩],_,[((List.map Bk.a r).get?Internal 0 = some (ag [vb (r.getD 0 default).1,AV.vec (r.getD 0 default).2 2 (List.map Wo.a (r.getD 0 default).3),AV.str (r.getD 0 default).4]))],_⟩ (by kernel_rfl) (bc (beq_t (i2.2 d3)) (bc rfl (bc (i5.2 k6) b0))) (qc (el_map k6) q0) (ce (@ev59 ((r.getD 0 default).1) ((r.getD 0 default).2) ((r.getD 0 default).3) ((r.getD 0 default).4) k4) (ce (@ev56_b (g) (r) k7) c0)) ?_
  rcases xm ((¬(Sp.bgB (r.getD 0 default).1 (r.getD 0 default).3 (r.getD 0 default).4 = true)) \/ (Sp.idxP Sp.pStop r < 0)) with d9 | d9
  ·have H:=H.1 d9
   exact path_rq (G:=given kp34 [] []) 1000 [true] (asm:=[(zSpU3 r) == true,true]) (tu [ag [AV.vnil,AV.vnil],vi 1]) (by kernel_rfl) (bc (beq_t ((i_bor (i_not (i_var _)) i_dec).2 d9)) (bc rfl b0)) q0 c0 H
  ·have H:=H.2 d9
   have w10:List.take (Sp.idxP Sp.pStop r).toNat (List.map Bk.a r) = List.map Bk.a (List.take (Sp.idxP Sp.pStop r).toNat r):=(lm_take rfl)
   have w11:List.drop 1 (List.map Bk.a (List.take (Sp.idxP Sp.pStop r).toNat r)) = List.map Bk.a (List.drop 1 (List.take (Sp.idxP Sp.pStop r).toNat r)):=(lm_drop rfl)
   obtain ⟨k12,H⟩:=H
   obtain ⟨k14,H⟩:=H
   obtain ⟨k16,H⟩:=H
   have i17:(decide ((Sp.idxP Sp.pStop r).toNat <= (List.map Bk.a r).length)) = true ↔ ((Sp.idxP Sp.pStop r).toNat <= r.length):=(by (try rw [w1]);all_goals exact i_dec)
   obtain ⟨k18,H⟩:=H
   have w19:(List.map Sb.a s).length = s.length:=List.length_map ..
   have i20:(decide (((List.map Sb.a s).length + 1) * 32 <= 1099511627776)) = true ↔ ((s.length + 1) * 32 <= 1099511627776):=(by (try rw [w19]);all_goals exact i_dec)
   obtain ⟨k21,H⟩:=H
   have w22:List.map Sb.a s ++ [ag [vi (Sp.bgV (r.getD 0 default).1 (r.getD 0 default).3 (r.getD 0 default).4),AV.vec false 3 (List.map Bk.a (List.drop 1 (List.take (Sp.idxP Sp.pStop r).toNat r)))]] = List.map Sb.a (s ++ [{ n:=Sp.bgV (r.getD 0 default).1 (r.getD 0 default).3 (r.getD 0 default).4,f:=false,bl:=List.drop 1 (List.take (Sp.idxP Sp.pStop r).toNat r) }]):=(lm_app rfl rfl)
   obtain ⟨k23,H⟩:=H
   have w24:wi (Sp.idxP Sp.pStop r + 1) = Sp.idxP Sp.pStop r + 1:=wI64 k23
   have i25:(decide (0 <= wi (Sp.idxP Sp.pStop r + 1))) = true ↔ (0 <= Sp.idxP Sp.pStop r + 1):=(by (try rw [w24]);all_goals exact i_dec)
   obtain ⟨k26,H⟩:=H
   have i27:(decide ((wi (Sp.idxP Sp.pStop r + 1)).toNat <= (List.map Bk.a r).length)) = true ↔ ((Sp.idxP Sp.pStop r + 1).toNat <= r.length):=(by (try rw [w1]);(try rw [w24]);all_goals exact i_dec)
   obtain ⟨k28,H⟩:=H
   have i29:(decide ((List.map Bk.a r).length <= (List.map Bk.a r).length)) = true ↔ (r.length <= r.length):=(by (try rw [w1]);all_goals exact i_dec)
   have w30:List.take r.length (List.map Bk.a r) = List.map Bk.a (List.take r.length r):=(lm_take rfl)
   have w31:List.drop (Sp.idxP Sp.pStop r + 1).toNat (List.map Bk.a (List.take r.length r)) = List.map Bk.a (List.drop (Sp.idxP Sp.pStop r + 1).toNat (List.take r.length r)):=(lm_drop rfl)
   exact path_wp (G:=given kp34 [(11,6,.call (AV.vec false 3 (List.map Bk.a (List.drop 1 (List.take (Sp.idxP Sp.pStop r).toNat r)))) none)] []) 1000 [false] ⟨(atC (cd Try.f34) [1,1,1,1,1,0,0,0]),[(2,AV.ptr 0 0 0 0),(5,AV.ptr 1 0 0 0),(6,AV.vec (g && true) 3 (List.drop (wi (Sp.idxP Sp.pStop r + 1)).toNat (List.take (List.map Bk.a r).length (List.map Bk.a r))))],[⟨[ag [AV.vnil,AV.vnil]],2,0,false,false⟩,⟨[ag [AV.vec false 3 (List.map Bk.a l),AV.row 2 (v + 1)]],2,0,false,false⟩,⟨List.map Sb.a s ++ [ag [vi (Sp.bgV (r.getD 0 default).1 (r.getD 0 default).3 (r.getD 0 default).4),AV.vec false 3 (List.map Bk.a (List.drop 1 (List.take (Sp.idxP Sp.pStop r).toNat r)))]],2,v + 1,false,true⟩],[(zSpU3 r) == false,true,true,decide (0 <= Sp.idxP Sp.pStop r),decide (1 <= (Sp.idxP Sp.pStop r).toNat),decide ((Sp.idxP Sp.pStop r).toNat <= (List.map Bk.a r).length),v == v,decide (((List.map Sb.a s).length + 1) * 32 <= 1099511627776),true,decide (0 <= wi (Sp.idxP Sp.pStop r + 1)),decide ((wi (Sp.idxP Sp.pStop r + 1)).toNat <= (List.map Bk.a r).length),decide ((List.map Bk.a r).length <= (List.map Bk.a r).length)],[],[pc 22 [AV.vec (g && false) 3 (List.drop 1 (List.take (Sp.idxP Sp.pStop r).toNat (List.map Bk.a r)))] (AV.vec false 3 (List.map Bk.a (List.drop 1 (List.take (Sp.idxP Sp.pStop r).toNat r))))]⟩ (by kernel_rfl) (bc (beq_f (fun h => d9 ((i_bor (i_not (i_var _)) i_dec).1 h))) (bc rfl (bc rfl (bc (i_dec.2 k14) (bc (i_dec.2 k16) (bc (i17.2 k18) (bc (beq_self_eq_true _) (bc (i20.2 k21) (bc rfl (bc (i25.2 k26) (bc (i27.2 k28) (bc (i29.2 (by omega)) b0)))))))))))) q0 (ce (by (try rw [w10]);(try rw [w11]);all_goals exact (@ev22 (g && false) (List.drop 1 (List.take (Sp.idxP Sp.pStop r).toNat r)) k12)) c0) (by (try rw [w1]);(try rw [w22]);(try rw [w24]);(try rw [w30]);(try rw [w31]);all_goals exact H)
 ·have H:=H.2 d3
  obtain ⟨k32,H⟩:=H
  refine path_wp (G:=given kp34 [(13,1,.call (vb (Sp.ordB l s)) none)] []) 8 [false] ⟨(atC (cd Try.f34) [1,1,1,1,1,1,0,1]),[(2,AV.ptr 0 0 0 0),(5,AV.ptr 1 0 0 0),(61,vb !Sp.ordB l s)],[⟨[ag [AV.vnil,AV.vnil]],2,0,false,false⟩,⟨[ag [AV.vec false 3 (List.map Bk.a l),AV.row 2 v]],2,0,false,false⟩,⟨List.map Sb.a s,2,v,false,true⟩],[(decide ((↑(List.map Bk.a r).length:Int) > 0)) == false,true,v == v],[],_⟩ (by kernel_rfl) (bc (beq_f (fun h => d3 (i2.1 h))) (bc rfl (bc (beq_self_eq_true _) b0))) q0 (ce (@ev62 (false) (l) (false) (s) k32) c0) ?_
  rcases xm (¬(Sp.ordB l s = true)) with d34 | d34
  ·have H:=H.1 d34
   exact path_rq (G:=given kp34 [] []) 1000 [true] (asm:=[(!Sp.ordB l s) == true,true]) (tu [ag [AV.vnil,AV.vnil],vi 1]) (by kernel_rfl) (bc (beq_t ((i_not (i_var _)).2 d34)) (bc rfl b0)) q0 c0 H
  ·have H:=H.2 d34
   obtain ⟨k35,H⟩:=H
   refine path_wp (G:=given kp34 [(15,2,.call (vb (Sp.repB s)) none)] []) 5 [false] ⟨(atC (cd Try.f34) [1,1,1,1,1,1,1,0,1]),[(2,AV.ptr 0 0 0 0),(5,AV.ptr 1 0 0 0),(65,vb (Sp.repB s))],[⟨[ag [AV.vnil,AV.vnil]],2,0,false,false⟩,⟨[ag [AV.vec false 3 (List.map Bk.a l),AV.row 2 v]],2,0,false,false⟩,⟨List.map Sb.a s,2,v,false,true⟩],[(!Sp.ordB l s) == false,true,v == v],[],_⟩ (by kernel_rfl) (bc (beq_f (fun h => d34 ((i_not (i_var _)).1 h))) (bc rfl (bc (beq_self_eq_true _) b0))) q0 (ce (@ev63 (false) (s) k35) c0) ?_
   rcases xm (Sp.repB s = true) with d37 | d37
   ·have H:=H.1 d37
    exact path_rq (G:=given kp34 [] []) 1000 [true] (asm:=[(Sp.repB s) == true,true]) (tu [ag [AV.vnil,AV.vnil],vi 5]) (by kernel_rfl) (bc (beq_t ((i_var _).2 d37)) (bc rfl b0)) q0 c0 H
   ·have H:=H.2 d37
    exact path_ret (G:=given kp34 [] []) 1000 [false] (k:=((atC (cd Try.f34) [1,1,1,1,1,1,1,1,1])).tail) (env':=[(2,AV.ptr 0 0 0 0),(3,vi 0)]) (L':=[⟨[ag [AV.vec false 3 (List.map Bk.a l),AV.row 2 v]],2,0,false,false⟩,⟨[ag [AV.vec false 3 (List.map Bk.a l),AV.row 2 v]],2,0,false,false⟩,⟨List.map Sb.a s,2,v,false,true⟩]) (asm:=[(Sp.repB s) == false,true,true]) (eqs:=[]) (calls:=[]) (tu [ag [AV.vec false 3 (List.map Bk.a l),AV.row 2 v],vi 0]) (by kernel_rfl) (by kernel_rfl) (allB_cons (beq_f (fun h => d37 ((i_var _).1 h))) (allB_cons rfl (allB_cons rfl allB_nil))) allP_nil allC_nil (pq_weak (d:=(tu [ag [AV.vec false 3 (List.map Bk.a l),AV.vec false 2 (List.map Sb.a s)],vi 0])) (bs:=[v == v]) (by kernel_rfl) (by kernel_rfl) (allB_cons (beq_self_eq_true _) allB_nil) (by kernel_rfl) H)
end Go.Av

namespace Go.Av
open Go.RowKit
theorem ev_weak {M:Mach} (hm:(M.P ()).follows .mixedOrders = true) {f:FuncId} {args args':List AV} {d:AV} (h:Ev M (.pure f args') d []) (hl:args.length = args'.length) (hc:cleanL args = true) (hw:∀ (i:Nat) a a',args[i]? = some a -> args'[i]? = some a' -> Weak a a'):Ev M (.pure f args) d []:=by
 refine .sem fun base acc w cargs h1 h2 h3 => (wp_sound hm (c:=.pure f args') h:PureR M f args' _) base acc w cargs h1 h2 ⟨hl.symm.trans h3.1,fun i c v hi hv => ?_⟩
 have hlt:i < args.length:=by rw [hl];exact lt_of_get hi
 have ha:args[i]? = some args[i]:=List.getElem?_eq_getElem hlt
 exact .data _ _ (weak_rel (hw i _ _ ha hi) (rel_clean (h3.2 i _ v ha hv) (cleanL_get hc i _ ha)))
end Go.Av

namespace Go.Av
open Go.Proofs
namespace Sp
def spl (l:List Bk):Nat -> List Bk -> List Sb -> List Bk × List Sb × Int
 | 0,_,_ => ([],[],1)
 | f + 1,r,s =>
  if r.length = 0 then (if ordB l s = true then (if repB s = true then ([],[],5) else (l,s,0)) else ([],[],1))
  else if bgB (r.getD 0 default).sk (r.getD 0 default).ws (r.getD 0 default).cm = true /\ ¬idxP pStop r < 0 then
   spl l f (r.drop (idxP pStop r + 1).toNat) (s ++ [⟨bgV (r.getD 0 default).sk (r.getD 0 default).ws (r.getD 0 default).cm,false,(r.take (idxP pStop r).toNat).drop 1⟩])
  else ([],[],1)
def split (l:List Bk):List Bk × List Sb × Int:=
 if idxP pEnd l < 0 then ([],[],1) else spl (l.take (idxP pEnd l + 1).toNat) (l.length + 1) (l.drop (idxP pEnd l + 1).toNat) []
end Sp
theorem weak_one {f:FuncId} {a a' d:AV} (h:Ev M1 (.pure f [a']) d []) (hc:a.clean = true) (hw:Weak a a'):Ev M1 (.pure f [a]) d []:=
 ev_weak hm1 h rfl (by simp [cleanL,hc]) fun i x y hx hy => by
  match i with
  | 0 => simp at hx hy;subst hx;subst hy;exact hw
  | i + 1 => simp at hx
theorem bg_stop {sk f:Bool} {ws:List Wo} {cm:List UInt8} (h:Sp.bgB sk ws cm = true):Sp.pStop ⟨sk,f,ws,cm⟩ = false:=by
 unfold Sp.bgB at h
 split at h
 ·rename_i k
  obtain ⟨k1,k2⟩:=k
  have hl:=pl_len k1
  match ws,hl with
  | [w],_ =>
   have k2:w.l = 79:=k2
   unfold Sp.pStop Sp.backB Sp.hasW Sp.codes
   simp [k2]
 ·cases h
theorem stop_pos {r:List Bk} (h0:0 < r.length) (h:Sp.bgB (r.getD 0 default).sk (r.getD 0 default).ws (r.getD 0 default).cm = true) (hs:¬Sp.idxP Sp.pStop r < 0):1 <= Sp.idxP Sp.pStop r /\ Sp.idxP Sp.pStop r < r.length:=by
 match r,h0 with
 | b :: r,_ =>
  have hb:Sp.pStop b = false:=bg_stop (f:=b.f) h
  unfold Sp.idxP at hs ⊢
  rw [Sp.idxF,hb,if_neg (by simp)] at hs ⊢
  rcases idxF_ge Sp.pStop r (0 + 1) (by omega) with ⟨h1,_⟩ | ⟨h1,h2,_⟩
  ·omega
  ·simp only [List.length_cons];omega
theorem okBs_drop {l:List Bk} (h:Sp.okBs l) (a:Nat):Sp.okBs (l.drop a):=⟨by have:=h.1;simp;omega,fun x hx => h.2 x (List.mem_of_mem_drop hx)⟩
theorem okBs_take {l:List Bk} (h:Sp.okBs l) (a:Nat):Sp.okBs (l.take a):=⟨by have:=h.1;simp;omega,fun x hx => h.2 x (List.mem_of_mem_take hx)⟩
theorem okSs_snoc {s:List Sb} {x:Sb} (h:Sp.okSs s) (hl:s.length < 1000000) (hx:Sp.okBs x.bl):Sp.okSs (s ++ [x]):=by
 refine ⟨by simp;omega,fun y hy => ?_⟩
 rcases List.mem_append.1 hy with hy | hy
 ·exact h.2 y hy
 ·rw [List.mem_singleton] at hy;subst hy;exact hx
def spA (x:List Bk × List Sb × Int):AV:=.tup [pgA false false x.1 x.2.1,.int .i64 x.2.2]
theorem spA_no (e:Int):Weak (.tup [.agg [.vnil,.vnil],.int .i64 e]) (spA ([],[],e)):=weak_tup2' (weak_agg2 (.vnil 3) (.vnil 2))
theorem svSpa_loop {l:List Bk} {dq:AV} (hl:Sp.okBs l):∀ (f:Nat) (g:Bool) (r:List Bk) (s:List Sb) (v:Nat),Sp.okBs r -> Sp.okSs s -> r.length < f -> s.length + r.length <= 999999 -> spA (Sp.spl l f r s) = dq -> svSpa_at g r l s v (PureQ dq):=by
 intro f
 induction f with
 | zero => intro g r s v _ _ h;omega
 | succ f ih =>
  intro g r s v hr hs hf hsz hq
  have hrl:=hr.1
  rw [Sp.spl] at hq
  by_cases h0:r.length = 0
  ·rw [if_pos h0] at hq
   refine svSpa _ _ _ _ _ _ ⟨fun h => by omega,fun _ => ⟨⟨hl,hs⟩,fun k => ?_,fun k => ⟨hs.1,fun k2 => ?_,fun k2 => ?_⟩⟩⟩
   ·rw [if_neg k] at hq
    rw [<- hq];exact spA_no 1
   ·rw [if_pos (Classical.not_not.1 k),if_pos k2] at hq
    rw [<- hq];exact spA_no 5
   ·rw [if_pos (Classical.not_not.1 k),if_neg k2] at hq
    rw [<- hq];exact .refl _
  ·rw [if_neg h0] at hq
   have hm:=hr.2 _ (getD_mem (show 0 < r.length by omega))
   refine svSpa _ _ _ _ _ _ ⟨fun _ => ⟨hm,by omega,hr,fun k => ?_,fun k => ?_⟩,fun h => by omega⟩
   ·rw [if_neg (fun x => k.elim (fun y => y x.1) x.2)] at hq
    rw [<- hq];exact spA_no 1
   ·have k1:Sp.bgB (r.getD 0 default).sk (r.getD 0 default).ws (r.getD 0 default).cm = true:=Classical.byContradiction fun y => k (.inl y)
    have k2:¬Sp.idxP Sp.pStop r < 0:=fun y => k (.inr y)
    rw [if_pos ⟨k1,k2⟩] at hq
    obtain ⟨b1,b2⟩:=stop_pos (by omega) k1 k2
    obtain ⟨p,hp⟩:=Int.eq_ofNat_of_zero_le (show 0 <= Sp.idxP Sp.pStop r by omega)
    rw [hp] at hq b1 b2 ⊢
    have e:(p:Int) + 1 = ((p + 1:Nat):Int):=by omega
    rw [e,Int.toNat_natCast,Int.toNat_natCast] at hq ⊢
    rw [List.take_length]
    refine ⟨by unfold Sp.few6;simp;omega,by omega,by omega,by omega,by omega,by omega,by omega,by omega,?_⟩
    exact ih _ _ _ _ (okBs_drop hr _) (okSs_snoc hs (by omega) (okBs_drop (okBs_take hr _) _)) (by simp;omega) (by simp;omega) hq
theorem svSpz_loop {l:List Bk} {dq:AV} (hl:Sp.okBs l) (f:Nat) (g:Bool) (r:List Bk) (hr:Sp.okBs r) (hf:r.length < f) (hsz:r.length <= 999999) (hq:spA (Sp.spl l f r []) = dq):svSpz_at g r l (PureQ dq):=by
 obtain ⟨f,rfl⟩:∃ k,f = k + 1:=⟨f - 1,by omega⟩
 have hrl:=hr.1
 have hs:Sp.okSs []:=⟨by simp,fun x hx => by cases hx⟩
 rw [Sp.spl] at hq
 by_cases h0:r.length = 0
 ·rw [if_pos h0] at hq
  refine svSpz _ _ _ _ ⟨fun h => by omega,fun _ => ⟨Sp.ordB l [],weak_one (ev62 false l false [] ⟨hl,hs⟩) (by simp [AV.clean,cleanL]) (weak_agg2 (.refl _) (.vnil 2)),fun k => ?_,fun k => ⟨Sp.repB [],weak_one (ev63 false [] (by simp)) rfl (.vnil 2),fun k2 => ?_,fun k2 => ?_⟩⟩⟩
  ·rw [if_neg k] at hq
   rw [<- hq];exact spA_no 1
  ·rw [if_pos (Classical.not_not.1 k),if_pos k2] at hq
   rw [<- hq];exact spA_no 5
  ·rw [if_pos (Classical.not_not.1 k),if_neg k2] at hq
   rw [<- hq];exact weak_tup2' (weak_agg2 (.refl _) (.vnil 2))
 ·rw [if_neg h0] at hq
  have hm:=hr.2 _ (getD_mem (show 0 < r.length by omega))
  refine svSpz _ _ _ _ ⟨fun _ => ⟨hm,by omega,hr,fun k => ?_,fun k => ?_⟩,fun h => by omega⟩
  ·rw [if_neg (fun x => k.elim (fun y => y x.1) x.2)] at hq
   rw [<- hq];exact spA_no 1
  ·have k1:Sp.bgB (r.getD 0 default).sk (r.getD 0 default).ws (r.getD 0 default).cm = true:=Classical.byContradiction fun y => k (.inl y)
   have k2:¬Sp.idxP Sp.pStop r < 0:=fun y => k (.inr y)
   rw [if_pos ⟨k1,k2⟩] at hq
   obtain ⟨b1,b2⟩:=stop_pos (by omega) k1 k2
   obtain ⟨p,hp⟩:=Int.eq_ofNat_of_zero_le (show 0 <= Sp.idxP Sp.pStop r by omega)
   rw [hp] at hq b1 b2 ⊢
   have e:(p:Int) + 1 = ((p + 1:Nat):Int):=by omega
   rw [e,Int.toNat_natCast,Int.toNat_natCast] at hq ⊢
   rw [List.take_length]
   refine ⟨by unfold Sp.few6;simp;omega,by omega,by omega,by omega,by omega,by omega,by omega,?_⟩
   exact svSpa_loop hl f _ _ _ _ (okBs_drop hr _) (okSs_snoc hs (by simp) (okBs_drop (okBs_take hr _) _)) (by simp;omega) (by simp;omega) hq
theorem ev34 (g:Bool) (l:List Bk) (hk:Sp.okBs l /\ l.length <= 999999):Ev M1 (.pure 34 [bsA g l]) (.tup [pgA false false (Sp.split l).1 (Sp.split l).2.1,.int .i64 (Sp.split l).2.2]) []:=by
 obtain ⟨hk,hsz⟩:=hk
 have hl:=hk.1
 show Ev M1 _ (spA (Sp.split l)) []
 unfold Sp.split
 refine call34 (svSp g l _ ⟨hk,fun k => ?_,fun k => ?_⟩)
 ·rw [if_pos k];exact spA_no 1
 ·rw [if_neg k]
  rcases idxF_ge Sp.pEnd l 0 (by omega) with ⟨h1,_⟩ | ⟨h1,h2,_⟩
  ·exact absurd (show Sp.idxP Sp.pEnd l < 0 by unfold Sp.idxP;omega) k
  ·obtain ⟨p,hp⟩:=Int.eq_ofNat_of_zero_le (show 0 <= Sp.idxP Sp.pEnd l from h1)
   have h2:Sp.idxP Sp.pEnd l < 0 + l.length:=h2
   rw [hp] at h2 ⊢
   have e:(p:Int) + 1 = ((p + 1:Nat):Int):=by omega
   rw [e,Int.toNat_natCast,List.take_length,List.drop_zero]
   exact ⟨by omega,by unfold Sp.few6;simp;omega,by omega,by omega,by omega,svSpz_loop (okBs_take hk _) (l.length + 1) _ _ (okBs_drop hk _) (by simp;omega) (by simp;omega) rfl⟩
end Go.Av

namespace Go.Av
open Go.Proofs
set_option maxRecDepth 100000
def fi19:Fi:=⟨22,[.tmp 4]⟩
def kp19:List (Nat × List Nat):=[(0,[1,2]),(1,[1,2,5]),(2,[1,2,5,10]),(3,[1,2,5]),(4,[1,2,5,20]),(5,[4]),(6,[4])]
def svFn_at (g:Bool) (l:List Bk) (h:Bool) (s:List Sb) (m:Int) (Q:AV -> Heap -> Prop):Prop:=Wp M1 (.run fi19 (atC (cd Try.f19) []) [(0,.agg [.vec g 3 (l.map Bk.a),.vec h 2 (s.map Sb.a)]),(1,.int .i64 m)] []) Q
def svFna_at (g:Bool) (l:List Bk) (h:Bool) (s:List Sb) (m i:Int) (Q:AV -> Heap -> Prop):Prop:=Wp M1 (.run fi19 (atC (cd Try.f19) [1,0,1,0,0]) [(1,.int .i64 m),(2,.ptr 0 0 0 0),(5,.int .i64 i)] [⟨[.agg [.vec g 3 (l.map Bk.a),.vec h 2 (s.map Sb.a)]],2,0,false,false⟩]) Q
theorem call19 {args:List AV} {d:AV} (h:wc M1 fi19 Try.f19 args d):Ev M1 (.pure 19 args) d []:=pcl _ _ (by kernel_rfl) h
theorem svFn (g:Bool) (l:List Bk) (h:Bool) (s:List Sb) (m:Int)  (dq:AV) (H :
  svFna_at (g) (l) (h) (s) (m) (0) (PureQ dq)) :
 svFn_at g l h s m (PureQ dq):=by
 unfold svFn_at
 exact path_wp (G:=given kp19 [] []) 1000 [] ⟨(atC (cd Try.f19) [1,0,1,0,0]),[(1,vi m),(2,AV.ptr 0 0 0 0),(5,vi 0)],[⟨[ag [AV.vec g 3 (List.map Bk.a l),AV.vec h 2 (List.map Sb.a s)]],2,0,false,false⟩],_,[],_⟩ (by kernel_rfl) b0 q0 c0 (H)
theorem svFna (g:Bool) (l:List Bk) (h:Bool) (s:List Sb) (m i:Int)  (dq:AV) (H :
  ((i < (↑s.length:Int)) -> (0 <= i) /\
   (i.toNat < s.length) /\
   (((s.getD i.toNat default).n = m) -> vi i = dq) /\
   (¬((s.getD i.toNat default).n = m) -> (-9223372036854775808 <= i + 1 /\ i + 1 <= 9223372036854775807) /\
    svFna_at (g) (l) (h) (s) (m) (i + 1) (PureQ dq))) /\
  (¬(i < (↑s.length:Int)) -> vi (-1) = dq)) :
 svFna_at g l h s m i (PureQ dq):=by
 unfold svFna_at
 have w1:(List.map Sb.a s).length = s.length:=List.length_map ..
 have i2:(decide (i < (↑(List.map Sb.a s).length:Int))) = true ↔ (i < (↑s.length:Int)):=(by (try rw [w1]);all_goals exact i_dec)
 rcases xm (i < (↑s.length:Int)) with d3 | d3
 ·have H:=H.1 d3
  obtain ⟨k5,H⟩:=H
  have i6:(decide (i.toNat < (List.map Sb.a s).length)) = true ↔ (i.toNat < s.length):=(by (try rw [w1]);all_goals exact i_dec)
  obtain ⟨k7,H⟩:=H
  refine path_wp (G:=given kp19 [(4,5,.elem (ag [vi (s.getD i.toNat default).n,AV.vec (s.getD i.toNat default).2 3 (List.map Bk.a (s.getD i.toNat default).3)]))] []) 9 [true] ⟨(atC (cd Try.f19) [1,0,1,0,0,1,0,0,1]),[(1,vi m),(2,AV.ptr 0 0 0 0),(5,vi i),(20,vb ((s.getD i.toNat default).n == m))],[⟨[ag [AV.vec g 3 (List.map Bk.a l),AV.vec h 2 (List.map Sb.a s)]],2,0,false,false⟩],_,[((List.map Sb.a s).get?Internal i.toNat = some (ag [vi (s.getD i.toNat default).n,AV.vec (s.getD i.toNat default).2 3 (List.map Bk.a (s.getD i.toNat default).3)]))],_⟩ (by kernel_rfl) (bc rfl (bc (beq_t (i2.2 d3)) (bc rfl (bc (i_dec.2 k5) (bc (i6.2 k7) b0))))) (qc (el_map k7) q0) c0 ?_
  rcases xm ((s.getD i.toNat default).n = m) with d9 | d9
  ·have H:=H.1 d9
   exact path_re (G:=given kp19 [] []) 1000 [true] (vi i) (by kernel_rfl) (bc (beq_t (i_eq.2 d9)) b0) q0 c0 H
  ·have H:=H.2 d9
   obtain ⟨k10,H⟩:=H
   have w11:wi (i + 1) = i + 1:=wI64 k10
   exact path_wp (G:=given kp19 [] []) 1000 [false] ⟨(atC (cd Try.f19) [1,0,1,0,0]),[(1,vi m),(2,AV.ptr 0 0 0 0),(5,vi (wi (i + 1)))],[⟨[ag [AV.vec g 3 (List.map Bk.a l),AV.vec h 2 (List.map Sb.a s)]],2,0,false,false⟩],_,[],_⟩ (by kernel_rfl) (bc (beq_f (fun h => d9 (i_eq.1 h))) b0) q0 c0 (by (try rw [w11]);all_goals exact H)
 ·have H:=H.2 d3
  exact path_re (G:=given kp19 [] []) 1000 [false] (vi (-1)) (by kernel_rfl) (bc rfl (bc (beq_f (fun h => d3 (i2.1 h))) b0)) q0 c0 H
end Go.Av

namespace Go.Av
open Go.Proofs
namespace Sp
def isN (m:Int) (x:Sb):Bool:=decide (x.n = m)
def fnd (s:List Sb) (m:Int):Int:=idxP (isN m) s
end Sp
theorem svFna_loop {g h:Bool} {l:List Bk} {s:List Sb} {m:Int} {dq:AV} (hl:s.length <= 1000000):∀ (c i:Nat),i + c = s.length -> AV.int .i64 (Sp.idxF (Sp.isN m) (s.drop i) i) = dq -> svFna_at g l h s m i (PureQ dq):=by
 intro c
 induction c with
 | zero =>
  intro i hi hq
  rw [List.drop_eq_nil_of_le (by omega)] at hq
  exact svFna _ _ _ _ _ _ _ ⟨fun h => by omega,fun _ => hq⟩
 | succ c ih =>
  intro i hi hq
  rw [drop_getD (show i < s.length by omega),Sp.idxF] at hq
  refine svFna _ _ _ _ _ _ _ ⟨fun _ => ?_,fun h => by omega⟩
  rw [Int.toNat_natCast]
  refine ⟨by omega,by omega,fun h => ?_,fun h => ⟨by omega,ih (i + 1) (by omega) ?_⟩⟩
  ·rw [if_pos (show Sp.isN m (s.getD i default) = true from decide_eq_true h)] at hq
   exact hq
  ·rw [if_neg (show ¬Sp.isN m (s.getD i default) = true from by rw [show Sp.isN m (s.getD i default) = false from decide_eq_false h];simp)] at hq
   exact hq
theorem ev19 (g h:Bool) (l:List Bk) (s:List Sb) (m:Int) (hl:s.length <= 1000000):Ev M1 (.pure 19 [pgA g h l s,.int .i64 m]) (.int .i64 (Sp.fnd s m)) []:=
 call19 (svFn g l h s m _ (svFna_loop hl s.length 0 (by omega) rfl))
theorem ev19_a (g:Bool) (l:List Bk) (m:Int):Ev M1 (.pure 19 [.agg [bsA g l,.vnil],.int .i64 m]) (.int .i64 (-1)) []:=
 ev_weak hm1 (ev19 g false l [] m (by simp)) rfl (by simp [cleanL,AV.clean]) fun i x y hx hy => by
  match i with
  | 0 => simp at hx hy;subst hx;subst hy;exact weak_agg2 (.refl _) (.vnil 2)
  | 1 => simp at hx hy;subst hx;subst hy;exact .refl _
  | i + 2 => simp at hx
end Go.Av
